/- The walk of the statement CoreAgain. -/
import Derived.Test.YtgcgijmjlnhdnaaT04g
import Derived.Test.YtgcgijmjlnhdnaaT04i
import Derived.Lib.QuietBelow
namespace Go.Proofs.Ytgcgijmjlnhdnaa.P
open Go.RowKit Go.Proofs.YtgcgijmjlnhdnaaW.PrintWords Go.Proofs.YtgcgijmjlnhdnaaW.PrintLast Go.Proofs.YtgcgijmjlnhdnaaW.PrintMore
theorem n_cells {w : World} {g : Nat} {t : TypeId} {c0 c1 c2 c3 c4 c5 c6 c7 : Value} (h : w.heap[g]? = some (.cells #[c0, c1, c2, c3, c4, c5, c6, c7] t (0, 0))) :
    w.cell? ⟨g, 0, none⟩ = some c0 ∧ w.cell? ⟨g, 1, none⟩ = some c1 ∧ w.cell? ⟨g, 2, none⟩ = some c2 ∧ w.cell? ⟨g, 3, none⟩ = some c3 ∧ w.cell? ⟨g, 4, none⟩ = some c4 ∧ w.cell? ⟨g, 5, none⟩ = some c5 ∧ w.cell? ⟨g, 6, none⟩ = some c6 ∧ w.cell? ⟨g, 7, none⟩ = some c7 ∧
    w.frozen? ⟨g, 0, none⟩ = false ∧ w.frozen? ⟨g, 1, none⟩ = false ∧ w.frozen? ⟨g, 2, none⟩ = false ∧ w.frozen? ⟨g, 3, none⟩ = false ∧ w.frozen? ⟨g, 4, none⟩ = false ∧ w.frozen? ⟨g, 5, none⟩ = false ∧ w.frozen? ⟨g, 6, none⟩ = false ∧ w.frozen? ⟨g, 7, none⟩ = false :=
  ⟨(blk_cell h 0).trans rfl, (blk_cell h 1).trans rfl, (blk_cell h 2).trans rfl, (blk_cell h 3).trans rfl, (blk_cell h 4).trans rfl, (blk_cell h 5).trans rfl, (blk_cell h 6).trans rfl, (blk_cell h 7).trans rfl,
    blk_frozen h 0, blk_frozen h 1, blk_frozen h 2, blk_frozen h 3, blk_frozen h 4, blk_frozen h 5, blk_frozen h 6, blk_frozen h 7⟩

structure Bx (q : Nat) (x : S27) (A : Option Addr) (c : Nat) (wi : World) : Prop where
  blk : wi.heap[q]? = some (.cells #[.int .i64 x.f0, .int .u64 x.f1.f0, .int .u64 x.f1.f1, .int .u64 x.f1.f2, .int .u64 x.f1.f3, .slice A x.f2.length c, .int .i64 x.f3, .int .i64 x.f4] 27)
  tr : Tr wi x A c
theorem Bx.later {q : Nat} {x : S27} {A : Option Addr} {c : Nat} {wi wj : World} (h : Bx q x A c wi) (hb : Below wi.heap.size wi wj) : Bx q x A c wj := ⟨(hb.block q (blk_lt h.blk)).trans h.blk, h.tr.below hb⟩
theorem Bx.alloc {q : Nat} {x : S27} {A : Option Addr} {c : Nat} {wi : World} (h : Bx q x A c wi) (o : Obj) : Bx q x A c (wi.alloc o) := h.later ((Below.refl _ wi).alloc (Nat.le_refl _) o)
structure St (w wi : World) : Prop where
  ext : Below w.heap.size w wi
  lt : w.heap.size ≤ wi.heap.size
theorem St.refl (w : World) : St w w := ⟨Below.refl _ w, Nat.le_refl _⟩
theorem St.later {w wi wj : World} (h : St w wi) (hb : Below wi.heap.size wi wj) : St w wj := ⟨below_step h.ext hb, Nat.le_trans h.lt hb.size⟩
theorem St.alloc {w wi : World} (h : St w wi) (o : Obj) : St w (wi.alloc o) := h.later ((Below.refl _ wi).alloc (Nat.le_refl _) o)

set_option maxHeartbeats 20000000 in
theorem coreAgain_any (x : S27) (A : Option Addr) (c : Nat) (w : World) (h : Tr w x A c) :
    Calls Try.prog 6 #[ndV x A c] w fun e w' => e = .returned (.bool true) ∧ Below w.heap.size w w' := by
  obtain ⟨s, s1, s3, hsz⟩ := tr_size x A c w 100 (by omega) (by omega) h
  have bx0 : Bx w.heap.size x A c (w.alloc (.cells #[.int .i64 x.f0, .int .u64 x.f1.f0, .int .u64 x.f1.f1, .int .u64 x.f1.f2, .int .u64 x.f1.f3, .slice A x.f2.length c, .int .i64 x.f3, .int .i64 x.f4] 27)) := ⟨heap_alloc_new w _, h.alloc _⟩
  have st0 := (St.refl w).alloc (.cells #[.int .i64 x.f0, .int .u64 x.f1.f0, .int .u64 x.f1.f1, .int .u64 x.f1.f2, .int .u64 x.f1.f3, .slice A x.f2.length c, .int .i64 x.f3, .int .i64 x.f4] 27)
  unfold ndV at *
  go_enter Try.func6, Try.ntmps6
  go_wp2_with fail
  refine (tr_awake _).mono ?_
  rintro e w1 ⟨rfl, hb1⟩
  have bx1 := bx0.later hb1
  have st1 := st0.later hb1
  clear bx0 st0 hb1
  obtain ⟨c0, c1, c2, c3, c4, c5, c6, c7, z0, z1, z2, z3, z4, z5, z6, z7⟩ := n_cells bx1.blk
  go_wp2_with fail
  refine (hsz w1 bx1.tr).mono ?_
  rintro e w2 ⟨rfl, hb2⟩
  have bx2 := bx1.later hb2
  have st2 := st1.later hb2
  clear bx1 st1 hb2 c0 c1 c2 c3 c4 c5 c6 c7 z0 z1 z2 z3 z4 z5 z6 z7
  obtain ⟨c0, c1, c2, c3, c4, c5, c6, c7, z0, z1, z2, z3, z4, z5, z6, z7⟩ := n_cells bx2.blk
  by_cases hbig : 100 < s
  · go_wp2_with fail
    refine (tr_awake _).mono ?_
    rintro e w3 ⟨rfl, hb3⟩
    go_wp2
    go_ret
    exact ⟨rfl, (st2.later hb3).ext⟩
  have hcn : (cntT x : Int) ≤ 100 := by have := s3 (.inl (by omega)); omega
  go_wp2_with fail
  have hfm := tr_formed x A c w2 (by omega) bx2.tr
  unfold ndV at hfm
  refine hfm.mono ?_
  rintro e w3 ⟨rfl, hb3⟩
  have bx3 := bx2.later hb3
  have st3 := st2.later hb3
  clear bx2 st2 hb3 c0 c1 c2 c3 c4 c5 c6 c7 z0 z1 z2 z3 z4 z5 z6 z7
  obtain ⟨c0, c1, c2, c3, c4, c5, c6, c7, z0, z1, z2, z3, z4, z5, z6, z7⟩ := n_cells bx3.blk
  clear hfm
  cases hF : formedT x with
  | false =>
    go_wp2_with fail
    refine (tr_awake _).mono ?_
    rintro e w4 ⟨rfl, hb4⟩
    go_wp2
    go_ret
    exact ⟨rfl, (st3.later hb4).ext⟩
  | true =>
  go_wp2_with fail
  have hsm := tr_simple x A c w3 hF (by omega) bx3.tr
  unfold ndV at hsm
  refine hsm.mono ?_
  rintro e w4 ⟨Ax, cx, rfl, tx, hb4⟩
  have bx4 := bx3.later hb4
  have st4 := st3.later hb4
  clear bx3 st3 hb4 hsm c0 c1 c2 c3 c4 c5 c6 c7 z0 z1 z2 z3 z4 z5 z6 z7
  have bx5 := bx4.alloc (.cells #[.int .i64 (simpleT x).f0, .int .u64 (simpleT x).f1.f0, .int .u64 (simpleT x).f1.f1, .int .u64 (simpleT x).f1.f2, .int .u64 (simpleT x).f1.f3, .slice Ax (simpleT x).f2.length cx, .int .i64 (simpleT x).f3, .int .i64 (simpleT x).f4] 27)
  have st5 := st4.alloc (.cells #[.int .i64 (simpleT x).f0, .int .u64 (simpleT x).f1.f0, .int .u64 (simpleT x).f1.f1, .int .u64 (simpleT x).f1.f2, .int .u64 (simpleT x).f1.f3, .slice Ax (simpleT x).f2.length cx, .int .i64 (simpleT x).f3, .int .i64 (simpleT x).f4] 27)
  have by5 : Bx w4.heap.size (simpleT x) Ax cx (w4.alloc (.cells #[.int .i64 (simpleT x).f0, .int .u64 (simpleT x).f1.f0, .int .u64 (simpleT x).f1.f1, .int .u64 (simpleT x).f1.f2, .int .u64 (simpleT x).f1.f3, .slice Ax (simpleT x).f2.length cx, .int .i64 (simpleT x).f3, .int .i64 (simpleT x).f4] 27)) := ⟨heap_alloc_new w4 _, tx.alloc _⟩
  clear bx4 st4 tx
  obtain ⟨g1, g2, g3, g4, g5, g6⟩ := again_facts x hF
  have hcs : cntT (simpleT x) ≤ 1000000 := by have := (simpleT_ok _ x (Nat.lt_succ_self _) (ok_formed hF)).2; omega
  have hsame : sameT (simpleT x) (simpleT x) = true := (sameT_iff _ _).2 rfl
  obtain ⟨c0a, c1a, c2a, c3a, c4a, c5a, c6a, c7a, z0a, z1a, z2a, z3a, z4a, z5a, z6a, z7a⟩ := n_cells by5.blk
  go_wp2_with fail
  have hs6 := tr_simple (simpleT x) Ax cx _ g1 hcs by5.tr
  rw [g2] at hs6
  unfold ndV at hs6
  refine hs6.mono ?_
  clear hs6
  rintro e w6 ⟨Az, cz, rfl, tx, hb6⟩
  have bx6 := bx5.later hb6
  have by6 := by5.later hb6
  have st6 := st5.later hb6
  clear bx5 by5 st5 hb6 c0a c1a c2a c3a c4a c5a c6a c7a z0a z1a z2a z3a z4a z5a z6a z7a
  have bx7 := bx6.alloc (.cells #[.int .i64 (simpleT x).f0, .int .u64 (simpleT x).f1.f0, .int .u64 (simpleT x).f1.f1, .int .u64 (simpleT x).f1.f2, .int .u64 (simpleT x).f1.f3, .slice Az (simpleT x).f2.length cz, .int .i64 (simpleT x).f3, .int .i64 (simpleT x).f4] 27)
  have by7 := by6.alloc (.cells #[.int .i64 (simpleT x).f0, .int .u64 (simpleT x).f1.f0, .int .u64 (simpleT x).f1.f1, .int .u64 (simpleT x).f1.f2, .int .u64 (simpleT x).f1.f3, .slice Az (simpleT x).f2.length cz, .int .i64 (simpleT x).f3, .int .i64 (simpleT x).f4] 27)
  have st7 := st6.alloc (.cells #[.int .i64 (simpleT x).f0, .int .u64 (simpleT x).f1.f0, .int .u64 (simpleT x).f1.f1, .int .u64 (simpleT x).f1.f2, .int .u64 (simpleT x).f1.f3, .slice Az (simpleT x).f2.length cz, .int .i64 (simpleT x).f3, .int .i64 (simpleT x).f4] 27)
  have bz7 : Bx w6.heap.size (simpleT x) Az cz (w6.alloc (.cells #[.int .i64 (simpleT x).f0, .int .u64 (simpleT x).f1.f0, .int .u64 (simpleT x).f1.f1, .int .u64 (simpleT x).f1.f2, .int .u64 (simpleT x).f1.f3, .slice Az (simpleT x).f2.length cz, .int .i64 (simpleT x).f3, .int .i64 (simpleT x).f4] 27)) := ⟨heap_alloc_new w6 _, tx.alloc _⟩
  clear bx6 by6 st6 tx
  obtain ⟨c0, c1, c2, c3, c4, c5, c6, c7, z0, z1, z2, z3, z4, z5, z6, z7⟩ := n_cells bx7.blk
  obtain ⟨c0a, c1a, c2a, c3a, c4a, c5a, c6a, c7a, z0a, z1a, z2a, z3a, z4a, z5a, z6a, z7a⟩ := n_cells by7.blk
  obtain ⟨c0b, c1b, c2b, c3b, c4b, c5b, c6b, c7b, z0b, z1b, z2b, z3b, z4b, z5b, z6b, z7b⟩ := n_cells bz7.blk
  go_wp2_with fail
  generalize hW0 : w6.alloc (.cells #[.int .i64 (simpleT x).f0, .int .u64 (simpleT x).f1.f0, .int .u64 (simpleT x).f1.f1, .int .u64 (simpleT x).f1.f2, .int .u64 (simpleT x).f1.f3, .slice Az (simpleT x).f2.length cz, .int .i64 (simpleT x).f3, .int .i64 (simpleT x).f4] 27) = W0 at *
  have hxc : cntT x ≤ 1000000 := by omega
  have kc0 := cell_regrown c0
  have kc1 := cell_regrown c1
  have kc2 := cell_regrown c2
  have kc3 := cell_regrown c3
  have kc4 := cell_regrown c4
  have kc5 := cell_regrown c5
  have kc6 := cell_regrown c6
  have kc7 := cell_regrown c7
  have kc0a := cell_regrown c0a
  have kc1a := cell_regrown c1a
  have kc2a := cell_regrown c2a
  have kc3a := cell_regrown c3a
  have kc4a := cell_regrown c4a
  have kc5a := cell_regrown c5a
  have kc6a := cell_regrown c6a
  have kc7a := cell_regrown c7a
  have kc0b := cell_regrown c0b
  have kc1b := cell_regrown c1b
  have kc2b := cell_regrown c2b
  have kc3b := cell_regrown c3b
  have kc4b := cell_regrown c4b
  have kc5b := cell_regrown c5b
  have kc6b := cell_regrown c6b
  have kc7b := cell_regrown c7b
  cases hv : voidT x with
  | true =>
  have q1 := fun d os => Calls.regrown_of (tr_formed (simpleT x) Ax cx (Go.Sort.grow (redrawn W0 d) os) hcs (by7.tr.below (below_regrown W0 d os)))
  simp only [g1] at q1
  unfold ndV at q1
  have q2 := fun d os => Calls.regrown_of (tr_same (simpleT x) (simpleT x) Ax Az cx cz (Go.Sort.grow (redrawn W0 d) os) hcs (by7.tr.below (below_regrown W0 d os)) (bz7.tr.below (below_regrown W0 d os)))
  simp only [hsame] at q2
  unfold ndV at q2
  have q3 := fun d os => Calls.regrown_of (tr_void (simpleT x) Ax cx (Go.Sort.grow (redrawn W0 d) os) (by7.tr.below (below_regrown W0 d os)))
  simp only [g1, g3, hv, Bool.and_true, Bool.and_false, Bool.true_and] at q3
  unfold ndV at q3
  have q4 := fun d os => Calls.regrown_of (tr_void x A c (Go.Sort.grow (redrawn W0 d) os) (bx7.tr.below (below_regrown W0 d os)))
  simp only [hF, hv, Bool.and_true, Bool.and_false, Bool.true_and] at q4
  unfold ndV at q4
  have q5 := fun d os => Calls.regrown_of (tr_null (simpleT x) Ax cx (Go.Sort.grow (redrawn W0 d) os) (by7.tr.below (below_regrown W0 d os)))
  simp only [g1, g4, Bool.true_and] at q5
  unfold ndV at q5
  have q6 := fun d os => Calls.regrown_of (tr_null x A c (Go.Sort.grow (redrawn W0 d) os) (bx7.tr.below (below_regrown W0 d os)))
  simp only [hF, Bool.true_and] at q6
  unfold ndV at q6
  have q7 := fun d os => Calls.regrown_of (tr_places (simpleT x) Ax cx (Go.Sort.grow (redrawn W0 d) os) hcs (by7.tr.below (below_regrown W0 d os)))
  unfold ndV at q7
  have q8 := fun d os => Calls.regrown_of (tr_places x A c (Go.Sort.grow (redrawn W0 d) os) hxc (bx7.tr.below (below_regrown W0 d os)))
  unfold ndV at q8
  have q9 := fun d os => Calls.regrown_of (tr_depth (simpleT x) Ax cx (Go.Sort.grow (redrawn W0 d) os) hcs (by7.tr.below (below_regrown W0 d os)))
  unfold ndV at q9
  have q10 := fun d os => Calls.regrown_of (tr_depth x A c (Go.Sort.grow (redrawn W0 d) os) hxc (bx7.tr.below (below_regrown W0 d os)))
  unfold ndV at q10
  have hle2 : (depthT (simpleT x) : Int) ≤ (depthT x : Int) := by omega
  generalize nullT x = nu at q5 q6
  generalize (depthT (simpleT x) : Int) = d1 at q9 hle2
  generalize (depthT x : Int) = d2 at q10 hle2
  generalize (placesT (simpleT x) : Int) = p1 at *
  generalize (placesT x : Int) = p2 at *
  clear g1 g2 g3 g4 g5 g6 hW0 hcs hsame hsz s3 h hF bx7 by7 bz7
  refine wp_region_quiet_below (by kernel_rfl) (by kernel_rfl) ?_
  repeat (quiet_step (fail))
  quiet_step (exact q1 _ _)
  repeat (quiet_step (fail))
  quiet_step (exact q2 _ _)
  repeat (quiet_step (fail))
  quiet_step (exact q3 _ _)
  repeat (quiet_step (fail))
  quiet_step (exact q4 _ _)
  repeat (quiet_step (fail))
  quiet_step (exact q5 _ _)
  repeat (quiet_step (fail))
  quiet_step (exact q6 _ _)
  repeat (quiet_step (fail))
  quiet_step (exact q4 _ _)
  repeat (quiet_step (fail))
  quiet_step (exact q9 _ _)
  repeat (quiet_step (fail))
  quiet_step (exact q10 _ _)
  repeat (quiet_step (fail))
  refine wpQuiet_nil ?_
  intro _ hw'
  obtain ⟨⟨dq, osq⟩, hw''⟩ := hw'
  subst hw''
  go_wp2
  go_ret
  exact ⟨by simp [hle2], below_step st7.ext (below_regrown W0 dq osq)⟩
  | false =>
  have q1 := fun d os => Calls.regrown_of (tr_formed (simpleT x) Ax cx (Go.Sort.grow (redrawn W0 d) os) hcs (by7.tr.below (below_regrown W0 d os)))
  simp only [g1] at q1
  unfold ndV at q1
  have q2 := fun d os => Calls.regrown_of (tr_same (simpleT x) (simpleT x) Ax Az cx cz (Go.Sort.grow (redrawn W0 d) os) hcs (by7.tr.below (below_regrown W0 d os)) (bz7.tr.below (below_regrown W0 d os)))
  simp only [hsame] at q2
  unfold ndV at q2
  have q3 := fun d os => Calls.regrown_of (tr_void (simpleT x) Ax cx (Go.Sort.grow (redrawn W0 d) os) (by7.tr.below (below_regrown W0 d os)))
  simp only [g1, g3, hv, Bool.and_true, Bool.and_false, Bool.true_and] at q3
  unfold ndV at q3
  have q4 := fun d os => Calls.regrown_of (tr_void x A c (Go.Sort.grow (redrawn W0 d) os) (bx7.tr.below (below_regrown W0 d os)))
  simp only [hF, hv, Bool.and_true, Bool.and_false, Bool.true_and] at q4
  unfold ndV at q4
  have q5 := fun d os => Calls.regrown_of (tr_null (simpleT x) Ax cx (Go.Sort.grow (redrawn W0 d) os) (by7.tr.below (below_regrown W0 d os)))
  simp only [g1, g4, Bool.true_and] at q5
  unfold ndV at q5
  have q6 := fun d os => Calls.regrown_of (tr_null x A c (Go.Sort.grow (redrawn W0 d) os) (bx7.tr.below (below_regrown W0 d os)))
  simp only [hF, Bool.true_and] at q6
  unfold ndV at q6
  have q7 := fun d os => Calls.regrown_of (tr_places (simpleT x) Ax cx (Go.Sort.grow (redrawn W0 d) os) hcs (by7.tr.below (below_regrown W0 d os)))
  unfold ndV at q7
  have q8 := fun d os => Calls.regrown_of (tr_places x A c (Go.Sort.grow (redrawn W0 d) os) hxc (bx7.tr.below (below_regrown W0 d os)))
  unfold ndV at q8
  have q9 := fun d os => Calls.regrown_of (tr_depth (simpleT x) Ax cx (Go.Sort.grow (redrawn W0 d) os) hcs (by7.tr.below (below_regrown W0 d os)))
  unfold ndV at q9
  have q10 := fun d os => Calls.regrown_of (tr_depth x A c (Go.Sort.grow (redrawn W0 d) os) hxc (bx7.tr.below (below_regrown W0 d os)))
  unfold ndV at q10
  have hle2 : (depthT (simpleT x) : Int) ≤ (depthT x : Int) := by omega
  have hle1 : (placesT (simpleT x) : Int) ≤ (placesT x : Int) := by have := g5 hv; omega
  generalize nullT x = nu at q5 q6
  generalize (depthT (simpleT x) : Int) = d1 at q9 hle2
  generalize (depthT x : Int) = d2 at q10 hle2
  generalize (placesT (simpleT x) : Int) = p1 at *
  generalize (placesT x : Int) = p2 at *
  clear g1 g2 g3 g4 g5 g6 hW0 hcs hsame hsz s3 h hF bx7 by7 bz7
  refine wp_region_quiet_below (by kernel_rfl) (by kernel_rfl) ?_
  repeat (quiet_step (fail))
  quiet_step (exact q1 _ _)
  repeat (quiet_step (fail))
  quiet_step (exact q2 _ _)
  repeat (quiet_step (fail))
  quiet_step (exact q3 _ _)
  repeat (quiet_step (fail))
  quiet_step (exact q4 _ _)
  repeat (quiet_step (fail))
  quiet_step (exact q5 _ _)
  repeat (quiet_step (fail))
  quiet_step (exact q6 _ _)
  repeat (quiet_step (fail))
  quiet_step (exact q4 _ _)
  repeat (quiet_step (fail))
  quiet_step (exact q7 _ _)
  repeat (quiet_step (fail))
  quiet_step (exact q8 _ _)
  repeat (quiet_step (fail))
  quiet_step (exact q9 _ _)
  repeat (quiet_step (fail))
  quiet_step (exact q10 _ _)
  repeat (quiet_step (fail))
  refine wpQuiet_nil ?_
  intro _ hw'
  obtain ⟨⟨dq, osq⟩, hw''⟩ := hw'
  subst hw''
  go_wp2
  go_ret
  exact ⟨by simp [hle1, hle2], below_step st7.ext (below_regrown W0 dq osq)⟩
end Go.Proofs.Ytgcgijmjlnhdnaa.P
