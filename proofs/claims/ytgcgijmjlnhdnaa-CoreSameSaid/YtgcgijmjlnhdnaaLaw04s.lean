/- The walk of the statement CoreSame. -/
import Derived.Test.YtgcgijmjlnhdnaaT04g
import Derived.Test.YtgcgijmjlnhdnaaT04h
namespace Go.Proofs.Ytgcgijmjlnhdnaa.P
open Go.RowKit Go.Proofs.YtgcgijmjlnhdnaaW.PrintWords Go.Proofs.YtgcgijmjlnhdnaaW.PrintLast Go.Proofs.YtgcgijmjlnhdnaaW.PrintMore
theorem n_cells {w : World} {g : Nat} {t : TypeId} {c0 c1 c2 c3 c4 c5 c6 c7 : Value} (h : w.heap[g]? = some (.cells #[c0, c1, c2, c3, c4, c5, c6, c7] t (0, 0))) :
    w.cell? ⟨g, 0, none⟩ = some c0 ∧ w.cell? ⟨g, 1, none⟩ = some c1 ∧ w.cell? ⟨g, 2, none⟩ = some c2 ∧ w.cell? ⟨g, 3, none⟩ = some c3 ∧ w.cell? ⟨g, 4, none⟩ = some c4 ∧ w.cell? ⟨g, 5, none⟩ = some c5 ∧ w.cell? ⟨g, 6, none⟩ = some c6 ∧ w.cell? ⟨g, 7, none⟩ = some c7 ∧
    w.frozen? ⟨g, 0, none⟩ = false ∧ w.frozen? ⟨g, 1, none⟩ = false ∧ w.frozen? ⟨g, 2, none⟩ = false ∧ w.frozen? ⟨g, 3, none⟩ = false ∧ w.frozen? ⟨g, 4, none⟩ = false ∧ w.frozen? ⟨g, 5, none⟩ = false ∧ w.frozen? ⟨g, 6, none⟩ = false ∧ w.frozen? ⟨g, 7, none⟩ = false :=
  ⟨(blk_cell h 0).trans rfl, (blk_cell h 1).trans rfl, (blk_cell h 2).trans rfl, (blk_cell h 3).trans rfl, (blk_cell h 4).trans rfl, (blk_cell h 5).trans rfl, (blk_cell h 6).trans rfl, (blk_cell h 7).trans rfl,
    blk_frozen h 0, blk_frozen h 1, blk_frozen h 2, blk_frozen h 3, blk_frozen h 4, blk_frozen h 5, blk_frozen h 6, blk_frozen h 7⟩

structure Bx (q : Nat) (x : S27) (A : Option Addr) (c : Nat) (wi : World) : Prop where
  blk : wi.heap[q]? = some (.cells #[.int .i64 x.f0, .int .u64 x.f1.f0, .int .u64 x.f1.f1, .int .u64 x.f1.f2, .int .u64 x.f1.f3, .slice A x.f2.length c, .int .i64 x.f3, .int .i64 x.f4] 27)
  tr : Tr wi x A c
theorem Bx.later {q : Nat} {x : S27} {A : Option Addr} {c : Nat} {wi wj : World} (h : Bx q x A c wi) (hb : Below wi.heap.size wi wj) : Bx q x A c wj := ⟨(hb.block q (blk_lt h.blk)).trans h.blk, h.tr.below hb⟩
theorem Bx.alloc {q : Nat} {x : S27} {A : Option Addr} {c : Nat} {wi : World} (h : Bx q x A c wi) (o : Obj) : Bx q x A c (wi.alloc o) := h.later ((Below.refl _ wi).alloc (Nat.le_refl _) o)
structure St (w wi : World) : Prop where
  ext : Below w.heap.size w wi
  lt : w.heap.size ≤ wi.heap.size
theorem St.refl (w : World) : St w w := ⟨Below.refl _ w, Nat.le_refl _⟩
theorem St.later {w wi wj : World} (h : St w wi) (hb : Below wi.heap.size wi wj) : St w wj := ⟨below_step h.ext hb, Nat.le_trans h.lt hb.size⟩
theorem St.alloc {w wi : World} (h : St w wi) (o : Obj) : St w (wi.alloc o) := h.later ((Below.refl _ wi).alloc (Nat.le_refl _) o)

set_option maxHeartbeats 4000000 in
theorem coreSame_any (x : S27) (A : Option Addr) (c : Nat) (w : World) (h : Tr w x A c) :
    Calls Try.prog 4 #[ndV x A c] w fun e w' => e = .returned (.bool true) ∧ Below w.heap.size w w' := by
  obtain ⟨s, s1, s3, hsz⟩ := tr_size x A c w 80 (by omega) (by omega) h
  have bx0 : Bx w.heap.size x A c (w.alloc (.cells #[.int .i64 x.f0, .int .u64 x.f1.f0, .int .u64 x.f1.f1, .int .u64 x.f1.f2, .int .u64 x.f1.f3, .slice A x.f2.length c, .int .i64 x.f3, .int .i64 x.f4] 27)) := ⟨heap_alloc_new w _, h.alloc _⟩
  have st0 := (St.refl w).alloc (.cells #[.int .i64 x.f0, .int .u64 x.f1.f0, .int .u64 x.f1.f1, .int .u64 x.f1.f2, .int .u64 x.f1.f3, .slice A x.f2.length c, .int .i64 x.f3, .int .i64 x.f4] 27)
  unfold ndV at *
  go_enter Try.func4, Try.ntmps4
  go_wp2_with fail
  refine (tr_awake _).mono ?_
  rintro e w1 ⟨rfl, hb1⟩
  have bx1 := bx0.later hb1
  have st1 := st0.later hb1
  clear bx0 st0 hb1
  obtain ⟨c0, c1, c2, c3, c4, c5, c6, c7, z0, z1, z2, z3, z4, z5, z6, z7⟩ := n_cells bx1.blk
  go_wp2_with fail
  refine (hsz w1 bx1.tr).mono ?_
  rintro e w2 ⟨rfl, hb2⟩
  have bx2 := bx1.later hb2
  have st2 := st1.later hb2
  clear bx1 st1 hb2 c0 c1 c2 c3 c4 c5 c6 c7 z0 z1 z2 z3 z4 z5 z6 z7
  obtain ⟨c0, c1, c2, c3, c4, c5, c6, c7, z0, z1, z2, z3, z4, z5, z6, z7⟩ := n_cells bx2.blk
  by_cases hbig : 80 < s
  · go_wp2_with fail
    refine (tr_awake _).mono ?_
    rintro e w3 ⟨rfl, hb3⟩
    go_wp2
    go_ret
    exact ⟨rfl, (st2.later hb3).ext⟩
  have hcn : (cntT x : Int) ≤ 80 := by have := s3 (.inl (by omega)); omega
  go_wp2_with fail
  have hfm := tr_formed x A c w2 (by omega) bx2.tr
  unfold ndV at hfm
  refine hfm.mono ?_
  rintro e w3 ⟨rfl, hb3⟩
  have bx3 := bx2.later hb3
  have st3 := st2.later hb3
  clear bx2 st2 hb3 c0 c1 c2 c3 c4 c5 c6 c7 z0 z1 z2 z3 z4 z5 z6 z7
  obtain ⟨c0, c1, c2, c3, c4, c5, c6, c7, z0, z1, z2, z3, z4, z5, z6, z7⟩ := n_cells bx3.blk
  clear hfm
  cases hF : formedT x with
  | false =>
    go_wp2_with fail
    refine (tr_awake _).mono ?_
    rintro e w4 ⟨rfl, hb4⟩
    go_wp2
    go_ret
    exact ⟨rfl, (st3.later hb4).ext⟩
  | true =>
  go_wp2_with fail
  have hsm := tr_simple x A c w3 hF (by omega) bx3.tr
  unfold ndV at hsm
  refine hsm.mono ?_
  rintro e w4 ⟨Ax, cx, rfl, tx, hb4⟩
  have bx4 := bx3.later hb4
  have st4 := st3.later hb4
  clear bx3 st3 hb4 hsm c0 c1 c2 c3 c4 c5 c6 c7 z0 z1 z2 z3 z4 z5 z6 z7
  have bx5 := bx4.alloc (.cells #[.int .i64 (simpleT x).f0, .int .u64 (simpleT x).f1.f0, .int .u64 (simpleT x).f1.f1, .int .u64 (simpleT x).f1.f2, .int .u64 (simpleT x).f1.f3, .slice Ax (simpleT x).f2.length cx, .int .i64 (simpleT x).f3, .int .i64 (simpleT x).f4] 27)
  have st5 := st4.alloc (.cells #[.int .i64 (simpleT x).f0, .int .u64 (simpleT x).f1.f0, .int .u64 (simpleT x).f1.f1, .int .u64 (simpleT x).f1.f2, .int .u64 (simpleT x).f1.f3, .slice Ax (simpleT x).f2.length cx, .int .i64 (simpleT x).f3, .int .i64 (simpleT x).f4] 27)
  have by5 : Bx w4.heap.size (simpleT x) Ax cx (w4.alloc (.cells #[.int .i64 (simpleT x).f0, .int .u64 (simpleT x).f1.f0, .int .u64 (simpleT x).f1.f1, .int .u64 (simpleT x).f1.f2, .int .u64 (simpleT x).f1.f3, .slice Ax (simpleT x).f2.length cx, .int .i64 (simpleT x).f3, .int .i64 (simpleT x).f4] 27)) := ⟨heap_alloc_new w4 _, tx.alloc _⟩
  clear bx4 st4 tx
  obtain ⟨c0, c1, c2, c3, c4, c5, c6, c7, z0, z1, z2, z3, z4, z5, z6, z7⟩ := n_cells bx5.blk
  go_wp2_with fail
  have hl6 := Tr.lit2 bx5.tr (Tr.nil (w4.alloc (.cells #[.int .i64 (simpleT x).f0, .int .u64 (simpleT x).f1.f0, .int .u64 (simpleT x).f1.f1, .int .u64 (simpleT x).f1.f2, .int .u64 (simpleT x).f1.f3, .slice Ax (simpleT x).f2.length cx, .int .i64 (simpleT x).f3, .int .i64 (simpleT x).f4] 27)) 0 0 0 ⟨0, 0, 0, 0⟩) 27 2 0 0 ⟨0, 0, 0, 0⟩
  have hs6 := tr_simple ⟨2, ⟨0, 0, 0, 0⟩, [x, zT], 0, 0⟩ (some ⟨(w4.alloc (.cells #[.int .i64 (simpleT x).f0, .int .u64 (simpleT x).f1.f0, .int .u64 (simpleT x).f1.f1, .int .u64 (simpleT x).f1.f2, .int .u64 (simpleT x).f1.f3, .slice Ax (simpleT x).f2.length cx, .int .i64 (simpleT x).f3, .int .i64 (simpleT x).f4] 27)).heap.size, 0, none⟩) 2 _ (same_cat hF).1 (by simp [cntT, cntL, zT]; omega) hl6
  rw [(same_cat hF).2] at hs6
  unfold ndV at hs6
  simp only [World.size_alloc] at hs6
  refine hs6.mono ?_
  clear hs6 hl6
  rintro e w6 ⟨Aa, ca, rfl, tx, hb6⟩
  have bx6 := (bx5.alloc (.cells #[.int .i64 x.f0, .int .u64 x.f1.f0, .int .u64 x.f1.f1, .int .u64 x.f1.f2, .int .u64 x.f1.f3, .slice A x.f2.length c, .int .i64 x.f3, .int .i64 x.f4, .int .i64 0, .int .u64 0, .int .u64 0, .int .u64 0, .int .u64 0, .slice none 0 0, .int .i64 0, .int .i64 0] 27)).later (by simp only [World.size_alloc]; exact hb6)
  have by6 := (by5.alloc (.cells #[.int .i64 x.f0, .int .u64 x.f1.f0, .int .u64 x.f1.f1, .int .u64 x.f1.f2, .int .u64 x.f1.f3, .slice A x.f2.length c, .int .i64 x.f3, .int .i64 x.f4, .int .i64 0, .int .u64 0, .int .u64 0, .int .u64 0, .int .u64 0, .slice none 0 0, .int .i64 0, .int .i64 0] 27)).later (by simp only [World.size_alloc]; exact hb6)
  have st6 := (st5.alloc (.cells #[.int .i64 x.f0, .int .u64 x.f1.f0, .int .u64 x.f1.f1, .int .u64 x.f1.f2, .int .u64 x.f1.f3, .slice A x.f2.length c, .int .i64 x.f3, .int .i64 x.f4, .int .i64 0, .int .u64 0, .int .u64 0, .int .u64 0, .int .u64 0, .slice none 0 0, .int .i64 0, .int .i64 0] 27)).later (by simp only [World.size_alloc]; exact hb6)
  clear bx5 by5 st5 hb6 c0 c1 c2 c3 c4 c5 c6 c7 z0 z1 z2 z3 z4 z5 z6 z7
  have bx7 := bx6.alloc (.cells #[.int .i64 (simpleT x).f0, .int .u64 (simpleT x).f1.f0, .int .u64 (simpleT x).f1.f1, .int .u64 (simpleT x).f1.f2, .int .u64 (simpleT x).f1.f3, .slice Aa (simpleT x).f2.length ca, .int .i64 (simpleT x).f3, .int .i64 (simpleT x).f4] 27)
  have by7 := by6.alloc (.cells #[.int .i64 (simpleT x).f0, .int .u64 (simpleT x).f1.f0, .int .u64 (simpleT x).f1.f1, .int .u64 (simpleT x).f1.f2, .int .u64 (simpleT x).f1.f3, .slice Aa (simpleT x).f2.length ca, .int .i64 (simpleT x).f3, .int .i64 (simpleT x).f4] 27)
  have st7 := st6.alloc (.cells #[.int .i64 (simpleT x).f0, .int .u64 (simpleT x).f1.f0, .int .u64 (simpleT x).f1.f1, .int .u64 (simpleT x).f1.f2, .int .u64 (simpleT x).f1.f3, .slice Aa (simpleT x).f2.length ca, .int .i64 (simpleT x).f3, .int .i64 (simpleT x).f4] 27)
  have bz7 : Bx w6.heap.size (simpleT x) Aa ca (w6.alloc (.cells #[.int .i64 (simpleT x).f0, .int .u64 (simpleT x).f1.f0, .int .u64 (simpleT x).f1.f1, .int .u64 (simpleT x).f1.f2, .int .u64 (simpleT x).f1.f3, .slice Aa (simpleT x).f2.length ca, .int .i64 (simpleT x).f3, .int .i64 (simpleT x).f4] 27)) := ⟨heap_alloc_new w6 _, tx.alloc _⟩
  clear bx6 by6 st6 tx
  obtain ⟨c0, c1, c2, c3, c4, c5, c6, c7, z0, z1, z2, z3, z4, z5, z6, z7⟩ := n_cells bx7.blk
  go_wp2_with fail
  have hl8 := Tr.lit2 bx7.tr bx7.tr 27 3 0 0 ⟨0, 0, 0, 0⟩
  have hs8 := tr_simple ⟨3, ⟨0, 0, 0, 0⟩, [x, x], 0, 0⟩ (some ⟨(w6.alloc (.cells #[.int .i64 (simpleT x).f0, .int .u64 (simpleT x).f1.f0, .int .u64 (simpleT x).f1.f1, .int .u64 (simpleT x).f1.f2, .int .u64 (simpleT x).f1.f3, .slice Aa (simpleT x).f2.length ca, .int .i64 (simpleT x).f3, .int .i64 (simpleT x).f4] 27)).heap.size, 0, none⟩) 2 _ (same_alt hF).1 (by simp [cntT, cntL]; omega) hl8
  rw [(same_alt hF).2] at hs8
  unfold ndV at hs8
  simp only [World.size_alloc] at hs8
  refine hs8.mono ?_
  clear hs8 hl8
  rintro e w8 ⟨Ab, cb, rfl, tx, hb8⟩
  have bx8 := (bx7.alloc (.cells #[.int .i64 x.f0, .int .u64 x.f1.f0, .int .u64 x.f1.f1, .int .u64 x.f1.f2, .int .u64 x.f1.f3, .slice A x.f2.length c, .int .i64 x.f3, .int .i64 x.f4, .int .i64 x.f0, .int .u64 x.f1.f0, .int .u64 x.f1.f1, .int .u64 x.f1.f2, .int .u64 x.f1.f3, .slice A x.f2.length c, .int .i64 x.f3, .int .i64 x.f4] 27)).later (by simp only [World.size_alloc]; exact hb8)
  have by8 := (by7.alloc (.cells #[.int .i64 x.f0, .int .u64 x.f1.f0, .int .u64 x.f1.f1, .int .u64 x.f1.f2, .int .u64 x.f1.f3, .slice A x.f2.length c, .int .i64 x.f3, .int .i64 x.f4, .int .i64 x.f0, .int .u64 x.f1.f0, .int .u64 x.f1.f1, .int .u64 x.f1.f2, .int .u64 x.f1.f3, .slice A x.f2.length c, .int .i64 x.f3, .int .i64 x.f4] 27)).later (by simp only [World.size_alloc]; exact hb8)
  have bz8 := (bz7.alloc (.cells #[.int .i64 x.f0, .int .u64 x.f1.f0, .int .u64 x.f1.f1, .int .u64 x.f1.f2, .int .u64 x.f1.f3, .slice A x.f2.length c, .int .i64 x.f3, .int .i64 x.f4, .int .i64 x.f0, .int .u64 x.f1.f0, .int .u64 x.f1.f1, .int .u64 x.f1.f2, .int .u64 x.f1.f3, .slice A x.f2.length c, .int .i64 x.f3, .int .i64 x.f4] 27)).later (by simp only [World.size_alloc]; exact hb8)
  have st8 := (st7.alloc (.cells #[.int .i64 x.f0, .int .u64 x.f1.f0, .int .u64 x.f1.f1, .int .u64 x.f1.f2, .int .u64 x.f1.f3, .slice A x.f2.length c, .int .i64 x.f3, .int .i64 x.f4, .int .i64 x.f0, .int .u64 x.f1.f0, .int .u64 x.f1.f1, .int .u64 x.f1.f2, .int .u64 x.f1.f3, .slice A x.f2.length c, .int .i64 x.f3, .int .i64 x.f4] 27)).later (by simp only [World.size_alloc]; exact hb8)
  clear bx7 by7 bz7 st7 hb8 c0 c1 c2 c3 c4 c5 c6 c7 z0 z1 z2 z3 z4 z5 z6 z7
  have bx9 := bx8.alloc (.cells #[.int .i64 (simpleT x).f0, .int .u64 (simpleT x).f1.f0, .int .u64 (simpleT x).f1.f1, .int .u64 (simpleT x).f1.f2, .int .u64 (simpleT x).f1.f3, .slice Ab (simpleT x).f2.length cb, .int .i64 (simpleT x).f3, .int .i64 (simpleT x).f4] 27)
  have by9 := by8.alloc (.cells #[.int .i64 (simpleT x).f0, .int .u64 (simpleT x).f1.f0, .int .u64 (simpleT x).f1.f1, .int .u64 (simpleT x).f1.f2, .int .u64 (simpleT x).f1.f3, .slice Ab (simpleT x).f2.length cb, .int .i64 (simpleT x).f3, .int .i64 (simpleT x).f4] 27)
  have bz9 := bz8.alloc (.cells #[.int .i64 (simpleT x).f0, .int .u64 (simpleT x).f1.f0, .int .u64 (simpleT x).f1.f1, .int .u64 (simpleT x).f1.f2, .int .u64 (simpleT x).f1.f3, .slice Ab (simpleT x).f2.length cb, .int .i64 (simpleT x).f3, .int .i64 (simpleT x).f4] 27)
  have st9 := st8.alloc (.cells #[.int .i64 (simpleT x).f0, .int .u64 (simpleT x).f1.f0, .int .u64 (simpleT x).f1.f1, .int .u64 (simpleT x).f1.f2, .int .u64 (simpleT x).f1.f3, .slice Ab (simpleT x).f2.length cb, .int .i64 (simpleT x).f3, .int .i64 (simpleT x).f4] 27)
  have bu9 : Bx w8.heap.size (simpleT x) Ab cb (w8.alloc (.cells #[.int .i64 (simpleT x).f0, .int .u64 (simpleT x).f1.f0, .int .u64 (simpleT x).f1.f1, .int .u64 (simpleT x).f1.f2, .int .u64 (simpleT x).f1.f3, .slice Ab (simpleT x).f2.length cb, .int .i64 (simpleT x).f3, .int .i64 (simpleT x).f4] 27)) := ⟨heap_alloc_new w8 _, tx.alloc _⟩
  clear bx8 by8 bz8 st8 tx
  obtain ⟨c0, c1, c2, c3, c4, c5, c6, c7, z0, z1, z2, z3, z4, z5, z6, z7⟩ := n_cells bx9.blk
  go_wp2_with fail
  have hl10 := Tr.lit1 bx9.tr 27 4 1 1 ⟨0, 0, 0, 0⟩
  have hs10 := tr_simple ⟨4, ⟨0, 0, 0, 0⟩, [x], 1, 1⟩ (some ⟨(w8.alloc (.cells #[.int .i64 (simpleT x).f0, .int .u64 (simpleT x).f1.f0, .int .u64 (simpleT x).f1.f1, .int .u64 (simpleT x).f1.f2, .int .u64 (simpleT x).f1.f3, .slice Ab (simpleT x).f2.length cb, .int .i64 (simpleT x).f3, .int .i64 (simpleT x).f4] 27)).heap.size, 0, none⟩) 1 _ (same_times hF).1 (by simp [cntT, cntL]; omega) hl10
  rw [(same_times hF).2] at hs10
  unfold ndV at hs10
  simp only [World.size_alloc] at hs10
  refine hs10.mono ?_
  clear hs10 hl10
  rintro e w10 ⟨Ac, cc, rfl, tx, hb10⟩
  have bx10 := (bx9.alloc (.cells #[.int .i64 x.f0, .int .u64 x.f1.f0, .int .u64 x.f1.f1, .int .u64 x.f1.f2, .int .u64 x.f1.f3, .slice A x.f2.length c, .int .i64 x.f3, .int .i64 x.f4] 27)).later (by simp only [World.size_alloc]; exact hb10)
  have by10 := (by9.alloc (.cells #[.int .i64 x.f0, .int .u64 x.f1.f0, .int .u64 x.f1.f1, .int .u64 x.f1.f2, .int .u64 x.f1.f3, .slice A x.f2.length c, .int .i64 x.f3, .int .i64 x.f4] 27)).later (by simp only [World.size_alloc]; exact hb10)
  have bz10 := (bz9.alloc (.cells #[.int .i64 x.f0, .int .u64 x.f1.f0, .int .u64 x.f1.f1, .int .u64 x.f1.f2, .int .u64 x.f1.f3, .slice A x.f2.length c, .int .i64 x.f3, .int .i64 x.f4] 27)).later (by simp only [World.size_alloc]; exact hb10)
  have bu10 := (bu9.alloc (.cells #[.int .i64 x.f0, .int .u64 x.f1.f0, .int .u64 x.f1.f1, .int .u64 x.f1.f2, .int .u64 x.f1.f3, .slice A x.f2.length c, .int .i64 x.f3, .int .i64 x.f4] 27)).later (by simp only [World.size_alloc]; exact hb10)
  have st10 := (st9.alloc (.cells #[.int .i64 x.f0, .int .u64 x.f1.f0, .int .u64 x.f1.f1, .int .u64 x.f1.f2, .int .u64 x.f1.f3, .slice A x.f2.length c, .int .i64 x.f3, .int .i64 x.f4] 27)).later (by simp only [World.size_alloc]; exact hb10)
  clear bx9 by9 bz9 bu9 st9 hb10 c0 c1 c2 c3 c4 c5 c6 c7 z0 z1 z2 z3 z4 z5 z6 z7
  have bx11 := bx10.alloc (.cells #[.int .i64 (simpleT x).f0, .int .u64 (simpleT x).f1.f0, .int .u64 (simpleT x).f1.f1, .int .u64 (simpleT x).f1.f2, .int .u64 (simpleT x).f1.f3, .slice Ac (simpleT x).f2.length cc, .int .i64 (simpleT x).f3, .int .i64 (simpleT x).f4] 27)
  have by11 := by10.alloc (.cells #[.int .i64 (simpleT x).f0, .int .u64 (simpleT x).f1.f0, .int .u64 (simpleT x).f1.f1, .int .u64 (simpleT x).f1.f2, .int .u64 (simpleT x).f1.f3, .slice Ac (simpleT x).f2.length cc, .int .i64 (simpleT x).f3, .int .i64 (simpleT x).f4] 27)
  have bz11 := bz10.alloc (.cells #[.int .i64 (simpleT x).f0, .int .u64 (simpleT x).f1.f0, .int .u64 (simpleT x).f1.f1, .int .u64 (simpleT x).f1.f2, .int .u64 (simpleT x).f1.f3, .slice Ac (simpleT x).f2.length cc, .int .i64 (simpleT x).f3, .int .i64 (simpleT x).f4] 27)
  have bu11 := bu10.alloc (.cells #[.int .i64 (simpleT x).f0, .int .u64 (simpleT x).f1.f0, .int .u64 (simpleT x).f1.f1, .int .u64 (simpleT x).f1.f2, .int .u64 (simpleT x).f1.f3, .slice Ac (simpleT x).f2.length cc, .int .i64 (simpleT x).f3, .int .i64 (simpleT x).f4] 27)
  have st11 := st10.alloc (.cells #[.int .i64 (simpleT x).f0, .int .u64 (simpleT x).f1.f0, .int .u64 (simpleT x).f1.f1, .int .u64 (simpleT x).f1.f2, .int .u64 (simpleT x).f1.f3, .slice Ac (simpleT x).f2.length cc, .int .i64 (simpleT x).f3, .int .i64 (simpleT x).f4] 27)
  have bv11 : Bx w10.heap.size (simpleT x) Ac cc (w10.alloc (.cells #[.int .i64 (simpleT x).f0, .int .u64 (simpleT x).f1.f0, .int .u64 (simpleT x).f1.f1, .int .u64 (simpleT x).f1.f2, .int .u64 (simpleT x).f1.f3, .slice Ac (simpleT x).f2.length cc, .int .i64 (simpleT x).f3, .int .i64 (simpleT x).f4] 27)) := ⟨heap_alloc_new w10 _, tx.alloc _⟩
  clear bx10 by10 bz10 bu10 st10 tx
  obtain ⟨c0, c1, c2, c3, c4, c5, c6, c7, z0, z1, z2, z3, z4, z5, z6, z7⟩ := n_cells by11.blk
  obtain ⟨c0a, c1a, c2a, c3a, c4a, c5a, c6a, c7a, z0a, z1a, z2a, z3a, z4a, z5a, z6a, z7a⟩ := n_cells bz11.blk
  have hcs : cntT (simpleT x) ≤ 1000000 := by have := (simpleT_ok _ x (Nat.lt_succ_self _) (ok_formed hF)).2; omega
  have hsame : sameT (simpleT x) (simpleT x) = true := (sameT_iff _ _).2 rfl
  go_wp2_with fail
  have hq12 := tr_same (simpleT x) (simpleT x) Aa Ax ca cx _ hcs bz11.tr by11.tr
  unfold ndV at hq12
  rw [hsame] at hq12
  refine hq12.mono ?_
  clear hq12
  rintro e w12 ⟨rfl, hb12⟩
  have bx12 := bx11.later hb12
  have by12 := by11.later hb12
  have bu12 := bu11.later hb12
  have bv12 := bv11.later hb12
  have st12 := st11.later hb12
  clear bx11 by11 bz11 bu11 bv11 st11 hb12 c0 c1 c2 c3 c4 c5 c6 c7 z0 z1 z2 z3 z4 z5 z6 z7 c0a c1a c2a c3a c4a c5a c6a c7a z0a z1a z2a z3a z4a z5a z6a z7a
  obtain ⟨c0, c1, c2, c3, c4, c5, c6, c7, z0, z1, z2, z3, z4, z5, z6, z7⟩ := n_cells by12.blk
  obtain ⟨c0a, c1a, c2a, c3a, c4a, c5a, c6a, c7a, z0a, z1a, z2a, z3a, z4a, z5a, z6a, z7a⟩ := n_cells bu12.blk
  go_wp2_with fail
  have hq13 := tr_same (simpleT x) (simpleT x) Ab Ax cb cx w12 hcs bu12.tr by12.tr
  unfold ndV at hq13
  rw [hsame] at hq13
  refine hq13.mono ?_
  clear hq13
  rintro e w13 ⟨rfl, hb13⟩
  have bx13 := bx12.later hb13
  have by13 := by12.later hb13
  have bv13 := bv12.later hb13
  have st13 := st12.later hb13
  clear bx12 by12 bu12 bv12 st12 hb13 c0 c1 c2 c3 c4 c5 c6 c7 z0 z1 z2 z3 z4 z5 z6 z7 c0a c1a c2a c3a c4a c5a c6a c7a z0a z1a z2a z3a z4a z5a z6a z7a
  obtain ⟨c0, c1, c2, c3, c4, c5, c6, c7, z0, z1, z2, z3, z4, z5, z6, z7⟩ := n_cells by13.blk
  obtain ⟨c0a, c1a, c2a, c3a, c4a, c5a, c6a, c7a, z0a, z1a, z2a, z3a, z4a, z5a, z6a, z7a⟩ := n_cells bv13.blk
  go_wp2_with fail
  have hq14 := tr_same (simpleT x) (simpleT x) Ac Ax cc cx w13 hcs bv13.tr by13.tr
  unfold ndV at hq14
  rw [hsame] at hq14
  refine hq14.mono ?_
  clear hq14
  rintro e w14 ⟨rfl, hb14⟩
  go_wp2
  go_ret
  exact ⟨rfl, (st13.later hb14).ext⟩
end Go.Proofs.Ytgcgijmjlnhdnaa.P
