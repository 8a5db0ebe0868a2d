/- SyntaxTrees: the walk. -/
import Derived.Test.YtmkcbbamfkafmaaME
import Derived.Lib.QuietBelow
namespace Go.Proofs.Ytmkcbbamfkafmaa.P
open Go.RowKit Go.Proofs.Ytmkcbbamfkafmaa Go.Proofs.YtmkcbbamfkafmaaW.PrintWords Go.Proofs.YtmkcbbamfkafmaaW.PrintLast Go.Proofs.YtmkcbbamfkafmaaW.PrintMore
set_option linter.unusedVariables false
set_option linter.unusedSimpArgs false
theorem tr_depth' (x : T) (A : Option Addr) (c : Nat) (w : World) (hc : cntT x ≤ 1000000) (h : Tr w x A c) : Calls Try.prog 16 #[ndV x A c] w fun e w' => e = .returned (.int .i64 (depthT x : Int)) ∧ Below w.heap.size w w' := sy_depth x A c w hc h.row h.cap
theorem tr_places' (x : T) (A : Option Addr) (c : Nat) (w : World) (hc : cntT x ≤ 1000000) (h : Tr w x A c) : Calls Try.prog 17 #[ndV x A c] w fun e w' => e = .returned (.int .i64 (placesT x : Int)) ∧ Below w.heap.size w w' := sy_places x A c w hc h.row h.cap
set_option maxHeartbeats 8000000 in
theorem trees_any (x y : T) (A B : Option Addr) (c d : Nat) (w : World) (hx : Tr w x A c) (hy : Tr w y B d) : Calls Try.prog 9 #[ndV x A c, ndV y B d] w fun e w' => e = .returned (.bool true) ∧ Below w.heap.size w w' := by
  obtain ⟨s, s1, s3, hsz⟩ := tr_size x A c 200 (by omega) (by omega)
  obtain ⟨t, t1, t3, htz⟩ := tr_size y B d 200 (by omega) (by omega)
  have bx0 : Bx w.heap.size x A c (w.alloc (.cells #[.int .i64 x.f0, .int .u64 x.f1.f0, .int .u64 x.f1.f1, .int .u64 x.f1.f2, .int .u64 x.f1.f3, .slice A x.f2.length c, .int .i64 x.f3, .int .i64 x.f4] 28)) := ⟨heap_alloc_new w _, hx.alloc _⟩
  have by0 : Bx (w.alloc (.cells #[.int .i64 x.f0, .int .u64 x.f1.f0, .int .u64 x.f1.f1, .int .u64 x.f1.f2, .int .u64 x.f1.f3, .slice A x.f2.length c, .int .i64 x.f3, .int .i64 x.f4] 28)).heap.size y B d ((w.alloc (.cells #[.int .i64 x.f0, .int .u64 x.f1.f0, .int .u64 x.f1.f1, .int .u64 x.f1.f2, .int .u64 x.f1.f3, .slice A x.f2.length c, .int .i64 x.f3, .int .i64 x.f4] 28)).alloc (.cells #[.int .i64 y.f0, .int .u64 y.f1.f0, .int .u64 y.f1.f1, .int .u64 y.f1.f2, .int .u64 y.f1.f3, .slice B y.f2.length d, .int .i64 y.f3, .int .i64 y.f4] 28)) := ⟨heap_alloc_new _ _, (hy.alloc _).alloc _⟩
  have bx1 := bx0.alloc (.cells #[.int .i64 y.f0, .int .u64 y.f1.f0, .int .u64 y.f1.f1, .int .u64 y.f1.f2, .int .u64 y.f1.f3, .slice B y.f2.length d, .int .i64 y.f3, .int .i64 y.f4] 28)
  have b0 := ((Below.refl w.heap.size w).alloc (Nat.le_refl _) (.cells #[.int .i64 x.f0, .int .u64 x.f1.f0, .int .u64 x.f1.f1, .int .u64 x.f1.f2, .int .u64 x.f1.f3, .slice A x.f2.length c, .int .i64 x.f3, .int .i64 x.f4] 28)).alloc (by simp) (.cells #[.int .i64 y.f0, .int .u64 y.f1.f0, .int .u64 y.f1.f1, .int .u64 y.f1.f2, .int .u64 y.f1.f3, .slice B y.f2.length d, .int .i64 y.f3, .int .i64 y.f4] 28)
  rw [show (w.alloc (.cells #[.int .i64 x.f0, .int .u64 x.f1.f0, .int .u64 x.f1.f1, .int .u64 x.f1.f2, .int .u64 x.f1.f3, .slice A x.f2.length c, .int .i64 x.f3, .int .i64 x.f4] 28)).heap.size = w.heap.size + 1 by simp] at by0
  clear bx0 hx hy
  unfold ndV at *
  go_enter Try.func9, Try.ntmps9
  go_wp2_with fail
  refine (awake_any _).mono ?_
  rintro e w3 ⟨rfl, hb3⟩
  have bx3 := bx1.later hb3
  have by3 := by0.later hb3
  have b3 := b0.trans (hb3.mono (by simp; omega))
  clear bx1 by0 b0 hb3
  obtain ⟨c0, c1, c2, c3, c4, c5, c6, c7⟩ := n_cells bx3.blk
  go_wp2_with fail
  refine (hsz w3 bx3.tr).mono ?_
  rintro e w4 ⟨rfl, hb4⟩
  have bx4 := bx3.later hb4
  have by4 := by3.later hb4
  have b4 := ext_trans b3 hb4
  clear bx3 by3 b3 hb4 hsz c0 c1 c2 c3 c4 c5 c6 c7
  by_cases hbig : 200 < s
  · go_wp2_with fail
    refine (awake_any _).mono ?_
    rintro e w5 ⟨rfl, hb5⟩
    go_wp2
    go_ret
    exact ⟨rfl, ext_trans b4 hb5⟩
  obtain ⟨c0, c1, c2, c3, c4, c5, c6, c7⟩ := n_cells by4.blk
  go_wp2_with fail
  refine (htz w4 by4.tr).mono ?_
  rintro e w5 ⟨rfl, hb5⟩
  have bx5 := bx4.later hb5
  have by5 := by4.later hb5
  have b5 := ext_trans b4 hb5
  clear bx4 by4 b4 hb5 htz c0 c1 c2 c3 c4 c5 c6 c7
  by_cases hbig2 : 200 < t
  · go_wp2_with fail
    refine (awake_any _).mono ?_
    rintro e w6 ⟨rfl, hb6⟩
    go_wp2
    go_ret
    exact ⟨rfl, ext_trans b5 hb6⟩
  have hcx : cntT x ≤ 1000000 := by have := s3 (.inl (by omega)); omega
  obtain ⟨c0, c1, c2, c3, c4, c5, c6, c7⟩ := n_cells bx5.blk
  obtain ⟨e0, e1, e2, e3, e4, e5, e6, e7⟩ := n_cells by5.blk
  have q1 := fun d9 os => Calls.regrown_of (tr_formed x A c (Go.Sort.grow (redrawn w5 d9) os) (bx5.tr.below (below_regrown w5 d9 os)))
  unfold ndV at q1
  have q2 := fun d9 os => Calls.regrown_of (tr_refFormed x A c (Go.Sort.grow (redrawn w5 d9) os) hcx (bx5.tr.below (below_regrown w5 d9 os)))
  unfold ndV at q2
  have q3 := fun d9 os => Calls.regrown_of (tr_depth' x A c (Go.Sort.grow (redrawn w5 d9) os) hcx (bx5.tr.below (below_regrown w5 d9 os)))
  unfold ndV at q3
  have q4 := fun d9 os => Calls.regrown_of (tr_refDepth x A c (Go.Sort.grow (redrawn w5 d9) os) hcx (bx5.tr.below (below_regrown w5 d9 os)))
  unfold ndV at q4
  have q5 := fun d9 os => Calls.regrown_of (tr_places' x A c (Go.Sort.grow (redrawn w5 d9) os) hcx (bx5.tr.below (below_regrown w5 d9 os)))
  unfold ndV at q5
  have q6 := fun d9 os => Calls.regrown_of (tr_refPlaces x A c (Go.Sort.grow (redrawn w5 d9) os) hcx (bx5.tr.below (below_regrown w5 d9 os)))
  unfold ndV at q6
  have q7 := fun d9 os => Calls.regrown_of (tr_same x y A B c d (Go.Sort.grow (redrawn w5 d9) os) (bx5.tr.below (below_regrown w5 d9 os)) (by5.tr.below (below_regrown w5 d9 os)))
  unfold ndV at q7
  have q8 := fun d9 os => Calls.regrown_of (tr_refSame x y A B c d (Go.Sort.grow (redrawn w5 d9) os) hcx (bx5.tr.below (below_regrown w5 d9 os)) (by5.tr.below (below_regrown w5 d9 os)))
  unfold ndV at q8
  have q9 := fun d9 os => Calls.regrown_of (tr_same x x A A c c (Go.Sort.grow (redrawn w5 d9) os) (bx5.tr.below (below_regrown w5 d9 os)) (bx5.tr.below (below_regrown w5 d9 os)))
  rw [same_refl] at q9
  unfold ndV at q9
  have kc0 := cell_regrown c0
  have ke0 := cell_regrown e0
  have kc1 := cell_regrown c1
  have ke1 := cell_regrown e1
  have kc2 := cell_regrown c2
  have ke2 := cell_regrown e2
  have kc3 := cell_regrown c3
  have ke3 := cell_regrown e3
  have kc4 := cell_regrown c4
  have ke4 := cell_regrown e4
  have kc5 := cell_regrown c5
  have ke5 := cell_regrown e5
  have kc6 := cell_regrown c6
  have ke6 := cell_regrown e6
  have kc7 := cell_regrown c7
  have ke7 := cell_regrown e7
  go_wp2_with fail
  clear c0 c1 c2 c3 c4 c5 c6 c7 e0 e1 e2 e3 e4 e5 e6 e7
  generalize formedT x = fx at *
  generalize (depthT x : Int) = dx at *
  generalize (placesT x : Int) = px at *
  generalize sameT x y = sx at *
  have HB := Lib.hid b5
  clear s1 s3 t1 t3 hbig hbig2 hcx bx5 by5 b5
  refine wp_region_quiet_below (by kernel_rfl) (by kernel_rfl) ?_
  repeat (quiet_step (fail))
  quiet_step (exact q1 _ _)
  repeat (quiet_step (fail))
  quiet_step (exact q2 _ _)
  repeat (quiet_step (fail))
  quiet_step (exact q3 _ _)
  repeat (quiet_step (fail))
  quiet_step (exact q4 _ _)
  repeat (quiet_step (fail))
  quiet_step (exact q5 _ _)
  repeat (quiet_step (fail))
  quiet_step (exact q6 _ _)
  repeat (quiet_step (fail))
  quiet_step (exact q7 _ _)
  repeat (quiet_step (fail))
  quiet_step (exact q8 _ _)
  repeat (quiet_step (fail))
  quiet_step (exact q9 _ _)
  repeat (quiet_step (fail))
  refine wpQuiet_nil ?_
  intro _ hw'
  obtain ⟨⟨dq, osq⟩, hw''⟩ := hw'
  subst hw''
  go_wp2
  go_ret
  exact ⟨by simp, ext_trans HB.out (below_regrown w5 dq osq)⟩
end Go.Proofs.Ytmkcbbamfkafmaa.P
