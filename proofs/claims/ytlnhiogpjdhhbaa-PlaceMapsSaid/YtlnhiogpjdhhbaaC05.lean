/- Both Counts, walked by hand. -/
import Derived.Test.YtlnhiogpjdhhbaaW05
import Derived.Test.YtlnhiogpjdhhbaaM05
import Derived.BigRegion
namespace Go.Proofs.Ytlnhiogpjdhhbaa.P
open Go.RowKit Go.Proofs.YtlnhiogpjdhhbaaW.PrintWords Go.Proofs.YtlnhiogpjdhhbaaW.PrintLast Go.Proofs.YtlnhiogpjdhhbaaW.PrintMore
attribute [local go_sem] max2_int min2_int max_two min_two
set_option linter.unusedVariables false
set_option linter.unusedSimpArgs false
theorem two_new (w : World) (cs : Array Value) (r : Array Value) (t u : TypeId) : ((w.alloc (.cells cs t)).alloc (.cells r u)).heap[w.heap.size + 1]? = some (.cells r u) := by
  have := heap_alloc_new (w.alloc (.cells cs t)) (.cells r u)
  rwa [show (w.alloc (.cells cs t)).heap.size = w.heap.size + 1 by simp] at this
theorem two_below (w : World) (a b : Obj) : Below w.heap.size w ((w.alloc a).alloc b) := ((Below.refl w.heap.size w).alloc (Nat.le_refl _) a).alloc (by simp) b
set_option maxHeartbeats 4000000 in
theorem rcounts_walk (x : S27) (A : Option Addr) (c : Nat) (w : World) (lo : Int) (hlo : lo = if x.f3 = 0 then 1 else x.f3) :
    Calls Try.prog 16 #[ndV x A c] w fun e w' => e = .returned (.tuple #[.agg #[.int .i64 lo, .int .i64 x.f4], .bool (x.f0 == 4 && (decide (x.f4 > 1) || (decide (x.f4 < 0) && decide (lo > 1))))]) ∧ Below w.heap.size w w' := by
  unfold ndV
  by_cases h4 : x.f3 = 0
  · rw [if_pos h4] at hlo
    subst hlo
    have e4 : (x.f3 == 0) = true := by simp [h4]
    clear h4
    cases e0 : x.f0 == 4 <;> cases e1 : decide (x.f4 > 1) <;> cases e2 : decide (x.f4 < 0)
    all_goals
      go_enter Try.func16, Try.ntmps16
      go_wp2_with fail
      refine bodyPost_ret (results_ct rfl _ _ (w.heap.size + 1) 45 #[.int .i64 1, .int .i64 x.f4] (0, 0) _ rfl (two_new _ _ _ _ _) Try.underlying45 rfl (by kernel_rfl)) rfl ?_
      exact ⟨rfl, two_below _ _ _⟩
  · rw [if_neg h4] at hlo
    subst hlo
    have e4 : (x.f3 == 0) = false := by simp [h4]
    clear h4
    cases e0 : x.f0 == 4 <;> cases e1 : decide (x.f4 > 1) <;> cases e2 : decide (x.f4 < 0) <;> cases e3 : decide (x.f3 > 1)
    all_goals
      go_enter Try.func16, Try.ntmps16
      go_wp2_with fail
      refine bodyPost_ret (results_ct rfl _ _ (w.heap.size + 1) 45 #[.int .i64 x.f3, .int .i64 x.f4] (0, 0) _ rfl (two_new _ _ _ _ _) Try.underlying45 rfl (by kernel_rfl)) rfl ?_
      exact ⟨rfl, two_below _ _ _⟩
set_option maxHeartbeats 8000000 in
theorem counts_walk (x : S27) (A : Option Addr) (c : Nat) (w : World) :
    Calls Try.prog 15 #[ndV x A c] w fun e w' => e = .returned (.tuple #[.agg #[.int .i64 (scO x).1, .int .i64 (scO x).2], .bool (ctB x)]) ∧ Below w.heap.size w w' := by
  have hc : ctB x = (x.f0 == 4 && (decide (x.f4 > 1) || (x.f4 == -1 && decide (1 < x.f3)))) := by
    unfold ctB mx
    congr 3
    by_cases h : 1 < x.f3
    · simp [h]
    · simp [h]
  rw [hc]
  unfold ndV scO mx
  by_cases hm : 1 < x.f3
  · rw [if_pos hm, decide_eq_true hm]
    have hm1 : x.f3 > 1 := hm
    clear hc
    cases e0 : x.f0 == 4 with
    | false =>
      go_enter Try.func15, Try.ntmps15
      go_wp2_with fail
      go_region
      go_wp2
      refine bodyPost_ret (results_ct rfl _ _ (w.heap.size + 1) 45 #[.int .i64 x.f3, .int .i64 x.f4] (0, 0) _ rfl (blk_alloc (two_new _ _ _ _ _) _) Try.underlying45 rfl (by kernel_rfl)) rfl ?_
      exact ⟨rfl, ((two_below _ _ _).alloc (two_below _ _ _).size _).drew⟩
    | true =>
      cases e1 : decide (x.f4 > 1) with
      | true =>
        go_enter Try.func15, Try.ntmps15
        go_wp2_with fail
        go_region
        go_wp2
        refine bodyPost_ret (results_ct rfl _ _ (w.heap.size + 1) 45 #[.int .i64 x.f3, .int .i64 x.f4] (0, 0) _ rfl (blk_alloc (two_new _ _ _ _ _) _) Try.underlying45 rfl (by kernel_rfl)) rfl ?_
        exact ⟨rfl, ((two_below _ _ _).alloc (two_below _ _ _).size _).drew⟩
      | false =>
        cases e2 : x.f4 == -1
        all_goals
          go_enter Try.func15, Try.ntmps15
          go_wp2_with fail
          go_region
          go_wp2
          refine bodyPost_ret (results_ct rfl _ _ (w.heap.size + 1) 45 #[.int .i64 x.f3, .int .i64 x.f4] (0, 0) _ rfl (blk_alloc (two_new _ _ _ _ _) _) Try.underlying45 rfl (by kernel_rfl)) rfl ?_
          exact ⟨rfl, ((two_below _ _ _).alloc (two_below _ _ _).size _).drew⟩
  · rw [if_neg hm, decide_eq_false hm]
    have hm1 : ¬ x.f3 > 1 := hm
    clear hc
    cases e0 : x.f0 == 4 with
    | false =>
      go_enter Try.func15, Try.ntmps15
      go_wp2_with fail
      go_region
      go_wp2
      refine bodyPost_ret (results_ct rfl _ _ (w.heap.size + 1) 45 #[.int .i64 1, .int .i64 x.f4] (0, 0) _ rfl (blk_alloc (two_new _ _ _ _ _) _) Try.underlying45 rfl (by kernel_rfl)) rfl ?_
      exact ⟨rfl, ((two_below _ _ _).alloc (two_below _ _ _).size _).drew⟩
    | true =>
      cases e1 : decide (x.f4 > 1) with
      | true =>
        go_enter Try.func15, Try.ntmps15
        go_wp2_with fail
        go_region
        go_wp2
        refine bodyPost_ret (results_ct rfl _ _ (w.heap.size + 1) 45 #[.int .i64 1, .int .i64 x.f4] (0, 0) _ rfl (blk_alloc (two_new _ _ _ _ _) _) Try.underlying45 rfl (by kernel_rfl)) rfl ?_
        exact ⟨rfl, ((two_below _ _ _).alloc (two_below _ _ _).size _).drew⟩
      | false =>
        cases e2 : x.f4 == -1
        all_goals
          go_enter Try.func15, Try.ntmps15
          go_wp2_with fail
          go_region
          go_wp2
          refine bodyPost_ret (results_ct rfl _ _ (w.heap.size + 1) 45 #[.int .i64 1, .int .i64 x.f4] (0, 0) _ rfl (blk_alloc (two_new _ _ _ _ _) _) Try.underlying45 rfl (by kernel_rfl)) rfl ?_
          exact ⟨rfl, ((two_below _ _ _).alloc (two_below _ _ _).size _).drew⟩
end Go.Proofs.Ytlnhiogpjdhhbaa.P
