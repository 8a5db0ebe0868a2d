import Derived.Test.YtlnhiogpjdhhbaaPx0
import Derived.Test.YtlnhiogpjdhhbaaPx1
-- Written by wip/xp.
namespace Go.Proofs.Ytlnhiogpjdhhbaa.P
open Go.RowKit Go.Proofs.YtlnhiogpjdhhbaaW.PrintWords Go.Proofs.YtlnhiogpjdhhbaaW.PrintLast Go.Proofs.YtlnhiogpjdhhbaaW.PrintMore
open Go.Proofs.YtlnhiogpjdhhbaaW.PrintWords renaming pw_below_drewN → zA
open Go.Proofs.YtlnhiogpjdhhbaaW.PrintWords.Aside0 renaming mk → zB
attribute [local go_sem] max2_int min2_int max_two min_two max_three min_three max_four min_four   -- for this text's walks alone
set_option linter.unusedVariables false
set_option linter.unusedSimpArgs false

attribute [local go_sem high] eqA24
def class_Empty.f (a0_0 : Int) (a0_1 : Int) (a0_2 : Int) (a0_3 : Int) : Option (Bool) := some (a0_0 == 0 && (a0_1 == 0 && (a0_2 == 0 && (a0_3 == 0))))
set_option maxHeartbeats 8000000 in
set_option maxRecDepth 100000 in
theorem class_Empty.calls (a0_0 : Int) (a0_1 : Int) (a0_2 : Int) (a0_3 : Int) (r : Bool) (w : World) (h : class_Empty.f a0_0 a0_1 a0_2 a0_3 = some r) :
    Calls Try.prog 26 #[.agg #[.int .u64 a0_0, .int .u64 a0_1, .int .u64 a0_2, .int .u64 a0_3]] w fun e w' => e = .returned (.bool r) ∧ Below w.heap.size w w' := by
  have hu24 := Try.underlying24
  have HB := zB (Below.refl w.heap.size w)
  have H : (some (a0_0 == 0 && (a0_1 == 0 && (a0_2 == 0 && (a0_3 == 0))))) = some r := h
  clear h
  obtain ⟨bj2, hbj2⟩ : ∃ b_ : Bool, (a0_0 == 0 && (a0_1 == 0 && (a0_2 == 0 && (a0_3 == 0)))) = b_ := ⟨_, rfl⟩
  replace H : (some bj2) = some r := by (try rw [hbj2] at H); exact H
  obtain rfl := Option.some.inj H
  go_enter Try.func26, Try.ntmps26
  go_wp2_with (first | ((with_reducible refine gate_dst (N := 1) rfl ?_); refine box_event ?hg (N := 1) ?hd (cs := #[.int .u64 a0_0, .int .u64 a0_1, .int .u64 a0_2, .int .u64 a0_3]) (t := 24) ?hr ?_; (case hd => rfl); (case hg => rfl); (case hr => first | (go_simp; done) | (go_simp; rfl)); intro gb101 hg w3 hbox hb; have n0_ := zB (below_step (by repeat (first | (with_reducible first | exact HB.out | apply below_alloc | apply zA | apply below_drew1) | exact HB.out)) hb); have n1_ := zB (hbox); have n2_ := zB ((by rw [hg]; exact (below_size (by repeat (first | (with_reducible first | exact HB.out | apply below_alloc | apply zA | apply below_drew1) | exact HB.out))) : w.heap.size ≤ gb101)); have n3_ := zB ((by rw [hg]; exact (below_size (by repeat (first | (with_reducible first | exact HB.out | apply below_alloc | apply zA | apply below_drew1) | exact HB.out))) : w.heap.size ≤ gb101)); clear HB; have HB := n0_; have BK101 := n1_; have GW101 := n2_; have GE101 := n3_; clear n0_ n1_ n2_ n3_; clear hb hbox hg; have hcz4_0 : w3.cell? ⟨gb101, 0, none⟩ = some (.int .u64 a0_0) := (blk_cell BK101.out 0).trans rfl; have hcz4_1 : w3.cell? ⟨gb101, 1, none⟩ = some (.int .u64 a0_1) := (blk_cell BK101.out 1).trans rfl; have hcz4_2 : w3.cell? ⟨gb101, 2, none⟩ = some (.int .u64 a0_2) := (blk_cell BK101.out 2).trans rfl; have hcz4_3 : w3.cell? ⟨gb101, 3, none⟩ = some (.int .u64 a0_3) := (blk_cell BK101.out 3).trans rfl; have hfz4_0 := blk_frozen BK101.out 0; have hfz4_1 := blk_frozen BK101.out 1; have hfz4_2 := blk_frozen BK101.out 2; have hfz4_3 := blk_frozen BK101.out 3))
  go_ret
  exact ⟨by first | rfl | (simp [errW_none, errW_some] <;> rfl) | (simp [*, errW_none, errW_some] <;> rfl), by repeat (first | (with_reducible first | exact HB.out | apply below_alloc | apply zA | apply below_drew1 | refine below_set ?_ GE101.out) | exact HB.out)⟩

end Go.Proofs.Ytlnhiogpjdhhbaa.P
