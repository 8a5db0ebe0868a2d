import Derived.Test.YtlnhiogpjdhhbaaPx0
-- Written by wip/xp.
namespace Go.Proofs.Ytlnhiogpjdhhbaa.P
open Go.RowKit Go.Proofs.YtlnhiogpjdhhbaaW.PrintWords Go.Proofs.YtlnhiogpjdhhbaaW.PrintLast Go.Proofs.YtlnhiogpjdhhbaaW.PrintMore
open Go.Proofs.YtlnhiogpjdhhbaaW.PrintWords renaming pw_below_drewN → zA
open Go.Proofs.YtlnhiogpjdhhbaaW.PrintWords.Aside0 renaming mk → zB
attribute [local go_sem] max2_int min2_int max_two min_two max_three min_three max_four min_four   -- for this text's walks alone
set_option linter.unusedVariables false
set_option linter.unusedSimpArgs false

-- NOT PRINTED: function 27 (slices_Clone_int_int)

-- NOT PRINTED: function 19 (place_Map_walk)

-- NOT PRINTED: function 28 (slices_IndexFunc_int_int)

-- NOT PRINTED: function 20 (slices_ContainsFunc_int_int)

-- NOT PRINTED: function 9 (place_Of)

def place_Done.f (a0_0 : Int) (a0_1 : Int) (a1 : Int) : Option (Bool) := some (decide (a1 ≥ a0_0))
set_option maxHeartbeats 8000000 in
set_option maxRecDepth 100000 in
theorem place_Done.calls (a0_0 : Int) (a0_1 : Int) (a1 : Int) (r : Bool) (w : World) (h : place_Done.f a0_0 a0_1 a1 = some r) :
    Calls Try.prog 17 #[.agg #[.int .i64 a0_0, .int .i64 a0_1], .int .i64 a1] w fun e w' => e = .returned (.bool r) ∧ Below w.heap.size w w' := by
  have hu45 := Try.underlying45
  have HB := zB (Below.refl w.heap.size w)
  have H : (some (decide (a1 ≥ a0_0))) = some r := h
  clear h
  obtain rfl := Option.some.inj H
  go_enter Try.func17, Try.ntmps17
  go_wp2_with (first | ((with_reducible refine gate_dst (N := 2) rfl ?_); refine box_event ?hg (N := 2) ?hd (cs := #[.int .i64 a0_0, .int .i64 a0_1]) (t := 45) ?hr ?_; (case hd => rfl); (case hg => rfl); (case hr => first | (go_simp; done) | (go_simp; rfl)); intro gb199 hg w3 hbox hb; have n0_ := zB (below_step (by repeat (first | (with_reducible first | exact HB.out | apply below_alloc | apply zA | apply below_drew1) | exact HB.out)) hb); have n1_ := zB (hbox); have n2_ := zB ((by rw [hg]; exact (below_size (by repeat (first | (with_reducible first | exact HB.out | apply below_alloc | apply zA | apply below_drew1) | exact HB.out))) : w.heap.size ≤ gb199)); have n3_ := zB ((by rw [hg]; exact (below_size (by repeat (first | (with_reducible first | exact HB.out | apply below_alloc | apply zA | apply below_drew1) | exact HB.out))) : w.heap.size ≤ gb199)); clear HB; have HB := n0_; have BK199 := n1_; have GW199 := n2_; have GE199 := n3_; clear n0_ n1_ n2_ n3_; clear hb hbox hg; have hcz4_0 : w3.cell? ⟨gb199, 0, none⟩ = some (.int .i64 a0_0) := (blk_cell BK199.out 0).trans rfl; have hcz4_1 : w3.cell? ⟨gb199, 1, none⟩ = some (.int .i64 a0_1) := (blk_cell BK199.out 1).trans rfl; have hfz4_0 := blk_frozen BK199.out 0; have hfz4_1 := blk_frozen BK199.out 1))
  go_ret
  exact ⟨by first | rfl | (simp [errW_none, errW_some] <;> rfl) | (simp [*, errW_none, errW_some] <;> rfl), by repeat (first | (with_reducible first | exact HB.out | apply below_alloc | apply zA | apply below_drew1 | refine below_set ?_ GE199.out) | exact HB.out)⟩

-- NOT PRINTED: function 7 (ostinatolaw05_awake)

end Go.Proofs.Ytlnhiogpjdhhbaa.P
