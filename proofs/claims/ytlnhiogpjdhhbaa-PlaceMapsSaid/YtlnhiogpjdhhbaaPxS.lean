import Derived.Test.YtlnhiogpjdhhbaaPx0
import Derived.Test.YtlnhiogpjdhhbaaPx16
import Derived.Test.YtlnhiogpjdhhbaaPx18
import Derived.Test.YtlnhiogpjdhhbaaPx19
import Derived.Test.YtlnhiogpjdhhbaaPx20
-- Written by wip/xp.
namespace Go.Proofs.Ytlnhiogpjdhhbaa.P
open Go.RowKit Go.Proofs.YtlnhiogpjdhhbaaW.PrintWords Go.Proofs.YtlnhiogpjdhhbaaW.PrintLast Go.Proofs.YtlnhiogpjdhhbaaW.PrintMore
open Go.Proofs.YtlnhiogpjdhhbaaW.PrintWords renaming blk_frozen → zA, blk_cell → zB, pw_below_drewN → zC, below_drew1 → zD, below_alloc → zE, below_set → zF, blk_alloc → zG, blk_drewN → zH, blk_drew → zI, below_step → zJ, below_size → zK, blk_below → zL
open Go.Proofs.YtlnhiogpjdhhbaaW.PrintWords.Aside0 renaming mk → zM
open Go.World renaming block_lt_of_cell? → zN
open List renaming setIfInBounds_toArray → zO, set_cons_zero → zP, set_cons_succ → zQ
attribute [local go_sem] max2_int min2_int max_two min_two max_three min_three max_four min_four   -- for this text's walks alone
set_option linter.unusedVariables false
set_option linter.unusedSimpArgs false

theorem blk8 {w : World} {g : Nat} {t : TypeId} {c0 c1 c2 c3 c4 c5 c6 c7 : Value} (h : w.heap[g]? = some (.cells #[c0, c1, c2, c3, c4, c5, c6, c7] t (0, 0))) :
    w.cell? ⟨g, 0, none⟩ = some c0 ∧ w.cell? ⟨g, 1, none⟩ = some c1 ∧ w.cell? ⟨g, 2, none⟩ = some c2 ∧ w.cell? ⟨g, 3, none⟩ = some c3 ∧ w.cell? ⟨g, 4, none⟩ = some c4 ∧ w.cell? ⟨g, 5, none⟩ = some c5 ∧ w.cell? ⟨g, 6, none⟩ = some c6 ∧ w.cell? ⟨g, 7, none⟩ = some c7 ∧
    w.frozen? ⟨g, 0, none⟩ = false ∧ w.frozen? ⟨g, 1, none⟩ = false ∧ w.frozen? ⟨g, 2, none⟩ = false ∧ w.frozen? ⟨g, 3, none⟩ = false ∧ w.frozen? ⟨g, 4, none⟩ = false ∧ w.frozen? ⟨g, 5, none⟩ = false ∧ w.frozen? ⟨g, 6, none⟩ = false ∧ w.frozen? ⟨g, 7, none⟩ = false :=
  ⟨(zB h 0).trans rfl, (zB h 1).trans rfl, (zB h 2).trans rfl, (zB h 3).trans rfl, (zB h 4).trans rfl, (zB h 5).trans rfl, (zB h 6).trans rfl, (zB h 7).trans rfl,
    zA h 0, zA h 1, zA h 2, zA h 3, zA h 4, zA h 5, zA h 6, zA h 7⟩
set_option maxHeartbeats 40000000 in
set_option maxRecDepth 100000 in
theorem ostinatoref04_Simple.calls (k : Nat) : ∀ (a0_0 : Int) (a0_1 : Int) (a0_2 : Int) (a0_3 : Int) (a0_4 : Int) (P0_5_ : Nat → Prop) (A0_5 : Option Addr) (c0_5 : Nat) (l0_5 : List (S27)) (a0_6 : Int) (a0_7 : Int) (r1 : Int) (r2 : Int) (r3 : Int) (r4 : Int) (r5 : Int) (r6 : List (S27)) (r7 : Int) (r8 : Int) (w : World) (hs0_5 : Kd.V k27 27 w w.heap.size (fun k_ => P0_5_ k_) (.slice A0_5 l0_5.length c0_5) l0_5) (h : ostinatoref04_Simple.f k a0_0 a0_1 a0_2 a0_3 a0_4 l0_5 a0_6 a0_7 = some (r1, r2, r3, r4, r5, r6, r7, r8)),
  Calls Try.prog 24 #[.agg #[.int .i64 a0_0, .int .u64 a0_1, .int .u64 a0_2, .int .u64 a0_3, .int .u64 a0_4, .slice A0_5 l0_5.length c0_5, .int .i64 a0_6, .int .i64 a0_7]] w fun e w' => ∃ v5_ : Value, e = .returned (.agg #[.int .i64 r1, .int .u64 r2, .int .u64 r3, .int .u64 r4, .int .u64 r5, v5_, .int .i64 r7, .int .i64 r8]) ∧ Kd.V k27 27 w' w.heap.size (fun k_ => (P0_5_ k_ ∨ w.heap.size ≤ k_)) v5_ r6 ∧ Below w.heap.size w w' := by
 induction k using Nat.strongRecOn with
 | _ k ih =>
 intro a0_0 a0_1 a0_2 a0_3 a0_4 P0_5_ A0_5 c0_5 l0_5 a0_6 a0_7 r1 r2 r3 r4 r5 r6 r7 r8 w hs0_5 h
 cases k with
 | zero => exact absurd h (by simp [ostinatoref04_Simple.f])
 | succ k =>
 simp only [ostinatoref04_Simple.f] at h
 have hu27 := Try.underlying27
 have HO0_5 := zM (show Kd.V k27 27 w w.heap.size (fun k_ => (P0_5_ k_ ∨ w.heap.size ≤ k_)) (.slice A0_5 l0_5.length c0_5) l0_5 from Kd.V_mono hs0_5 (fun k_ hk => .inl hk))
 have HB := zM (Below.refl w.heap.size w)
 have H : ((ostinatoref04_Told.f k a0_0 a0_1 a0_2 a0_3 a0_4 l0_5 a0_6 a0_7).bind fun bt236 => (if bt236.1 = true then (some (1, 0, 0, 0, 0, ([] : List (S27)), 0, 0)) else (if a0_0 < 2 then (some (a0_0, a0_1, a0_2, a0_3, a0_4, l0_5, a0_6, a0_7)) else (ostinatoref04_Simple.l0 k ([] : List (S27)) 0 a0_0 a0_1 a0_2 a0_3 a0_4 l0_5 a0_6 a0_7)))) = some (r1, r2, r3, r4, r5, r6, r7, r8) := h
 clear h
 replace H := Option.bind_eq_some_iff.mp H
 obtain ⟨⟨t236, t237⟩, A20, H⟩ := H
 replace H : (if t236 = true then (some (1, 0, 0, 0, 0, ([] : List (S27)), 0, 0)) else (if a0_0 < 2 then (some (a0_0, a0_1, a0_2, a0_3, a0_4, l0_5, a0_6, a0_7)) else (ostinatoref04_Simple.l0 k ([] : List (S27)) 0 a0_0 a0_1 a0_2 a0_3 a0_4 l0_5 a0_6 a0_7))) = some (r1, r2, r3, r4, r5, r6, r7, r8) := H
 have A2 := zM A20
 clear A20
 by_cases c3 : t236 = true
 ·
  subst c3
  have H1 : (some (1, 0, 0, 0, 0, ([] : List (S27)), 0, 0)) = some (r1, r2, r3, r4, r5, r6, r7, r8) := by rw [if_pos rfl] at H; exact H
  clear H
  have H := H1
  clear H1
  simp only [Option.some.injEq, Prod.mk.injEq] at H
  obtain ⟨rfl, rfl, rfl, rfl, rfl, rfl, rfl, rfl⟩ := H
  go_enter Try.func24, Try.ntmps24
  go_wp2_with (first | ((with_reducible refine gate_dst (N := 1) rfl ?_); refine box_event ?hg (N := 1) ?hd (cs := #[.int .i64 a0_0, .int .u64 a0_1, .int .u64 a0_2, .int .u64 a0_3, .int .u64 a0_4, .slice A0_5 l0_5.length c0_5, .int .i64 a0_6, .int .i64 a0_7]) (t := 27) ?hr ?_; (case hd => rfl); (case hg => rfl); (case hr => first | (go_simp; done) | (go_simp; rfl)); intro gb234 hg w4 hbox hb; have n0_ := zM (Kd.V_below (Kd.V_elderB (by (with_reducible repeat (first | apply Kd.V_alloc | apply Kd.V_drewN | apply Kd.V_drew)); exact HO0_5.out) gb234 (Nat.le_of_eq hg.symm)) hb); have n1_ := zM (zJ (by repeat (first | (with_reducible first | exact HB.out | apply zE | apply zC | apply zD) | exact HB.out)) hb); have n2_ := zM (hbox); have n3_ := zM ((by rw [hg]; exact (zK (by repeat (first | (with_reducible first | exact HB.out | apply zE | apply zC | apply zD) | exact HB.out))) : w.heap.size ≤ gb234)); have n4_ := zM ((by rw [hg]; exact (zK (by repeat (first | (with_reducible first | exact HB.out | apply zE | apply zC | apply zD) | exact HB.out))) : w.heap.size ≤ gb234)); clear HO0_5; clear HB; have HO0_5 := n0_; have HB := n1_; have BK234 := n2_; have GW234 := n3_; have GE234 := n4_; clear n0_ n1_ n2_ n3_ n4_; clear hb hbox hg) | ((with_reducible refine gate_dst (N := 2) rfl ?_); refine box_event ?hg (N := 2) ?hd (cs := #[.int .i64 0, .int .u64 0, .int .u64 0, .int .u64 0, .int .u64 0, .slice none 0 0, .int .i64 0, .int .i64 0]) (t := 27) ?hr ?_; (case hd => rfl); (case hg => rfl); (case hr => first | (go_simp; done) | (go_simp; rfl)); intro gb235 hg w5 hbox hb; have n0_ := zM (Kd.V_below (Kd.V_elderB (by (with_reducible repeat (first | apply Kd.V_alloc | apply Kd.V_drewN | apply Kd.V_drew)); exact HO0_5.out) gb235 (Nat.le_of_eq hg.symm)) hb); have n1_ := zM (zL (g := gb234) (o := .cells #[.int .i64 a0_0, .int .u64 a0_1, .int .u64 a0_2, .int .u64 a0_3, .int .u64 a0_4, .slice A0_5 l0_5.length c0_5, .int .i64 a0_6, .int .i64 a0_7] 27 (0, 0)) (by (with_reducible repeat (first | refine zH ?_ _ | refine zI ?_ | refine zG ?_ _)); exact BK234.out) hb); have n2_ := zM (zJ (by repeat (first | (with_reducible first | exact HB.out | apply zE | apply zC | apply zD | refine zF ?_ GE234.out) | exact HB.out)) hb); have n3_ := zM (hbox); have n4_ := zM ((by rw [hg]; exact (zK (by repeat (first | (with_reducible first | exact HB.out | apply zE | apply zC | apply zD | refine zF ?_ GE234.out) | exact HB.out))) : w.heap.size ≤ gb235)); have n5_ := zM ((by rw [hg]; exact (zK (by repeat (first | (with_reducible first | exact HB.out | apply zE | apply zC | apply zD | refine zF ?_ GE234.out) | exact HB.out))) : w.heap.size ≤ gb235)); have n6_ := zM ((by rw [hg]; exact Nat.ne_of_lt (blk_lt (g := gb234) (o := .cells #[.int .i64 a0_0, .int .u64 a0_1, .int .u64 a0_2, .int .u64 a0_3, .int .u64 a0_4, .slice A0_5 l0_5.length c0_5, .int .i64 a0_6, .int .i64 a0_7] 27 (0, 0)) (by (with_reducible repeat (first | refine zH ?_ _ | refine zI ?_ | refine zG ?_ _)); exact BK234.out)) : gb234 ≠ gb235)); have n7_ := zM ((by rw [hg]; exact Nat.ne_of_gt (blk_lt (g := gb234) (o := .cells #[.int .i64 a0_0, .int .u64 a0_1, .int .u64 a0_2, .int .u64 a0_3, .int .u64 a0_4, .slice A0_5 l0_5.length c0_5, .int .i64 a0_6, .int .i64 a0_7] 27 (0, 0)) (by (with_reducible repeat (first | refine zH ?_ _ | refine zI ?_ | refine zG ?_ _)); exact BK234.out)) : gb235 ≠ gb234)); clear HO0_5; clear BK234; clear HB; have HO0_5 := n0_; have BK234 := n1_; have HB := n2_; have BK235 := n3_; have GW235 := n4_; have GE235 := n5_; have NB234_235 := n6_; have NB235_234 := n7_; clear n0_ n1_ n2_ n3_ n4_ n5_ n6_ n7_; clear hb hbox hg; have hnb6 := NB234_235.out; have hnc6 := NB235_234.out; have hcz7_0 : w5.cell? ⟨gb234, 0, none⟩ = some (.int .i64 a0_0) := (zB BK234.out 0).trans rfl; have hcz7_1 : w5.cell? ⟨gb234, 1, none⟩ = some (.int .u64 a0_1) := (zB BK234.out 1).trans rfl; have hcz7_2 : w5.cell? ⟨gb234, 2, none⟩ = some (.int .u64 a0_2) := (zB BK234.out 2).trans rfl; have hcz7_3 : w5.cell? ⟨gb234, 3, none⟩ = some (.int .u64 a0_3) := (zB BK234.out 3).trans rfl; have hcz7_4 : w5.cell? ⟨gb234, 4, none⟩ = some (.int .u64 a0_4) := (zB BK234.out 4).trans rfl; have hcz7_5 : w5.cell? ⟨gb234, 5, none⟩ = some (.slice A0_5 l0_5.length c0_5) := (zB BK234.out 5).trans rfl; have hcz7_6 : w5.cell? ⟨gb234, 6, none⟩ = some (.int .i64 a0_6) := (zB BK234.out 6).trans rfl; have hcz7_7 : w5.cell? ⟨gb234, 7, none⟩ = some (.int .i64 a0_7) := (zB BK234.out 7).trans rfl; have hfz7_0 := zA BK234.out 0; have hfz7_1 := zA BK234.out 1; have hfz7_2 := zA BK234.out 2; have hfz7_3 := zA BK234.out 3; have hfz7_4 := zA BK234.out 4; have hfz7_5 := zA BK234.out 5; have hfz7_6 := zA BK234.out 6; have hfz7_7 := zA BK234.out 7) | ((with_reducible refine gate_callee (f := 36) rfl ?_); refine goesL_ (some 18) rfl rfl Try.func36 (by kernel_rfl) rfl #[.agg #[.int .i64 a0_0, .int .u64 a0_1, .int .u64 a0_2, .int .u64 a0_3, .int .u64 a0_4, .slice A0_5 l0_5.length c0_5, .int .i64 a0_6, .int .i64 a0_7]] rfl (by (try simp only [List.map_toArray, List.map_cons, List.map_nil]); first | done | rfl | (simp only [List.length_drop, List.length_take]; rfl)) ?_; (with_reducible refine (ostinatoref04_Told.calls k a0_0 a0_1 a0_2 a0_3 a0_4 _ _ l0_5 a0_6 a0_7 true t237 _ ?side1 ?side2 A2.out).mono ?_); (case side1 => repeat (first | exact (Kd.V_reads' HO0_5.out).2.2 | (with_reducible refine Kd.C_alloc ?_ _) | (with_reducible refine Kd.C_drewN ?_ _) | (with_reducible refine Kd.C_drew ?_))); (case side2 => exact (Kd.V_reads' HO0_5.out).2.1); rintro e w8 ⟨rfl, hb⟩; refine ⟨_, rfl, ?_⟩; have n0_ := zM (Kd.V_below (by (with_reducible repeat (first | apply Kd.V_alloc | apply Kd.V_drewN | apply Kd.V_drew)); exact HO0_5.out) hb); have n1_ := zM (zL (g := gb234) (o := .cells #[.int .i64 a0_0, .int .u64 a0_1, .int .u64 a0_2, .int .u64 a0_3, .int .u64 a0_4, .slice A0_5 l0_5.length c0_5, .int .i64 a0_6, .int .i64 a0_7] 27 (0, 0)) (by (with_reducible repeat (first | refine zH ?_ _ | refine zI ?_ | refine zG ?_ _)); exact BK234.out) hb); have n2_ := zM (zL (g := gb235) (o := .cells #[.int .i64 0, .int .u64 0, .int .u64 0, .int .u64 0, .int .u64 0, .slice none 0 0, .int .i64 0, .int .i64 0] 27 (0, 0)) (by (with_reducible repeat (first | refine zH ?_ _ | refine zI ?_ | refine zG ?_ _)); exact BK235.out) hb); have n3_ := zM (zJ (by repeat (first | (with_reducible first | exact HB.out | apply zE | apply zC | apply zD | refine zF ?_ GE234.out | refine zF ?_ GE235.out) | exact HB.out)) hb); clear HO0_5; clear BK234; clear BK235; clear HB; have HO0_5 := n0_; have BK234 := n1_; have BK235 := n2_; have HB := n3_; clear n0_ n1_ n2_ n3_; (try clear hb); (try clear hb2); (try clear hk); (try clear hi); have hcz9_0 : w8.cell? ⟨gb235, 0, none⟩ = some (.int .i64 0) := (zB BK235.out 0).trans rfl; have hcz9_1 : w8.cell? ⟨gb235, 1, none⟩ = some (.int .u64 0) := (zB BK235.out 1).trans rfl; have hcz9_2 : w8.cell? ⟨gb235, 2, none⟩ = some (.int .u64 0) := (zB BK235.out 2).trans rfl; have hcz9_3 : w8.cell? ⟨gb235, 3, none⟩ = some (.int .u64 0) := (zB BK235.out 3).trans rfl; have hcz9_4 : w8.cell? ⟨gb235, 4, none⟩ = some (.int .u64 0) := (zB BK235.out 4).trans rfl; have hcz9_5 : w8.cell? ⟨gb235, 5, none⟩ = some (.slice none 0 0) := (zB BK235.out 5).trans rfl; have hcz9_6 : w8.cell? ⟨gb235, 6, none⟩ = some (.int .i64 0) := (zB BK235.out 6).trans rfl; have hcz9_7 : w8.cell? ⟨gb235, 7, none⟩ = some (.int .i64 0) := (zB BK235.out 7).trans rfl; have hfz9_0 := zA BK235.out 0; have hfz9_1 := zA BK235.out 1; have hfz9_2 := zA BK235.out 2; have hfz9_3 := zA BK235.out 3; have hfz9_4 := zA BK235.out 4; have hfz9_5 := zA BK235.out 5; have hfz9_6 := zA BK235.out 6; have hfz9_7 := zA BK235.out 7))
  refine bodyPost_ret (results_cell_row rfl _ _ gb235 27 #[.int .i64 1, .int .u64 0, .int .u64 0, .int .u64 0, .int .u64 0, .slice none 0 0, .int .i64 0, .int .i64 0] (0, 0) _ rfl (by (with_reducible repeat (first | refine zH ?_ _ | refine zI ?_ | refine zG ?_ _)); refine blk_put (cs := #[.int .i64 1, .int .u64 0, .int .u64 0, .int .u64 0, .int .u64 0, .slice none 0 0, .int .i64 0, .int .i64 0]) ?_ 7 _ rfl; (with_reducible repeat (first | refine zH ?_ _ | refine zI ?_ | refine zG ?_ _)); refine blk_put (cs := #[.int .i64 1, .int .u64 0, .int .u64 0, .int .u64 0, .int .u64 0, .slice none 0 0, .int .i64 0, .int .i64 0]) ?_ 6 _ rfl; (with_reducible repeat (first | refine zH ?_ _ | refine zI ?_ | refine zG ?_ _)); refine blk_put (cs := #[.int .i64 1, .int .u64 0, .int .u64 0, .int .u64 0, .int .u64 0, .slice none 0 0, .int .i64 0, .int .i64 0]) ?_ 5 _ rfl; (with_reducible repeat (first | refine zH ?_ _ | refine zI ?_ | refine zG ?_ _)); refine blk_put (cs := #[.int .i64 1, .int .u64 0, .int .u64 0, .int .u64 0, .int .u64 0, .slice none 0 0, .int .i64 0, .int .i64 0]) ?_ 4 _ rfl; (with_reducible repeat (first | refine zH ?_ _ | refine zI ?_ | refine zG ?_ _)); refine blk_put (cs := #[.int .i64 1, .int .u64 0, .int .u64 0, .int .u64 0, .int .u64 0, .slice none 0 0, .int .i64 0, .int .i64 0]) ?_ 3 _ rfl; (with_reducible repeat (first | refine zH ?_ _ | refine zI ?_ | refine zG ?_ _)); refine blk_put (cs := #[.int .i64 1, .int .u64 0, .int .u64 0, .int .u64 0, .int .u64 0, .slice none 0 0, .int .i64 0, .int .i64 0]) ?_ 2 _ rfl; (with_reducible repeat (first | refine zH ?_ _ | refine zI ?_ | refine zG ?_ _)); refine blk_put (cs := #[.int .i64 1, .int .u64 0, .int .u64 0, .int .u64 0, .int .u64 0, .slice none 0 0, .int .i64 0, .int .i64 0]) ?_ 1 _ rfl; (with_reducible repeat (first | refine zH ?_ _ | refine zI ?_ | refine zG ?_ _)); refine blk_put (cs := #[.int .i64 0, .int .u64 0, .int .u64 0, .int .u64 0, .int .u64 0, .slice none 0 0, .int .i64 0, .int .i64 0]) ?_ 0 _ rfl; (with_reducible repeat (first | refine zH ?_ _ | refine zI ?_ | refine zG ?_ _)); exact BK235.out) Try.underlying27 rfl (by kernel_rfl)) rfl ?_
  exact ⟨_, by first | rfl | (simp [errW_none, errW_some] <;> rfl) | (simp [*, errW_none, errW_some] <;> rfl), Kd.V_nil _ _ _ _ _, by repeat (first | (with_reducible first | exact HB.out | apply zE | apply zC | apply zD | refine zF ?_ GE234.out | refine zF ?_ GE235.out) | exact HB.out)⟩
 ·
  replace c3 := Bool.eq_false_iff.mpr c3
  subst c3
  have H1 : (if a0_0 < 2 then (some (a0_0, a0_1, a0_2, a0_3, a0_4, l0_5, a0_6, a0_7)) else (ostinatoref04_Simple.l0 k ([] : List (S27)) 0 a0_0 a0_1 a0_2 a0_3 a0_4 l0_5 a0_6 a0_7)) = some (r1, r2, r3, r4, r5, r6, r7, r8) := by rw [if_neg (show ¬ (false = true) by decide)] at H; exact H
  clear H
  have H := H1
  clear H1
  by_cases c10 : a0_0 < 2
  ·
   rw [if_pos c10] at H
   have c10b0 : decide (a0_0 < 2) = true := decide_eq_true c10
   clear c10
   simp only [Option.some.injEq, Prod.mk.injEq] at H
   obtain ⟨rfl, rfl, rfl, rfl, rfl, rfl, rfl, rfl⟩ := H
   go_enter Try.func24, Try.ntmps24
   go_wp2_with (first | ((with_reducible refine gate_dst (N := 1) rfl ?_); refine box_event ?hg (N := 1) ?hd (cs := #[.int .i64 a0_0, .int .u64 a0_1, .int .u64 a0_2, .int .u64 a0_3, .int .u64 a0_4, .slice A0_5 l0_5.length c0_5, .int .i64 a0_6, .int .i64 a0_7]) (t := 27) ?hr ?_; (case hd => rfl); (case hg => rfl); (case hr => first | (go_simp; done) | (go_simp; rfl)); intro gb234 hg w11 hbox hb; have n0_ := zM (Kd.V_below (Kd.V_elderB (by (with_reducible repeat (first | apply Kd.V_alloc | apply Kd.V_drewN | apply Kd.V_drew)); exact HO0_5.out) gb234 (Nat.le_of_eq hg.symm)) hb); have n1_ := zM (zJ (by repeat (first | (with_reducible first | exact HB.out | apply zE | apply zC | apply zD) | exact HB.out)) hb); have n2_ := zM (hbox); have n3_ := zM ((by rw [hg]; exact (zK (by repeat (first | (with_reducible first | exact HB.out | apply zE | apply zC | apply zD) | exact HB.out))) : w.heap.size ≤ gb234)); have n4_ := zM ((by rw [hg]; exact (zK (by repeat (first | (with_reducible first | exact HB.out | apply zE | apply zC | apply zD) | exact HB.out))) : w.heap.size ≤ gb234)); clear HO0_5; clear HB; have HO0_5 := n0_; have HB := n1_; have BK234 := n2_; have GW234 := n3_; have GE234 := n4_; clear n0_ n1_ n2_ n3_ n4_; clear hb hbox hg) | ((with_reducible refine gate_dst (N := 2) rfl ?_); refine box_event ?hg (N := 2) ?hd (cs := #[.int .i64 0, .int .u64 0, .int .u64 0, .int .u64 0, .int .u64 0, .slice none 0 0, .int .i64 0, .int .i64 0]) (t := 27) ?hr ?_; (case hd => rfl); (case hg => rfl); (case hr => first | (go_simp; done) | (go_simp; rfl)); intro gb235 hg w12 hbox hb; have n0_ := zM (Kd.V_below (Kd.V_elderB (by (with_reducible repeat (first | apply Kd.V_alloc | apply Kd.V_drewN | apply Kd.V_drew)); exact HO0_5.out) gb235 (Nat.le_of_eq hg.symm)) hb); have n1_ := zM (zL (g := gb234) (o := .cells #[.int .i64 a0_0, .int .u64 a0_1, .int .u64 a0_2, .int .u64 a0_3, .int .u64 a0_4, .slice A0_5 l0_5.length c0_5, .int .i64 a0_6, .int .i64 a0_7] 27 (0, 0)) (by (with_reducible repeat (first | refine zH ?_ _ | refine zI ?_ | refine zG ?_ _)); exact BK234.out) hb); have n2_ := zM (zJ (by repeat (first | (with_reducible first | exact HB.out | apply zE | apply zC | apply zD | refine zF ?_ GE234.out) | exact HB.out)) hb); have n3_ := zM (hbox); have n4_ := zM ((by rw [hg]; exact (zK (by repeat (first | (with_reducible first | exact HB.out | apply zE | apply zC | apply zD | refine zF ?_ GE234.out) | exact HB.out))) : w.heap.size ≤ gb235)); have n5_ := zM ((by rw [hg]; exact (zK (by repeat (first | (with_reducible first | exact HB.out | apply zE | apply zC | apply zD | refine zF ?_ GE234.out) | exact HB.out))) : w.heap.size ≤ gb235)); have n6_ := zM ((by rw [hg]; exact Nat.ne_of_lt (blk_lt (g := gb234) (o := .cells #[.int .i64 a0_0, .int .u64 a0_1, .int .u64 a0_2, .int .u64 a0_3, .int .u64 a0_4, .slice A0_5 l0_5.length c0_5, .int .i64 a0_6, .int .i64 a0_7] 27 (0, 0)) (by (with_reducible repeat (first | refine zH ?_ _ | refine zI ?_ | refine zG ?_ _)); exact BK234.out)) : gb234 ≠ gb235)); have n7_ := zM ((by rw [hg]; exact Nat.ne_of_gt (blk_lt (g := gb234) (o := .cells #[.int .i64 a0_0, .int .u64 a0_1, .int .u64 a0_2, .int .u64 a0_3, .int .u64 a0_4, .slice A0_5 l0_5.length c0_5, .int .i64 a0_6, .int .i64 a0_7] 27 (0, 0)) (by (with_reducible repeat (first | refine zH ?_ _ | refine zI ?_ | refine zG ?_ _)); exact BK234.out)) : gb235 ≠ gb234)); clear HO0_5; clear BK234; clear HB; have HO0_5 := n0_; have BK234 := n1_; have HB := n2_; have BK235 := n3_; have GW235 := n4_; have GE235 := n5_; have NB234_235 := n6_; have NB235_234 := n7_; clear n0_ n1_ n2_ n3_ n4_ n5_ n6_ n7_; clear hb hbox hg; have hnb13 := NB234_235.out; have hnc13 := NB235_234.out; have hcz14_0 : w12.cell? ⟨gb234, 0, none⟩ = some (.int .i64 a0_0) := (zB BK234.out 0).trans rfl; have hcz14_1 : w12.cell? ⟨gb234, 1, none⟩ = some (.int .u64 a0_1) := (zB BK234.out 1).trans rfl; have hcz14_2 : w12.cell? ⟨gb234, 2, none⟩ = some (.int .u64 a0_2) := (zB BK234.out 2).trans rfl; have hcz14_3 : w12.cell? ⟨gb234, 3, none⟩ = some (.int .u64 a0_3) := (zB BK234.out 3).trans rfl; have hcz14_4 : w12.cell? ⟨gb234, 4, none⟩ = some (.int .u64 a0_4) := (zB BK234.out 4).trans rfl; have hcz14_5 : w12.cell? ⟨gb234, 5, none⟩ = some (.slice A0_5 l0_5.length c0_5) := (zB BK234.out 5).trans rfl; have hcz14_6 : w12.cell? ⟨gb234, 6, none⟩ = some (.int .i64 a0_6) := (zB BK234.out 6).trans rfl; have hcz14_7 : w12.cell? ⟨gb234, 7, none⟩ = some (.int .i64 a0_7) := (zB BK234.out 7).trans rfl; have hfz14_0 := zA BK234.out 0; have hfz14_1 := zA BK234.out 1; have hfz14_2 := zA BK234.out 2; have hfz14_3 := zA BK234.out 3; have hfz14_4 := zA BK234.out 4; have hfz14_5 := zA BK234.out 5; have hfz14_6 := zA BK234.out 6; have hfz14_7 := zA BK234.out 7) | ((with_reducible refine gate_callee (f := 36) rfl ?_); refine goesL_ (some 18) rfl rfl Try.func36 (by kernel_rfl) rfl #[.agg #[.int .i64 a0_0, .int .u64 a0_1, .int .u64 a0_2, .int .u64 a0_3, .int .u64 a0_4, .slice A0_5 l0_5.length c0_5, .int .i64 a0_6, .int .i64 a0_7]] rfl (by (try simp only [List.map_toArray, List.map_cons, List.map_nil]); first | done | rfl | (simp only [List.length_drop, List.length_take]; rfl)) ?_; (with_reducible refine (ostinatoref04_Told.calls k a0_0 a0_1 a0_2 a0_3 a0_4 _ _ l0_5 a0_6 a0_7 false t237 _ ?side1 ?side2 A2.out).mono ?_); (case side1 => repeat (first | exact (Kd.V_reads' HO0_5.out).2.2 | (with_reducible refine Kd.C_alloc ?_ _) | (with_reducible refine Kd.C_drewN ?_ _) | (with_reducible refine Kd.C_drew ?_))); (case side2 => exact (Kd.V_reads' HO0_5.out).2.1); rintro e w15 ⟨rfl, hb⟩; refine ⟨_, rfl, ?_⟩; have n0_ := zM (Kd.V_below (by (with_reducible repeat (first | apply Kd.V_alloc | apply Kd.V_drewN | apply Kd.V_drew)); exact HO0_5.out) hb); have n1_ := zM (zL (g := gb234) (o := .cells #[.int .i64 a0_0, .int .u64 a0_1, .int .u64 a0_2, .int .u64 a0_3, .int .u64 a0_4, .slice A0_5 l0_5.length c0_5, .int .i64 a0_6, .int .i64 a0_7] 27 (0, 0)) (by (with_reducible repeat (first | refine zH ?_ _ | refine zI ?_ | refine zG ?_ _)); exact BK234.out) hb); have n2_ := zM (zL (g := gb235) (o := .cells #[.int .i64 0, .int .u64 0, .int .u64 0, .int .u64 0, .int .u64 0, .slice none 0 0, .int .i64 0, .int .i64 0] 27 (0, 0)) (by (with_reducible repeat (first | refine zH ?_ _ | refine zI ?_ | refine zG ?_ _)); exact BK235.out) hb); have n3_ := zM (zJ (by repeat (first | (with_reducible first | exact HB.out | apply zE | apply zC | apply zD | refine zF ?_ GE234.out | refine zF ?_ GE235.out) | exact HB.out)) hb); clear HO0_5; clear BK234; clear BK235; clear HB; have HO0_5 := n0_; have BK234 := n1_; have BK235 := n2_; have HB := n3_; clear n0_ n1_ n2_ n3_; (try clear hb); (try clear hb2); (try clear hk); (try clear hi); have hcz16_0 : w15.cell? ⟨gb234, 0, none⟩ = some (.int .i64 a0_0) := (zB BK234.out 0).trans rfl; have hcz16_1 : w15.cell? ⟨gb234, 1, none⟩ = some (.int .u64 a0_1) := (zB BK234.out 1).trans rfl; have hcz16_2 : w15.cell? ⟨gb234, 2, none⟩ = some (.int .u64 a0_2) := (zB BK234.out 2).trans rfl; have hcz16_3 : w15.cell? ⟨gb234, 3, none⟩ = some (.int .u64 a0_3) := (zB BK234.out 3).trans rfl; have hcz16_4 : w15.cell? ⟨gb234, 4, none⟩ = some (.int .u64 a0_4) := (zB BK234.out 4).trans rfl; have hcz16_5 : w15.cell? ⟨gb234, 5, none⟩ = some (.slice A0_5 l0_5.length c0_5) := (zB BK234.out 5).trans rfl; have hcz16_6 : w15.cell? ⟨gb234, 6, none⟩ = some (.int .i64 a0_6) := (zB BK234.out 6).trans rfl; have hcz16_7 : w15.cell? ⟨gb234, 7, none⟩ = some (.int .i64 a0_7) := (zB BK234.out 7).trans rfl; have hfz16_0 := zA BK234.out 0; have hfz16_1 := zA BK234.out 1; have hfz16_2 := zA BK234.out 2; have hfz16_3 := zA BK234.out 3; have hfz16_4 := zA BK234.out 4; have hfz16_5 := zA BK234.out 5; have hfz16_6 := zA BK234.out 6; have hfz16_7 := zA BK234.out 7; have hcz17_0 : w15.cell? ⟨gb235, 0, none⟩ = some (.int .i64 0) := (zB BK235.out 0).trans rfl; have hcz17_1 : w15.cell? ⟨gb235, 1, none⟩ = some (.int .u64 0) := (zB BK235.out 1).trans rfl; have hcz17_2 : w15.cell? ⟨gb235, 2, none⟩ = some (.int .u64 0) := (zB BK235.out 2).trans rfl; have hcz17_3 : w15.cell? ⟨gb235, 3, none⟩ = some (.int .u64 0) := (zB BK235.out 3).trans rfl; have hcz17_4 : w15.cell? ⟨gb235, 4, none⟩ = some (.int .u64 0) := (zB BK235.out 4).trans rfl; have hcz17_5 : w15.cell? ⟨gb235, 5, none⟩ = some (.slice none 0 0) := (zB BK235.out 5).trans rfl; have hcz17_6 : w15.cell? ⟨gb235, 6, none⟩ = some (.int .i64 0) := (zB BK235.out 6).trans rfl; have hcz17_7 : w15.cell? ⟨gb235, 7, none⟩ = some (.int .i64 0) := (zB BK235.out 7).trans rfl; have hfz17_0 := zA BK235.out 0; have hfz17_1 := zA BK235.out 1; have hfz17_2 := zA BK235.out 2; have hfz17_3 := zA BK235.out 3; have hfz17_4 := zA BK235.out 4; have hfz17_5 := zA BK235.out 5; have hfz17_6 := zA BK235.out 6; have hfz17_7 := zA BK235.out 7))
   refine bodyPost_ret (results_cell_row rfl _ _ gb235 27 #[.int .i64 a0_0, .int .u64 a0_1, .int .u64 a0_2, .int .u64 a0_3, .int .u64 a0_4, .slice A0_5 l0_5.length c0_5, .int .i64 a0_6, .int .i64 a0_7] (0, 0) _ rfl (by (with_reducible repeat (first | refine zH ?_ _ | refine zI ?_ | refine zG ?_ _)); refine blk_put (cs := #[.int .i64 a0_0, .int .u64 a0_1, .int .u64 a0_2, .int .u64 a0_3, .int .u64 a0_4, .slice A0_5 l0_5.length c0_5, .int .i64 a0_6, .int .i64 0]) ?_ 7 _ rfl; (with_reducible repeat (first | refine zH ?_ _ | refine zI ?_ | refine zG ?_ _)); refine blk_put (cs := #[.int .i64 a0_0, .int .u64 a0_1, .int .u64 a0_2, .int .u64 a0_3, .int .u64 a0_4, .slice A0_5 l0_5.length c0_5, .int .i64 0, .int .i64 0]) ?_ 6 _ rfl; (with_reducible repeat (first | refine zH ?_ _ | refine zI ?_ | refine zG ?_ _)); refine blk_put (cs := #[.int .i64 a0_0, .int .u64 a0_1, .int .u64 a0_2, .int .u64 a0_3, .int .u64 a0_4, .slice none 0 0, .int .i64 0, .int .i64 0]) ?_ 5 _ rfl; (with_reducible repeat (first | refine zH ?_ _ | refine zI ?_ | refine zG ?_ _)); refine blk_put (cs := #[.int .i64 a0_0, .int .u64 a0_1, .int .u64 a0_2, .int .u64 a0_3, .int .u64 0, .slice none 0 0, .int .i64 0, .int .i64 0]) ?_ 4 _ rfl; (with_reducible repeat (first | refine zH ?_ _ | refine zI ?_ | refine zG ?_ _)); refine blk_put (cs := #[.int .i64 a0_0, .int .u64 a0_1, .int .u64 a0_2, .int .u64 0, .int .u64 0, .slice none 0 0, .int .i64 0, .int .i64 0]) ?_ 3 _ rfl; (with_reducible repeat (first | refine zH ?_ _ | refine zI ?_ | refine zG ?_ _)); refine blk_put (cs := #[.int .i64 a0_0, .int .u64 a0_1, .int .u64 0, .int .u64 0, .int .u64 0, .slice none 0 0, .int .i64 0, .int .i64 0]) ?_ 2 _ rfl; (with_reducible repeat (first | refine zH ?_ _ | refine zI ?_ | refine zG ?_ _)); refine blk_put (cs := #[.int .i64 a0_0, .int .u64 0, .int .u64 0, .int .u64 0, .int .u64 0, .slice none 0 0, .int .i64 0, .int .i64 0]) ?_ 1 _ rfl; (with_reducible repeat (first | refine zH ?_ _ | refine zI ?_ | refine zG ?_ _)); refine blk_put (cs := #[.int .i64 0, .int .u64 0, .int .u64 0, .int .u64 0, .int .u64 0, .slice none 0 0, .int .i64 0, .int .i64 0]) ?_ 0 _ rfl; (with_reducible repeat (first | refine zH ?_ _ | refine zI ?_ | refine zG ?_ _)); exact BK235.out) Try.underlying27 rfl (by kernel_rfl)) rfl ?_
   exact ⟨_, by first | rfl | (simp [errW_none, errW_some] <;> rfl) | (simp [*, errW_none, errW_some] <;> rfl), by (with_reducible repeat (first | apply Kd.V_alloc | apply Kd.V_drewN | apply Kd.V_drew)); exact Kd.V_mono (Kd.V_far (p := ⟨gb235, 7, none⟩) (Kd.V_far (p := ⟨gb235, 6, none⟩) (Kd.V_far (p := ⟨gb235, 5, none⟩) (Kd.V_far (p := ⟨gb235, 4, none⟩) (Kd.V_far (p := ⟨gb235, 3, none⟩) (Kd.V_far (p := ⟨gb235, 2, none⟩) (Kd.V_far (p := ⟨gb235, 1, none⟩) (Kd.V_far (p := ⟨gb235, 0, none⟩) (Kd.V_mono HO0_5.out (fun k_ hk => (⟨hk, hk.2⟩ : _ ∧ k_ ≠ gb235))) (fun _ hk => hk.2) (.int .i64 a0_0)) (fun _ hk => hk.2) (.int .u64 a0_1)) (fun _ hk => hk.2) (.int .u64 a0_2)) (fun _ hk => hk.2) (.int .u64 a0_3)) (fun _ hk => hk.2) (.int .u64 a0_4)) (fun _ hk => hk.2) (.slice A0_5 l0_5.length c0_5)) (fun _ hk => hk.2) (.int .i64 a0_6)) (fun _ hk => hk.2) (.int .i64 a0_7)) (fun _ hk => hk.1.1.1), by repeat (first | (with_reducible first | exact HB.out | apply zE | apply zC | apply zD | refine zF ?_ GE234.out | refine zF ?_ GE235.out) | exact HB.out)⟩
  ·
   rw [if_neg c10] at H
   have c10b0 : decide (a0_0 < 2) = false := decide_eq_false c10
   clear c10
   have H' := zM H
   clear H
   go_enter Try.func24, Try.ntmps24
   go_wp2_with (first | ((with_reducible refine gate_dst (N := 1) rfl ?_); refine box_event ?hg (N := 1) ?hd (cs := #[.int .i64 a0_0, .int .u64 a0_1, .int .u64 a0_2, .int .u64 a0_3, .int .u64 a0_4, .slice A0_5 l0_5.length c0_5, .int .i64 a0_6, .int .i64 a0_7]) (t := 27) ?hr ?_; (case hd => rfl); (case hg => rfl); (case hr => first | (go_simp; done) | (go_simp; rfl)); intro gb234 hg w18 hbox hb; have n0_ := zM (Kd.V_below (Kd.V_elderB (by (with_reducible repeat (first | apply Kd.V_alloc | apply Kd.V_drewN | apply Kd.V_drew)); exact HO0_5.out) gb234 (Nat.le_of_eq hg.symm)) hb); have n1_ := zM (zJ (by repeat (first | (with_reducible first | exact HB.out | apply zE | apply zC | apply zD) | exact HB.out)) hb); have n2_ := zM (hbox); have n3_ := zM ((by rw [hg]; exact (zK (by repeat (first | (with_reducible first | exact HB.out | apply zE | apply zC | apply zD) | exact HB.out))) : w.heap.size ≤ gb234)); have n4_ := zM ((by rw [hg]; exact (zK (by repeat (first | (with_reducible first | exact HB.out | apply zE | apply zC | apply zD) | exact HB.out))) : w.heap.size ≤ gb234)); clear HO0_5; clear HB; have HO0_5 := n0_; have HB := n1_; have BK234 := n2_; have GW234 := n3_; have GE234 := n4_; clear n0_ n1_ n2_ n3_ n4_; clear hb hbox hg) | ((with_reducible refine gate_dst (N := 2) rfl ?_); refine box_event ?hg (N := 2) ?hd (cs := #[.int .i64 0, .int .u64 0, .int .u64 0, .int .u64 0, .int .u64 0, .slice none 0 0, .int .i64 0, .int .i64 0]) (t := 27) ?hr ?_; (case hd => rfl); (case hg => rfl); (case hr => first | (go_simp; done) | (go_simp; rfl)); intro gb235 hg w19 hbox hb; have n0_ := zM (Kd.V_below (Kd.V_elderB (by (with_reducible repeat (first | apply Kd.V_alloc | apply Kd.V_drewN | apply Kd.V_drew)); exact HO0_5.out) gb235 (Nat.le_of_eq hg.symm)) hb); have n1_ := zM (zL (g := gb234) (o := .cells #[.int .i64 a0_0, .int .u64 a0_1, .int .u64 a0_2, .int .u64 a0_3, .int .u64 a0_4, .slice A0_5 l0_5.length c0_5, .int .i64 a0_6, .int .i64 a0_7] 27 (0, 0)) (by (with_reducible repeat (first | refine zH ?_ _ | refine zI ?_ | refine zG ?_ _)); exact BK234.out) hb); have n2_ := zM (zJ (by repeat (first | (with_reducible first | exact HB.out | apply zE | apply zC | apply zD | refine zF ?_ GE234.out) | exact HB.out)) hb); have n3_ := zM (hbox); have n4_ := zM ((by rw [hg]; exact (zK (by repeat (first | (with_reducible first | exact HB.out | apply zE | apply zC | apply zD | refine zF ?_ GE234.out) | exact HB.out))) : w.heap.size ≤ gb235)); have n5_ := zM ((by rw [hg]; exact (zK (by repeat (first | (with_reducible first | exact HB.out | apply zE | apply zC | apply zD | refine zF ?_ GE234.out) | exact HB.out))) : w.heap.size ≤ gb235)); have n6_ := zM ((by rw [hg]; exact Nat.ne_of_lt (blk_lt (g := gb234) (o := .cells #[.int .i64 a0_0, .int .u64 a0_1, .int .u64 a0_2, .int .u64 a0_3, .int .u64 a0_4, .slice A0_5 l0_5.length c0_5, .int .i64 a0_6, .int .i64 a0_7] 27 (0, 0)) (by (with_reducible repeat (first | refine zH ?_ _ | refine zI ?_ | refine zG ?_ _)); exact BK234.out)) : gb234 ≠ gb235)); have n7_ := zM ((by rw [hg]; exact Nat.ne_of_gt (blk_lt (g := gb234) (o := .cells #[.int .i64 a0_0, .int .u64 a0_1, .int .u64 a0_2, .int .u64 a0_3, .int .u64 a0_4, .slice A0_5 l0_5.length c0_5, .int .i64 a0_6, .int .i64 a0_7] 27 (0, 0)) (by (with_reducible repeat (first | refine zH ?_ _ | refine zI ?_ | refine zG ?_ _)); exact BK234.out)) : gb235 ≠ gb234)); clear HO0_5; clear BK234; clear HB; have HO0_5 := n0_; have BK234 := n1_; have HB := n2_; have BK235 := n3_; have GW235 := n4_; have GE235 := n5_; have NB234_235 := n6_; have NB235_234 := n7_; clear n0_ n1_ n2_ n3_ n4_ n5_ n6_ n7_; clear hb hbox hg; have hnb20 := NB234_235.out; have hnc20 := NB235_234.out; have hcz21_0 : w19.cell? ⟨gb234, 0, none⟩ = some (.int .i64 a0_0) := (zB BK234.out 0).trans rfl; have hcz21_1 : w19.cell? ⟨gb234, 1, none⟩ = some (.int .u64 a0_1) := (zB BK234.out 1).trans rfl; have hcz21_2 : w19.cell? ⟨gb234, 2, none⟩ = some (.int .u64 a0_2) := (zB BK234.out 2).trans rfl; have hcz21_3 : w19.cell? ⟨gb234, 3, none⟩ = some (.int .u64 a0_3) := (zB BK234.out 3).trans rfl; have hcz21_4 : w19.cell? ⟨gb234, 4, none⟩ = some (.int .u64 a0_4) := (zB BK234.out 4).trans rfl; have hcz21_5 : w19.cell? ⟨gb234, 5, none⟩ = some (.slice A0_5 l0_5.length c0_5) := (zB BK234.out 5).trans rfl; have hcz21_6 : w19.cell? ⟨gb234, 6, none⟩ = some (.int .i64 a0_6) := (zB BK234.out 6).trans rfl; have hcz21_7 : w19.cell? ⟨gb234, 7, none⟩ = some (.int .i64 a0_7) := (zB BK234.out 7).trans rfl; have hfz21_0 := zA BK234.out 0; have hfz21_1 := zA BK234.out 1; have hfz21_2 := zA BK234.out 2; have hfz21_3 := zA BK234.out 3; have hfz21_4 := zA BK234.out 4; have hfz21_5 := zA BK234.out 5; have hfz21_6 := zA BK234.out 6; have hfz21_7 := zA BK234.out 7) | ((with_reducible refine gate_callee (f := 36) rfl ?_); refine goesL_ (some 18) rfl rfl Try.func36 (by kernel_rfl) rfl #[.agg #[.int .i64 a0_0, .int .u64 a0_1, .int .u64 a0_2, .int .u64 a0_3, .int .u64 a0_4, .slice A0_5 l0_5.length c0_5, .int .i64 a0_6, .int .i64 a0_7]] rfl (by (try simp only [List.map_toArray, List.map_cons, List.map_nil]); first | done | rfl | (simp only [List.length_drop, List.length_take]; rfl)) ?_; (with_reducible refine (ostinatoref04_Told.calls k a0_0 a0_1 a0_2 a0_3 a0_4 _ _ l0_5 a0_6 a0_7 false t237 _ ?side1 ?side2 A2.out).mono ?_); (case side1 => repeat (first | exact (Kd.V_reads' HO0_5.out).2.2 | (with_reducible refine Kd.C_alloc ?_ _) | (with_reducible refine Kd.C_drewN ?_ _) | (with_reducible refine Kd.C_drew ?_))); (case side2 => exact (Kd.V_reads' HO0_5.out).2.1); rintro e w22 ⟨rfl, hb⟩; refine ⟨_, rfl, ?_⟩; have n0_ := zM (Kd.V_below (by (with_reducible repeat (first | apply Kd.V_alloc | apply Kd.V_drewN | apply Kd.V_drew)); exact HO0_5.out) hb); have n1_ := zM (zL (g := gb234) (o := .cells #[.int .i64 a0_0, .int .u64 a0_1, .int .u64 a0_2, .int .u64 a0_3, .int .u64 a0_4, .slice A0_5 l0_5.length c0_5, .int .i64 a0_6, .int .i64 a0_7] 27 (0, 0)) (by (with_reducible repeat (first | refine zH ?_ _ | refine zI ?_ | refine zG ?_ _)); exact BK234.out) hb); have n2_ := zM (zL (g := gb235) (o := .cells #[.int .i64 0, .int .u64 0, .int .u64 0, .int .u64 0, .int .u64 0, .slice none 0 0, .int .i64 0, .int .i64 0] 27 (0, 0)) (by (with_reducible repeat (first | refine zH ?_ _ | refine zI ?_ | refine zG ?_ _)); exact BK235.out) hb); have n3_ := zM (zJ (by repeat (first | (with_reducible first | exact HB.out | apply zE | apply zC | apply zD | refine zF ?_ GE234.out | refine zF ?_ GE235.out) | exact HB.out)) hb); clear HO0_5; clear BK234; clear BK235; clear HB; have HO0_5 := n0_; have BK234 := n1_; have BK235 := n2_; have HB := n3_; clear n0_ n1_ n2_ n3_; (try clear hb); (try clear hb2); (try clear hk); (try clear hi); have hcz23_0 : w22.cell? ⟨gb234, 0, none⟩ = some (.int .i64 a0_0) := (zB BK234.out 0).trans rfl; have hcz23_1 : w22.cell? ⟨gb234, 1, none⟩ = some (.int .u64 a0_1) := (zB BK234.out 1).trans rfl; have hcz23_2 : w22.cell? ⟨gb234, 2, none⟩ = some (.int .u64 a0_2) := (zB BK234.out 2).trans rfl; have hcz23_3 : w22.cell? ⟨gb234, 3, none⟩ = some (.int .u64 a0_3) := (zB BK234.out 3).trans rfl; have hcz23_4 : w22.cell? ⟨gb234, 4, none⟩ = some (.int .u64 a0_4) := (zB BK234.out 4).trans rfl; have hcz23_5 : w22.cell? ⟨gb234, 5, none⟩ = some (.slice A0_5 l0_5.length c0_5) := (zB BK234.out 5).trans rfl; have hcz23_6 : w22.cell? ⟨gb234, 6, none⟩ = some (.int .i64 a0_6) := (zB BK234.out 6).trans rfl; have hcz23_7 : w22.cell? ⟨gb234, 7, none⟩ = some (.int .i64 a0_7) := (zB BK234.out 7).trans rfl; have hfz23_0 := zA BK234.out 0; have hfz23_1 := zA BK234.out 1; have hfz23_2 := zA BK234.out 2; have hfz23_3 := zA BK234.out 3; have hfz23_4 := zA BK234.out 4; have hfz23_5 := zA BK234.out 5; have hfz23_6 := zA BK234.out 6; have hfz23_7 := zA BK234.out 7))
   go_loopg [5, 6] k (fun kq v5 v6 w' => ∃ (x5_1 : List (S27)) (x6_1 : Int), v6 = .int .i64 x6_1 ∧ Aside0 (ostinatoref04_Simple.l0 kq x5_1 x6_1 a0_0 a0_1 a0_2 a0_3 a0_4 l0_5 a0_6 a0_7 = some (r1, r2, r3, r4, r5, r6, r7, r8)) ∧ Aside0 (kq ≤ k) ∧ Aside0 (Kd.N k27 27 w' w.heap.size (fun k_ => (P0_5_ k_ ∨ w.heap.size ≤ k_) ∧ k_ ≠ gb234 ∧ k_ ≠ gb235) v5 x5_1) ∧ Aside0 (Kd.V k27 27 w' w.heap.size (fun k_ => (P0_5_ k_ ∨ w.heap.size ≤ k_) ∧ some k_ ≠ (v5 : Value).ownBlock ∧ k_ ≠ gb234 ∧ k_ ≠ gb235) (.slice A0_5 l0_5.length c0_5) l0_5) ∧ Aside0 (w'.heap[gb234]? = some (.cells #[.int .i64 a0_0, .int .u64 a0_1, .int .u64 a0_2, .int .u64 a0_3, .int .u64 a0_4, (.slice A0_5 l0_5.length c0_5), .int .i64 a0_6, .int .i64 a0_7] 27 (0, 0))) ∧ Aside0 (w'.heap[gb235]? = some (.cells #[.int .i64 0, .int .u64 0, .int .u64 0, .int .u64 0, .int .u64 0, (.slice none 0 0), .int .i64 0, .int .i64 0] 27 (0, 0))) ∧ Aside0 (Below w.heap.size w w'))
   case atStart => exact ⟨(([] : List (S27))), (0), (by first | rfl | (simp; done) | (simp [*]; done)), H', ⟨Nat.le_refl _⟩, ⟨by first | exact Kd.R_nil _ _ _ _ _ | exact Kd.N_nil _ _ _ _ _ | exact Kd.V_nil _ _ _ _ _ | exact Kd.Q_nil _ _ _ _ _ | exact Kd.S_nil _ _ _ _ _⟩, ⟨by (with_reducible repeat (first | apply Kd.V_alloc | apply Kd.V_drewN | apply Kd.V_drew)); exact Kd.V_mono HO0_5.out (fun _ hk => ⟨hk.1.1, ⟨(by simp [Value.ownBlock]), ⟨hk.1.2, hk.2⟩⟩⟩)⟩, ⟨by (with_reducible repeat (first | refine zH ?_ _ | refine zI ?_ | refine zG ?_ _)); exact BK234.out⟩, ⟨by (with_reducible repeat (first | refine zH ?_ _ | refine zI ?_ | refine zG ?_ _)); exact BK235.out⟩, ⟨by repeat (first | (with_reducible first | exact HB.out | apply zE | apply zC | apply zD | refine zF ?_ GE234.out | refine zF ?_ GE235.out) | exact HB.out)⟩⟩
   case round =>
    clear H'
    (try clear c1); (try clear c2); (try clear p2); (try clear c3); (try clear c6); (try clear c10); (try clear c10b0); (try clear c13); (try clear c20); (try clear hcz14_0 hcz14_1 hcz14_2 hcz14_3 hcz14_4 hcz14_5 hcz14_6 hcz14_7); (try clear hcz16_0 hcz16_1 hcz16_2 hcz16_3 hcz16_4 hcz16_5 hcz16_6 hcz16_7); (try clear hcz17_0 hcz17_1 hcz17_2 hcz17_3 hcz17_4 hcz17_5 hcz17_6 hcz17_7); (try clear hcz21_0 hcz21_1 hcz21_2 hcz21_3 hcz21_4 hcz21_5 hcz21_6 hcz21_7); (try clear hcz23_0 hcz23_1 hcz23_2 hcz23_3 hcz23_4 hcz23_5 hcz23_6 hcz23_7); (try clear hcz7_0 hcz7_1 hcz7_2 hcz7_3 hcz7_4 hcz7_5 hcz7_6 hcz7_7); (try clear hcz9_0 hcz9_1 hcz9_2 hcz9_3 hcz9_4 hcz9_5 hcz9_6 hcz9_7); (try clear hfz14_0 hfz14_1 hfz14_2 hfz14_3 hfz14_4 hfz14_5 hfz14_6 hfz14_7); (try clear hfz16_0 hfz16_1 hfz16_2 hfz16_3 hfz16_4 hfz16_5 hfz16_6 hfz16_7); (try clear hfz17_0 hfz17_1 hfz17_2 hfz17_3 hfz17_4 hfz17_5 hfz17_6 hfz17_7); (try clear hfz21_0 hfz21_1 hfz21_2 hfz21_3 hfz21_4 hfz21_5 hfz21_6 hfz21_7); (try clear hfz23_0 hfz23_1 hfz23_2 hfz23_3 hfz23_4 hfz23_5 hfz23_6 hfz23_7); (try clear hfz7_0 hfz7_1 hfz7_2 hfz7_3 hfz7_4 hfz7_5 hfz7_6 hfz7_7); (try clear hfz9_0 hfz9_1 hfz9_2 hfz9_3 hfz9_4 hfz9_5 hfz9_6 hfz9_7)
    obtain ⟨x5_1, x6_1, rfl, HA, HK1, HO_5, HO_235005, BK234, BK235, HB⟩ := hrel
    cases gk with
    | zero => exact absurd HA.out (by simp [ostinatoref04_Simple.l0])
    | succ k1 =>
     have H := HA.out
     clear HA
     simp only [ostinatoref04_Simple.l0] at H
     by_cases c24 : x6_1 < (l0_5.length : Int)
     ·
      rw [if_pos c24] at H
      have c24b0 : decide (x6_1 < (l0_5.length : Int)) = true := decide_eq_true c24
      clear c24
      by_cases c25 : 0 ≤ x6_1
      ·
       rw [if_pos c25] at H
       have c25b0 : decide (0 ≤ x6_1) = true := decide_eq_true c25
       clear c25
       replace H := Option.bind_eq_some_iff.mp H
       obtain ⟨⟨t239, t240, t241, t242, t243, t244, t247, t248⟩, A260, H⟩ := H
       replace H : (if x5_1.length < 1759218604441 then (ostinatoref04_Simple.l0 k1 (x5_1 ++ [(⟨t239, (⟨t240, t241, t242, t243⟩ : S24), t244, t247, t248⟩ : S27)]) (wrap64 (x6_1 + 1)) a0_0 a0_1 a0_2 a0_3 a0_4 l0_5 a0_6 a0_7) else (none)) = some (r1, r2, r3, r4, r5, r6, r7, r8) := H
       have A26 := zM A260
       clear A260
       by_cases c27 : x5_1.length < 1759218604441
       ·
        rw [if_pos c27] at H
        have LMc27 := zM c27
        clear c27
        obtain ⟨y249, hy249⟩ : ∃ y_ : List (S27), y_ = (x5_1 ++ [(⟨t239, (⟨t240, t241, t242, t243⟩ : S24), t244, t247, t248⟩ : S27)]) := ⟨_, rfl⟩
        replace H : (ostinatoref04_Simple.l0 k1 y249 (wrap64 (x6_1 + 1)) a0_0 a0_1 a0_2 a0_3 a0_4 l0_5 a0_6 a0_7) = some (r1, r2, r3, r4, r5, r6, r7, r8) := by first | (rw [hy249]; with_reducible exact H) | (have H2_ := (Option.bind_some _ _).symm.trans H; rw [hy249]; with_reducible exact H2_) | (have H2_ := (Option.bind_some _ _).symm.trans H; with_reducible exact H2_) | with_reducible exact H | (rw [hy249]; exact H) | exact H
        have Ny249 := zM hy249
        clear hy249
        have H' := zM H
        clear H
        have hnb28 := NB234_235.out
        have hnc28 := NB235_234.out
        obtain ⟨hcz29_0, hcz29_1, hcz29_2, hcz29_3, hcz29_4, hcz29_5, hcz29_6, hcz29_7, hfz29_0, hfz29_1, hfz29_2, hfz29_3, hfz29_4, hfz29_5, hfz29_6, hfz29_7⟩ := blk8 BK234.out
        have p238 : 0 ≤ (x6_1 : Int) := of_decide_eq_true (by first | (with_reducible assumption) | assumption)
        have q238 : x6_1 < (l0_5.length : Int) := of_decide_eq_true (by first | (with_reducible assumption) | assumption)
        obtain ⟨ad238, A238_5, c238_5, e238, hx238_0, hx238_1, hx238_2, hx238_3, hx238_4, hx238_5, hx238_6, hx238_7, hl238_5, hi238_5⟩ := at_T27 (Kd.V_reads' HO_235005.out).2.2 x6_1 p238 q238
        cases e238
        obtain ⟨ce238, hce238, hMe238, hcc238⟩ := Kd.V_get HO_235005.out z27 x6_1 p238 (by first | exact q238 | exact of_decide_eq_true (by first | (with_reducible assumption) | assumption) | (have e_ := (Kd.V_reads' HO_235005.out).1; omega))
        obtain ⟨ua238_5, uc238_5, rfl, ul238_5, ge238_5⟩ := k27_openF hMe238
        have hv238_5 := hcc238 5 _ rfl
        rw [add_field _ _ 5 (by omega)] at hv238_5
        replace hv238_5 := Option.some.inj (hv238_5.symm.trans hx238_5)
        injection hv238_5 with hva_ hvn_ hvc_
        rw [hva_] at ge238_5
        rw [hvc_] at ul238_5
        have HL238_5 := zM (show Kd.V k27 27 _ w.heap.size _ _ ((rd_T27 l0_5 x6_1).f2) from Kd.V_mk ul238_5 ge238_5)
        clear hva_ hvn_ hvc_ ge238_5 ul238_5 hcc238 hce238
        have HR238_5 := zM hi238_5
        have HC238_5 := zM hl238_5
        clear hi238_5 hl238_5
        replace p238 := eq_true p238
        replace q238 := eq_true q238
        go_wp2_with (first | ((with_reducible refine gate_callee (f := 24) rfl ?_); refine goesL_ (some 40) rfl rfl Try.func24 (by kernel_rfl) rfl #[.agg #[.int .i64 ((rd_T27 l0_5 x6_1).f0), .int .u64 ((rd_T27 l0_5 x6_1).f1.f0), .int .u64 ((rd_T27 l0_5 x6_1).f1.f1), .int .u64 ((rd_T27 l0_5 x6_1).f1.f2), .int .u64 ((rd_T27 l0_5 x6_1).f1.f3), .slice A238_5 ((rd_T27 l0_5 x6_1).f2).length c238_5, .int .i64 ((rd_T27 l0_5 x6_1).f3), .int .i64 ((rd_T27 l0_5 x6_1).f4)]] rfl (by (try simp only [List.map_toArray, List.map_cons, List.map_nil]); first | done | rfl | (simp only [List.length_drop, List.length_take]; rfl)) ?_; (with_reducible refine (ih k1 (by have := HK1.out; omega) ((rd_T27 l0_5 x6_1).f0) ((rd_T27 l0_5 x6_1).f1.f0) ((rd_T27 l0_5 x6_1).f1.f1) ((rd_T27 l0_5 x6_1).f1.f2) ((rd_T27 l0_5 x6_1).f1.f3) (fun k_ => ((P0_5_ k_ ∨ w.heap.size ≤ k_) ∧ (some k_ ≠ (u5 : Value).ownBlock ∧ (k_ ≠ gb234 ∧ k_ ≠ gb235)))) _ _ ((rd_T27 l0_5 x6_1).f2) ((rd_T27 l0_5 x6_1).f3) ((rd_T27 l0_5 x6_1).f4) t239 t240 t241 t242 t243 t244 t247 t248 _ ?side1 A26.out).mono ?_); (case side1 => exact HL238_5.out); rintro e w30 ⟨v245, rfl, ho0, hb⟩; refine ⟨_, rfl, ?_⟩; have n0_ := zM (Kd.N_below (by (with_reducible repeat (first | apply Kd.N_alloc | apply Kd.N_drewN | apply Kd.N_drew)); exact HO_5.out) hb); have n1_ := zM (Kd.V_below (by (with_reducible repeat (first | apply Kd.V_alloc | apply Kd.V_drewN | apply Kd.V_drew)); exact HO_235005.out) hb); have n2_ := zM (Kd.V_below (by (with_reducible repeat (first | apply Kd.V_alloc | apply Kd.V_drewN | apply Kd.V_drew)); exact HL238_5.out) hb); have n3_ := zM (Kd.V_lower (Kd.V_mono (ok' := fun k_ => (P0_5_ k_ ∨ w.heap.size ≤ k_) ∧ some k_ ≠ (u5 : Value).ownBlock ∧ k_ ≠ gb234 ∧ k_ ≠ gb235) ho0 (fun k_ hk_ => ⟨Or.elim hk_ (fun hs_ => hs_.1) (fun hn_ => (.inr (Nat.le_trans (zK (by repeat (first | (with_reducible first | exact HB.out | apply zE | apply zC | apply zD | refine zF ?_ GE234.out | refine zF ?_ GE235.out) | exact HB.out))) hn_))), Or.elim hk_ (fun hs_ => hs_.2.1) (fun hn_ => (Kd.fresh' (Kd.N_lt (by (with_reducible repeat (first | apply Kd.N_alloc | apply Kd.N_drewN | apply Kd.N_drew)); exact HO_5.out)) k_ hn_)), Or.elim hk_ (fun hs_ => hs_.2.2.1) (fun hn_ => (Kd.freshB (g := gb234) (o := .cells #[.int .i64 a0_0, .int .u64 a0_1, .int .u64 a0_2, .int .u64 a0_3, .int .u64 a0_4, .slice (some ad238) l0_5.length c0_5, .int .i64 a0_6, .int .i64 a0_7] 27 (0, 0)) (by (with_reducible repeat (first | refine zH ?_ _ | refine zI ?_ | refine zG ?_ _)); exact BK234.out) k_ hn_)), Or.elim hk_ (fun hs_ => hs_.2.2.2) (fun hn_ => (Kd.freshB (g := gb235) (o := .cells #[.int .i64 0, .int .u64 0, .int .u64 0, .int .u64 0, .int .u64 0, .slice none 0 0, .int .i64 0, .int .i64 0] 27 (0, 0)) (by (with_reducible repeat (first | refine zH ?_ _ | refine zI ?_ | refine zG ?_ _)); exact BK235.out) k_ hn_))⟩)) (zK (by repeat (first | (with_reducible first | exact HB.out | apply zE | apply zC | apply zD | refine zF ?_ GE234.out | refine zF ?_ GE235.out) | exact HB.out)))); have n4_ := zM (zL (g := gb234) (o := .cells #[.int .i64 a0_0, .int .u64 a0_1, .int .u64 a0_2, .int .u64 a0_3, .int .u64 a0_4, .slice (some ad238) l0_5.length c0_5, .int .i64 a0_6, .int .i64 a0_7] 27 (0, 0)) (by (with_reducible repeat (first | refine zH ?_ _ | refine zI ?_ | refine zG ?_ _)); exact BK234.out) hb); have n5_ := zM (zL (g := gb235) (o := .cells #[.int .i64 0, .int .u64 0, .int .u64 0, .int .u64 0, .int .u64 0, .slice none 0 0, .int .i64 0, .int .i64 0] 27 (0, 0)) (by (with_reducible repeat (first | refine zH ?_ _ | refine zI ?_ | refine zG ?_ _)); exact BK235.out) hb); (first | have n6_ := zM (Kd.C_below (by repeat (first | (with_reducible exact HR238_5.out) | (with_reducible refine Kd.C_alloc ?_ _) | (with_reducible refine Kd.C_drewN ?_ _) | (with_reducible refine Kd.C_drew ?_) | exact HR238_5.out)) hb) | have n6_ := zM (Kd.V_reads' n2_.out).2.2); have n7_ := zM (zJ (by repeat (first | (with_reducible first | exact HB.out | apply zE | apply zC | apply zD | refine zF ?_ GE234.out | refine zF ?_ GE235.out) | exact HB.out)) hb); clear HO_5; clear HO_235005; clear HL238_5; clear BK234; clear BK235; clear HR238_5; clear HB; have HO_5 := n0_; have HO_235005 := n1_; have HL238_5 := n2_; have HO246 := n3_; have BK234 := n4_; have BK235 := n5_; have HR238_5 := n6_; have HB := n7_; clear n0_ n1_ n2_ n3_ n4_ n5_ n6_ n7_; (try clear hb); (try clear hb2); (try clear hk); (try clear hi); (try clear ho0); obtain ⟨Ao32, co32, eo32⟩ := Kd.V_slice HO246.out; subst eo32) | ((with_reducible refine gate_builtin (b := .append) (xs := #[.tmp 34, .tmp 41]) rfl ?_); at_builtin; refine Kd.N_append k27 (w0 := w) w.heap.size rfl (.tmp 34) (.tmp 41) 25 27 (.agg #[(.int .i64 0), (.int .u64 0), (.int .u64 0), (.int .u64 0), (.int .u64 0), (.slice none 0 0), (.int .i64 0), (.int .i64 0)]) 80 rfl Try.underlying25 info27 rfl (by decide) (by omega) u5 x5_1 (⟨t239, (⟨t240, t241, t242, t243⟩ : S24), t244, t247, t248⟩ : S27) [.int .i64 t239, .int .u64 t240, .int .u64 t241, .int .u64 t242, .int .u64 t243, .slice Ao32 t244.length co32, .int .i64 t247, .int .i64 t248] (fun k_ => (P0_5_ k_ ∨ w.heap.size ≤ k_) ∧ k_ ≠ gb234 ∧ k_ ≠ gb235) (fun k_ => ((fun k_ => (P0_5_ k_ ∨ w.heap.size ≤ k_) ∧ k_ ≠ gb234 ∧ k_ ≠ gb235)) k_ ∧ some k_ ≠ (u5 : Value).ownBlock) rfl rfl ?aP (fun _ hk => hk) ?aF ?aO ?aB ?aS ?aL ?_; (case aP => exact (k27_mkF _ _ (⟨t239, (⟨t240, t241, t242, t243⟩ : S24), t244, t247, t248⟩ : S27) (Kd.V_reads' (Kd.V_mono (ok' := (fun k_ => ((fun k_ => (P0_5_ k_ ∨ w.heap.size ≤ k_) ∧ k_ ≠ gb234 ∧ k_ ≠ gb235)) k_ ∧ some k_ ≠ (u5 : Value).ownBlock)) (HO246.out) (fun k_ hk => ⟨⟨hk.1, ⟨hk.2.2.1, hk.2.2.2⟩⟩, hk.2.1⟩))).2.1 (Kd.V_F (Kd.V_mono (ok' := (fun k_ => ((fun k_ => (P0_5_ k_ ∨ w.heap.size ≤ k_) ∧ k_ ≠ gb234 ∧ k_ ≠ gb235)) k_ ∧ some k_ ≠ (u5 : Value).ownBlock)) (HO246.out) (fun k_ hk => ⟨⟨hk.1, ⟨hk.2.2.1, hk.2.2.2⟩⟩, hk.2.1⟩))))); (case aB => exact (by repeat (first | (with_reducible first | exact HB.out | apply zE | apply zC | apply zD | refine zF ?_ GE234.out | refine zF ?_ GE235.out) | exact HB.out))); (case aF => exact (fun k_ hk => ⟨(.inr (Nat.le_trans (zK (by repeat (first | (with_reducible first | exact HB.out | apply zE | apply zC | apply zD | refine zF ?_ GE234.out | refine zF ?_ GE235.out) | exact HB.out))) hk)), Kd.freshB (g := gb234) (o := .cells #[.int .i64 a0_0, .int .u64 a0_1, .int .u64 a0_2, .int .u64 a0_3, .int .u64 a0_4, .slice (some ad238) l0_5.length c0_5, .int .i64 a0_6, .int .i64 a0_7] 27 (0, 0)) (by (with_reducible repeat (first | refine zH ?_ _ | refine zI ?_ | refine zG ?_ _)); exact BK234.out) k_ hk, Kd.freshB (g := gb235) (o := .cells #[.int .i64 0, .int .u64 0, .int .u64 0, .int .u64 0, .int .u64 0, .slice none 0 0, .int .i64 0, .int .i64 0] 27 (0, 0)) (by (with_reducible repeat (first | refine zH ?_ _ | refine zI ?_ | refine zG ?_ _)); exact BK235.out) k_ hk⟩)); (case aO => exact (by (with_reducible repeat (first | apply Kd.N_alloc | apply Kd.N_drewN | apply Kd.N_drew)); exact HO_5.out)); (case aS => exact (zK (by repeat (first | (with_reducible first | exact HB.out | apply zE | apply zC | apply zD | refine zF ?_ GE234.out | refine zF ?_ GE235.out) | exact HB.out)))); (case aL => have := LMc27.out; omega); intro v250 w31 ho hb hg hat; rw [← Ny249.out] at ho; have n0_ := zM (Kd.V_afterv (ok := (fun k_ => (P0_5_ k_ ∨ w.heap.size ≤ k_) ∧ k_ ≠ gb234 ∧ k_ ≠ gb235)) (by (with_reducible repeat (first | apply Kd.V_alloc | apply Kd.V_drewN | apply Kd.V_drew)); exact Kd.V_mono HO_235005.out (fun _ hk => ⟨⟨hk.1, ⟨hk.2.2.1, hk.2.2.2⟩⟩, hk.2.1⟩)) hg hat); have n1_ := zM (blk_grown (g := gb234) (o := .cells #[.int .i64 a0_0, .int .u64 a0_1, .int .u64 a0_2, .int .u64 a0_3, .int .u64 a0_4, .slice (some ad238) l0_5.length c0_5, .int .i64 a0_6, .int .i64 a0_7] 27 (0, 0)) (by (with_reducible repeat (first | refine zH ?_ _ | refine zI ?_ | refine zG ?_ _)); exact BK234.out) hg (Kd.N_away HO_5.out (fun _ hk => hk.2.1))); have n2_ := zM (blk_grown (g := gb235) (o := .cells #[.int .i64 0, .int .u64 0, .int .u64 0, .int .u64 0, .int .u64 0, .slice none 0 0, .int .i64 0, .int .i64 0] 27 (0, 0)) (by (with_reducible repeat (first | refine zH ?_ _ | refine zI ?_ | refine zG ?_ _)); exact BK235.out) hg (Kd.N_away HO_5.out (fun _ hk => hk.2.2))); have n3_ := zM (Kd.V_afterv (ok := (fun k_ => (P0_5_ k_ ∨ w.heap.size ≤ k_) ∧ k_ ≠ gb234 ∧ k_ ≠ gb235)) (by (with_reducible repeat (first | apply Kd.V_alloc | apply Kd.V_drewN | apply Kd.V_drew)); exact Kd.V_mono HL238_5.out (fun _ hk => ⟨⟨hk.1, ⟨hk.2.2.1, hk.2.2.2⟩⟩, hk.2.1⟩)) hg hat); have n4_ := zM (Kd.V_afterv (ok := (fun k_ => (P0_5_ k_ ∨ w.heap.size ≤ k_) ∧ k_ ≠ gb234 ∧ k_ ≠ gb235)) (by (with_reducible repeat (first | apply Kd.V_alloc | apply Kd.V_drewN | apply Kd.V_drew)); exact Kd.V_mono HO246.out (fun _ hk => ⟨⟨hk.1, ⟨hk.2.2.1, hk.2.2.2⟩⟩, hk.2.1⟩)) hg hat); have n5_ := zM (hb); have n6_ := zM (ho); clear HO_235005; clear BK234; clear BK235; clear HL238_5; clear HO246; clear HB; clear HO_5; have HO_235005 := n0_; have BK234 := n1_; have BK235 := n2_; have HL238_5 := n3_; have HO246 := n4_; have HB := n5_; have HO251 := n6_; clear n0_ n1_ n2_ n3_ n4_ n5_ n6_; clear ho hb hg hat))
        go_roundg k1
        case measure => have := HK1.out; omega
        case rel => exact ⟨(y249), (wrap64 (x6_1 + 1)), (by first | rfl | (simp; done) | (simp [*]; done)), H', ⟨by have := HK1.out; omega⟩, ⟨by (with_reducible repeat (first | apply Kd.N_alloc | apply Kd.N_drewN | apply Kd.N_drew)); exact HO251.out⟩, ⟨by (with_reducible repeat (first | apply Kd.V_alloc | apply Kd.V_drewN | apply Kd.V_drew)); exact Kd.V_mono HO_235005.out (fun _ hk => ⟨hk.1.1, ⟨hk.2, ⟨hk.1.2.1, hk.1.2.2⟩⟩⟩)⟩, ⟨by (with_reducible repeat (first | refine zH ?_ _ | refine zI ?_ | refine zG ?_ _)); exact BK234.out⟩, ⟨by (with_reducible repeat (first | refine zH ?_ _ | refine zI ?_ | refine zG ?_ _)); exact BK235.out⟩, ⟨by repeat (first | (with_reducible first | exact HB.out | apply zE | apply zC | apply zD | refine zF ?_ GE234.out | refine zF ?_ GE235.out) | exact HB.out)⟩⟩
       ·
        rw [if_neg c27] at H
        exact absurd H (by simp)
      ·
       rw [if_neg c25] at H
       exact absurd H (by simp)
     ·
      rw [if_neg c24] at H
      have c24b0 : decide (x6_1 < (l0_5.length : Int)) = false := decide_eq_false c24
      clear c24
      by_cases c33 : a0_0 = 4
      ·
       rw [if_pos c33] at H
       have c33b0 : (a0_0 == 4) = true := beq_iff_eq.mpr c33
       have c33b1 : (a0_0 != 4) = false := bne_eq_false_iff_eq.mpr c33
       clear c33
       by_cases c34 : 0 < (x5_1.length : Int)
       ·
        rw [if_pos c34] at H
        have c34b0 : decide (0 < (x5_1.length : Int)) = true := decide_eq_true c34
        have c34b1 : decide (0 < x5_1.length) = true := decide_eq_true (by omega)
        clear c34
        replace H := Option.bind_eq_some_iff.mp H
        obtain ⟨⟨t253, t254⟩, A350, H⟩ := H
        replace H : (if a0_7 = 0 then (ostinatoref04_Simple.j1 k1 x5_1 t254 true a0_0 a0_1 a0_2 a0_3 a0_4 l0_5 a0_6 a0_7) else (if ((rd_T27 x5_1 0).f0) = 0 then (ostinatoref04_Simple.j1 k1 x5_1 t254 true a0_0 a0_1 a0_2 a0_3 a0_4 l0_5 a0_6 a0_7) else (ostinatoref04_Simple.j1 k1 x5_1 t254 t253 a0_0 a0_1 a0_2 a0_3 a0_4 l0_5 a0_6 a0_7))) = some (r1, r2, r3, r4, r5, r6, r7, r8) := H
        have A35 := zM A350
        clear A350
        have HC36 := zM H
        clear H
        have hnb37 := NB234_235.out
        have hnc37 := NB235_234.out
        obtain ⟨hcz38_0, hcz38_1, hcz38_2, hcz38_3, hcz38_4, hcz38_5, hcz38_6, hcz38_7, hfz38_0, hfz38_1, hfz38_2, hfz38_3, hfz38_4, hfz38_5, hfz38_6, hfz38_7⟩ := blk8 BK234.out
        obtain ⟨Ao39, co39, eo39⟩ := Kd.N_slice HO_5.out
        subst eo39
        have p252 : 0 ≤ (0 : Int) := (by omega)
        have q252 : 0 < (x5_1.length : Int) := of_decide_eq_true (by first | (with_reducible assumption) | assumption)
        obtain ⟨ad252, A252_5, c252_5, e252, hx252_0, hx252_1, hx252_2, hx252_3, hx252_4, hx252_5, hx252_6, hx252_7, hl252_5, hi252_5⟩ := at_T27 (Kd.N_reads' HO_5.out).2.2 0 p252 q252
        cases e252
        obtain ⟨ce252, hce252, hMe252, hcc252⟩ := Kd.N_get HO_5.out z27 0 p252 (by first | exact q252 | exact of_decide_eq_true (by first | (with_reducible assumption) | assumption) | (have e_ := (Kd.N_reads' HO_5.out).1; omega))
        obtain ⟨ua252_5, uc252_5, rfl, ul252_5, ge252_5⟩ := k27_openF hMe252
        have hv252_5 := hcc252 5 _ rfl
        rw [add_field _ _ 5 (by omega)] at hv252_5
        replace hv252_5 := Option.some.inj (hv252_5.symm.trans hx252_5)
        injection hv252_5 with hva_ hvn_ hvc_
        rw [hva_] at ge252_5
        rw [hvc_] at ul252_5
        have HL252_5 := zM (show Kd.V k27 27 _ w.heap.size _ _ ((rd_T27 x5_1 0).f2) from Kd.V_mk ul252_5 ge252_5)
        clear hva_ hvn_ hvc_ ge252_5 ul252_5 hcc252 hce252
        have qi252 : (0 < x5_1.length) = True := eq_true (by omega)
        (try rw [show ((0 : Int)).toNat = 0 from rfl] at hx252_0)
        (try rw [show 0 * 8 = 0 from rfl] at hx252_0)
        (try rw [Addr.add_zero'] at hx252_0)
        (try rw [show ((0 : Int)).toNat = 0 from rfl] at hx252_1)
        (try rw [show 0 * 8 = 0 from rfl] at hx252_1)
        (try rw [Addr.add_zero'] at hx252_1)
        (try rw [show ((0 : Int)).toNat = 0 from rfl] at hx252_2)
        (try rw [show 0 * 8 = 0 from rfl] at hx252_2)
        (try rw [Addr.add_zero'] at hx252_2)
        (try rw [show ((0 : Int)).toNat = 0 from rfl] at hx252_3)
        (try rw [show 0 * 8 = 0 from rfl] at hx252_3)
        (try rw [Addr.add_zero'] at hx252_3)
        (try rw [show ((0 : Int)).toNat = 0 from rfl] at hx252_4)
        (try rw [show 0 * 8 = 0 from rfl] at hx252_4)
        (try rw [Addr.add_zero'] at hx252_4)
        (try rw [show ((0 : Int)).toNat = 0 from rfl] at hx252_5)
        (try rw [show 0 * 8 = 0 from rfl] at hx252_5)
        (try rw [Addr.add_zero'] at hx252_5)
        (try rw [show ((0 : Int)).toNat = 0 from rfl] at hx252_6)
        (try rw [show 0 * 8 = 0 from rfl] at hx252_6)
        (try rw [Addr.add_zero'] at hx252_6)
        (try rw [show ((0 : Int)).toNat = 0 from rfl] at hx252_7)
        (try rw [show 0 * 8 = 0 from rfl] at hx252_7)
        (try rw [Addr.add_zero'] at hx252_7)
        have HR252_5 := zM hi252_5
        have HC252_5 := zM hl252_5
        clear hi252_5 hl252_5
        replace p252 := eq_true p252
        replace q252 := eq_true q252
        go_upto_region 13 with (first | ((with_reducible refine gate_callee (f := 36) rfl ?_); refine goesL_ (some 50) rfl rfl Try.func36 (by kernel_rfl) rfl #[.agg #[.int .i64 ((rd_T27 x5_1 0).f0), .int .u64 ((rd_T27 x5_1 0).f1.f0), .int .u64 ((rd_T27 x5_1 0).f1.f1), .int .u64 ((rd_T27 x5_1 0).f1.f2), .int .u64 ((rd_T27 x5_1 0).f1.f3), .slice A252_5 ((rd_T27 x5_1 0).f2).length c252_5, .int .i64 ((rd_T27 x5_1 0).f3), .int .i64 ((rd_T27 x5_1 0).f4)]] rfl (by (try simp only [List.map_toArray, List.map_cons, List.map_nil]); first | done | rfl | (simp only [List.length_drop, List.length_take]; rfl)) ?_; (with_reducible refine (ostinatoref04_Told.calls k1 ((rd_T27 x5_1 0).f0) ((rd_T27 x5_1 0).f1.f0) ((rd_T27 x5_1 0).f1.f1) ((rd_T27 x5_1 0).f1.f2) ((rd_T27 x5_1 0).f1.f3) _ _ ((rd_T27 x5_1 0).f2) ((rd_T27 x5_1 0).f3) ((rd_T27 x5_1 0).f4) t253 t254 _ ?side1 ?side2 A35.out).mono ?_); (case side1 => repeat (first | exact (by repeat (first | (with_reducible exact HR252_5.out) | (with_reducible refine Kd.C_alloc ?_ _) | (with_reducible refine Kd.C_drewN ?_ _) | (with_reducible refine Kd.C_drew ?_) | exact HR252_5.out)) | (with_reducible refine Kd.C_alloc ?_ _) | (with_reducible refine Kd.C_drewN ?_ _) | (with_reducible refine Kd.C_drew ?_))); (case side2 => exact HC252_5.out); rintro e w40 ⟨rfl, hb⟩; refine ⟨_, rfl, ?_⟩; have n0_ := zM (Kd.N_below (by (with_reducible repeat (first | apply Kd.N_alloc | apply Kd.N_drewN | apply Kd.N_drew)); exact HO_5.out) hb); have n1_ := zM (Kd.V_below (by (with_reducible repeat (first | apply Kd.V_alloc | apply Kd.V_drewN | apply Kd.V_drew)); exact HO_235005.out) hb); have n2_ := zM (Kd.V_below (by (with_reducible repeat (first | apply Kd.V_alloc | apply Kd.V_drewN | apply Kd.V_drew)); exact HL252_5.out) hb); have n3_ := zM (zL (g := gb234) (o := .cells #[.int .i64 a0_0, .int .u64 a0_1, .int .u64 a0_2, .int .u64 a0_3, .int .u64 a0_4, .slice A0_5 l0_5.length c0_5, .int .i64 a0_6, .int .i64 a0_7] 27 (0, 0)) (by (with_reducible repeat (first | refine zH ?_ _ | refine zI ?_ | refine zG ?_ _)); exact BK234.out) hb); have n4_ := zM (zL (g := gb235) (o := .cells #[.int .i64 0, .int .u64 0, .int .u64 0, .int .u64 0, .int .u64 0, .slice none 0 0, .int .i64 0, .int .i64 0] 27 (0, 0)) (by (with_reducible repeat (first | refine zH ?_ _ | refine zI ?_ | refine zG ?_ _)); exact BK235.out) hb); (first | have n5_ := zM (Kd.C_below (by repeat (first | (with_reducible exact HR252_5.out) | (with_reducible refine Kd.C_alloc ?_ _) | (with_reducible refine Kd.C_drewN ?_ _) | (with_reducible refine Kd.C_drew ?_) | exact HR252_5.out)) hb) | have n5_ := zM (Kd.V_reads' n2_.out).2.2); have n6_ := zM (zJ (by repeat (first | (with_reducible first | exact HB.out | apply zE | apply zC | apply zD | refine zF ?_ GE234.out | refine zF ?_ GE235.out) | exact HB.out)) hb); clear HO_5; clear HO_235005; clear HL252_5; clear BK234; clear BK235; clear HR252_5; clear HB; have HO_5 := n0_; have HO_235005 := n1_; have HL252_5 := n2_; have BK234 := n3_; have BK235 := n4_; have HR252_5 := n5_; have HB := n6_; clear n0_ n1_ n2_ n3_ n4_ n5_ n6_; (try clear hb); (try clear hb2); (try clear hk); (try clear hi)))
        (try simp only [Act.put, zO, zP, zQ])
        go_cut [65] (fun v65 wc => ∃ (kq : Nat) (x65_35 : Bool), v65 = .bool x65_35 ∧ Aside0 (ostinatoref04_Simple.j1 kq x5_1 t254 x65_35 a0_0 a0_1 a0_2 a0_3 a0_4 l0_5 a0_6 a0_7 = some (r1, r2, r3, r4, r5, r6, r7, r8)) ∧ Aside0 (kq ≤ k1) ∧ Aside0 (Kd.N k27 27 wc w.heap.size (fun k_ => (P0_5_ k_ ∨ w.heap.size ≤ k_) ∧ k_ ≠ gb234 ∧ k_ ≠ gb235) (.slice (some ad252) x5_1.length co39) x5_1) ∧ Aside0 (Kd.V k27 27 wc w.heap.size (fun k_ => (P0_5_ k_ ∨ w.heap.size ≤ k_) ∧ some k_ ≠ ((.slice (some ad252) x5_1.length co39) : Value).ownBlock ∧ k_ ≠ gb234 ∧ k_ ≠ gb235) (.slice A0_5 l0_5.length c0_5) l0_5) ∧ Aside0 (wc.heap[gb234]? = some (.cells #[.int .i64 a0_0, .int .u64 a0_1, .int .u64 a0_2, .int .u64 a0_3, .int .u64 a0_4, (.slice A0_5 l0_5.length c0_5), .int .i64 a0_6, .int .i64 a0_7] 27 (0, 0))) ∧ Aside0 (wc.heap[gb235]? = some (.cells #[.int .i64 0, .int .u64 0, .int .u64 0, .int .u64 0, .int .u64 0, (.slice none 0 0), .int .i64 0, .int .i64 0] 27 (0, 0))) ∧ Aside0 (Kd.C k27 wc A252_5 ((rd_T27 x5_1 0).f2).length ((rd_T27 x5_1 0).f2)) ∧ Aside0 (Below w.heap.size w wc))
        case first =>
         have H := HC36.out
         clear HC36
         by_cases c41 : a0_7 = 0
         ·
          rw [if_pos c41] at H
          have c41b0 : (a0_7 == 0) = true := beq_iff_eq.mpr c41
          have c41b1 : (a0_7 != 0) = false := bne_eq_false_iff_eq.mpr c41
          clear c41
          (first | rw [c41b0] | (simp only [i64_w, i32_w]; rw [c41b0]) | skip)
          have H' := zM H
          clear H
          have hnb42 := NB234_235.out
          have hnc42 := NB235_234.out
          obtain ⟨hcz43_0, hcz43_1, hcz43_2, hcz43_3, hcz43_4, hcz43_5, hcz43_6, hcz43_7, hfz43_0, hfz43_1, hfz43_2, hfz43_3, hfz43_4, hfz43_5, hfz43_6, hfz43_7⟩ := blk8 BK234.out
          go_wp2
          go_meet
          case rel => exact ⟨_, (true), (by first | rfl | (simp; done) | (simp [*]; done)), H', ⟨by have := HK1.out; first | omega | exact Nat.le_refl _⟩, ⟨by (with_reducible repeat (first | apply Kd.N_alloc | apply Kd.N_drewN | apply Kd.N_drew)); exact HO_5.out⟩, ⟨by (with_reducible repeat (first | apply Kd.V_alloc | apply Kd.V_drewN | apply Kd.V_drew)); exact HO_235005.out⟩, ⟨by (with_reducible repeat (first | refine zH ?_ _ | refine zI ?_ | refine zG ?_ _)); exact BK234.out⟩, ⟨by (with_reducible repeat (first | refine zH ?_ _ | refine zI ?_ | refine zG ?_ _)); exact BK235.out⟩, ⟨by repeat (first | (with_reducible exact HR252_5.out) | (with_reducible refine Kd.C_alloc ?_ _) | (with_reducible refine Kd.C_drewN ?_ _) | (with_reducible refine Kd.C_drew ?_) | exact HR252_5.out)⟩, ⟨by repeat (first | (with_reducible first | exact HB.out | apply zE | apply zC | apply zD | refine zF ?_ GE234.out | refine zF ?_ GE235.out) | exact HB.out)⟩⟩
         ·
          rw [if_neg c41] at H
          have c41b0 : (a0_7 == 0) = false := beq_eq_false_iff_ne.mpr c41
          have c41b1 : (a0_7 != 0) = true := bne_iff_ne.mpr c41
          (first | rw [c41b0] | (simp only [i64_w, i32_w]; rw [c41b0]) | skip)
          by_cases c44 : ((rd_T27 x5_1 0).f0) = 0
          ·
           rw [if_pos c44] at H
           have c44b0 : (((rd_T27 x5_1 0).f0) == 0) = true := beq_iff_eq.mpr c44
           have c44b1 : (((rd_T27 x5_1 0).f0) != 0) = false := bne_eq_false_iff_eq.mpr c44
           clear c44
           have H' := zM H
           clear H
           have hnb45 := NB234_235.out
           have hnc45 := NB235_234.out
           obtain ⟨hcz46_0, hcz46_1, hcz46_2, hcz46_3, hcz46_4, hcz46_5, hcz46_6, hcz46_7, hfz46_0, hfz46_1, hfz46_2, hfz46_3, hfz46_4, hfz46_5, hfz46_6, hfz46_7⟩ := blk8 BK234.out
           have p255 : 0 ≤ (0 : Int) := (by omega)
           have q255 : 0 < (x5_1.length : Int) := of_decide_eq_true (by first | (with_reducible assumption) | assumption)
           obtain ⟨ad255, A255_5, c255_5, e255, hx255_0, hx255_1, hx255_2, hx255_3, hx255_4, hx255_5, hx255_6, hx255_7, hl255_5, hi255_5⟩ := at_T27 (Kd.N_reads' HO_5.out).2.2 0 p255 q255
           obtain rfl : ad252 = ad255 := (by injection e255)
           obtain ⟨ce255, hce255, hMe255, hcc255⟩ := Kd.N_get HO_5.out z27 0 p255 (by first | exact q255 | exact of_decide_eq_true (by first | (with_reducible assumption) | assumption) | (have e_ := (Kd.N_reads' HO_5.out).1; omega))
           obtain ⟨ua255_5, uc255_5, rfl, ul255_5, ge255_5⟩ := k27_openF hMe255
           have hv255_5 := hcc255 5 _ rfl
           rw [add_field _ _ 5 (by omega)] at hv255_5
           replace hv255_5 := Option.some.inj (hv255_5.symm.trans hx255_5)
           injection hv255_5 with hva_ hvn_ hvc_
           rw [hva_] at ge255_5
           rw [hvc_] at ul255_5
           have HL255_5 := zM (show Kd.V k27 27 _ w.heap.size _ _ ((rd_T27 x5_1 0).f2) from Kd.V_mk ul255_5 ge255_5)
           clear hva_ hvn_ hvc_ ge255_5 ul255_5 hcc255 hce255
           have qi255 : (0 < x5_1.length) = True := eq_true (by omega)
           (try rw [show ((0 : Int)).toNat = 0 from rfl] at hx255_0)
           (try rw [show 0 * 8 = 0 from rfl] at hx255_0)
           (try rw [Addr.add_zero'] at hx255_0)
           (try rw [show ((0 : Int)).toNat = 0 from rfl] at hx255_1)
           (try rw [show 0 * 8 = 0 from rfl] at hx255_1)
           (try rw [Addr.add_zero'] at hx255_1)
           (try rw [show ((0 : Int)).toNat = 0 from rfl] at hx255_2)
           (try rw [show 0 * 8 = 0 from rfl] at hx255_2)
           (try rw [Addr.add_zero'] at hx255_2)
           (try rw [show ((0 : Int)).toNat = 0 from rfl] at hx255_3)
           (try rw [show 0 * 8 = 0 from rfl] at hx255_3)
           (try rw [Addr.add_zero'] at hx255_3)
           (try rw [show ((0 : Int)).toNat = 0 from rfl] at hx255_4)
           (try rw [show 0 * 8 = 0 from rfl] at hx255_4)
           (try rw [Addr.add_zero'] at hx255_4)
           (try rw [show ((0 : Int)).toNat = 0 from rfl] at hx255_5)
           (try rw [show 0 * 8 = 0 from rfl] at hx255_5)
           (try rw [Addr.add_zero'] at hx255_5)
           (try rw [show ((0 : Int)).toNat = 0 from rfl] at hx255_6)
           (try rw [show 0 * 8 = 0 from rfl] at hx255_6)
           (try rw [Addr.add_zero'] at hx255_6)
           (try rw [show ((0 : Int)).toNat = 0 from rfl] at hx255_7)
           (try rw [show 0 * 8 = 0 from rfl] at hx255_7)
           (try rw [Addr.add_zero'] at hx255_7)
           have HR255_5 := zM hi255_5
           have HC255_5 := zM hl255_5
           clear hi255_5 hl255_5
           replace p255 := eq_true p255
           replace q255 := eq_true q255
           go_wp2
           go_meet
           case rel => exact ⟨_, (true), (by first | rfl | (simp; done) | (simp [*]; done)), H', ⟨by have := HK1.out; first | omega | exact Nat.le_refl _⟩, ⟨by (with_reducible repeat (first | apply Kd.N_alloc | apply Kd.N_drewN | apply Kd.N_drew)); exact HO_5.out⟩, ⟨by (with_reducible repeat (first | apply Kd.V_alloc | apply Kd.V_drewN | apply Kd.V_drew)); exact HO_235005.out⟩, ⟨by (with_reducible repeat (first | refine zH ?_ _ | refine zI ?_ | refine zG ?_ _)); exact BK234.out⟩, ⟨by (with_reducible repeat (first | refine zH ?_ _ | refine zI ?_ | refine zG ?_ _)); exact BK235.out⟩, ⟨by repeat (first | (with_reducible exact HR252_5.out) | (with_reducible refine Kd.C_alloc ?_ _) | (with_reducible refine Kd.C_drewN ?_ _) | (with_reducible refine Kd.C_drew ?_) | exact HR252_5.out)⟩, ⟨by repeat (first | (with_reducible first | exact HB.out | apply zE | apply zC | apply zD | refine zF ?_ GE234.out | refine zF ?_ GE235.out) | exact HB.out)⟩⟩
          ·
           rw [if_neg c44] at H
           have c44b0 : (((rd_T27 x5_1 0).f0) == 0) = false := beq_eq_false_iff_ne.mpr c44
           have c44b1 : (((rd_T27 x5_1 0).f0) != 0) = true := bne_iff_ne.mpr c44
           have H' := zM H
           clear H
           have hnb47 := NB234_235.out
           have hnc47 := NB235_234.out
           obtain ⟨hcz48_0, hcz48_1, hcz48_2, hcz48_3, hcz48_4, hcz48_5, hcz48_6, hcz48_7, hfz48_0, hfz48_1, hfz48_2, hfz48_3, hfz48_4, hfz48_5, hfz48_6, hfz48_7⟩ := blk8 BK234.out
           have p255 : 0 ≤ (0 : Int) := (by omega)
           have q255 : 0 < (x5_1.length : Int) := of_decide_eq_true (by first | (with_reducible assumption) | assumption)
           obtain ⟨ad255, A255_5, c255_5, e255, hx255_0, hx255_1, hx255_2, hx255_3, hx255_4, hx255_5, hx255_6, hx255_7, hl255_5, hi255_5⟩ := at_T27 (Kd.N_reads' HO_5.out).2.2 0 p255 q255
           obtain rfl : ad252 = ad255 := (by injection e255)
           obtain ⟨ce255, hce255, hMe255, hcc255⟩ := Kd.N_get HO_5.out z27 0 p255 (by first | exact q255 | exact of_decide_eq_true (by first | (with_reducible assumption) | assumption) | (have e_ := (Kd.N_reads' HO_5.out).1; omega))
           obtain ⟨ua255_5, uc255_5, rfl, ul255_5, ge255_5⟩ := k27_openF hMe255
           have hv255_5 := hcc255 5 _ rfl
           rw [add_field _ _ 5 (by omega)] at hv255_5
           replace hv255_5 := Option.some.inj (hv255_5.symm.trans hx255_5)
           injection hv255_5 with hva_ hvn_ hvc_
           rw [hva_] at ge255_5
           rw [hvc_] at ul255_5
           have HL255_5 := zM (show Kd.V k27 27 _ w.heap.size _ _ ((rd_T27 x5_1 0).f2) from Kd.V_mk ul255_5 ge255_5)
           clear hva_ hvn_ hvc_ ge255_5 ul255_5 hcc255 hce255
           have qi255 : (0 < x5_1.length) = True := eq_true (by omega)
           (try rw [show ((0 : Int)).toNat = 0 from rfl] at hx255_0)
           (try rw [show 0 * 8 = 0 from rfl] at hx255_0)
           (try rw [Addr.add_zero'] at hx255_0)
           (try rw [show ((0 : Int)).toNat = 0 from rfl] at hx255_1)
           (try rw [show 0 * 8 = 0 from rfl] at hx255_1)
           (try rw [Addr.add_zero'] at hx255_1)
           (try rw [show ((0 : Int)).toNat = 0 from rfl] at hx255_2)
           (try rw [show 0 * 8 = 0 from rfl] at hx255_2)
           (try rw [Addr.add_zero'] at hx255_2)
           (try rw [show ((0 : Int)).toNat = 0 from rfl] at hx255_3)
           (try rw [show 0 * 8 = 0 from rfl] at hx255_3)
           (try rw [Addr.add_zero'] at hx255_3)
           (try rw [show ((0 : Int)).toNat = 0 from rfl] at hx255_4)
           (try rw [show 0 * 8 = 0 from rfl] at hx255_4)
           (try rw [Addr.add_zero'] at hx255_4)
           (try rw [show ((0 : Int)).toNat = 0 from rfl] at hx255_5)
           (try rw [show 0 * 8 = 0 from rfl] at hx255_5)
           (try rw [Addr.add_zero'] at hx255_5)
           (try rw [show ((0 : Int)).toNat = 0 from rfl] at hx255_6)
           (try rw [show 0 * 8 = 0 from rfl] at hx255_6)
           (try rw [Addr.add_zero'] at hx255_6)
           (try rw [show ((0 : Int)).toNat = 0 from rfl] at hx255_7)
           (try rw [show 0 * 8 = 0 from rfl] at hx255_7)
           (try rw [Addr.add_zero'] at hx255_7)
           have HR255_5 := zM hi255_5
           have HC255_5 := zM hl255_5
           clear hi255_5 hl255_5
           replace p255 := eq_true p255
           replace q255 := eq_true q255
           go_wp2
           go_meet
           case rel => exact ⟨_, (t253), (by first | rfl | (simp; done) | (simp [*]; done)), H', ⟨by have := HK1.out; first | omega | exact Nat.le_refl _⟩, ⟨by (with_reducible repeat (first | apply Kd.N_alloc | apply Kd.N_drewN | apply Kd.N_drew)); exact HO_5.out⟩, ⟨by (with_reducible repeat (first | apply Kd.V_alloc | apply Kd.V_drewN | apply Kd.V_drew)); exact HO_235005.out⟩, ⟨by (with_reducible repeat (first | refine zH ?_ _ | refine zI ?_ | refine zG ?_ _)); exact BK234.out⟩, ⟨by (with_reducible repeat (first | refine zH ?_ _ | refine zI ?_ | refine zG ?_ _)); exact BK235.out⟩, ⟨by repeat (first | (with_reducible exact HR252_5.out) | (with_reducible refine Kd.C_alloc ?_ _) | (with_reducible refine Kd.C_drewN ?_ _) | (with_reducible refine Kd.C_drew ?_) | exact HR252_5.out)⟩, ⟨by repeat (first | (with_reducible first | exact HB.out | apply zE | apply zC | apply zD | refine zF ?_ GE234.out | refine zF ?_ GE235.out) | exact HB.out)⟩⟩
        case rest =>
         clear HC36
         (try clear c1); (try clear c2); (try clear p2 p2); (try clear q2); (try clear hx2); (try clear qi2); (try clear c3); (try clear c4); (try clear c6); (try clear p6); (try clear c10); (try clear c10b0); (try clear c13); (try clear c20); (try clear c23); (try clear p23); (try clear q23); (try clear hx23); (try clear c24); (try clear c24b0); (try clear c25); (try clear c25b0); (try clear p25); (try clear q25); (try clear hx25); (try clear qi25); (try clear c27); (try clear c28); (try clear c33); (try clear c33b0); (try clear c33b1); (try clear c34); (try clear c34b0); (try clear c34b1); (try clear c36); (try clear c37); (try clear c41); (try clear c41b0); (try clear c41b1); (try clear c42); (try clear c44); (try clear c44b0); (try clear c44b1); (try clear c45); (try clear c47); (try clear hcz14_0 hcz14_1 hcz14_2 hcz14_3 hcz14_4 hcz14_5 hcz14_6 hcz14_7); (try clear hcz16_0 hcz16_1 hcz16_2 hcz16_3 hcz16_4 hcz16_5 hcz16_6 hcz16_7); (try clear hcz17_0 hcz17_1 hcz17_2 hcz17_3 hcz17_4 hcz17_5 hcz17_6 hcz17_7); (try clear hcz21_0 hcz21_1 hcz21_2 hcz21_3 hcz21_4 hcz21_5 hcz21_6 hcz21_7); (try clear hcz23_0 hcz23_1 hcz23_2 hcz23_3 hcz23_4 hcz23_5 hcz23_6 hcz23_7); (try clear hcz29_0 hcz29_1 hcz29_2 hcz29_3 hcz29_4 hcz29_5 hcz29_6 hcz29_7); (try clear hcz38_0 hcz38_1 hcz38_2 hcz38_3 hcz38_4 hcz38_5 hcz38_6 hcz38_7); (try clear hcz43_0 hcz43_1 hcz43_2 hcz43_3 hcz43_4 hcz43_5 hcz43_6 hcz43_7); (try clear hcz46_0 hcz46_1 hcz46_2 hcz46_3 hcz46_4 hcz46_5 hcz46_6 hcz46_7); (try clear hcz48_0 hcz48_1 hcz48_2 hcz48_3 hcz48_4 hcz48_5 hcz48_6 hcz48_7); (try clear hcz7_0 hcz7_1 hcz7_2 hcz7_3 hcz7_4 hcz7_5 hcz7_6 hcz7_7); (try clear hcz9_0 hcz9_1 hcz9_2 hcz9_3 hcz9_4 hcz9_5 hcz9_6 hcz9_7); (try clear hfz14_0 hfz14_1 hfz14_2 hfz14_3 hfz14_4 hfz14_5 hfz14_6 hfz14_7); (try clear hfz16_0 hfz16_1 hfz16_2 hfz16_3 hfz16_4 hfz16_5 hfz16_6 hfz16_7); (try clear hfz17_0 hfz17_1 hfz17_2 hfz17_3 hfz17_4 hfz17_5 hfz17_6 hfz17_7); (try clear hfz21_0 hfz21_1 hfz21_2 hfz21_3 hfz21_4 hfz21_5 hfz21_6 hfz21_7); (try clear hfz23_0 hfz23_1 hfz23_2 hfz23_3 hfz23_4 hfz23_5 hfz23_6 hfz23_7); (try clear hfz29_0 hfz29_1 hfz29_2 hfz29_3 hfz29_4 hfz29_5 hfz29_6 hfz29_7); (try clear hfz38_0 hfz38_1 hfz38_2 hfz38_3 hfz38_4 hfz38_5 hfz38_6 hfz38_7); (try clear hfz43_0 hfz43_1 hfz43_2 hfz43_3 hfz43_4 hfz43_5 hfz43_6 hfz43_7); (try clear hfz46_0 hfz46_1 hfz46_2 hfz46_3 hfz46_4 hfz46_5 hfz46_6 hfz46_7); (try clear hfz48_0 hfz48_1 hfz48_2 hfz48_3 hfz48_4 hfz48_5 hfz48_6 hfz48_7); (try clear hfz7_0 hfz7_1 hfz7_2 hfz7_3 hfz7_4 hfz7_5 hfz7_6 hfz7_7); (try clear hfz9_0 hfz9_1 hfz9_2 hfz9_3 hfz9_4 hfz9_5 hfz9_6 hfz9_7); (try clear hx238_0 hx238_1 hx238_2 hx238_3 hx238_4 hx238_5 hx238_6 hx238_7); (try clear hx252_0 hx252_1 hx252_2 hx252_3 hx252_4 hx252_5 hx252_6 hx252_7); (try clear hx255_0 hx255_1 hx255_2 hx255_3 hx255_4 hx255_5 hx255_6 hx255_7); (try clear p238); (try clear p252); (try clear p255); (try clear q238); (try clear q252); (try clear q255)
         obtain ⟨kq, x65_35, rfl, HA, HJ35, HO_5, HO_235005, BK234, BK235, HR252_5, HB⟩ := hcut
         cases kq with
         | zero => exact absurd HA.out (by simp [ostinatoref04_Simple.j1])
         | succ kj35 =>
          have H := HA.out
          clear HA
          simp only [ostinatoref04_Simple.j1] at H
          by_cases c49 : x65_35 = true
          ·
           subst c49
           have H1 : (some (0, 0, 0, 0, 0, ([] : List (S27)), 0, 0)) = some (r1, r2, r3, r4, r5, r6, r7, r8) := by rw [if_pos rfl] at H; exact H
           clear H
           have H := H1
           clear H1
           simp only [Option.some.injEq, Prod.mk.injEq] at H
           obtain ⟨rfl, rfl, rfl, rfl, rfl, rfl, rfl, rfl⟩ := H
           have hnb50 := NB235_234.out
           have hnc50 := NB234_235.out
           obtain ⟨hcz51_0, hcz51_1, hcz51_2, hcz51_3, hcz51_4, hcz51_5, hcz51_6, hcz51_7, hfz51_0, hfz51_1, hfz51_2, hfz51_3, hfz51_4, hfz51_5, hfz51_6, hfz51_7⟩ := blk8 BK235.out
           go_wp2
           refine bodyPost_ret (results_cell_row rfl _ _ gb235 27 #[.int .i64 0, .int .u64 0, .int .u64 0, .int .u64 0, .int .u64 0, .slice none 0 0, .int .i64 0, .int .i64 0] (0, 0) _ rfl (by (with_reducible repeat (first | refine zH ?_ _ | refine zI ?_ | refine zG ?_ _)); refine blk_put (cs := #[.int .i64 0, .int .u64 0, .int .u64 0, .int .u64 0, .int .u64 0, .slice none 0 0, .int .i64 0, .int .i64 0]) ?_ 7 _ rfl; (with_reducible repeat (first | refine zH ?_ _ | refine zI ?_ | refine zG ?_ _)); refine blk_put (cs := #[.int .i64 0, .int .u64 0, .int .u64 0, .int .u64 0, .int .u64 0, .slice none 0 0, .int .i64 0, .int .i64 0]) ?_ 6 _ rfl; (with_reducible repeat (first | refine zH ?_ _ | refine zI ?_ | refine zG ?_ _)); refine blk_put (cs := #[.int .i64 0, .int .u64 0, .int .u64 0, .int .u64 0, .int .u64 0, .slice none 0 0, .int .i64 0, .int .i64 0]) ?_ 5 _ rfl; (with_reducible repeat (first | refine zH ?_ _ | refine zI ?_ | refine zG ?_ _)); refine blk_put (cs := #[.int .i64 0, .int .u64 0, .int .u64 0, .int .u64 0, .int .u64 0, .slice none 0 0, .int .i64 0, .int .i64 0]) ?_ 4 _ rfl; (with_reducible repeat (first | refine zH ?_ _ | refine zI ?_ | refine zG ?_ _)); refine blk_put (cs := #[.int .i64 0, .int .u64 0, .int .u64 0, .int .u64 0, .int .u64 0, .slice none 0 0, .int .i64 0, .int .i64 0]) ?_ 3 _ rfl; (with_reducible repeat (first | refine zH ?_ _ | refine zI ?_ | refine zG ?_ _)); refine blk_put (cs := #[.int .i64 0, .int .u64 0, .int .u64 0, .int .u64 0, .int .u64 0, .slice none 0 0, .int .i64 0, .int .i64 0]) ?_ 2 _ rfl; (with_reducible repeat (first | refine zH ?_ _ | refine zI ?_ | refine zG ?_ _)); refine blk_put (cs := #[.int .i64 0, .int .u64 0, .int .u64 0, .int .u64 0, .int .u64 0, .slice none 0 0, .int .i64 0, .int .i64 0]) ?_ 1 _ rfl; (with_reducible repeat (first | refine zH ?_ _ | refine zI ?_ | refine zG ?_ _)); refine blk_put (cs := #[.int .i64 0, .int .u64 0, .int .u64 0, .int .u64 0, .int .u64 0, .slice none 0 0, .int .i64 0, .int .i64 0]) ?_ 0 _ rfl; (with_reducible repeat (first | refine zH ?_ _ | refine zI ?_ | refine zG ?_ _)); exact BK235.out) Try.underlying27 rfl (by kernel_rfl)) rfl ?_
           exact ⟨_, by first | rfl | (simp [errW_none, errW_some] <;> rfl) | (simp [*, errW_none, errW_some] <;> rfl), Kd.V_nil _ _ _ _ _, by repeat (first | (with_reducible first | exact HB.out | apply zE | apply zC | apply zD | refine zF ?_ GE234.out | refine zF ?_ GE235.out) | exact HB.out)⟩
          ·
           replace c49 := Bool.eq_false_iff.mpr c49
           subst c49
           have H1 : (if a0_6 = 1 then (ostinatoref04_Simple.j2 kj35 x5_1 t254 (a0_7 == 1) a0_0 a0_1 a0_2 a0_3 a0_4 l0_5 a0_6 a0_7) else (ostinatoref04_Simple.j2 kj35 x5_1 t254 false a0_0 a0_1 a0_2 a0_3 a0_4 l0_5 a0_6 a0_7)) = some (r1, r2, r3, r4, r5, r6, r7, r8) := by rw [if_neg (show ¬ (false = true) by decide)] at H; exact H
           clear H
           have H := H1
           clear H1
           have HC52 := zM H
           clear H
           go_upto_region 15 with (fail)
           go_cut [74] (fun v74 wc => ∃ (kq : Nat) (x74_51 : Bool), v74 = .bool x74_51 ∧ Aside0 (ostinatoref04_Simple.j2 kq x5_1 t254 x74_51 a0_0 a0_1 a0_2 a0_3 a0_4 l0_5 a0_6 a0_7 = some (r1, r2, r3, r4, r5, r6, r7, r8)) ∧ Aside0 (kq ≤ kj35) ∧ Aside0 (Kd.N k27 27 wc w.heap.size (fun k_ => (P0_5_ k_ ∨ w.heap.size ≤ k_) ∧ k_ ≠ gb234 ∧ k_ ≠ gb235) (.slice (some ad252) x5_1.length co39) x5_1) ∧ Aside0 (Kd.V k27 27 wc w.heap.size (fun k_ => (P0_5_ k_ ∨ w.heap.size ≤ k_) ∧ some k_ ≠ ((.slice (some ad252) x5_1.length co39) : Value).ownBlock ∧ k_ ≠ gb234 ∧ k_ ≠ gb235) (.slice A0_5 l0_5.length c0_5) l0_5) ∧ Aside0 (wc.heap[gb234]? = some (.cells #[.int .i64 a0_0, .int .u64 a0_1, .int .u64 a0_2, .int .u64 a0_3, .int .u64 a0_4, (.slice A0_5 l0_5.length c0_5), .int .i64 a0_6, .int .i64 a0_7] 27 (0, 0))) ∧ Aside0 (wc.heap[gb235]? = some (.cells #[.int .i64 0, .int .u64 0, .int .u64 0, .int .u64 0, .int .u64 0, (.slice none 0 0), .int .i64 0, .int .i64 0] 27 (0, 0))) ∧ Aside0 (Kd.C k27 wc A252_5 ((rd_T27 x5_1 0).f2).length ((rd_T27 x5_1 0).f2)) ∧ Aside0 (Below w.heap.size w wc))
           case first =>
            have H := HC52.out
            clear HC52
            by_cases c53 : a0_6 = 1
            ·
             rw [if_pos c53] at H
             have c53b0 : (a0_6 == 1) = true := beq_iff_eq.mpr c53
             have c53b1 : (a0_6 != 1) = false := bne_eq_false_iff_eq.mpr c53
             clear c53
             (first | rw [c53b0] | (simp only [i64_w, i32_w]; rw [c53b0]) | skip)
             have H' := zM H
             clear H
             have hnb54 := NB234_235.out
             have hnc54 := NB235_234.out
             obtain ⟨hcz55_0, hcz55_1, hcz55_2, hcz55_3, hcz55_4, hcz55_5, hcz55_6, hcz55_7, hfz55_0, hfz55_1, hfz55_2, hfz55_3, hfz55_4, hfz55_5, hfz55_6, hfz55_7⟩ := blk8 BK234.out
             go_wp2
             go_meet
             case rel => exact ⟨_, ((a0_7 == 1)), (by first | rfl | (simp; done) | (simp [*]; done)), H', ⟨by have := HK1.out; have := HJ35.out; first | omega | exact Nat.le_refl _⟩, ⟨by (with_reducible repeat (first | apply Kd.N_alloc | apply Kd.N_drewN | apply Kd.N_drew)); exact HO_5.out⟩, ⟨by (with_reducible repeat (first | apply Kd.V_alloc | apply Kd.V_drewN | apply Kd.V_drew)); exact HO_235005.out⟩, ⟨by (with_reducible repeat (first | refine zH ?_ _ | refine zI ?_ | refine zG ?_ _)); exact BK234.out⟩, ⟨by (with_reducible repeat (first | refine zH ?_ _ | refine zI ?_ | refine zG ?_ _)); exact BK235.out⟩, ⟨by repeat (first | (with_reducible exact HR252_5.out) | (with_reducible refine Kd.C_alloc ?_ _) | (with_reducible refine Kd.C_drewN ?_ _) | (with_reducible refine Kd.C_drew ?_) | exact HR252_5.out)⟩, ⟨by repeat (first | (with_reducible first | exact HB.out | apply zE | apply zC | apply zD | refine zF ?_ GE234.out | refine zF ?_ GE235.out) | exact HB.out)⟩⟩
            ·
             rw [if_neg c53] at H
             have c53b0 : (a0_6 == 1) = false := beq_eq_false_iff_ne.mpr c53
             have c53b1 : (a0_6 != 1) = true := bne_iff_ne.mpr c53
             (first | rw [c53b0] | (simp only [i64_w, i32_w]; rw [c53b0]) | skip)
             have H' := zM H
             clear H
             have hnb56 := NB234_235.out
             have hnc56 := NB235_234.out
             obtain ⟨hcz57_0, hcz57_1, hcz57_2, hcz57_3, hcz57_4, hcz57_5, hcz57_6, hcz57_7, hfz57_0, hfz57_1, hfz57_2, hfz57_3, hfz57_4, hfz57_5, hfz57_6, hfz57_7⟩ := blk8 BK234.out
             go_wp2
             go_meet
             case rel => exact ⟨_, (false), (by first | rfl | (simp; done) | (simp [*]; done)), H', ⟨by have := HK1.out; have := HJ35.out; first | omega | exact Nat.le_refl _⟩, ⟨by (with_reducible repeat (first | apply Kd.N_alloc | apply Kd.N_drewN | apply Kd.N_drew)); exact HO_5.out⟩, ⟨by (with_reducible repeat (first | apply Kd.V_alloc | apply Kd.V_drewN | apply Kd.V_drew)); exact HO_235005.out⟩, ⟨by (with_reducible repeat (first | refine zH ?_ _ | refine zI ?_ | refine zG ?_ _)); exact BK234.out⟩, ⟨by (with_reducible repeat (first | refine zH ?_ _ | refine zI ?_ | refine zG ?_ _)); exact BK235.out⟩, ⟨by repeat (first | (with_reducible exact HR252_5.out) | (with_reducible refine Kd.C_alloc ?_ _) | (with_reducible refine Kd.C_drewN ?_ _) | (with_reducible refine Kd.C_drew ?_) | exact HR252_5.out)⟩, ⟨by repeat (first | (with_reducible first | exact HB.out | apply zE | apply zC | apply zD | refine zF ?_ GE234.out | refine zF ?_ GE235.out) | exact HB.out)⟩⟩
           case rest =>
            clear HC52
            (try clear c1); (try clear c2); (try clear p2 p2); (try clear q2 q2); (try clear hx2); (try clear qi2); (try clear c3); (try clear c4); (try clear c5); (try clear c6); (try clear p6 p6); (try clear c10); (try clear c10b0); (try clear c13); (try clear c20); (try clear c23); (try clear p23 p23); (try clear q23 q23); (try clear hx23); (try clear c24); (try clear c24b0); (try clear c25); (try clear c25b0); (try clear p25 p25); (try clear q25 q25); (try clear hx25); (try clear qi25); (try clear c27); (try clear c28); (try clear c33); (try clear c33b0); (try clear c33b1); (try clear c34); (try clear c34b0); (try clear c34b1); (try clear c36); (try clear c37); (try clear c41); (try clear c41b0); (try clear c41b1); (try clear c42); (try clear c44); (try clear c44b0); (try clear c44b1); (try clear c45); (try clear c47); (try clear c49); (try clear c50); (try clear c53); (try clear c53b0); (try clear c53b1); (try clear c54); (try clear c56); (try clear hcz14_0 hcz14_1 hcz14_2 hcz14_3 hcz14_4 hcz14_5 hcz14_6 hcz14_7); (try clear hcz16_0 hcz16_1 hcz16_2 hcz16_3 hcz16_4 hcz16_5 hcz16_6 hcz16_7); (try clear hcz17_0 hcz17_1 hcz17_2 hcz17_3 hcz17_4 hcz17_5 hcz17_6 hcz17_7); (try clear hcz21_0 hcz21_1 hcz21_2 hcz21_3 hcz21_4 hcz21_5 hcz21_6 hcz21_7); (try clear hcz23_0 hcz23_1 hcz23_2 hcz23_3 hcz23_4 hcz23_5 hcz23_6 hcz23_7); (try clear hcz29_0 hcz29_1 hcz29_2 hcz29_3 hcz29_4 hcz29_5 hcz29_6 hcz29_7); (try clear hcz38_0 hcz38_1 hcz38_2 hcz38_3 hcz38_4 hcz38_5 hcz38_6 hcz38_7); (try clear hcz43_0 hcz43_1 hcz43_2 hcz43_3 hcz43_4 hcz43_5 hcz43_6 hcz43_7); (try clear hcz46_0 hcz46_1 hcz46_2 hcz46_3 hcz46_4 hcz46_5 hcz46_6 hcz46_7); (try clear hcz48_0 hcz48_1 hcz48_2 hcz48_3 hcz48_4 hcz48_5 hcz48_6 hcz48_7); (try clear hcz51_0 hcz51_1 hcz51_2 hcz51_3 hcz51_4 hcz51_5 hcz51_6 hcz51_7); (try clear hcz55_0 hcz55_1 hcz55_2 hcz55_3 hcz55_4 hcz55_5 hcz55_6 hcz55_7); (try clear hcz57_0 hcz57_1 hcz57_2 hcz57_3 hcz57_4 hcz57_5 hcz57_6 hcz57_7); (try clear hcz7_0 hcz7_1 hcz7_2 hcz7_3 hcz7_4 hcz7_5 hcz7_6 hcz7_7); (try clear hcz9_0 hcz9_1 hcz9_2 hcz9_3 hcz9_4 hcz9_5 hcz9_6 hcz9_7); (try clear hfz14_0 hfz14_1 hfz14_2 hfz14_3 hfz14_4 hfz14_5 hfz14_6 hfz14_7); (try clear hfz16_0 hfz16_1 hfz16_2 hfz16_3 hfz16_4 hfz16_5 hfz16_6 hfz16_7); (try clear hfz17_0 hfz17_1 hfz17_2 hfz17_3 hfz17_4 hfz17_5 hfz17_6 hfz17_7); (try clear hfz21_0 hfz21_1 hfz21_2 hfz21_3 hfz21_4 hfz21_5 hfz21_6 hfz21_7); (try clear hfz23_0 hfz23_1 hfz23_2 hfz23_3 hfz23_4 hfz23_5 hfz23_6 hfz23_7); (try clear hfz29_0 hfz29_1 hfz29_2 hfz29_3 hfz29_4 hfz29_5 hfz29_6 hfz29_7); (try clear hfz38_0 hfz38_1 hfz38_2 hfz38_3 hfz38_4 hfz38_5 hfz38_6 hfz38_7); (try clear hfz43_0 hfz43_1 hfz43_2 hfz43_3 hfz43_4 hfz43_5 hfz43_6 hfz43_7); (try clear hfz46_0 hfz46_1 hfz46_2 hfz46_3 hfz46_4 hfz46_5 hfz46_6 hfz46_7); (try clear hfz48_0 hfz48_1 hfz48_2 hfz48_3 hfz48_4 hfz48_5 hfz48_6 hfz48_7); (try clear hfz51_0 hfz51_1 hfz51_2 hfz51_3 hfz51_4 hfz51_5 hfz51_6 hfz51_7); (try clear hfz55_0 hfz55_1 hfz55_2 hfz55_3 hfz55_4 hfz55_5 hfz55_6 hfz55_7); (try clear hfz57_0 hfz57_1 hfz57_2 hfz57_3 hfz57_4 hfz57_5 hfz57_6 hfz57_7); (try clear hfz7_0 hfz7_1 hfz7_2 hfz7_3 hfz7_4 hfz7_5 hfz7_6 hfz7_7); (try clear hfz9_0 hfz9_1 hfz9_2 hfz9_3 hfz9_4 hfz9_5 hfz9_6 hfz9_7); (try clear hx238_0 hx238_1 hx238_2 hx238_3 hx238_4 hx238_5 hx238_6 hx238_7); (try clear hx252_0 hx252_1 hx252_2 hx252_3 hx252_4 hx252_5 hx252_6 hx252_7); (try clear hx255_0 hx255_1 hx255_2 hx255_3 hx255_4 hx255_5 hx255_6 hx255_7); (try clear p238); (try clear p252); (try clear p255); (try clear q238); (try clear q252); (try clear q255)
            obtain ⟨kq, x74_51, rfl, HA, HJ51, HO_5, HO_235005, BK234, BK235, HR252_5, HB⟩ := hcut
            cases kq with
            | zero => exact absurd HA.out (by simp [ostinatoref04_Simple.j2])
            | succ kj51 =>
             have H := HA.out
             clear HA
             simp only [ostinatoref04_Simple.j2] at H
             by_cases c58 : x74_51 = true
             ·
              subst c58
              have H1 : (if 0 < (x5_1.length : Int) then (some ((rd_T27 x5_1 0).f0, (rd_T27 x5_1 0).f1.f0, (rd_T27 x5_1 0).f1.f1, (rd_T27 x5_1 0).f1.f2, (rd_T27 x5_1 0).f1.f3, (rd_T27 x5_1 0).f2, (rd_T27 x5_1 0).f3, (rd_T27 x5_1 0).f4)) else (none)) = some (r1, r2, r3, r4, r5, r6, r7, r8) := by rw [if_pos rfl] at H; exact H
              clear H
              have H := H1
              clear H1
              by_cases c59 : 0 < (x5_1.length : Int)
              ·
               rw [if_pos c59] at H
               have c59b0 : decide (0 < (x5_1.length : Int)) = true := decide_eq_true c59
               have c59b1 : decide (0 < x5_1.length) = true := decide_eq_true (by omega)
               clear c59
               simp only [Option.some.injEq, Prod.mk.injEq] at H
               obtain ⟨rfl, rfl, rfl, rfl, rfl, rfl, rfl, rfl⟩ := H
               have p256 : 0 ≤ (0 : Int) := (by omega)
               have q256 : 0 < (x5_1.length : Int) := of_decide_eq_true (by first | (with_reducible assumption) | assumption)
               obtain ⟨ad256, A256_5, c256_5, e256, hx256_0, hx256_1, hx256_2, hx256_3, hx256_4, hx256_5, hx256_6, hx256_7, hl256_5, hi256_5⟩ := at_T27 (Kd.N_reads' HO_5.out).2.2 0 p256 q256
               obtain rfl : ad252 = ad256 := (by injection e256)
               obtain ⟨ce256, hce256, hMe256, hcc256⟩ := Kd.N_get HO_5.out z27 0 p256 (by first | exact q256 | exact of_decide_eq_true (by first | (with_reducible assumption) | assumption) | (have e_ := (Kd.N_reads' HO_5.out).1; omega))
               obtain ⟨ua256_5, uc256_5, rfl, ul256_5, ge256_5⟩ := k27_openF hMe256
               have hv256_5 := hcc256 5 _ rfl
               rw [add_field _ _ 5 (by omega)] at hv256_5
               replace hv256_5 := Option.some.inj (hv256_5.symm.trans hx256_5)
               injection hv256_5 with hva_ hvn_ hvc_
               rw [hva_] at ge256_5
               rw [hvc_] at ul256_5
               have HL256_5 := zM (show Kd.V k27 27 _ w.heap.size _ _ ((rd_T27 x5_1 0).f2) from Kd.V_mk ul256_5 ge256_5)
               clear hva_ hvn_ hvc_ ge256_5 ul256_5 hcc256 hce256
               have qi256 : (0 < x5_1.length) = True := eq_true (by omega)
               (try rw [show ((0 : Int)).toNat = 0 from rfl] at hx256_0)
               (try rw [show 0 * 8 = 0 from rfl] at hx256_0)
               (try rw [Addr.add_zero'] at hx256_0)
               (try rw [show ((0 : Int)).toNat = 0 from rfl] at hx256_1)
               (try rw [show 0 * 8 = 0 from rfl] at hx256_1)
               (try rw [Addr.add_zero'] at hx256_1)
               (try rw [show ((0 : Int)).toNat = 0 from rfl] at hx256_2)
               (try rw [show 0 * 8 = 0 from rfl] at hx256_2)
               (try rw [Addr.add_zero'] at hx256_2)
               (try rw [show ((0 : Int)).toNat = 0 from rfl] at hx256_3)
               (try rw [show 0 * 8 = 0 from rfl] at hx256_3)
               (try rw [Addr.add_zero'] at hx256_3)
               (try rw [show ((0 : Int)).toNat = 0 from rfl] at hx256_4)
               (try rw [show 0 * 8 = 0 from rfl] at hx256_4)
               (try rw [Addr.add_zero'] at hx256_4)
               (try rw [show ((0 : Int)).toNat = 0 from rfl] at hx256_5)
               (try rw [show 0 * 8 = 0 from rfl] at hx256_5)
               (try rw [Addr.add_zero'] at hx256_5)
               (try rw [show ((0 : Int)).toNat = 0 from rfl] at hx256_6)
               (try rw [show 0 * 8 = 0 from rfl] at hx256_6)
               (try rw [Addr.add_zero'] at hx256_6)
               (try rw [show ((0 : Int)).toNat = 0 from rfl] at hx256_7)
               (try rw [show 0 * 8 = 0 from rfl] at hx256_7)
               (try rw [Addr.add_zero'] at hx256_7)
               have HR256_5 := zM hi256_5
               have HC256_5 := zM hl256_5
               clear hi256_5 hl256_5
               replace p256 := eq_true p256
               replace q256 := eq_true q256
               have hnb60 := NB235_234.out
               have hnc60 := NB234_235.out
               obtain ⟨hcz61_0, hcz61_1, hcz61_2, hcz61_3, hcz61_4, hcz61_5, hcz61_6, hcz61_7, hfz61_0, hfz61_1, hfz61_2, hfz61_3, hfz61_4, hfz61_5, hfz61_6, hfz61_7⟩ := blk8 BK235.out
               go_wp2
               refine bodyPost_ret (results_cell_row rfl _ _ gb235 27 #[.int .i64 ((rd_T27 x5_1 0).f0), .int .u64 ((rd_T27 x5_1 0).f1.f0), .int .u64 ((rd_T27 x5_1 0).f1.f1), .int .u64 ((rd_T27 x5_1 0).f1.f2), .int .u64 ((rd_T27 x5_1 0).f1.f3), .slice A256_5 ((rd_T27 x5_1 0).f2).length c256_5, .int .i64 ((rd_T27 x5_1 0).f3), .int .i64 ((rd_T27 x5_1 0).f4)] (0, 0) _ rfl (by (with_reducible repeat (first | refine zH ?_ _ | refine zI ?_ | refine zG ?_ _)); refine blk_put (cs := #[.int .i64 ((rd_T27 x5_1 0).f0), .int .u64 ((rd_T27 x5_1 0).f1.f0), .int .u64 ((rd_T27 x5_1 0).f1.f1), .int .u64 ((rd_T27 x5_1 0).f1.f2), .int .u64 ((rd_T27 x5_1 0).f1.f3), .slice A256_5 ((rd_T27 x5_1 0).f2).length c256_5, .int .i64 ((rd_T27 x5_1 0).f3), .int .i64 0]) ?_ 7 _ rfl; (with_reducible repeat (first | refine zH ?_ _ | refine zI ?_ | refine zG ?_ _)); refine blk_put (cs := #[.int .i64 ((rd_T27 x5_1 0).f0), .int .u64 ((rd_T27 x5_1 0).f1.f0), .int .u64 ((rd_T27 x5_1 0).f1.f1), .int .u64 ((rd_T27 x5_1 0).f1.f2), .int .u64 ((rd_T27 x5_1 0).f1.f3), .slice A256_5 ((rd_T27 x5_1 0).f2).length c256_5, .int .i64 0, .int .i64 0]) ?_ 6 _ rfl; (with_reducible repeat (first | refine zH ?_ _ | refine zI ?_ | refine zG ?_ _)); refine blk_put (cs := #[.int .i64 ((rd_T27 x5_1 0).f0), .int .u64 ((rd_T27 x5_1 0).f1.f0), .int .u64 ((rd_T27 x5_1 0).f1.f1), .int .u64 ((rd_T27 x5_1 0).f1.f2), .int .u64 ((rd_T27 x5_1 0).f1.f3), .slice none 0 0, .int .i64 0, .int .i64 0]) ?_ 5 _ rfl; (with_reducible repeat (first | refine zH ?_ _ | refine zI ?_ | refine zG ?_ _)); refine blk_put (cs := #[.int .i64 ((rd_T27 x5_1 0).f0), .int .u64 ((rd_T27 x5_1 0).f1.f0), .int .u64 ((rd_T27 x5_1 0).f1.f1), .int .u64 ((rd_T27 x5_1 0).f1.f2), .int .u64 0, .slice none 0 0, .int .i64 0, .int .i64 0]) ?_ 4 _ rfl; (with_reducible repeat (first | refine zH ?_ _ | refine zI ?_ | refine zG ?_ _)); refine blk_put (cs := #[.int .i64 ((rd_T27 x5_1 0).f0), .int .u64 ((rd_T27 x5_1 0).f1.f0), .int .u64 ((rd_T27 x5_1 0).f1.f1), .int .u64 0, .int .u64 0, .slice none 0 0, .int .i64 0, .int .i64 0]) ?_ 3 _ rfl; (with_reducible repeat (first | refine zH ?_ _ | refine zI ?_ | refine zG ?_ _)); refine blk_put (cs := #[.int .i64 ((rd_T27 x5_1 0).f0), .int .u64 ((rd_T27 x5_1 0).f1.f0), .int .u64 0, .int .u64 0, .int .u64 0, .slice none 0 0, .int .i64 0, .int .i64 0]) ?_ 2 _ rfl; (with_reducible repeat (first | refine zH ?_ _ | refine zI ?_ | refine zG ?_ _)); refine blk_put (cs := #[.int .i64 ((rd_T27 x5_1 0).f0), .int .u64 0, .int .u64 0, .int .u64 0, .int .u64 0, .slice none 0 0, .int .i64 0, .int .i64 0]) ?_ 1 _ rfl; (with_reducible repeat (first | refine zH ?_ _ | refine zI ?_ | refine zG ?_ _)); refine blk_put (cs := #[.int .i64 0, .int .u64 0, .int .u64 0, .int .u64 0, .int .u64 0, .slice none 0 0, .int .i64 0, .int .i64 0]) ?_ 0 _ rfl; (with_reducible repeat (first | refine zH ?_ _ | refine zI ?_ | refine zG ?_ _)); exact BK235.out) Try.underlying27 rfl (by kernel_rfl)) rfl ?_
               exact ⟨_, by first | rfl | (simp [errW_none, errW_some] <;> rfl) | (simp [*, errW_none, errW_some] <;> rfl), by (with_reducible repeat (first | apply Kd.V_alloc | apply Kd.V_drewN | apply Kd.V_drew)); exact Kd.V_mono (Kd.V_far (p := ⟨gb235, 7, none⟩) (Kd.V_far (p := ⟨gb235, 6, none⟩) (Kd.V_far (p := ⟨gb235, 5, none⟩) (Kd.V_far (p := ⟨gb235, 4, none⟩) (Kd.V_far (p := ⟨gb235, 3, none⟩) (Kd.V_far (p := ⟨gb235, 2, none⟩) (Kd.V_far (p := ⟨gb235, 1, none⟩) (Kd.V_far (p := ⟨gb235, 0, none⟩) (Kd.V_mono HL256_5.out (fun k_ hk => (⟨hk, hk.1.2.2⟩ : _ ∧ k_ ≠ gb235))) (fun _ hk => hk.2) (.int .i64 ((rd_T27 x5_1 0).f0))) (fun _ hk => hk.2) (.int .u64 ((rd_T27 x5_1 0).f1.f0))) (fun _ hk => hk.2) (.int .u64 ((rd_T27 x5_1 0).f1.f1))) (fun _ hk => hk.2) (.int .u64 ((rd_T27 x5_1 0).f1.f2))) (fun _ hk => hk.2) (.int .u64 ((rd_T27 x5_1 0).f1.f3))) (fun _ hk => hk.2) (.slice A256_5 ((rd_T27 x5_1 0).f2).length c256_5)) (fun _ hk => hk.2) (.int .i64 ((rd_T27 x5_1 0).f3))) (fun _ hk => hk.2) (.int .i64 ((rd_T27 x5_1 0).f4))) (fun _ hk => hk.1.1.1), by repeat (first | (with_reducible first | exact HB.out | apply zE | apply zC | apply zD | refine zF ?_ GE234.out | refine zF ?_ GE235.out) | exact HB.out)⟩
              ·
               rw [if_neg c59] at H
               exact absurd H (by simp)
             ·
              replace c58 := Bool.eq_false_iff.mpr c58
              subst c58
              have H1 : (if t254 = true then (some (4, 0, 0, 0, 0, x5_1, 0, a0_7)) else (some (4, 0, 0, 0, 0, x5_1, a0_6, a0_7))) = some (r1, r2, r3, r4, r5, r6, r7, r8) := by rw [if_neg (show ¬ (false = true) by decide)] at H; exact H
              clear H
              have H := H1
              clear H1
              by_cases c62 : t254 = true
              ·
               subst c62
               have H1 : (some (4, 0, 0, 0, 0, x5_1, 0, a0_7)) = some (r1, r2, r3, r4, r5, r6, r7, r8) := by rw [if_pos rfl] at H; exact H
               clear H
               have H := H1
               clear H1
               simp only [Option.some.injEq, Prod.mk.injEq] at H
               obtain ⟨rfl, rfl, rfl, rfl, rfl, rfl, rfl, rfl⟩ := H
               have hnb63 := NB234_235.out
               have hnc63 := NB235_234.out
               obtain ⟨hcz64_0, hcz64_1, hcz64_2, hcz64_3, hcz64_4, hcz64_5, hcz64_6, hcz64_7, hfz64_0, hfz64_1, hfz64_2, hfz64_3, hfz64_4, hfz64_5, hfz64_6, hfz64_7⟩ := blk8 BK234.out
               have hy0 : ∀ o, (wc.alloc o).cell? ⟨gb235, 0, none⟩ = some (.int .i64 0) := fun o => (zB (zG BK235.out o) 0).trans rfl
               have hy1 : ∀ o, (wc.alloc o).cell? ⟨gb235, 1, none⟩ = some (.int .u64 0) := fun o => (zB (zG BK235.out o) 1).trans rfl
               have hy2 : ∀ o, (wc.alloc o).cell? ⟨gb235, 2, none⟩ = some (.int .u64 0) := fun o => (zB (zG BK235.out o) 2).trans rfl
               have hy3 : ∀ o, (wc.alloc o).cell? ⟨gb235, 3, none⟩ = some (.int .u64 0) := fun o => (zB (zG BK235.out o) 3).trans rfl
               have hy4 : ∀ o, (wc.alloc o).cell? ⟨gb235, 4, none⟩ = some (.int .u64 0) := fun o => (zB (zG BK235.out o) 4).trans rfl
               have hy5 : ∀ o, (wc.alloc o).cell? ⟨gb235, 5, none⟩ = some (.slice none 0 0) := fun o => (zB (zG BK235.out o) 5).trans rfl
               have hy6 : ∀ o, (wc.alloc o).cell? ⟨gb235, 6, none⟩ = some (.int .i64 0) := fun o => (zB (zG BK235.out o) 6).trans rfl
               have hy7 : ∀ o, (wc.alloc o).cell? ⟨gb235, 7, none⟩ = some (.int .i64 0) := fun o => (zB (zG BK235.out o) 7).trans rfl
               have hf0 : ∀ o, (wc.alloc o).frozen? ⟨gb235, 0, none⟩ = false := fun o => zA (zG BK235.out o) 0
               have hf1 : ∀ o, (wc.alloc o).frozen? ⟨gb235, 1, none⟩ = false := fun o => zA (zG BK235.out o) 1
               have hf2 : ∀ o, (wc.alloc o).frozen? ⟨gb235, 2, none⟩ = false := fun o => zA (zG BK235.out o) 2
               have hf3 : ∀ o, (wc.alloc o).frozen? ⟨gb235, 3, none⟩ = false := fun o => zA (zG BK235.out o) 3
               have hf4 : ∀ o, (wc.alloc o).frozen? ⟨gb235, 4, none⟩ = false := fun o => zA (zG BK235.out o) 4
               have hf5 : ∀ o, (wc.alloc o).frozen? ⟨gb235, 5, none⟩ = false := fun o => zA (zG BK235.out o) 5
               have hf6 : ∀ o, (wc.alloc o).frozen? ⟨gb235, 6, none⟩ = false := fun o => zA (zG BK235.out o) 6
               have hf7 : ∀ o, (wc.alloc o).frozen? ⟨gb235, 7, none⟩ = false := fun o => zA (zG BK235.out o) 7
               go_wp2_with fail
               refine bodyPost_ret (results_cell_row rfl _ _ gb235 27 #[.int .i64 4, .int .u64 0, .int .u64 0, .int .u64 0, .int .u64 0, .slice (some ad252) x5_1.length co39, .int .i64 0, .int .i64 a0_7] (0, 0) _ rfl (by (with_reducible repeat (first | refine zH ?_ _ | refine zI ?_ | refine zG ?_ _)); refine blk_put (cs := #[.int .i64 4, .int .u64 0, .int .u64 0, .int .u64 0, .int .u64 0, .slice (some ad252) x5_1.length co39, .int .i64 0, .int .i64 0]) ?_ 7 _ rfl; (with_reducible repeat (first | refine zH ?_ _ | refine zI ?_ | refine zG ?_ _)); refine blk_put (cs := #[.int .i64 4, .int .u64 0, .int .u64 0, .int .u64 0, .int .u64 0, .slice (some ad252) x5_1.length co39, .int .i64 0, .int .i64 0]) ?_ 6 _ rfl; (with_reducible repeat (first | refine zH ?_ _ | refine zI ?_ | refine zG ?_ _)); refine blk_put (cs := #[.int .i64 4, .int .u64 0, .int .u64 0, .int .u64 0, .int .u64 0, .slice none 0 0, .int .i64 0, .int .i64 0]) ?_ 5 _ rfl; (with_reducible repeat (first | refine zH ?_ _ | refine zI ?_ | refine zG ?_ _)); refine blk_put (cs := #[.int .i64 4, .int .u64 0, .int .u64 0, .int .u64 0, .int .u64 0, .slice none 0 0, .int .i64 0, .int .i64 0]) ?_ 4 _ rfl; (with_reducible repeat (first | refine zH ?_ _ | refine zI ?_ | refine zG ?_ _)); refine blk_put (cs := #[.int .i64 4, .int .u64 0, .int .u64 0, .int .u64 0, .int .u64 0, .slice none 0 0, .int .i64 0, .int .i64 0]) ?_ 3 _ rfl; (with_reducible repeat (first | refine zH ?_ _ | refine zI ?_ | refine zG ?_ _)); refine blk_put (cs := #[.int .i64 4, .int .u64 0, .int .u64 0, .int .u64 0, .int .u64 0, .slice none 0 0, .int .i64 0, .int .i64 0]) ?_ 2 _ rfl; (with_reducible repeat (first | refine zH ?_ _ | refine zI ?_ | refine zG ?_ _)); refine blk_put (cs := #[.int .i64 4, .int .u64 0, .int .u64 0, .int .u64 0, .int .u64 0, .slice none 0 0, .int .i64 0, .int .i64 0]) ?_ 1 _ rfl; (with_reducible repeat (first | refine zH ?_ _ | refine zI ?_ | refine zG ?_ _)); refine blk_put (cs := #[.int .i64 0, .int .u64 0, .int .u64 0, .int .u64 0, .int .u64 0, .slice none 0 0, .int .i64 0, .int .i64 0]) ?_ 0 _ rfl; (with_reducible repeat (first | refine zH ?_ _ | refine zI ?_ | refine zG ?_ _)); exact BK235.out) Try.underlying27 rfl (by kernel_rfl)) rfl ?_
               exact ⟨_, by first | rfl | (simp [errW_none, errW_some] <;> rfl) | (simp [*, errW_none, errW_some] <;> rfl), Kd.N_V (by (with_reducible repeat (first | apply Kd.N_alloc | apply Kd.N_drewN | apply Kd.N_drew)); exact Kd.N_mono (Kd.N_far (p := ⟨gb235, 7, none⟩) (Kd.N_far (p := ⟨gb235, 6, none⟩) (Kd.N_far (p := ⟨gb235, 5, none⟩) (Kd.N_far (p := ⟨gb235, 4, none⟩) (Kd.N_far (p := ⟨gb235, 3, none⟩) (Kd.N_far (p := ⟨gb235, 2, none⟩) (Kd.N_far (p := ⟨gb235, 1, none⟩) (Kd.N_far (p := ⟨gb235, 0, none⟩) (Kd.N_mono (Kd.N_alloc HO_5.out _) (fun k_ hk => (⟨hk, hk.2.2⟩ : _ ∧ k_ ≠ gb235))) (fun _ hk => hk.2) (.int .i64 4)) (fun _ hk => hk.2) (.int .u64 0)) (fun _ hk => hk.2) (.int .u64 0)) (fun _ hk => hk.2) (.int .u64 0)) (fun _ hk => hk.2) (.int .u64 0)) (fun _ hk => hk.2) (.slice (some ad252) x5_1.length co39)) (fun _ hk => hk.2) (.int .i64 0)) (fun _ hk => hk.2) (.int .i64 a0_7)) (fun _ hk => hk.1.1)), by repeat (first | (with_reducible first | exact HB.out | apply zE | apply zC | apply zD | refine zF ?_ GE234.out | refine zF ?_ GE235.out) | exact HB.out)⟩
              ·
               replace c62 := Bool.eq_false_iff.mpr c62
               subst c62
               have H1 : (some (4, 0, 0, 0, 0, x5_1, a0_6, a0_7)) = some (r1, r2, r3, r4, r5, r6, r7, r8) := by rw [if_neg (show ¬ (false = true) by decide)] at H; exact H
               clear H
               have H := H1
               clear H1
               simp only [Option.some.injEq, Prod.mk.injEq] at H
               obtain ⟨rfl, rfl, rfl, rfl, rfl, rfl, rfl, rfl⟩ := H
               have hnb70 := NB234_235.out
               have hnc70 := NB235_234.out
               obtain ⟨hcz71_0, hcz71_1, hcz71_2, hcz71_3, hcz71_4, hcz71_5, hcz71_6, hcz71_7, hfz71_0, hfz71_1, hfz71_2, hfz71_3, hfz71_4, hfz71_5, hfz71_6, hfz71_7⟩ := blk8 BK234.out
               have hy0 : ∀ o, (wc.alloc o).cell? ⟨gb235, 0, none⟩ = some (.int .i64 0) := fun o => (zB (zG BK235.out o) 0).trans rfl
               have hy1 : ∀ o, (wc.alloc o).cell? ⟨gb235, 1, none⟩ = some (.int .u64 0) := fun o => (zB (zG BK235.out o) 1).trans rfl
               have hy2 : ∀ o, (wc.alloc o).cell? ⟨gb235, 2, none⟩ = some (.int .u64 0) := fun o => (zB (zG BK235.out o) 2).trans rfl
               have hy3 : ∀ o, (wc.alloc o).cell? ⟨gb235, 3, none⟩ = some (.int .u64 0) := fun o => (zB (zG BK235.out o) 3).trans rfl
               have hy4 : ∀ o, (wc.alloc o).cell? ⟨gb235, 4, none⟩ = some (.int .u64 0) := fun o => (zB (zG BK235.out o) 4).trans rfl
               have hy5 : ∀ o, (wc.alloc o).cell? ⟨gb235, 5, none⟩ = some (.slice none 0 0) := fun o => (zB (zG BK235.out o) 5).trans rfl
               have hy6 : ∀ o, (wc.alloc o).cell? ⟨gb235, 6, none⟩ = some (.int .i64 0) := fun o => (zB (zG BK235.out o) 6).trans rfl
               have hy7 : ∀ o, (wc.alloc o).cell? ⟨gb235, 7, none⟩ = some (.int .i64 0) := fun o => (zB (zG BK235.out o) 7).trans rfl
               have hf0 : ∀ o, (wc.alloc o).frozen? ⟨gb235, 0, none⟩ = false := fun o => zA (zG BK235.out o) 0
               have hf1 : ∀ o, (wc.alloc o).frozen? ⟨gb235, 1, none⟩ = false := fun o => zA (zG BK235.out o) 1
               have hf2 : ∀ o, (wc.alloc o).frozen? ⟨gb235, 2, none⟩ = false := fun o => zA (zG BK235.out o) 2
               have hf3 : ∀ o, (wc.alloc o).frozen? ⟨gb235, 3, none⟩ = false := fun o => zA (zG BK235.out o) 3
               have hf4 : ∀ o, (wc.alloc o).frozen? ⟨gb235, 4, none⟩ = false := fun o => zA (zG BK235.out o) 4
               have hf5 : ∀ o, (wc.alloc o).frozen? ⟨gb235, 5, none⟩ = false := fun o => zA (zG BK235.out o) 5
               have hf6 : ∀ o, (wc.alloc o).frozen? ⟨gb235, 6, none⟩ = false := fun o => zA (zG BK235.out o) 6
               have hf7 : ∀ o, (wc.alloc o).frozen? ⟨gb235, 7, none⟩ = false := fun o => zA (zG BK235.out o) 7
               go_wp2_with fail
               refine bodyPost_ret (results_cell_row rfl _ _ gb235 27 #[.int .i64 4, .int .u64 0, .int .u64 0, .int .u64 0, .int .u64 0, .slice (some ad252) x5_1.length co39, .int .i64 a0_6, .int .i64 a0_7] (0, 0) _ rfl (by (with_reducible repeat (first | refine zH ?_ _ | refine zI ?_ | refine zG ?_ _)); refine blk_put (cs := #[.int .i64 4, .int .u64 0, .int .u64 0, .int .u64 0, .int .u64 0, .slice (some ad252) x5_1.length co39, .int .i64 a0_6, .int .i64 0]) ?_ 7 _ rfl; (with_reducible repeat (first | refine zH ?_ _ | refine zI ?_ | refine zG ?_ _)); refine blk_put (cs := #[.int .i64 4, .int .u64 0, .int .u64 0, .int .u64 0, .int .u64 0, .slice (some ad252) x5_1.length co39, .int .i64 0, .int .i64 0]) ?_ 6 _ rfl; (with_reducible repeat (first | refine zH ?_ _ | refine zI ?_ | refine zG ?_ _)); refine blk_put (cs := #[.int .i64 4, .int .u64 0, .int .u64 0, .int .u64 0, .int .u64 0, .slice none 0 0, .int .i64 0, .int .i64 0]) ?_ 5 _ rfl; (with_reducible repeat (first | refine zH ?_ _ | refine zI ?_ | refine zG ?_ _)); refine blk_put (cs := #[.int .i64 4, .int .u64 0, .int .u64 0, .int .u64 0, .int .u64 0, .slice none 0 0, .int .i64 0, .int .i64 0]) ?_ 4 _ rfl; (with_reducible repeat (first | refine zH ?_ _ | refine zI ?_ | refine zG ?_ _)); refine blk_put (cs := #[.int .i64 4, .int .u64 0, .int .u64 0, .int .u64 0, .int .u64 0, .slice none 0 0, .int .i64 0, .int .i64 0]) ?_ 3 _ rfl; (with_reducible repeat (first | refine zH ?_ _ | refine zI ?_ | refine zG ?_ _)); refine blk_put (cs := #[.int .i64 4, .int .u64 0, .int .u64 0, .int .u64 0, .int .u64 0, .slice none 0 0, .int .i64 0, .int .i64 0]) ?_ 2 _ rfl; (with_reducible repeat (first | refine zH ?_ _ | refine zI ?_ | refine zG ?_ _)); refine blk_put (cs := #[.int .i64 4, .int .u64 0, .int .u64 0, .int .u64 0, .int .u64 0, .slice none 0 0, .int .i64 0, .int .i64 0]) ?_ 1 _ rfl; (with_reducible repeat (first | refine zH ?_ _ | refine zI ?_ | refine zG ?_ _)); refine blk_put (cs := #[.int .i64 0, .int .u64 0, .int .u64 0, .int .u64 0, .int .u64 0, .slice none 0 0, .int .i64 0, .int .i64 0]) ?_ 0 _ rfl; (with_reducible repeat (first | refine zH ?_ _ | refine zI ?_ | refine zG ?_ _)); exact BK235.out) Try.underlying27 rfl (by kernel_rfl)) rfl ?_
               exact ⟨_, by first | rfl | (simp [errW_none, errW_some] <;> rfl) | (simp [*, errW_none, errW_some] <;> rfl), Kd.N_V (by (with_reducible repeat (first | apply Kd.N_alloc | apply Kd.N_drewN | apply Kd.N_drew)); exact Kd.N_mono (Kd.N_far (p := ⟨gb235, 7, none⟩) (Kd.N_far (p := ⟨gb235, 6, none⟩) (Kd.N_far (p := ⟨gb235, 5, none⟩) (Kd.N_far (p := ⟨gb235, 4, none⟩) (Kd.N_far (p := ⟨gb235, 3, none⟩) (Kd.N_far (p := ⟨gb235, 2, none⟩) (Kd.N_far (p := ⟨gb235, 1, none⟩) (Kd.N_far (p := ⟨gb235, 0, none⟩) (Kd.N_mono (Kd.N_alloc HO_5.out _) (fun k_ hk => (⟨hk, hk.2.2⟩ : _ ∧ k_ ≠ gb235))) (fun _ hk => hk.2) (.int .i64 4)) (fun _ hk => hk.2) (.int .u64 0)) (fun _ hk => hk.2) (.int .u64 0)) (fun _ hk => hk.2) (.int .u64 0)) (fun _ hk => hk.2) (.int .u64 0)) (fun _ hk => hk.2) (.slice (some ad252) x5_1.length co39)) (fun _ hk => hk.2) (.int .i64 a0_6)) (fun _ hk => hk.2) (.int .i64 a0_7)) (fun _ hk => hk.1.1)), by repeat (first | (with_reducible first | exact HB.out | apply zE | apply zC | apply zD | refine zF ?_ GE234.out | refine zF ?_ GE235.out) | exact HB.out)⟩
       ·
        rw [if_neg c34] at H
        exact absurd H (by simp)
      ·
       rw [if_neg c33] at H
       have c33b0 : (a0_0 == 4) = false := beq_eq_false_iff_ne.mpr c33
       have c33b1 : (a0_0 != 4) = true := bne_iff_ne.mpr c33
       replace H := Option.bind_eq_some_iff.mp H
       obtain ⟨t258, A770, H⟩ := H
       replace H : (ostinatoref04_Simple.l1 k1 t258 ([] : List (S27)) 0 a0_0 a0_1 a0_2 a0_3 a0_4 l0_5 a0_6 a0_7) = some (r1, r2, r3, r4, r5, r6, r7, r8) := H
       have A77 := zM A770
       clear A770
       have H' := zM H
       clear H
       have hnb78 := NB234_235.out
       have hnc78 := NB235_234.out
       obtain ⟨hcz79_0, hcz79_1, hcz79_2, hcz79_3, hcz79_4, hcz79_5, hcz79_6, hcz79_7, hfz79_0, hfz79_1, hfz79_2, hfz79_3, hfz79_4, hfz79_5, hfz79_6, hfz79_7⟩ := blk8 BK234.out
       obtain ⟨Ao80, co80, eo80⟩ := Kd.N_slice HO_5.out
       subst eo80
       go_wp2_with (first | ((with_reducible refine gate_callee (f := 37) rfl ?_); refine goesL_ (some 90) rfl rfl Try.func37 (by kernel_rfl) rfl #[.int .i64 a0_0, .slice Ao80 x5_1.length co80] rfl (by (try simp only [List.map_toArray, List.map_cons, List.map_nil]); first | done | rfl | (simp only [List.length_drop, List.length_take]; rfl)) ?_; (with_reducible refine (ostinatoref04_spread.calls k1 a0_0 (fun k_ => ((P0_5_ k_ ∨ w.heap.size ≤ k_) ∧ (k_ ≠ gb234 ∧ k_ ≠ gb235))) _ _ x5_1 t258 _ ?side1 A77.out).mono ?_); (case side1 => exact Kd.N_V (HO_5.out)); rintro e w81 ⟨v259, rfl, ho0, hb⟩; refine ⟨_, rfl, ?_⟩; have n0_ := zM (Kd.N_elder' (by (with_reducible repeat (first | apply Kd.N_alloc | apply Kd.N_drewN | apply Kd.N_drew)); exact HO_5.out) (Kd.N_base ho0) hb); have n1_ := zM (Kd.V_elder' (by (with_reducible repeat (first | apply Kd.V_alloc | apply Kd.V_drewN | apply Kd.V_drew)); exact HO_235005.out) (Kd.N_base ho0) hb); have n2_ := zM (Kd.N_lower (Kd.N_mono (ok' := fun k_ => (P0_5_ k_ ∨ w.heap.size ≤ k_) ∧ k_ ≠ gb234 ∧ k_ ≠ gb235) ho0 (fun k_ hk_ => ⟨Or.elim hk_ (fun hs_ => hs_.1) (fun hn_ => (.inr (Nat.le_trans (zK (by repeat (first | (with_reducible first | exact HB.out | apply zE | apply zC | apply zD | refine zF ?_ GE234.out | refine zF ?_ GE235.out) | exact HB.out))) hn_))), Or.elim hk_ (fun hs_ => hs_.2.1) (fun hn_ => (Kd.freshB (g := gb234) (o := .cells #[.int .i64 a0_0, .int .u64 a0_1, .int .u64 a0_2, .int .u64 a0_3, .int .u64 a0_4, .slice A0_5 l0_5.length c0_5, .int .i64 a0_6, .int .i64 a0_7] 27 (0, 0)) (by (with_reducible repeat (first | refine zH ?_ _ | refine zI ?_ | refine zG ?_ _)); exact BK234.out) k_ hn_)), Or.elim hk_ (fun hs_ => hs_.2.2) (fun hn_ => (Kd.freshB (g := gb235) (o := .cells #[.int .i64 0, .int .u64 0, .int .u64 0, .int .u64 0, .int .u64 0, .slice none 0 0, .int .i64 0, .int .i64 0] 27 (0, 0)) (by (with_reducible repeat (first | refine zH ?_ _ | refine zI ?_ | refine zG ?_ _)); exact BK235.out) k_ hn_))⟩)) (zK (by repeat (first | (with_reducible first | exact HB.out | apply zE | apply zC | apply zD | refine zF ?_ GE234.out | refine zF ?_ GE235.out) | exact HB.out)))); have n3_ := zM (zL (g := gb234) (o := .cells #[.int .i64 a0_0, .int .u64 a0_1, .int .u64 a0_2, .int .u64 a0_3, .int .u64 a0_4, .slice A0_5 l0_5.length c0_5, .int .i64 a0_6, .int .i64 a0_7] 27 (0, 0)) (by (with_reducible repeat (first | refine zH ?_ _ | refine zI ?_ | refine zG ?_ _)); exact BK234.out) hb); have n4_ := zM (zL (g := gb235) (o := .cells #[.int .i64 0, .int .u64 0, .int .u64 0, .int .u64 0, .int .u64 0, .slice none 0 0, .int .i64 0, .int .i64 0] 27 (0, 0)) (by (with_reducible repeat (first | refine zH ?_ _ | refine zI ?_ | refine zG ?_ _)); exact BK235.out) hb); have n5_ := zM (zJ (by repeat (first | (with_reducible first | exact HB.out | apply zE | apply zC | apply zD | refine zF ?_ GE234.out | refine zF ?_ GE235.out) | exact HB.out)) hb); clear HO_5; clear HO_235005; clear BK234; clear BK235; clear HB; have HO_5 := n0_; have HO_235005 := n1_; have HO260 := n2_; have BK234 := n3_; have BK235 := n4_; have HB := n5_; clear n0_ n1_ n2_ n3_ n4_ n5_; (try clear hb); (try clear hb2); (try clear hk); (try clear hi); (try clear ho0)))
       go_loopg [10, 11] k1 (fun kq v10 v11 w' => ∃ (x10_2 : List (S27)) (x11_2 : Int), v11 = .int .i64 x11_2 ∧ Aside0 (ostinatoref04_Simple.l1 kq t258 x10_2 x11_2 a0_0 a0_1 a0_2 a0_3 a0_4 l0_5 a0_6 a0_7 = some (r1, r2, r3, r4, r5, r6, r7, r8)) ∧ Aside0 (kq ≤ k1) ∧ Aside0 (Kd.N k27 27 w' w.heap.size (fun k_ => (P0_5_ k_ ∨ w.heap.size ≤ k_) ∧ some k_ ≠ (v10 : Value).ownBlock ∧ k_ ≠ gb234 ∧ k_ ≠ gb235) v259 t258) ∧ Aside0 (Kd.N k27 27 w' w.heap.size (fun k_ => (P0_5_ k_ ∨ w.heap.size ≤ k_) ∧ some k_ ≠ (v259 : Value).ownBlock ∧ k_ ≠ gb234 ∧ k_ ≠ gb235) v10 x10_2) ∧ Aside0 (Kd.V k27 27 w' w.heap.size (fun k_ => (P0_5_ k_ ∨ w.heap.size ≤ k_) ∧ some k_ ≠ (v259 : Value).ownBlock ∧ some k_ ≠ (v10 : Value).ownBlock ∧ k_ ≠ gb234 ∧ k_ ≠ gb235) (.slice A0_5 l0_5.length c0_5) l0_5) ∧ Aside0 (w'.heap[gb234]? = some (.cells #[.int .i64 a0_0, .int .u64 a0_1, .int .u64 a0_2, .int .u64 a0_3, .int .u64 a0_4, (.slice A0_5 l0_5.length c0_5), .int .i64 a0_6, .int .i64 a0_7] 27 (0, 0))) ∧ Aside0 (w'.heap[gb235]? = some (.cells #[.int .i64 0, .int .u64 0, .int .u64 0, .int .u64 0, .int .u64 0, (.slice none 0 0), .int .i64 0, .int .i64 0] 27 (0, 0))) ∧ Aside0 (Below w.heap.size w w'))
       case atStart => exact ⟨(([] : List (S27))), (0), (by first | rfl | (simp; done) | (simp [*]; done)), H', ⟨Nat.le_refl _⟩, ⟨by (with_reducible repeat (first | apply Kd.N_alloc | apply Kd.N_drewN | apply Kd.N_drew)); exact Kd.N_mono HO260.out (fun _ hk => ⟨hk.1, ⟨(by simp [Value.ownBlock]), ⟨hk.2.1, hk.2.2⟩⟩⟩)⟩, ⟨by first | exact Kd.R_nil _ _ _ _ _ | exact Kd.N_nil _ _ _ _ _ | exact Kd.V_nil _ _ _ _ _ | exact Kd.Q_nil _ _ _ _ _ | exact Kd.S_nil _ _ _ _ _⟩, ⟨by (with_reducible repeat (first | apply Kd.V_alloc | apply Kd.V_drewN | apply Kd.V_drew)); exact Kd.V_mono HO_235005.out (fun _ hk => ⟨hk.1.1, ⟨hk.2, ⟨(by simp [Value.ownBlock]), ⟨hk.1.2.2.1, hk.1.2.2.2⟩⟩⟩⟩)⟩, ⟨by (with_reducible repeat (first | refine zH ?_ _ | refine zI ?_ | refine zG ?_ _)); exact BK234.out⟩, ⟨by (with_reducible repeat (first | refine zH ?_ _ | refine zI ?_ | refine zG ?_ _)); exact BK235.out⟩, ⟨by repeat (first | (with_reducible first | exact HB.out | apply zE | apply zC | apply zD | refine zF ?_ GE234.out | refine zF ?_ GE235.out) | exact HB.out)⟩⟩
       case round =>
        clear H'
        (try clear c1); (try clear c2); (try clear p2 p2); (try clear q2 q2); (try clear hx2); (try clear qi2); (try clear c3); (try clear c4); (try clear c5); (try clear c6); (try clear p6 p6); (try clear c7); (try clear c10); (try clear c10b0); (try clear c13); (try clear c20); (try clear c23); (try clear p23 p23); (try clear q23 q23); (try clear hx23); (try clear c24); (try clear c24b0); (try clear c25); (try clear c25b0); (try clear p25 p25); (try clear q25 q25); (try clear hx25); (try clear qi25); (try clear c27); (try clear c28); (try clear c33); (try clear c33b0); (try clear c33b1); (try clear c34); (try clear c34b0); (try clear c34b1); (try clear c36); (try clear c37); (try clear c41); (try clear c41b0); (try clear c41b1); (try clear c42); (try clear c44); (try clear c44b0); (try clear c44b1); (try clear c45); (try clear c47); (try clear c49); (try clear c50); (try clear c53); (try clear c53b0); (try clear c53b1); (try clear c54); (try clear c56); (try clear c58); (try clear c59); (try clear c59b0); (try clear c59b1); (try clear c60); (try clear c62); (try clear c63); (try clear c66); (try clear c67); (try clear c70); (try clear c73); (try clear c74); (try clear c78); (try clear hcz14_0 hcz14_1 hcz14_2 hcz14_3 hcz14_4 hcz14_5 hcz14_6 hcz14_7); (try clear hcz16_0 hcz16_1 hcz16_2 hcz16_3 hcz16_4 hcz16_5 hcz16_6 hcz16_7); (try clear hcz17_0 hcz17_1 hcz17_2 hcz17_3 hcz17_4 hcz17_5 hcz17_6 hcz17_7); (try clear hcz21_0 hcz21_1 hcz21_2 hcz21_3 hcz21_4 hcz21_5 hcz21_6 hcz21_7); (try clear hcz23_0 hcz23_1 hcz23_2 hcz23_3 hcz23_4 hcz23_5 hcz23_6 hcz23_7); (try clear hcz29_0 hcz29_1 hcz29_2 hcz29_3 hcz29_4 hcz29_5 hcz29_6 hcz29_7); (try clear hcz38_0 hcz38_1 hcz38_2 hcz38_3 hcz38_4 hcz38_5 hcz38_6 hcz38_7); (try clear hcz43_0 hcz43_1 hcz43_2 hcz43_3 hcz43_4 hcz43_5 hcz43_6 hcz43_7); (try clear hcz46_0 hcz46_1 hcz46_2 hcz46_3 hcz46_4 hcz46_5 hcz46_6 hcz46_7); (try clear hcz48_0 hcz48_1 hcz48_2 hcz48_3 hcz48_4 hcz48_5 hcz48_6 hcz48_7); (try clear hcz51_0 hcz51_1 hcz51_2 hcz51_3 hcz51_4 hcz51_5 hcz51_6 hcz51_7); (try clear hcz55_0 hcz55_1 hcz55_2 hcz55_3 hcz55_4 hcz55_5 hcz55_6 hcz55_7); (try clear hcz57_0 hcz57_1 hcz57_2 hcz57_3 hcz57_4 hcz57_5 hcz57_6 hcz57_7); (try clear hcz61_0 hcz61_1 hcz61_2 hcz61_3 hcz61_4 hcz61_5 hcz61_6 hcz61_7); (try clear hcz64_0 hcz64_1 hcz64_2 hcz64_3 hcz64_4 hcz64_5 hcz64_6 hcz64_7); (try clear hcz68_0 hcz68_1 hcz68_2 hcz68_3 hcz68_4 hcz68_5 hcz68_6 hcz68_7); (try clear hcz69_0 hcz69_1 hcz69_2 hcz69_3 hcz69_4 hcz69_5 hcz69_6 hcz69_7); (try clear hcz71_0 hcz71_1 hcz71_2 hcz71_3 hcz71_4 hcz71_5 hcz71_6 hcz71_7); (try clear hcz75_0 hcz75_1 hcz75_2 hcz75_3 hcz75_4 hcz75_5 hcz75_6 hcz75_7); (try clear hcz76_0 hcz76_1 hcz76_2 hcz76_3 hcz76_4 hcz76_5 hcz76_6 hcz76_7); (try clear hcz79_0 hcz79_1 hcz79_2 hcz79_3 hcz79_4 hcz79_5 hcz79_6 hcz79_7); (try clear hcz7_0 hcz7_1 hcz7_2 hcz7_3 hcz7_4 hcz7_5 hcz7_6 hcz7_7); (try clear hcz9_0 hcz9_1 hcz9_2 hcz9_3 hcz9_4 hcz9_5 hcz9_6 hcz9_7); (try clear hfz14_0 hfz14_1 hfz14_2 hfz14_3 hfz14_4 hfz14_5 hfz14_6 hfz14_7); (try clear hfz16_0 hfz16_1 hfz16_2 hfz16_3 hfz16_4 hfz16_5 hfz16_6 hfz16_7); (try clear hfz17_0 hfz17_1 hfz17_2 hfz17_3 hfz17_4 hfz17_5 hfz17_6 hfz17_7); (try clear hfz21_0 hfz21_1 hfz21_2 hfz21_3 hfz21_4 hfz21_5 hfz21_6 hfz21_7); (try clear hfz23_0 hfz23_1 hfz23_2 hfz23_3 hfz23_4 hfz23_5 hfz23_6 hfz23_7); (try clear hfz29_0 hfz29_1 hfz29_2 hfz29_3 hfz29_4 hfz29_5 hfz29_6 hfz29_7); (try clear hfz38_0 hfz38_1 hfz38_2 hfz38_3 hfz38_4 hfz38_5 hfz38_6 hfz38_7); (try clear hfz43_0 hfz43_1 hfz43_2 hfz43_3 hfz43_4 hfz43_5 hfz43_6 hfz43_7); (try clear hfz46_0 hfz46_1 hfz46_2 hfz46_3 hfz46_4 hfz46_5 hfz46_6 hfz46_7); (try clear hfz48_0 hfz48_1 hfz48_2 hfz48_3 hfz48_4 hfz48_5 hfz48_6 hfz48_7); (try clear hfz51_0 hfz51_1 hfz51_2 hfz51_3 hfz51_4 hfz51_5 hfz51_6 hfz51_7); (try clear hfz55_0 hfz55_1 hfz55_2 hfz55_3 hfz55_4 hfz55_5 hfz55_6 hfz55_7); (try clear hfz57_0 hfz57_1 hfz57_2 hfz57_3 hfz57_4 hfz57_5 hfz57_6 hfz57_7); (try clear hfz61_0 hfz61_1 hfz61_2 hfz61_3 hfz61_4 hfz61_5 hfz61_6 hfz61_7); (try clear hfz64_0 hfz64_1 hfz64_2 hfz64_3 hfz64_4 hfz64_5 hfz64_6 hfz64_7); (try clear hfz68_0 hfz68_1 hfz68_2 hfz68_3 hfz68_4 hfz68_5 hfz68_6 hfz68_7); (try clear hfz69_0 hfz69_1 hfz69_2 hfz69_3 hfz69_4 hfz69_5 hfz69_6 hfz69_7); (try clear hfz71_0 hfz71_1 hfz71_2 hfz71_3 hfz71_4 hfz71_5 hfz71_6 hfz71_7); (try clear hfz75_0 hfz75_1 hfz75_2 hfz75_3 hfz75_4 hfz75_5 hfz75_6 hfz75_7); (try clear hfz76_0 hfz76_1 hfz76_2 hfz76_3 hfz76_4 hfz76_5 hfz76_6 hfz76_7); (try clear hfz79_0 hfz79_1 hfz79_2 hfz79_3 hfz79_4 hfz79_5 hfz79_6 hfz79_7); (try clear hfz7_0 hfz7_1 hfz7_2 hfz7_3 hfz7_4 hfz7_5 hfz7_6 hfz7_7); (try clear hfz9_0 hfz9_1 hfz9_2 hfz9_3 hfz9_4 hfz9_5 hfz9_6 hfz9_7); (try clear hx238_0 hx238_1 hx238_2 hx238_3 hx238_4 hx238_5 hx238_6 hx238_7); (try clear hx252_0 hx252_1 hx252_2 hx252_3 hx252_4 hx252_5 hx252_6 hx252_7); (try clear hx255_0 hx255_1 hx255_2 hx255_3 hx255_4 hx255_5 hx255_6 hx255_7); (try clear hx256_0 hx256_1 hx256_2 hx256_3 hx256_4 hx256_5 hx256_6 hx256_7); (try clear p238); (try clear p252); (try clear p255); (try clear p256); (try clear q238); (try clear q252); (try clear q255); (try clear q256)
        obtain ⟨x10_2, x11_2, rfl, HA, HK2, HO_5, HO_10, HO_235005, BK234, BK235, HB⟩ := hrel
        cases gk with
        | zero => exact absurd HA.out (by simp [ostinatoref04_Simple.l1])
        | succ k2 =>
         have H := HA.out
         clear HA
         simp only [ostinatoref04_Simple.l1] at H
         by_cases c82 : x11_2 < (t258.length : Int)
         ·
          rw [if_pos c82] at H
          have c82b0 : decide (x11_2 < (t258.length : Int)) = true := decide_eq_true c82
          clear c82
          by_cases c83 : 0 ≤ x11_2
          ·
           rw [if_pos c83] at H
           have c83b0 : decide (0 ≤ x11_2) = true := decide_eq_true c83
           clear c83
           replace H := Option.bind_eq_some_iff.mp H
           obtain ⟨⟨t262, t263⟩, A840, H⟩ := H
           replace H : (if a0_0 = 2 then (if ((rd_T27 t258 x11_2).f0) = 0 then (ostinatoref04_Simple.j4 k2 t258 x10_2 x11_2 true a0_0 a0_1 a0_2 a0_3 a0_4 l0_5 a0_6 a0_7) else (if a0_0 = 3 then (ostinatoref04_Simple.j4 k2 t258 x10_2 x11_2 t262 a0_0 a0_1 a0_2 a0_3 a0_4 l0_5 a0_6 a0_7) else (ostinatoref04_Simple.j4 k2 t258 x10_2 x11_2 false a0_0 a0_1 a0_2 a0_3 a0_4 l0_5 a0_6 a0_7))) else (if a0_0 = 3 then (ostinatoref04_Simple.j4 k2 t258 x10_2 x11_2 t262 a0_0 a0_1 a0_2 a0_3 a0_4 l0_5 a0_6 a0_7) else (ostinatoref04_Simple.j4 k2 t258 x10_2 x11_2 false a0_0 a0_1 a0_2 a0_3 a0_4 l0_5 a0_6 a0_7))) = some (r1, r2, r3, r4, r5, r6, r7, r8) := H
           have A84 := zM A840
           clear A840
           have HC85 := zM H
           clear H
           obtain ⟨Ao86, co86, eo86⟩ := Kd.N_slice HO_5.out
           subst eo86
           have p261 : 0 ≤ (x11_2 : Int) := of_decide_eq_true (by first | (with_reducible assumption) | assumption)
           have q261 : x11_2 < (t258.length : Int) := of_decide_eq_true (by first | (with_reducible assumption) | assumption)
           obtain ⟨ad261, A261_5, c261_5, e261, hx261_0, hx261_1, hx261_2, hx261_3, hx261_4, hx261_5, hx261_6, hx261_7, hl261_5, hi261_5⟩ := at_T27 (Kd.N_reads' HO_5.out).2.2 x11_2 p261 q261
           cases e261
           obtain ⟨ce261, hce261, hMe261, hcc261⟩ := Kd.N_get HO_5.out z27 x11_2 p261 (by first | exact q261 | exact of_decide_eq_true (by first | (with_reducible assumption) | assumption) | (have e_ := (Kd.N_reads' HO_5.out).1; omega))
           obtain ⟨ua261_5, uc261_5, rfl, ul261_5, ge261_5⟩ := k27_openF hMe261
           have hv261_5 := hcc261 5 _ rfl
           rw [add_field _ _ 5 (by omega)] at hv261_5
           replace hv261_5 := Option.some.inj (hv261_5.symm.trans hx261_5)
           injection hv261_5 with hva_ hvn_ hvc_
           rw [hva_] at ge261_5
           rw [hvc_] at ul261_5
           have HL261_5 := zM (show Kd.V k27 27 _ w.heap.size _ _ ((rd_T27 t258 x11_2).f2) from Kd.V_mk ul261_5 ge261_5)
           clear hva_ hvn_ hvc_ ge261_5 ul261_5 hcc261 hce261
           have HR261_5 := zM hi261_5
           have HC261_5 := zM hl261_5
           clear hi261_5 hl261_5
           replace p261 := eq_true p261
           replace q261 := eq_true q261
           go_upto_region 27 with (first | ((with_reducible refine gate_callee (f := 36) rfl ?_); refine goesL_ (some 102) rfl rfl Try.func36 (by kernel_rfl) rfl #[.agg #[.int .i64 ((rd_T27 t258 x11_2).f0), .int .u64 ((rd_T27 t258 x11_2).f1.f0), .int .u64 ((rd_T27 t258 x11_2).f1.f1), .int .u64 ((rd_T27 t258 x11_2).f1.f2), .int .u64 ((rd_T27 t258 x11_2).f1.f3), .slice A261_5 ((rd_T27 t258 x11_2).f2).length c261_5, .int .i64 ((rd_T27 t258 x11_2).f3), .int .i64 ((rd_T27 t258 x11_2).f4)]] rfl (by (try simp only [List.map_toArray, List.map_cons, List.map_nil]); first | done | rfl | (simp only [List.length_drop, List.length_take]; rfl)) ?_; (with_reducible refine (ostinatoref04_Told.calls k2 ((rd_T27 t258 x11_2).f0) ((rd_T27 t258 x11_2).f1.f0) ((rd_T27 t258 x11_2).f1.f1) ((rd_T27 t258 x11_2).f1.f2) ((rd_T27 t258 x11_2).f1.f3) _ _ ((rd_T27 t258 x11_2).f2) ((rd_T27 t258 x11_2).f3) ((rd_T27 t258 x11_2).f4) t262 t263 _ ?side1 ?side2 A84.out).mono ?_); (case side1 => repeat (first | exact (by repeat (first | (with_reducible exact HR261_5.out) | (with_reducible refine Kd.C_alloc ?_ _) | (with_reducible refine Kd.C_drewN ?_ _) | (with_reducible refine Kd.C_drew ?_) | exact HR261_5.out)) | (with_reducible refine Kd.C_alloc ?_ _) | (with_reducible refine Kd.C_drewN ?_ _) | (with_reducible refine Kd.C_drew ?_))); (case side2 => exact HC261_5.out); rintro e w87 ⟨rfl, hb⟩; refine ⟨_, rfl, ?_⟩; have n0_ := zM (Kd.N_below (by (with_reducible repeat (first | apply Kd.N_alloc | apply Kd.N_drewN | apply Kd.N_drew)); exact HO_5.out) hb); have n1_ := zM (Kd.N_below (by (with_reducible repeat (first | apply Kd.N_alloc | apply Kd.N_drewN | apply Kd.N_drew)); exact HO_10.out) hb); have n2_ := zM (Kd.V_below (by (with_reducible repeat (first | apply Kd.V_alloc | apply Kd.V_drewN | apply Kd.V_drew)); exact HO_235005.out) hb); have n3_ := zM (Kd.V_below (by (with_reducible repeat (first | apply Kd.V_alloc | apply Kd.V_drewN | apply Kd.V_drew)); exact HL261_5.out) hb); have n4_ := zM (zL (g := gb234) (o := .cells #[.int .i64 a0_0, .int .u64 a0_1, .int .u64 a0_2, .int .u64 a0_3, .int .u64 a0_4, .slice A0_5 l0_5.length c0_5, .int .i64 a0_6, .int .i64 a0_7] 27 (0, 0)) (by (with_reducible repeat (first | refine zH ?_ _ | refine zI ?_ | refine zG ?_ _)); exact BK234.out) hb); have n5_ := zM (zL (g := gb235) (o := .cells #[.int .i64 0, .int .u64 0, .int .u64 0, .int .u64 0, .int .u64 0, .slice none 0 0, .int .i64 0, .int .i64 0] 27 (0, 0)) (by (with_reducible repeat (first | refine zH ?_ _ | refine zI ?_ | refine zG ?_ _)); exact BK235.out) hb); (first | have n6_ := zM (Kd.C_below (by repeat (first | (with_reducible exact HR261_5.out) | (with_reducible refine Kd.C_alloc ?_ _) | (with_reducible refine Kd.C_drewN ?_ _) | (with_reducible refine Kd.C_drew ?_) | exact HR261_5.out)) hb) | have n6_ := zM (Kd.V_reads' n3_.out).2.2); have n7_ := zM (zJ (by repeat (first | (with_reducible first | exact HB.out | apply zE | apply zC | apply zD | refine zF ?_ GE234.out | refine zF ?_ GE235.out) | exact HB.out)) hb); clear HO_5; clear HO_10; clear HO_235005; clear HL261_5; clear BK234; clear BK235; clear HR261_5; clear HB; have HO_5 := n0_; have HO_10 := n1_; have HO_235005 := n2_; have HL261_5 := n3_; have BK234 := n4_; have BK235 := n5_; have HR261_5 := n6_; have HB := n7_; clear n0_ n1_ n2_ n3_ n4_ n5_ n6_ n7_; (try clear hb); (try clear hb2); (try clear hk); (try clear hi)))
           (try simp only [Act.put, zO, zP, zQ])
           go_cut [14] (fun v14 wc => ∃ (kq : Nat) (x14_84 : Bool), v14 = .bool x14_84 ∧ Aside0 (ostinatoref04_Simple.j4 kq t258 x10_2 x11_2 x14_84 a0_0 a0_1 a0_2 a0_3 a0_4 l0_5 a0_6 a0_7 = some (r1, r2, r3, r4, r5, r6, r7, r8)) ∧ Aside0 (kq ≤ k2) ∧ Aside0 (Kd.N k27 27 wc w.heap.size (fun k_ => (P0_5_ k_ ∨ w.heap.size ≤ k_) ∧ some k_ ≠ (u10 : Value).ownBlock ∧ k_ ≠ gb234 ∧ k_ ≠ gb235) (.slice (some ad261) t258.length co86) t258) ∧ Aside0 (Kd.N k27 27 wc w.heap.size (fun k_ => (P0_5_ k_ ∨ w.heap.size ≤ k_) ∧ some k_ ≠ ((.slice (some ad261) t258.length co86) : Value).ownBlock ∧ k_ ≠ gb234 ∧ k_ ≠ gb235) u10 x10_2) ∧ Aside0 (Kd.V k27 27 wc w.heap.size (fun k_ => (P0_5_ k_ ∨ w.heap.size ≤ k_) ∧ some k_ ≠ ((.slice (some ad261) t258.length co86) : Value).ownBlock ∧ some k_ ≠ (u10 : Value).ownBlock ∧ k_ ≠ gb234 ∧ k_ ≠ gb235) (.slice A0_5 l0_5.length c0_5) l0_5) ∧ Aside0 (wc.heap[gb234]? = some (.cells #[.int .i64 a0_0, .int .u64 a0_1, .int .u64 a0_2, .int .u64 a0_3, .int .u64 a0_4, (.slice A0_5 l0_5.length c0_5), .int .i64 a0_6, .int .i64 a0_7] 27 (0, 0))) ∧ Aside0 (wc.heap[gb235]? = some (.cells #[.int .i64 0, .int .u64 0, .int .u64 0, .int .u64 0, .int .u64 0, (.slice none 0 0), .int .i64 0, .int .i64 0] 27 (0, 0))) ∧ Aside0 (Kd.C k27 wc A261_5 ((rd_T27 t258 x11_2).f2).length ((rd_T27 t258 x11_2).f2)) ∧ Aside0 (Below w.heap.size w wc))
           case first =>
            have H := HC85.out
            clear HC85
            by_cases c88 : a0_0 = 2
            ·
             rw [if_pos c88] at H
             have c88b0 : (a0_0 == 2) = true := beq_iff_eq.mpr c88
             have c88b1 : (a0_0 != 2) = false := bne_eq_false_iff_eq.mpr c88
             clear c88
             (first | rw [c88b0] | (simp only [i64_w, i32_w]; rw [c88b0]) | skip)
             by_cases c89 : ((rd_T27 t258 x11_2).f0) = 0
             ·
              rw [if_pos c89] at H
              have c89b0 : (((rd_T27 t258 x11_2).f0) == 0) = true := beq_iff_eq.mpr c89
              have c89b1 : (((rd_T27 t258 x11_2).f0) != 0) = false := bne_eq_false_iff_eq.mpr c89
              clear c89
              have H' := zM H
              clear H
              have hnb90 := NB234_235.out
              have hnc90 := NB235_234.out
              obtain ⟨hcz91_0, hcz91_1, hcz91_2, hcz91_3, hcz91_4, hcz91_5, hcz91_6, hcz91_7, hfz91_0, hfz91_1, hfz91_2, hfz91_3, hfz91_4, hfz91_5, hfz91_6, hfz91_7⟩ := blk8 BK234.out
              have p264 : 0 ≤ (x11_2 : Int) := of_decide_eq_true (by first | (with_reducible assumption) | assumption)
              have q264 : x11_2 < (t258.length : Int) := of_decide_eq_true (by first | (with_reducible assumption) | assumption)
              obtain ⟨ad264, A264_5, c264_5, e264, hx264_0, hx264_1, hx264_2, hx264_3, hx264_4, hx264_5, hx264_6, hx264_7, hl264_5, hi264_5⟩ := at_T27 (Kd.N_reads' HO_5.out).2.2 x11_2 p264 q264
              obtain rfl : ad261 = ad264 := (by injection e264)
              obtain ⟨ce264, hce264, hMe264, hcc264⟩ := Kd.N_get HO_5.out z27 x11_2 p264 (by first | exact q264 | exact of_decide_eq_true (by first | (with_reducible assumption) | assumption) | (have e_ := (Kd.N_reads' HO_5.out).1; omega))
              obtain ⟨ua264_5, uc264_5, rfl, ul264_5, ge264_5⟩ := k27_openF hMe264
              have hv264_5 := hcc264 5 _ rfl
              rw [add_field _ _ 5 (by omega)] at hv264_5
              replace hv264_5 := Option.some.inj (hv264_5.symm.trans hx264_5)
              injection hv264_5 with hva_ hvn_ hvc_
              rw [hva_] at ge264_5
              rw [hvc_] at ul264_5
              have HL264_5 := zM (show Kd.V k27 27 _ w.heap.size _ _ ((rd_T27 t258 x11_2).f2) from Kd.V_mk ul264_5 ge264_5)
              clear hva_ hvn_ hvc_ ge264_5 ul264_5 hcc264 hce264
              have HR264_5 := zM hi264_5
              have HC264_5 := zM hl264_5
              clear hi264_5 hl264_5
              replace p264 := eq_true p264
              replace q264 := eq_true q264
              go_wp2
              go_meet
              case rel => exact ⟨_, (true), (by first | rfl | (simp; done) | (simp [*]; done)), H', ⟨by have := HK1.out; have := HK2.out; first | omega | exact Nat.le_refl _⟩, ⟨by (with_reducible repeat (first | apply Kd.N_alloc | apply Kd.N_drewN | apply Kd.N_drew)); exact HO_5.out⟩, ⟨by (with_reducible repeat (first | apply Kd.N_alloc | apply Kd.N_drewN | apply Kd.N_drew)); exact HO_10.out⟩, ⟨by (with_reducible repeat (first | apply Kd.V_alloc | apply Kd.V_drewN | apply Kd.V_drew)); exact HO_235005.out⟩, ⟨by (with_reducible repeat (first | refine zH ?_ _ | refine zI ?_ | refine zG ?_ _)); exact BK234.out⟩, ⟨by (with_reducible repeat (first | refine zH ?_ _ | refine zI ?_ | refine zG ?_ _)); exact BK235.out⟩, ⟨by repeat (first | (with_reducible exact HR261_5.out) | (with_reducible refine Kd.C_alloc ?_ _) | (with_reducible refine Kd.C_drewN ?_ _) | (with_reducible refine Kd.C_drew ?_) | exact HR261_5.out)⟩, ⟨by repeat (first | (with_reducible first | exact HB.out | apply zE | apply zC | apply zD | refine zF ?_ GE234.out | refine zF ?_ GE235.out) | exact HB.out)⟩⟩
             ·
              rw [if_neg c89] at H
              have c89b0 : (((rd_T27 t258 x11_2).f0) == 0) = false := beq_eq_false_iff_ne.mpr c89
              have c89b1 : (((rd_T27 t258 x11_2).f0) != 0) = true := bne_iff_ne.mpr c89
              by_cases c92 : a0_0 = 3
              ·
               rw [if_pos c92] at H
               have c92b0 : (a0_0 == 3) = true := beq_iff_eq.mpr c92
               have c92b1 : (a0_0 != 3) = false := bne_eq_false_iff_eq.mpr c92
               clear c92
               have H' := zM H
               clear H
               have hnb93 := NB234_235.out
               have hnc93 := NB235_234.out
               obtain ⟨hcz94_0, hcz94_1, hcz94_2, hcz94_3, hcz94_4, hcz94_5, hcz94_6, hcz94_7, hfz94_0, hfz94_1, hfz94_2, hfz94_3, hfz94_4, hfz94_5, hfz94_6, hfz94_7⟩ := blk8 BK234.out
               have p264 : 0 ≤ (x11_2 : Int) := of_decide_eq_true (by first | (with_reducible assumption) | assumption)
               have q264 : x11_2 < (t258.length : Int) := of_decide_eq_true (by first | (with_reducible assumption) | assumption)
               obtain ⟨ad264, A264_5, c264_5, e264, hx264_0, hx264_1, hx264_2, hx264_3, hx264_4, hx264_5, hx264_6, hx264_7, hl264_5, hi264_5⟩ := at_T27 (Kd.N_reads' HO_5.out).2.2 x11_2 p264 q264
               obtain rfl : ad261 = ad264 := (by injection e264)
               obtain ⟨ce264, hce264, hMe264, hcc264⟩ := Kd.N_get HO_5.out z27 x11_2 p264 (by first | exact q264 | exact of_decide_eq_true (by first | (with_reducible assumption) | assumption) | (have e_ := (Kd.N_reads' HO_5.out).1; omega))
               obtain ⟨ua264_5, uc264_5, rfl, ul264_5, ge264_5⟩ := k27_openF hMe264
               have hv264_5 := hcc264 5 _ rfl
               rw [add_field _ _ 5 (by omega)] at hv264_5
               replace hv264_5 := Option.some.inj (hv264_5.symm.trans hx264_5)
               injection hv264_5 with hva_ hvn_ hvc_
               rw [hva_] at ge264_5
               rw [hvc_] at ul264_5
               have HL264_5 := zM (show Kd.V k27 27 _ w.heap.size _ _ ((rd_T27 t258 x11_2).f2) from Kd.V_mk ul264_5 ge264_5)
               clear hva_ hvn_ hvc_ ge264_5 ul264_5 hcc264 hce264
               have HR264_5 := zM hi264_5
               have HC264_5 := zM hl264_5
               clear hi264_5 hl264_5
               replace p264 := eq_true p264
               replace q264 := eq_true q264
               go_wp2
               go_meet
               case rel => exact ⟨_, (t262), (by first | rfl | (simp; done) | (simp [*]; done)), H', ⟨by have := HK1.out; have := HK2.out; first | omega | exact Nat.le_refl _⟩, ⟨by (with_reducible repeat (first | apply Kd.N_alloc | apply Kd.N_drewN | apply Kd.N_drew)); exact HO_5.out⟩, ⟨by (with_reducible repeat (first | apply Kd.N_alloc | apply Kd.N_drewN | apply Kd.N_drew)); exact HO_10.out⟩, ⟨by (with_reducible repeat (first | apply Kd.V_alloc | apply Kd.V_drewN | apply Kd.V_drew)); exact HO_235005.out⟩, ⟨by (with_reducible repeat (first | refine zH ?_ _ | refine zI ?_ | refine zG ?_ _)); exact BK234.out⟩, ⟨by (with_reducible repeat (first | refine zH ?_ _ | refine zI ?_ | refine zG ?_ _)); exact BK235.out⟩, ⟨by repeat (first | (with_reducible exact HR261_5.out) | (with_reducible refine Kd.C_alloc ?_ _) | (with_reducible refine Kd.C_drewN ?_ _) | (with_reducible refine Kd.C_drew ?_) | exact HR261_5.out)⟩, ⟨by repeat (first | (with_reducible first | exact HB.out | apply zE | apply zC | apply zD | refine zF ?_ GE234.out | refine zF ?_ GE235.out) | exact HB.out)⟩⟩
              ·
               rw [if_neg c92] at H
               have c92b0 : (a0_0 == 3) = false := beq_eq_false_iff_ne.mpr c92
               have c92b1 : (a0_0 != 3) = true := bne_iff_ne.mpr c92
               have H' := zM H
               clear H
               have hnb95 := NB234_235.out
               have hnc95 := NB235_234.out
               obtain ⟨hcz96_0, hcz96_1, hcz96_2, hcz96_3, hcz96_4, hcz96_5, hcz96_6, hcz96_7, hfz96_0, hfz96_1, hfz96_2, hfz96_3, hfz96_4, hfz96_5, hfz96_6, hfz96_7⟩ := blk8 BK234.out
               have p264 : 0 ≤ (x11_2 : Int) := of_decide_eq_true (by first | (with_reducible assumption) | assumption)
               have q264 : x11_2 < (t258.length : Int) := of_decide_eq_true (by first | (with_reducible assumption) | assumption)
               obtain ⟨ad264, A264_5, c264_5, e264, hx264_0, hx264_1, hx264_2, hx264_3, hx264_4, hx264_5, hx264_6, hx264_7, hl264_5, hi264_5⟩ := at_T27 (Kd.N_reads' HO_5.out).2.2 x11_2 p264 q264
               obtain rfl : ad261 = ad264 := (by injection e264)
               obtain ⟨ce264, hce264, hMe264, hcc264⟩ := Kd.N_get HO_5.out z27 x11_2 p264 (by first | exact q264 | exact of_decide_eq_true (by first | (with_reducible assumption) | assumption) | (have e_ := (Kd.N_reads' HO_5.out).1; omega))
               obtain ⟨ua264_5, uc264_5, rfl, ul264_5, ge264_5⟩ := k27_openF hMe264
               have hv264_5 := hcc264 5 _ rfl
               rw [add_field _ _ 5 (by omega)] at hv264_5
               replace hv264_5 := Option.some.inj (hv264_5.symm.trans hx264_5)
               injection hv264_5 with hva_ hvn_ hvc_
               rw [hva_] at ge264_5
               rw [hvc_] at ul264_5
               have HL264_5 := zM (show Kd.V k27 27 _ w.heap.size _ _ ((rd_T27 t258 x11_2).f2) from Kd.V_mk ul264_5 ge264_5)
               clear hva_ hvn_ hvc_ ge264_5 ul264_5 hcc264 hce264
               have HR264_5 := zM hi264_5
               have HC264_5 := zM hl264_5
               clear hi264_5 hl264_5
               replace p264 := eq_true p264
               replace q264 := eq_true q264
               go_wp2
               go_meet
               case rel => exact ⟨_, (false), (by first | rfl | (simp; done) | (simp [*]; done)), H', ⟨by have := HK1.out; have := HK2.out; first | omega | exact Nat.le_refl _⟩, ⟨by (with_reducible repeat (first | apply Kd.N_alloc | apply Kd.N_drewN | apply Kd.N_drew)); exact HO_5.out⟩, ⟨by (with_reducible repeat (first | apply Kd.N_alloc | apply Kd.N_drewN | apply Kd.N_drew)); exact HO_10.out⟩, ⟨by (with_reducible repeat (first | apply Kd.V_alloc | apply Kd.V_drewN | apply Kd.V_drew)); exact HO_235005.out⟩, ⟨by (with_reducible repeat (first | refine zH ?_ _ | refine zI ?_ | refine zG ?_ _)); exact BK234.out⟩, ⟨by (with_reducible repeat (first | refine zH ?_ _ | refine zI ?_ | refine zG ?_ _)); exact BK235.out⟩, ⟨by repeat (first | (with_reducible exact HR261_5.out) | (with_reducible refine Kd.C_alloc ?_ _) | (with_reducible refine Kd.C_drewN ?_ _) | (with_reducible refine Kd.C_drew ?_) | exact HR261_5.out)⟩, ⟨by repeat (first | (with_reducible first | exact HB.out | apply zE | apply zC | apply zD | refine zF ?_ GE234.out | refine zF ?_ GE235.out) | exact HB.out)⟩⟩
            ·
             rw [if_neg c88] at H
             have c88b0 : (a0_0 == 2) = false := beq_eq_false_iff_ne.mpr c88
             have c88b1 : (a0_0 != 2) = true := bne_iff_ne.mpr c88
             (first | rw [c88b0] | (simp only [i64_w, i32_w]; rw [c88b0]) | skip)
             by_cases c97 : a0_0 = 3
             ·
              rw [if_pos c97] at H
              have c97b0 : (a0_0 == 3) = true := beq_iff_eq.mpr c97
              have c97b1 : (a0_0 != 3) = false := bne_eq_false_iff_eq.mpr c97
              clear c97
              have H' := zM H
              clear H
              have hnb98 := NB234_235.out
              have hnc98 := NB235_234.out
              obtain ⟨hcz99_0, hcz99_1, hcz99_2, hcz99_3, hcz99_4, hcz99_5, hcz99_6, hcz99_7, hfz99_0, hfz99_1, hfz99_2, hfz99_3, hfz99_4, hfz99_5, hfz99_6, hfz99_7⟩ := blk8 BK234.out
              go_wp2
              go_meet
              case rel => exact ⟨_, (t262), (by first | rfl | (simp; done) | (simp [*]; done)), H', ⟨by have := HK1.out; have := HK2.out; first | omega | exact Nat.le_refl _⟩, ⟨by (with_reducible repeat (first | apply Kd.N_alloc | apply Kd.N_drewN | apply Kd.N_drew)); exact HO_5.out⟩, ⟨by (with_reducible repeat (first | apply Kd.N_alloc | apply Kd.N_drewN | apply Kd.N_drew)); exact HO_10.out⟩, ⟨by (with_reducible repeat (first | apply Kd.V_alloc | apply Kd.V_drewN | apply Kd.V_drew)); exact HO_235005.out⟩, ⟨by (with_reducible repeat (first | refine zH ?_ _ | refine zI ?_ | refine zG ?_ _)); exact BK234.out⟩, ⟨by (with_reducible repeat (first | refine zH ?_ _ | refine zI ?_ | refine zG ?_ _)); exact BK235.out⟩, ⟨by repeat (first | (with_reducible exact HR261_5.out) | (with_reducible refine Kd.C_alloc ?_ _) | (with_reducible refine Kd.C_drewN ?_ _) | (with_reducible refine Kd.C_drew ?_) | exact HR261_5.out)⟩, ⟨by repeat (first | (with_reducible first | exact HB.out | apply zE | apply zC | apply zD | refine zF ?_ GE234.out | refine zF ?_ GE235.out) | exact HB.out)⟩⟩
             ·
              rw [if_neg c97] at H
              have c97b0 : (a0_0 == 3) = false := beq_eq_false_iff_ne.mpr c97
              have c97b1 : (a0_0 != 3) = true := bne_iff_ne.mpr c97
              have H' := zM H
              clear H
              have hnb100 := NB234_235.out
              have hnc100 := NB235_234.out
              obtain ⟨hcz101_0, hcz101_1, hcz101_2, hcz101_3, hcz101_4, hcz101_5, hcz101_6, hcz101_7, hfz101_0, hfz101_1, hfz101_2, hfz101_3, hfz101_4, hfz101_5, hfz101_6, hfz101_7⟩ := blk8 BK234.out
              go_wp2
              go_meet
              case rel => exact ⟨_, (false), (by first | rfl | (simp; done) | (simp [*]; done)), H', ⟨by have := HK1.out; have := HK2.out; first | omega | exact Nat.le_refl _⟩, ⟨by (with_reducible repeat (first | apply Kd.N_alloc | apply Kd.N_drewN | apply Kd.N_drew)); exact HO_5.out⟩, ⟨by (with_reducible repeat (first | apply Kd.N_alloc | apply Kd.N_drewN | apply Kd.N_drew)); exact HO_10.out⟩, ⟨by (with_reducible repeat (first | apply Kd.V_alloc | apply Kd.V_drewN | apply Kd.V_drew)); exact HO_235005.out⟩, ⟨by (with_reducible repeat (first | refine zH ?_ _ | refine zI ?_ | refine zG ?_ _)); exact BK234.out⟩, ⟨by (with_reducible repeat (first | refine zH ?_ _ | refine zI ?_ | refine zG ?_ _)); exact BK235.out⟩, ⟨by repeat (first | (with_reducible exact HR261_5.out) | (with_reducible refine Kd.C_alloc ?_ _) | (with_reducible refine Kd.C_drewN ?_ _) | (with_reducible refine Kd.C_drew ?_) | exact HR261_5.out)⟩, ⟨by repeat (first | (with_reducible first | exact HB.out | apply zE | apply zC | apply zD | refine zF ?_ GE234.out | refine zF ?_ GE235.out) | exact HB.out)⟩⟩
           case rest =>
            clear HC85
            (try clear c1); (try clear c2); (try clear p2 p2); (try clear q2 q2); (try clear hx2); (try clear c3); (try clear p6 p6); (try clear c8); (try clear c9); (try clear c10); (try clear p23 p23); (try clear q23 q23); (try clear hx23); (try clear p25 p25); (try clear q25 q25); (try clear hx25); (try clear c26); (try clear p26); (try clear q26); (try clear hx26); (try clear c36); (try clear c82); (try clear c82b0); (try clear c83); (try clear c83b0); (try clear c88); (try clear c88b0); (try clear c88b1); (try clear c89); (try clear c89b0); (try clear c89b1); (try clear c90); (try clear c92); (try clear c92b0); (try clear c92b1); (try clear c93); (try clear c95); (try clear c97); (try clear c97b0); (try clear c97b1); (try clear c98); (try clear c100); (try clear hcz101_0 hcz101_1 hcz101_2 hcz101_3 hcz101_4 hcz101_5 hcz101_6 hcz101_7); (try clear hcz48_4 hcz48_5 hcz48_6 hcz48_7); (try clear hcz51_0 hcz51_1 hcz51_2 hcz51_3 hcz51_4 hcz51_5 hcz51_6 hcz51_7); (try clear hcz55_0 hcz55_1 hcz55_2 hcz55_3 hcz55_4 hcz55_5 hcz55_6 hcz55_7); (try clear hcz57_0 hcz57_1 hcz57_2 hcz57_3 hcz57_4 hcz57_5 hcz57_6 hcz57_7); (try clear hcz61_0 hcz61_1 hcz61_2 hcz61_3 hcz61_4 hcz61_5 hcz61_6 hcz61_7); (try clear hcz64_0 hcz64_1 hcz64_2 hcz64_3 hcz64_4 hcz64_5 hcz64_6 hcz64_7); (try clear hcz68_0 hcz68_1 hcz68_2 hcz68_3 hcz68_4 hcz68_5 hcz68_6 hcz68_7); (try clear hcz69_0 hcz69_1 hcz69_2 hcz69_3 hcz69_4 hcz69_5 hcz69_6 hcz69_7); (try clear hcz71_0 hcz71_1 hcz71_2 hcz71_3 hcz71_4 hcz71_5 hcz71_6 hcz71_7); (try clear hcz75_0 hcz75_1 hcz75_2 hcz75_3 hcz75_4 hcz75_5 hcz75_6 hcz75_7); (try clear hcz76_0 hcz76_1 hcz76_2 hcz76_3 hcz76_4 hcz76_5 hcz76_6 hcz76_7); (try clear hcz79_0 hcz79_1 hcz79_2 hcz79_3 hcz79_4 hcz79_5 hcz79_6 hcz79_7); (try clear hcz7_0 hcz7_1 hcz7_2 hcz7_3 hcz7_4 hcz7_5 hcz7_6 hcz7_7); (try clear hcz91_0 hcz91_1 hcz91_2 hcz91_3 hcz91_4 hcz91_5 hcz91_6 hcz91_7); (try clear hcz94_0 hcz94_1 hcz94_2 hcz94_3 hcz94_4 hcz94_5 hcz94_6 hcz94_7); (try clear hcz96_0 hcz96_1 hcz96_2 hcz96_3 hcz96_4 hcz96_5 hcz96_6 hcz96_7); (try clear hcz99_0 hcz99_1 hcz99_2 hcz99_3 hcz99_4 hcz99_5 hcz99_6 hcz99_7); (try clear hcz9_0 hcz9_1 hcz9_2 hcz9_3 hcz9_4 hcz9_5 hcz9_6 hcz9_7); (try clear hfz101_0 hfz101_1 hfz101_2 hfz101_3 hfz101_4 hfz101_5 hfz101_6 hfz101_7); (try clear hfz14_0 hfz14_1 hfz14_2 hfz14_3 hfz14_4 hfz14_5 hfz14_6 hfz14_7); (try clear hfz16_0 hfz16_1 hfz16_2 hfz16_3 hfz16_4 hfz16_5 hfz16_6 hfz16_7); (try clear hfz17_0 hfz17_1 hfz17_2 hfz17_3 hfz17_4 hfz17_5 hfz17_6 hfz17_7); (try clear hfz21_0 hfz21_1 hfz21_2 hfz21_3 hfz21_4 hfz21_5 hfz21_6 hfz21_7); (try clear hfz23_0 hfz23_1 hfz23_2 hfz23_3 hfz23_4 hfz23_5 hfz23_6 hfz23_7); (try clear hfz29_0 hfz29_1 hfz29_2 hfz29_3 hfz29_4 hfz29_5 hfz29_6 hfz29_7); (try clear hfz38_0 hfz38_1 hfz38_2 hfz38_3 hfz38_4 hfz38_5 hfz38_6 hfz38_7); (try clear hfz43_0 hfz43_1 hfz43_2 hfz43_3 hfz43_4 hfz43_5 hfz43_6 hfz43_7); (try clear hfz46_0 hfz46_1 hfz46_2 hfz46_3 hfz46_4 hfz46_5 hfz46_6 hfz46_7); (try clear hfz48_0 hfz48_1 hfz48_2 hfz48_3 hfz48_4 hfz48_5 hfz48_6 hfz48_7); (try clear hfz51_0 hfz51_1 hfz51_2 hfz51_3 hfz51_4 hfz51_5 hfz51_6 hfz51_7); (try clear hfz55_0 hfz55_1 hfz55_2 hfz55_3 hfz55_4 hfz55_5 hfz55_6 hfz55_7); (try clear hfz57_0 hfz57_1 hfz57_2 hfz57_3 hfz57_4 hfz57_5 hfz57_6 hfz57_7); (try clear hfz61_0 hfz61_1 hfz61_2 hfz61_3 hfz61_4 hfz61_5 hfz61_6 hfz61_7); (try clear hfz64_0 hfz64_1 hfz64_2 hfz64_3 hfz64_4 hfz64_5 hfz64_6 hfz64_7); (try clear hfz68_0 hfz68_1 hfz68_2 hfz68_3 hfz68_4 hfz68_5 hfz68_6 hfz68_7); (try clear hfz69_0 hfz69_1 hfz69_2 hfz69_3 hfz69_4 hfz69_5 hfz69_6 hfz69_7); (try clear hfz71_0 hfz71_1 hfz71_2 hfz71_3 hfz71_4 hfz71_5 hfz71_6 hfz71_7); (try clear hfz75_0 hfz75_1 hfz75_2 hfz75_3 hfz75_4 hfz75_5 hfz75_6 hfz75_7); (try clear hfz76_0 hfz76_1 hfz76_2 hfz76_3 hfz76_4 hfz76_5 hfz76_6 hfz76_7); (try clear hfz79_0 hfz79_1 hfz79_2 hfz79_3 hfz79_4 hfz79_5 hfz79_6 hfz79_7); (try clear hfz7_0 hfz7_1 hfz7_2 hfz7_3 hfz7_4 hfz7_5 hfz7_6 hfz7_7); (try clear hfz91_0 hfz91_1 hfz91_2 hfz91_3 hfz91_4 hfz91_5 hfz91_6 hfz91_7); (try clear hfz94_0 hfz94_1 hfz94_2 hfz94_3 hfz94_4 hfz94_5 hfz94_6 hfz94_7); (try clear hfz96_0 hfz96_1 hfz96_2 hfz96_3 hfz96_4 hfz96_5 hfz96_6 hfz96_7); (try clear hfz99_0 hfz99_1 hfz99_2 hfz99_3 hfz99_4 hfz99_5 hfz99_6 hfz99_7); (try clear hfz9_0 hfz9_1 hfz9_2 hfz9_3 hfz9_4 hfz9_5 hfz9_6 hfz9_7); (try clear hx238_0 hx238_1 hx238_2 hx238_3 hx238_4 hx238_5 hx238_6 hx238_7); (try clear hx252_0 hx252_1 hx252_2 hx252_3 hx252_4 hx252_5 hx252_6 hx252_7); (try clear hx255_0 hx255_1 hx255_2 hx255_3 hx255_4 hx255_5 hx255_6 hx255_7); (try clear hx256_0 hx256_1 hx256_2 hx256_3 hx256_4 hx256_5 hx256_6 hx256_7); (try clear hx261_0 hx261_1 hx261_2 hx261_3 hx261_4 hx261_5 hx261_6 hx261_7); (try clear hx264_0 hx264_1 hx264_2 hx264_3 hx264_4 hx264_5 hx264_6 hx264_7); (try clear p238); (try clear p252); (try clear p255); (try clear p256); (try clear p261); (try clear p264); (try clear q238); (try clear q252); (try clear q255); (try clear q256); (try clear q261); (try clear q264)
            obtain ⟨kq, x14_84, rfl, HA, HJ84, HO_5, HO_10, HO_235005, BK234, BK235, HR261_5, HB⟩ := hcut
            cases kq with
            | zero => exact absurd HA.out (by simp [ostinatoref04_Simple.j4])
            | succ kj84 =>
             have H := HA.out
             clear HA
             simp only [ostinatoref04_Simple.j4] at H
             have H' := zM H
             clear H
             go_wp2
             go_loopg [14, 15] kj84 (fun kq v14 v15 w' => ∃ (x14_4 : Bool) (x15_4 : Int), v14 = .bool x14_4 ∧ v15 = .int .i64 x15_4 ∧ Aside0 (ostinatoref04_Simple.l2 kq t258 x10_2 x11_2 x14_4 x15_4 a0_0 a0_1 a0_2 a0_3 a0_4 l0_5 a0_6 a0_7 = some (r1, r2, r3, r4, r5, r6, r7, r8)) ∧ Aside0 (kq ≤ kj84) ∧ Aside0 (Kd.N k27 27 w' w.heap.size (fun k_ => (P0_5_ k_ ∨ w.heap.size ≤ k_) ∧ some k_ ≠ (u10 : Value).ownBlock ∧ k_ ≠ gb234 ∧ k_ ≠ gb235) (.slice (some ad261) t258.length co86) t258) ∧ Aside0 (Kd.N k27 27 w' w.heap.size (fun k_ => (P0_5_ k_ ∨ w.heap.size ≤ k_) ∧ some k_ ≠ ((.slice (some ad261) t258.length co86) : Value).ownBlock ∧ k_ ≠ gb234 ∧ k_ ≠ gb235) u10 x10_2) ∧ Aside0 (Kd.V k27 27 w' w.heap.size (fun k_ => (P0_5_ k_ ∨ w.heap.size ≤ k_) ∧ some k_ ≠ ((.slice (some ad261) t258.length co86) : Value).ownBlock ∧ some k_ ≠ (u10 : Value).ownBlock ∧ k_ ≠ gb234 ∧ k_ ≠ gb235) (.slice A0_5 l0_5.length c0_5) l0_5) ∧ Aside0 (w'.heap[gb234]? = some (.cells #[.int .i64 a0_0, .int .u64 a0_1, .int .u64 a0_2, .int .u64 a0_3, .int .u64 a0_4, (.slice A0_5 l0_5.length c0_5), .int .i64 a0_6, .int .i64 a0_7] 27 (0, 0))) ∧ Aside0 (w'.heap[gb235]? = some (.cells #[.int .i64 0, .int .u64 0, .int .u64 0, .int .u64 0, .int .u64 0, (.slice none 0 0), .int .i64 0, .int .i64 0] 27 (0, 0))) ∧ Aside0 (Kd.C k27 w' A261_5 ((rd_T27 t258 x11_2).f2).length ((rd_T27 t258 x11_2).f2)) ∧ Aside0 (Below w.heap.size w w'))
             case atStart => exact ⟨(x14_84), (0), (by first | rfl | (simp; done) | (simp [*]; done)), (by first | rfl | (simp; done) | (simp [*]; done)), H', ⟨Nat.le_refl _⟩, ⟨by (with_reducible repeat (first | apply Kd.N_alloc | apply Kd.N_drewN | apply Kd.N_drew)); exact HO_5.out⟩, ⟨by (with_reducible repeat (first | apply Kd.N_alloc | apply Kd.N_drewN | apply Kd.N_drew)); exact HO_10.out⟩, ⟨by (with_reducible repeat (first | apply Kd.V_alloc | apply Kd.V_drewN | apply Kd.V_drew)); exact HO_235005.out⟩, ⟨by (with_reducible repeat (first | refine zH ?_ _ | refine zI ?_ | refine zG ?_ _)); exact BK234.out⟩, ⟨by (with_reducible repeat (first | refine zH ?_ _ | refine zI ?_ | refine zG ?_ _)); exact BK235.out⟩, ⟨by repeat (first | (with_reducible exact HR261_5.out) | (with_reducible refine Kd.C_alloc ?_ _) | (with_reducible refine Kd.C_drewN ?_ _) | (with_reducible refine Kd.C_drew ?_) | exact HR261_5.out)⟩, ⟨by repeat (first | (with_reducible first | exact HB.out | apply zE | apply zC | apply zD | refine zF ?_ GE234.out | refine zF ?_ GE235.out) | exact HB.out)⟩⟩
             case round =>
              clear H'
              (try clear c1); (try clear c2); (try clear p2 p2); (try clear q2 q2); (try clear hx2); (try clear c3); (try clear p6 p6); (try clear c8); (try clear c9); (try clear c10); (try clear p23 p23); (try clear q23 q23); (try clear hx23); (try clear p25 p25); (try clear q25 q25); (try clear hx25); (try clear c26); (try clear p26 p26); (try clear q26 q26); (try clear hx26); (try clear c36); (try clear c82); (try clear c82b0); (try clear c83); (try clear c83b0); (try clear c88); (try clear c88b0); (try clear c88b1); (try clear c89); (try clear c89b0); (try clear c89b1); (try clear c90); (try clear c92); (try clear c92b0); (try clear c92b1); (try clear c93); (try clear c95); (try clear c97); (try clear c97b0); (try clear c97b1); (try clear c98); (try clear c100); (try clear hcz101_0 hcz101_1 hcz101_2 hcz101_3 hcz101_4 hcz101_5 hcz101_6 hcz101_7); (try clear hcz48_4 hcz48_5 hcz48_6 hcz48_7); (try clear hcz51_0 hcz51_1 hcz51_2 hcz51_3 hcz51_4 hcz51_5 hcz51_6 hcz51_7); (try clear hcz55_0 hcz55_1 hcz55_2 hcz55_3 hcz55_4 hcz55_5 hcz55_6 hcz55_7); (try clear hcz57_0 hcz57_1 hcz57_2 hcz57_3 hcz57_4 hcz57_5 hcz57_6 hcz57_7); (try clear hcz61_0 hcz61_1 hcz61_2 hcz61_3 hcz61_4 hcz61_5 hcz61_6 hcz61_7); (try clear hcz64_0 hcz64_1 hcz64_2 hcz64_3 hcz64_4 hcz64_5 hcz64_6 hcz64_7); (try clear hcz68_0 hcz68_1 hcz68_2 hcz68_3 hcz68_4 hcz68_5 hcz68_6 hcz68_7); (try clear hcz69_0 hcz69_1 hcz69_2 hcz69_3 hcz69_4 hcz69_5 hcz69_6 hcz69_7); (try clear hcz71_0 hcz71_1 hcz71_2 hcz71_3 hcz71_4 hcz71_5 hcz71_6 hcz71_7); (try clear hcz75_0 hcz75_1 hcz75_2 hcz75_3 hcz75_4 hcz75_5 hcz75_6 hcz75_7); (try clear hcz76_0 hcz76_1 hcz76_2 hcz76_3 hcz76_4 hcz76_5 hcz76_6 hcz76_7); (try clear hcz79_0 hcz79_1 hcz79_2 hcz79_3 hcz79_4 hcz79_5 hcz79_6 hcz79_7); (try clear hcz7_0 hcz7_1 hcz7_2 hcz7_3 hcz7_4 hcz7_5 hcz7_6 hcz7_7); (try clear hcz91_0 hcz91_1 hcz91_2 hcz91_3 hcz91_4 hcz91_5 hcz91_6 hcz91_7); (try clear hcz94_0 hcz94_1 hcz94_2 hcz94_3 hcz94_4 hcz94_5 hcz94_6 hcz94_7); (try clear hcz96_0 hcz96_1 hcz96_2 hcz96_3 hcz96_4 hcz96_5 hcz96_6 hcz96_7); (try clear hcz99_0 hcz99_1 hcz99_2 hcz99_3 hcz99_4 hcz99_5 hcz99_6 hcz99_7); (try clear hcz9_0 hcz9_1 hcz9_2 hcz9_3 hcz9_4 hcz9_5 hcz9_6 hcz9_7); (try clear hfz101_0 hfz101_1 hfz101_2 hfz101_3 hfz101_4 hfz101_5 hfz101_6 hfz101_7); (try clear hfz14_0 hfz14_1 hfz14_2 hfz14_3 hfz14_4 hfz14_5 hfz14_6 hfz14_7); (try clear hfz16_0 hfz16_1 hfz16_2 hfz16_3 hfz16_4 hfz16_5 hfz16_6 hfz16_7); (try clear hfz17_0 hfz17_1 hfz17_2 hfz17_3 hfz17_4 hfz17_5 hfz17_6 hfz17_7); (try clear hfz21_0 hfz21_1 hfz21_2 hfz21_3 hfz21_4 hfz21_5 hfz21_6 hfz21_7); (try clear hfz23_0 hfz23_1 hfz23_2 hfz23_3 hfz23_4 hfz23_5 hfz23_6 hfz23_7); (try clear hfz29_0 hfz29_1 hfz29_2 hfz29_3 hfz29_4 hfz29_5 hfz29_6 hfz29_7); (try clear hfz38_0 hfz38_1 hfz38_2 hfz38_3 hfz38_4 hfz38_5 hfz38_6 hfz38_7); (try clear hfz43_0 hfz43_1 hfz43_2 hfz43_3 hfz43_4 hfz43_5 hfz43_6 hfz43_7); (try clear hfz46_0 hfz46_1 hfz46_2 hfz46_3 hfz46_4 hfz46_5 hfz46_6 hfz46_7); (try clear hfz48_0 hfz48_1 hfz48_2 hfz48_3 hfz48_4 hfz48_5 hfz48_6 hfz48_7); (try clear hfz51_0 hfz51_1 hfz51_2 hfz51_3 hfz51_4 hfz51_5 hfz51_6 hfz51_7); (try clear hfz55_0 hfz55_1 hfz55_2 hfz55_3 hfz55_4 hfz55_5 hfz55_6 hfz55_7); (try clear hfz57_0 hfz57_1 hfz57_2 hfz57_3 hfz57_4 hfz57_5 hfz57_6 hfz57_7); (try clear hfz61_0 hfz61_1 hfz61_2 hfz61_3 hfz61_4 hfz61_5 hfz61_6 hfz61_7); (try clear hfz64_0 hfz64_1 hfz64_2 hfz64_3 hfz64_4 hfz64_5 hfz64_6 hfz64_7); (try clear hfz68_0 hfz68_1 hfz68_2 hfz68_3 hfz68_4 hfz68_5 hfz68_6 hfz68_7); (try clear hfz69_0 hfz69_1 hfz69_2 hfz69_3 hfz69_4 hfz69_5 hfz69_6 hfz69_7); (try clear hfz71_0 hfz71_1 hfz71_2 hfz71_3 hfz71_4 hfz71_5 hfz71_6 hfz71_7); (try clear hfz75_0 hfz75_1 hfz75_2 hfz75_3 hfz75_4 hfz75_5 hfz75_6 hfz75_7); (try clear hfz76_0 hfz76_1 hfz76_2 hfz76_3 hfz76_4 hfz76_5 hfz76_6 hfz76_7); (try clear hfz79_0 hfz79_1 hfz79_2 hfz79_3 hfz79_4 hfz79_5 hfz79_6 hfz79_7); (try clear hfz7_0 hfz7_1 hfz7_2 hfz7_3 hfz7_4 hfz7_5 hfz7_6 hfz7_7); (try clear hfz91_0 hfz91_1 hfz91_2 hfz91_3 hfz91_4 hfz91_5 hfz91_6 hfz91_7); (try clear hfz94_0 hfz94_1 hfz94_2 hfz94_3 hfz94_4 hfz94_5 hfz94_6 hfz94_7); (try clear hfz96_0 hfz96_1 hfz96_2 hfz96_3 hfz96_4 hfz96_5 hfz96_6 hfz96_7); (try clear hfz99_0 hfz99_1 hfz99_2 hfz99_3 hfz99_4 hfz99_5 hfz99_6 hfz99_7); (try clear hfz9_0 hfz9_1 hfz9_2 hfz9_3 hfz9_4 hfz9_5 hfz9_6 hfz9_7); (try clear hx238_0 hx238_1 hx238_2 hx238_3 hx238_4 hx238_5 hx238_6 hx238_7); (try clear hx252_0 hx252_1 hx252_2 hx252_3 hx252_4 hx252_5 hx252_6 hx252_7); (try clear hx255_0 hx255_1 hx255_2 hx255_3 hx255_4 hx255_5 hx255_6 hx255_7); (try clear hx256_0 hx256_1 hx256_2 hx256_3 hx256_4 hx256_5 hx256_6 hx256_7); (try clear hx261_0 hx261_1 hx261_2 hx261_3 hx261_4 hx261_5 hx261_6 hx261_7); (try clear hx264_0 hx264_1 hx264_2 hx264_3 hx264_4 hx264_5 hx264_6 hx264_7); (try clear p238); (try clear p252); (try clear p255); (try clear p256); (try clear p261); (try clear p264); (try clear q238); (try clear q252); (try clear q255); (try clear q256); (try clear q261); (try clear q264)
              obtain ⟨x14_4, x15_4, rfl, rfl, HA, HK4, HO_5, HO_10, HO_235005, BK234, BK235, HR261_5, HB⟩ := hrel
              cases gk with
              | zero => exact absurd HA.out (by simp [ostinatoref04_Simple.l2])
              | succ k4 =>
               have H := HA.out
               clear HA
               simp only [ostinatoref04_Simple.l2] at H
               by_cases c102 : x15_4 < (x10_2.length : Int)
               ·
                rw [if_pos c102] at H
                have c102b0 : decide (x15_4 < (x10_2.length : Int)) = true := decide_eq_true c102
                clear c102
                by_cases c103 : a0_0 = 3
                ·
                 rw [if_pos c103] at H
                 have c103b0 : (a0_0 == 3) = true := beq_iff_eq.mpr c103
                 have c103b1 : (a0_0 != 3) = false := bne_eq_false_iff_eq.mpr c103
                 clear c103
                 by_cases c104 : x14_4 = true
                 ·
                  subst c104
                  have H1 : (ostinatoref04_Simple.l2 k4 t258 x10_2 x11_2 true (wrap64 (x15_4 + 1)) a0_0 a0_1 a0_2 a0_3 a0_4 l0_5 a0_6 a0_7) = some (r1, r2, r3, r4, r5, r6, r7, r8) := by rw [if_pos rfl] at H; exact H
                  clear H
                  have H := H1
                  clear H1
                  have H' := zM H
                  clear H
                  obtain ⟨Ao105, co105, eo105⟩ := Kd.N_slice HO_10.out
                  subst eo105
                  have hnb106 := NB234_235.out
                  have hnc106 := NB235_234.out
                  obtain ⟨hcz107_0, hcz107_1, hcz107_2, hcz107_3, hcz107_4, hcz107_5, hcz107_6, hcz107_7, hfz107_0, hfz107_1, hfz107_2, hfz107_3, hfz107_4, hfz107_5, hfz107_6, hfz107_7⟩ := blk8 BK234.out
                  try go_wp2
                  have n0_ := zM (Kd.N_drew HO_5.out)
                  have n1_ := zM (Kd.N_drew HO_10.out)
                  have n2_ := zM (Kd.V_drew HO_235005.out)
                  have n3_ := zM (zI BK234.out)
                  have n4_ := zM (zI BK235.out)
                  have n5_ := zM (Kd.C_drew HR261_5.out)
                  have n6_ := zM (zD HB.out)
                  clear HO_5 HO_10 HO_235005 BK234 BK235 HR261_5 HB
                  have HO_5 := n0_
                  have HO_10 := n1_
                  have HO_235005 := n2_
                  have BK234 := n3_
                  have BK235 := n4_
                  have HR261_5 := n5_
                  have HB := n6_
                  clear n0_ n1_ n2_ n3_ n4_ n5_ n6_
                  refine start_ (n := 13) (S := fun w' => True) (ds := []) #[false, false, false, false, false, false, false, false, false, false, false, false, false] (by kernel_rfl) rfl rfl trivial (fun hHeld => ?_); refine with_tabW ostinatoref04_Simple.tab31 ostinatoref04_Simple.bits31 (fun HT_ HW_ => ?_)
                  generalize wr.drew = w108 at HO_5 HO_10 HO_235005 BK234 BK235 HR261_5 HB hHeld ⊢
                  refine pure_ (i := 0) (N := some 135) (v := ?_) (a' := ?_) #[true, false, false, false, false, false, false, false, false, false, false, false, false] rfl rfl (any_of HT_.out (by kernel_rfl)) (fun _ _ _ h => h) (Or.inl ⟨by rfl, ?_⟩) ?_ ?_
                  rotate_left
                  ·
                   intro w'
                   go_simp
                   with_reducible rfl
                  rotate_left
                  ·
                   simp only [Act.put, zO, zP, zQ, i64_w, i32_w]
                   rfl
                  refine pure_ (i := 1) (N := some 136) (v := ?_) (a' := ?_) #[true, true, false, false, false, false, false, false, false, false, false, false, false] rfl rfl (any_of HT_.out (by kernel_rfl)) (fun _ _ _ h => h) (Or.inl ⟨by rfl, ?_⟩) ?_ ?_
                  rotate_left
                  ·
                   intro w'
                   go_simp
                   with_reducible rfl
                  rotate_left
                  ·
                   simp only [Act.put, zO, zP, zQ, i64_w, i32_w]
                   rfl
                  refine pure_ (i := 2) (N := some 137) (v := undef) (a' := ?_) #[true, true, true, false, false, false, false, false, false, false, false, false, false] rfl rfl (any_of HT_.out (by kernel_rfl)) (fun _ _ _ h => h) (Or.inr ⟨by rfl, rfl⟩) ?_ ?_
                  rotate_left
                  ·
                   simp only [Act.put, zO, zP, zQ, i64_w, i32_w]
                   rfl
                  refine pure_ (i := 3) (N := some 138) (v := undef) (a' := ?_) #[true, true, true, true, false, false, false, false, false, false, false, false, false] rfl rfl (any_of HT_.out (by kernel_rfl)) (fun _ _ _ h => h) (Or.inr ⟨by rfl, rfl⟩) ?_ ?_
                  rotate_left
                  ·
                   simp only [Act.put, zO, zP, zQ, i64_w, i32_w]
                   rfl
                  refine pure_ (i := 4) (N := some 139) (v := undef) (a' := ?_) #[true, true, true, true, true, false, false, false, false, false, false, false, false] rfl rfl (any_of HT_.out (by kernel_rfl)) (fun _ _ _ h => h) (Or.inr ⟨by rfl, rfl⟩) ?_ ?_
                  rotate_left
                  ·
                   simp only [Act.put, zO, zP, zQ, i64_w, i32_w]
                   rfl
                  refine pure_ (i := 5) (N := some 140) (v := undef) (a' := ?_) #[true, true, true, true, true, true, false, false, false, false, false, false, false] rfl rfl (any_of HT_.out (by kernel_rfl)) (fun _ _ _ h => h) (Or.inr ⟨by rfl, rfl⟩) ?_ ?_
                  rotate_left
                  ·
                   simp only [Act.put, zO, zP, zQ, i64_w, i32_w]
                   rfl
                  refine pure_ (i := 6) (N := some 141) (v := undef) (a' := ?_) #[true, true, true, true, true, true, true, false, false, false, false, false, false] rfl rfl (any_of HT_.out (by kernel_rfl)) (fun _ _ _ h => h) (Or.inr ⟨by rfl, rfl⟩) ?_ ?_
                  rotate_left
                  ·
                   simp only [Act.put, zO, zP, zQ, i64_w, i32_w]
                   rfl
                  refine pure_ (i := 7) (N := some 142) (v := undef) (a' := ?_) #[true, true, true, true, true, true, true, true, false, false, false, false, false] rfl rfl (any_of HT_.out (by kernel_rfl)) (fun _ _ _ h => h) (Or.inr ⟨by rfl, rfl⟩) ?_ ?_
                  rotate_left
                  ·
                   simp only [Act.put, zO, zP, zQ, i64_w, i32_w]
                   rfl
                  refine pure_ (i := 8) (N := some 143) (v := undef) (a' := ?_) #[true, true, true, true, true, true, true, true, true, false, false, false, false] rfl rfl (any_of HT_.out (by kernel_rfl)) (fun _ _ _ h => h) (Or.inr ⟨by rfl, rfl⟩) ?_ ?_
                  rotate_left
                  ·
                   simp only [Act.put, zO, zP, zQ, i64_w, i32_w]
                   rfl
                  refine pure_ (i := 9) (N := some 144) (v := undef) (a' := ?_) #[true, true, true, true, true, true, true, true, true, true, false, false, false] rfl rfl (any_of HT_.out (by kernel_rfl)) (fun _ _ _ h => h) (Or.inr ⟨by rfl, rfl⟩) ?_ ?_
                  rotate_left
                  ·
                   simp only [Act.put, zO, zP, zQ, i64_w, i32_w]
                   rfl
                  refine pure_ (i := 10) (N := some 145) (v := undef) (a' := ?_) #[true, true, true, true, true, true, true, true, true, true, true, false, false] rfl rfl (any_of HT_.out (by kernel_rfl)) (fun _ _ _ h => h) (Or.inr ⟨by rfl, rfl⟩) ?_ ?_
                  rotate_left
                  ·
                   simp only [Act.put, zO, zP, zQ, i64_w, i32_w]
                   rfl
                  refine pure_ (i := 11) (N := some 146) (v := ?_) (a' := ?_) #[true, true, true, true, true, true, true, true, true, true, true, true, false] rfl rfl (any_of HT_.out (by kernel_rfl)) (fun _ _ _ h => h) (Or.inl ⟨by rfl, ?_⟩) ?_ ?_
                  rotate_left
                  ·
                   intro w'
                   go_simp
                   with_reducible rfl
                  rotate_left
                  ·
                   simp only [Act.put, zO, zP, zQ, i64_w, i32_w]
                   rfl
                  refine pure_ (i := 12) (N := some 14) (v := ?_) (a' := ?_) #[true, true, true, true, true, true, true, true, true, true, true, true, true] rfl rfl (any_of HT_.out (by kernel_rfl)) (fun _ _ _ h => h) (Or.inl ⟨by rfl, ?_⟩) ?_ ?_
                  rotate_left
                  ·
                   intro w'
                   go_simp
                   with_reducible rfl
                  rotate_left
                  ·
                   simp only [Act.put, zO, zP, zQ, i64_w, i32_w]
                   rfl
                  refine done_ (done_of HT_.out (by kernel_rfl)) ?_
                  try go_wp2
                  go_roundg k4
                  case measure => have := HK1.out; have := HK2.out; have := HJ84.out; have := HK4.out; omega
                  case rel => exact ⟨(true), (wrap64 (x15_4 + 1)), (by first | rfl | (simp; done) | (simp [*]; done)), (by first | rfl | (simp; done) | (simp [*]; done)), H', ⟨by have := HK1.out; have := HK2.out; have := HJ84.out; have := HK4.out; omega⟩, ⟨by (with_reducible repeat (first | apply Kd.N_alloc | apply Kd.N_drewN | apply Kd.N_drew)); exact HO_5.out⟩, ⟨by (with_reducible repeat (first | apply Kd.N_alloc | apply Kd.N_drewN | apply Kd.N_drew)); exact HO_10.out⟩, ⟨by (with_reducible repeat (first | apply Kd.V_alloc | apply Kd.V_drewN | apply Kd.V_drew)); exact HO_235005.out⟩, ⟨by (with_reducible repeat (first | refine zH ?_ _ | refine zI ?_ | refine zG ?_ _)); exact BK234.out⟩, ⟨by (with_reducible repeat (first | refine zH ?_ _ | refine zI ?_ | refine zG ?_ _)); exact BK235.out⟩, ⟨by repeat (first | (with_reducible exact HR261_5.out) | (with_reducible refine Kd.C_alloc ?_ _) | (with_reducible refine Kd.C_drewN ?_ _) | (with_reducible refine Kd.C_drew ?_) | exact HR261_5.out)⟩, ⟨by repeat (first | (with_reducible first | exact HB.out | apply zE | apply zC | apply zD | refine zF ?_ GE234.out | refine zF ?_ GE235.out) | exact HB.out)⟩⟩
                 ·
                  replace c104 := Bool.eq_false_iff.mpr c104
                  subst c104
                  have H1 : (if 0 ≤ x15_4 then (if 0 ≤ x11_2 then (if x11_2 < (t258.length : Int) then ((ostinatoref02_Same.f k4 ((rd_T27 x10_2 x15_4).f0) ((rd_T27 x10_2 x15_4).f1.f0) ((rd_T27 x10_2 x15_4).f1.f1) ((rd_T27 x10_2 x15_4).f1.f2) ((rd_T27 x10_2 x15_4).f1.f3) ((rd_T27 x10_2 x15_4).f2) ((rd_T27 x10_2 x15_4).f3) ((rd_T27 x10_2 x15_4).f4) ((rd_T27 t258 x11_2).f0) ((rd_T27 t258 x11_2).f1.f0) ((rd_T27 t258 x11_2).f1.f1) ((rd_T27 t258 x11_2).f1.f2) ((rd_T27 t258 x11_2).f1.f3) ((rd_T27 t258 x11_2).f2) ((rd_T27 t258 x11_2).f3) ((rd_T27 t258 x11_2).f4)).bind fun t267 => (ostinatoref04_Simple.l2 k4 t258 x10_2 x11_2 t267 (wrap64 (x15_4 + 1)) a0_0 a0_1 a0_2 a0_3 a0_4 l0_5 a0_6 a0_7)) else (none)) else (none)) else (none)) = some (r1, r2, r3, r4, r5, r6, r7, r8) := by rw [if_neg (show ¬ (false = true) by decide)] at H; exact H
                  clear H
                  have H := H1
                  clear H1
                  by_cases c109 : 0 ≤ x15_4
                  ·
                   rw [if_pos c109] at H
                   have c109b0 : decide (0 ≤ x15_4) = true := decide_eq_true c109
                   clear c109
                   by_cases c110 : 0 ≤ x11_2
                   ·
                    rw [if_pos c110] at H
                    have c110b0 : decide (0 ≤ x11_2) = true := decide_eq_true c110
                    clear c110
                    by_cases c111 : x11_2 < (t258.length : Int)
                    ·
                     rw [if_pos c111] at H
                     have c111b0 : decide (x11_2 < (t258.length : Int)) = true := decide_eq_true c111
                     clear c111
                     replace H := Option.bind_eq_some_iff.mp H
                     obtain ⟨t267, A1120, H⟩ := H
                     replace H : (ostinatoref04_Simple.l2 k4 t258 x10_2 x11_2 t267 (wrap64 (x15_4 + 1)) a0_0 a0_1 a0_2 a0_3 a0_4 l0_5 a0_6 a0_7) = some (r1, r2, r3, r4, r5, r6, r7, r8) := H
                     have A112 := zM A1120
                     clear A1120
                     have H' := zM H
                     clear H
                     obtain ⟨Ao113, co113, eo113⟩ := Kd.N_slice HO_10.out
                     subst eo113
                     have hnb114 := NB234_235.out
                     have hnc114 := NB235_234.out
                     obtain ⟨hcz115_0, hcz115_1, hcz115_2, hcz115_3, hcz115_4, hcz115_5, hcz115_6, hcz115_7, hfz115_0, hfz115_1, hfz115_2, hfz115_3, hfz115_4, hfz115_5, hfz115_6, hfz115_7⟩ := blk8 BK234.out
                     try go_wp2
                     have n0_ := zM (Kd.N_drew HO_5.out)
                     have n1_ := zM (Kd.N_drew HO_10.out)
                     have n2_ := zM (Kd.V_drew HO_235005.out)
                     have n3_ := zM (zI BK234.out)
                     have n4_ := zM (zI BK235.out)
                     have n5_ := zM (Kd.C_drew HR261_5.out)
                     have n6_ := zM (zD HB.out)
                     clear HO_5 HO_10 HO_235005 BK234 BK235 HR261_5 HB
                     have HO_5 := n0_
                     have HO_10 := n1_
                     have HO_235005 := n2_
                     have BK234 := n3_
                     have BK235 := n4_
                     have HR261_5 := n5_
                     have HB := n6_
                     clear n0_ n1_ n2_ n3_ n4_ n5_ n6_
                     have p265 : 0 ≤ (x15_4 : Int) := of_decide_eq_true (by first | (with_reducible assumption) | assumption)
                     have q265 : x15_4 < (x10_2.length : Int) := of_decide_eq_true (by first | (with_reducible assumption) | assumption)
                     obtain ⟨ad265, A265_5, c265_5, e265, hx265_0, hx265_1, hx265_2, hx265_3, hx265_4, hx265_5, hx265_6, hx265_7, hl265_5, hi265_5⟩ := at_T27 (Kd.N_reads' HO_10.out).2.2 x15_4 p265 q265
                     cases e265
                     obtain ⟨ce265, hce265, hMe265, hcc265⟩ := Kd.N_get HO_10.out z27 x15_4 p265 (by first | exact q265 | exact of_decide_eq_true (by first | (with_reducible assumption) | assumption) | (have e_ := (Kd.N_reads' HO_10.out).1; omega))
                     obtain ⟨ua265_5, uc265_5, rfl, ul265_5, ge265_5⟩ := k27_openF hMe265
                     have hv265_5 := hcc265 5 _ rfl
                     rw [add_field _ _ 5 (by omega)] at hv265_5
                     replace hv265_5 := Option.some.inj (hv265_5.symm.trans hx265_5)
                     injection hv265_5 with hva_ hvn_ hvc_
                     rw [hva_] at ge265_5
                     rw [hvc_] at ul265_5
                     have HL265_5 := zM (show Kd.V k27 27 _ w.heap.size _ _ ((rd_T27 x10_2 x15_4).f2) from Kd.V_mk ul265_5 ge265_5)
                     clear hva_ hvn_ hvc_ ge265_5 ul265_5 hcc265 hce265
                     have HR265_5 := zM hi265_5
                     have HC265_5 := zM hl265_5
                     clear hi265_5 hl265_5
                     replace p265 := eq_true p265
                     replace q265 := eq_true q265
                     have p266 : 0 ≤ (x11_2 : Int) := of_decide_eq_true (by first | (with_reducible assumption) | assumption)
                     have q266 : x11_2 < (t258.length : Int) := of_decide_eq_true (by first | (with_reducible assumption) | assumption)
                     obtain ⟨ad266, A266_5, c266_5, e266, hx266_0, hx266_1, hx266_2, hx266_3, hx266_4, hx266_5, hx266_6, hx266_7, hl266_5, hi266_5⟩ := at_T27 (Kd.N_reads' HO_5.out).2.2 x11_2 p266 q266
                     obtain rfl : ad261 = ad266 := (by injection e266)
                     obtain ⟨ce266, hce266, hMe266, hcc266⟩ := Kd.N_get HO_5.out z27 x11_2 p266 (by first | exact q266 | exact of_decide_eq_true (by first | (with_reducible assumption) | assumption) | (have e_ := (Kd.N_reads' HO_5.out).1; omega))
                     obtain ⟨ua266_5, uc266_5, rfl, ul266_5, ge266_5⟩ := k27_openF hMe266
                     have hv266_5 := hcc266 5 _ rfl
                     rw [add_field _ _ 5 (by omega)] at hv266_5
                     replace hv266_5 := Option.some.inj (hv266_5.symm.trans hx266_5)
                     injection hv266_5 with hva_ hvn_ hvc_
                     rw [hva_] at ge266_5
                     rw [hvc_] at ul266_5
                     have HL266_5 := zM (show Kd.V k27 27 _ w.heap.size _ _ ((rd_T27 t258 x11_2).f2) from Kd.V_mk ul266_5 ge266_5)
                     clear hva_ hvn_ hvc_ ge266_5 ul266_5 hcc266 hce266
                     have HR266_5 := zM hi266_5
                     have HC266_5 := zM hl266_5
                     clear hi266_5 hl266_5
                     replace p266 := eq_true p266
                     replace q266 := eq_true q266
                     refine start_ (n := 13) (S := fun w' => w'.cell? (ad265.add ((x15_4).toNat * 8)) = some (.int .i64 ((rd_T27 x10_2 x15_4).f0)) ∧ w'.cell? ⟨(ad265.add ((x15_4).toNat * 8)).block, (ad265.add ((x15_4).toNat * 8)).off + 1, none⟩ = some (.int .u64 ((rd_T27 x10_2 x15_4).f1.f0)) ∧ w'.cell? ⟨(ad265.add ((x15_4).toNat * 8)).block, (ad265.add ((x15_4).toNat * 8)).off + 2, none⟩ = some (.int .u64 ((rd_T27 x10_2 x15_4).f1.f1)) ∧ w'.cell? ⟨(ad265.add ((x15_4).toNat * 8)).block, (ad265.add ((x15_4).toNat * 8)).off + 3, none⟩ = some (.int .u64 ((rd_T27 x10_2 x15_4).f1.f2)) ∧ w'.cell? ⟨(ad265.add ((x15_4).toNat * 8)).block, (ad265.add ((x15_4).toNat * 8)).off + 4, none⟩ = some (.int .u64 ((rd_T27 x10_2 x15_4).f1.f3)) ∧ w'.cell? ⟨(ad265.add ((x15_4).toNat * 8)).block, (ad265.add ((x15_4).toNat * 8)).off + 5, none⟩ = some (.slice A265_5 ((rd_T27 x10_2 x15_4).f2).length c265_5) ∧ w'.cell? ⟨(ad265.add ((x15_4).toNat * 8)).block, (ad265.add ((x15_4).toNat * 8)).off + 6, none⟩ = some (.int .i64 ((rd_T27 x10_2 x15_4).f3)) ∧ w'.cell? ⟨(ad265.add ((x15_4).toNat * 8)).block, (ad265.add ((x15_4).toNat * 8)).off + 7, none⟩ = some (.int .i64 ((rd_T27 x10_2 x15_4).f4)) ∧ w'.cell? (ad261.add ((x11_2).toNat * 8)) = some (.int .i64 ((rd_T27 t258 x11_2).f0)) ∧ w'.cell? ⟨(ad261.add ((x11_2).toNat * 8)).block, (ad261.add ((x11_2).toNat * 8)).off + 1, none⟩ = some (.int .u64 ((rd_T27 t258 x11_2).f1.f0)) ∧ w'.cell? ⟨(ad261.add ((x11_2).toNat * 8)).block, (ad261.add ((x11_2).toNat * 8)).off + 2, none⟩ = some (.int .u64 ((rd_T27 t258 x11_2).f1.f1)) ∧ w'.cell? ⟨(ad261.add ((x11_2).toNat * 8)).block, (ad261.add ((x11_2).toNat * 8)).off + 3, none⟩ = some (.int .u64 ((rd_T27 t258 x11_2).f1.f2)) ∧ w'.cell? ⟨(ad261.add ((x11_2).toNat * 8)).block, (ad261.add ((x11_2).toNat * 8)).off + 4, none⟩ = some (.int .u64 ((rd_T27 t258 x11_2).f1.f3)) ∧ w'.cell? ⟨(ad261.add ((x11_2).toNat * 8)).block, (ad261.add ((x11_2).toNat * 8)).off + 5, none⟩ = some (.slice A266_5 ((rd_T27 t258 x11_2).f2).length c266_5) ∧ w'.cell? ⟨(ad261.add ((x11_2).toNat * 8)).block, (ad261.add ((x11_2).toNat * 8)).off + 6, none⟩ = some (.int .i64 ((rd_T27 t258 x11_2).f3)) ∧ w'.cell? ⟨(ad261.add ((x11_2).toNat * 8)).block, (ad261.add ((x11_2).toNat * 8)).off + 7, none⟩ = some (.int .i64 ((rd_T27 t258 x11_2).f4))) (ds := []) #[false, false, false, false, false, false, false, false, false, false, false, false, false] (by kernel_rfl) rfl rfl ⟨hx265_0, hx265_1, hx265_2, hx265_3, hx265_4, hx265_5, hx265_6, hx265_7, hx266_0, hx266_1, hx266_2, hx266_3, hx266_4, hx266_5, hx266_6, hx266_7⟩ (fun hHeld => ?_); refine with_tabW ostinatoref04_Simple.tab31 ostinatoref04_Simple.bits31 (fun HT_ HW_ => ?_)
                     generalize wr.drew = w116 at HO_5 HO_10 HO_235005 BK234 BK235 HR261_5 HB HL265_5 HL266_5 HR265_5 HR266_5 hx265_0 hx265_1 hx265_2 hx265_3 hx265_4 hx265_5 hx265_6 hx265_7 hx266_0 hx266_1 hx266_2 hx266_3 hx266_4 hx266_5 hx266_6 hx266_7 hHeld ⊢
                     refine pure_ (i := 0) (N := some 135) (v := ?_) (a' := ?_) #[true, false, false, false, false, false, false, false, false, false, false, false, false] rfl rfl (any_of HT_.out (by kernel_rfl)) (fun _ _ _ h => h) (Or.inl ⟨by rfl, ?_⟩) ?_ ?_
                     rotate_left
                     ·
                      intro w'
                      go_simp
                      with_reducible rfl
                     rotate_left
                     ·
                      simp only [Act.put, zO, zP, zQ, i64_w, i32_w]
                      rfl
                     refine pure_ (i := 1) (N := some 136) (v := ?_) (a' := ?_) #[true, true, false, false, false, false, false, false, false, false, false, false, false] rfl rfl (any_of HT_.out (by kernel_rfl)) (fun _ _ _ h => h) (Or.inl ⟨by rfl, ?_⟩) ?_ ?_
                     rotate_left
                     ·
                      intro w'
                      go_simp
                      with_reducible rfl
                     rotate_left
                     ·
                      simp only [Act.put, zO, zP, zQ, i64_w, i32_w]
                      rfl
                     refine pure_ (i := 2) (N := some 137) (v := ?_) (a' := ?_) #[true, true, true, false, false, false, false, false, false, false, false, false, false] rfl rfl (any_of HT_.out (by kernel_rfl)) (fun _ _ _ h => h) (Or.inl ⟨by rfl, ?_⟩) ?_ ?_
                     rotate_left
                     ·
                      intro w'
                      go_simp
                      with_reducible rfl
                     rotate_left
                     ·
                      simp only [Act.put, zO, zP, zQ, i64_w, i32_w]
                      rfl
                     refine pure_ (i := 3) (N := some 138) (v := ?_) (a' := ?_) #[true, true, true, true, false, false, false, false, false, false, false, false, false] rfl rfl (any_of HT_.out (by kernel_rfl)) (fun _ _ _ h => h) (Or.inl ⟨by rfl, ?_⟩) ?_ ?_
                     rotate_left
                     ·
                      intro w'
                      go_simp
                      with_reducible rfl
                     rotate_left
                     ·
                      simp only [Act.put, zO, zP, zQ, i64_w, i32_w]
                      rfl
                     refine pure_ (i := 4) (N := some 139) (v := ?_) (a' := ?_) #[true, true, true, true, true, false, false, false, false, false, false, false, false] rfl rfl (any_of HT_.out (by kernel_rfl)) (fun _ _ _ h => h) (Or.inl ⟨by rfl, ?_⟩) ?_ ?_
                     rotate_left
                     ·
                      intro w'
                      go_simp
                      with_reducible rfl
                     rotate_left
                     ·
                      simp only [Act.put, zO, zP, zQ, i64_w, i32_w]
                      rfl
                     refine pure_ (i := 6) (N := some 141) (v := ?_) (a' := ?_) #[true, true, true, true, true, false, true, false, false, false, false, false, false] rfl rfl (any_of HT_.out (by kernel_rfl)) (fun _ _ _ h => h) (Or.inl ⟨by rfl, ?_⟩) ?_ ?_
                     rotate_left
                     ·
                      intro w'
                      go_simp
                      with_reducible rfl
                     rotate_left
                     ·
                      simp only [Act.put, zO, zP, zQ, i64_w, i32_w]
                      rfl
                     refine pure_ (i := 7) (N := some 142) (v := ?_) (a' := ?_) #[true, true, true, true, true, false, true, true, false, false, false, false, false] rfl rfl (any_of HT_.out (by kernel_rfl)) (fun _ _ _ h => h) (Or.inl ⟨by rfl, ?_⟩) ?_ ?_
                     rotate_left
                     ·
                      intro w'
                      go_simp
                      with_reducible rfl
                     rotate_left
                     ·
                      simp only [Act.put, zO, zP, zQ, i64_w, i32_w]
                      rfl
                     refine pure_ (i := 8) (N := some 143) (v := ?_) (a' := ?_) #[true, true, true, true, true, false, true, true, true, false, false, false, false] rfl rfl (any_of HT_.out (by kernel_rfl)) (fun _ _ _ h => h) (Or.inl ⟨by rfl, ?_⟩) ?_ ?_
                     rotate_left
                     ·
                      intro w'
                      go_simp
                      with_reducible rfl
                     rotate_left
                     ·
                      simp only [Act.put, zO, zP, zQ, i64_w, i32_w]
                      rfl
                     refine take_ (i := 5) (N := some 140) (v := ?_) (a' := ?_) #[true, true, true, true, true, true, true, true, true, false, false, false, false] rfl rfl (take_ofW HT_.out HW_.out (by kernel_rfl)) (fun _ _ _ h => h) (Or.inl ⟨by rfl, ?_⟩) hHeld ?_ ?_
                     rotate_left
                     ·
                      rintro w' ⟨s0, s1, s2, s3, s4, s5, s6, s7, s8, s9, s10, s11, s12, s13, s14, s15⟩
                      go_simp
                      with_reducible rfl
                     rotate_left
                     ·
                      simp only [Act.put, zO, zP, zQ, i64_w, i32_w]
                      rfl
                     refine take_ (i := 9) (N := some 144) (v := ?_) (a' := ?_) #[true, true, true, true, true, true, true, true, true, true, false, false, false] rfl rfl (take_ofW HT_.out HW_.out (by kernel_rfl)) (fun _ _ _ h => h) (Or.inl ⟨by rfl, ?_⟩) hHeld ?_ ?_
                     rotate_left
                     ·
                      rintro w' ⟨s0, s1, s2, s3, s4, s5, s6, s7, s8, s9, s10, s11, s12, s13, s14, s15⟩
                      go_simp
                      with_reducible rfl
                     rotate_left
                     ·
                      simp only [Act.put, zO, zP, zQ, i64_w, i32_w]
                      rfl
                     refine one_ (i := 10) (N := some 145) #[true, true, true, true, true, true, true, true, true, true, true, false, false] rfl rfl (one_of HT_.out (by kernel_rfl)) (by decide) (fun K hK => ?_)
                     refine goes_ Try.func11 (by kernel_rfl) rfl #[.agg #[.int .i64 ((rd_T27 x10_2 x15_4).f0), .int .u64 ((rd_T27 x10_2 x15_4).f1.f0), .int .u64 ((rd_T27 x10_2 x15_4).f1.f1), .int .u64 ((rd_T27 x10_2 x15_4).f1.f2), .int .u64 ((rd_T27 x10_2 x15_4).f1.f3), .slice A265_5 ((rd_T27 x10_2 x15_4).f2).length c265_5, .int .i64 ((rd_T27 x10_2 x15_4).f3), .int .i64 ((rd_T27 x10_2 x15_4).f4)], .agg #[.int .i64 ((rd_T27 t258 x11_2).f0), .int .u64 ((rd_T27 t258 x11_2).f1.f0), .int .u64 ((rd_T27 t258 x11_2).f1.f1), .int .u64 ((rd_T27 t258 x11_2).f1.f2), .int .u64 ((rd_T27 t258 x11_2).f1.f3), .slice A266_5 ((rd_T27 t258 x11_2).f2).length c266_5, .int .i64 ((rd_T27 t258 x11_2).f3), .int .i64 ((rd_T27 t258 x11_2).f4)]] (by rfl) rfl rfl (by (try simp only [List.map_toArray, List.map_cons, List.map_nil]); first | done | rfl | (simp only [List.length_drop, List.length_take]; rfl)) ?_
                     with_reducible refine (ostinatoref02_Same.calls k4 ((rd_T27 x10_2 x15_4).f0) ((rd_T27 x10_2 x15_4).f1.f0) ((rd_T27 x10_2 x15_4).f1.f1) ((rd_T27 x10_2 x15_4).f1.f2) ((rd_T27 x10_2 x15_4).f1.f3) _ _ ((rd_T27 x10_2 x15_4).f2) ((rd_T27 x10_2 x15_4).f3) ((rd_T27 x10_2 x15_4).f4) ((rd_T27 t258 x11_2).f0) ((rd_T27 t258 x11_2).f1.f0) ((rd_T27 t258 x11_2).f1.f1) ((rd_T27 t258 x11_2).f1.f2) ((rd_T27 t258 x11_2).f1.f3) _ _ ((rd_T27 t258 x11_2).f2) ((rd_T27 t258 x11_2).f3) ((rd_T27 t258 x11_2).f4) t267 _ ?side1 ?side2 ?side3 ?side4 A112.out).mono ?_
                     (case side1 => repeat (first | exact (by repeat (first | (with_reducible exact HR265_5.out) | (with_reducible refine Kd.C_alloc ?_ _) | (with_reducible refine Kd.C_drewN ?_ _) | (with_reducible refine Kd.C_drew ?_) | exact HR265_5.out)) | (with_reducible refine Kd.C_alloc ?_ _) | (with_reducible refine Kd.C_drewN ?_ _) | (with_reducible refine Kd.C_drew ?_)))
                     (case side2 => exact HC265_5.out)
                     (case side3 => repeat (first | exact (by repeat (first | (with_reducible exact HR266_5.out) | (with_reducible refine Kd.C_alloc ?_ _) | (with_reducible refine Kd.C_drewN ?_ _) | (with_reducible refine Kd.C_drew ?_) | exact HR266_5.out)) | (with_reducible refine Kd.C_alloc ?_ _) | (with_reducible refine Kd.C_drewN ?_ _) | (with_reducible refine Kd.C_drew ?_)))
                     (case side4 => exact HC266_5.out)
                     rintro e w117 ⟨rfl, hb⟩
                     have HS0_ := (hb.cell (zN _ _ (hHeld.1))).trans (hHeld.1)
                     have HS1_ := (hb.cell (zN _ _ (hHeld.2.1))).trans (hHeld.2.1)
                     have HS2_ := (hb.cell (zN _ _ (hHeld.2.2.1))).trans (hHeld.2.2.1)
                     have HS3_ := (hb.cell (zN _ _ (hHeld.2.2.2.1))).trans (hHeld.2.2.2.1)
                     have HS4_ := (hb.cell (zN _ _ (hHeld.2.2.2.2.1))).trans (hHeld.2.2.2.2.1)
                     have HS5_ := (hb.cell (zN _ _ (hHeld.2.2.2.2.2.1))).trans (hHeld.2.2.2.2.2.1)
                     have HS6_ := (hb.cell (zN _ _ (hHeld.2.2.2.2.2.2.1))).trans (hHeld.2.2.2.2.2.2.1)
                     have HS7_ := (hb.cell (zN _ _ (hHeld.2.2.2.2.2.2.2.1))).trans (hHeld.2.2.2.2.2.2.2.1)
                     have HS8_ := (hb.cell (zN _ _ (hHeld.2.2.2.2.2.2.2.2.1))).trans (hHeld.2.2.2.2.2.2.2.2.1)
                     have HS9_ := (hb.cell (zN _ _ (hHeld.2.2.2.2.2.2.2.2.2.1))).trans (hHeld.2.2.2.2.2.2.2.2.2.1)
                     have HS10_ := (hb.cell (zN _ _ (hHeld.2.2.2.2.2.2.2.2.2.2.1))).trans (hHeld.2.2.2.2.2.2.2.2.2.2.1)
                     have HS11_ := (hb.cell (zN _ _ (hHeld.2.2.2.2.2.2.2.2.2.2.2.1))).trans (hHeld.2.2.2.2.2.2.2.2.2.2.2.1)
                     have HS12_ := (hb.cell (zN _ _ (hHeld.2.2.2.2.2.2.2.2.2.2.2.2.1))).trans (hHeld.2.2.2.2.2.2.2.2.2.2.2.2.1)
                     have HS13_ := (hb.cell (zN _ _ (hHeld.2.2.2.2.2.2.2.2.2.2.2.2.2.1))).trans (hHeld.2.2.2.2.2.2.2.2.2.2.2.2.2.1)
                     have HS14_ := (hb.cell (zN _ _ (hHeld.2.2.2.2.2.2.2.2.2.2.2.2.2.2.1))).trans (hHeld.2.2.2.2.2.2.2.2.2.2.2.2.2.2.1)
                     have HS15_ := (hb.cell (zN _ _ (hHeld.2.2.2.2.2.2.2.2.2.2.2.2.2.2.2))).trans (hHeld.2.2.2.2.2.2.2.2.2.2.2.2.2.2.2)
                     refine ⟨_, rfl, ?_⟩
                     have n0_ := zM (Kd.N_below (by (with_reducible repeat (first | apply Kd.N_alloc | apply Kd.N_drewN | apply Kd.N_drew)); exact HO_5.out) hb)
                     have n1_ := zM (Kd.N_below (by (with_reducible repeat (first | apply Kd.N_alloc | apply Kd.N_drewN | apply Kd.N_drew)); exact HO_10.out) hb)
                     have n2_ := zM (Kd.V_below (by (with_reducible repeat (first | apply Kd.V_alloc | apply Kd.V_drewN | apply Kd.V_drew)); exact HO_235005.out) hb)
                     have n3_ := zM (Kd.V_below (by (with_reducible repeat (first | apply Kd.V_alloc | apply Kd.V_drewN | apply Kd.V_drew)); exact HL265_5.out) hb)
                     have n4_ := zM (Kd.V_below (by (with_reducible repeat (first | apply Kd.V_alloc | apply Kd.V_drewN | apply Kd.V_drew)); exact HL266_5.out) hb)
                     have n5_ := zM (zL (g := gb234) (o := .cells #[.int .i64 a0_0, .int .u64 a0_1, .int .u64 a0_2, .int .u64 a0_3, .int .u64 a0_4, .slice A0_5 l0_5.length c0_5, .int .i64 a0_6, .int .i64 a0_7] 27 (0, 0)) (by (with_reducible repeat (first | refine zH ?_ _ | refine zI ?_ | refine zG ?_ _)); exact BK234.out) hb)
                     have n6_ := zM (zL (g := gb235) (o := .cells #[.int .i64 0, .int .u64 0, .int .u64 0, .int .u64 0, .int .u64 0, .slice none 0 0, .int .i64 0, .int .i64 0] 27 (0, 0)) (by (with_reducible repeat (first | refine zH ?_ _ | refine zI ?_ | refine zG ?_ _)); exact BK235.out) hb)
                     have n7_ := zM (Kd.C_below (by repeat (first | (with_reducible exact HR261_5.out) | (with_reducible refine Kd.C_alloc ?_ _) | (with_reducible refine Kd.C_drewN ?_ _) | (with_reducible refine Kd.C_drew ?_) | exact HR261_5.out)) hb)
                     have n8_ := zM (Kd.C_below (by repeat (first | (with_reducible exact HR265_5.out) | (with_reducible refine Kd.C_alloc ?_ _) | (with_reducible refine Kd.C_drewN ?_ _) | (with_reducible refine Kd.C_drew ?_) | exact HR265_5.out)) hb)
                     have n9_ := zM (Kd.C_below (by repeat (first | (with_reducible exact HR266_5.out) | (with_reducible refine Kd.C_alloc ?_ _) | (with_reducible refine Kd.C_drewN ?_ _) | (with_reducible refine Kd.C_drew ?_) | exact HR266_5.out)) hb)
                     have n10_ := zM (zJ (by repeat (first | (with_reducible first | exact HB.out | apply zE | apply zC | apply zD | refine zF ?_ GE234.out | refine zF ?_ GE235.out) | exact HB.out)) hb)
                     clear HO_5 HO_10 HO_235005 HL265_5 HL266_5 BK234 BK235 HR261_5 HR265_5 HR266_5 HB
                     have HO_5 := n0_
                     have HO_10 := n1_
                     have HO_235005 := n2_
                     have HL265_5 := n3_
                     have HL266_5 := n4_
                     have BK234 := n5_
                     have BK235 := n6_
                     have HR261_5 := n7_
                     have HR265_5 := n8_
                     have HR266_5 := n9_
                     have HB := n10_
                     clear n0_ n1_ n2_ n3_ n4_ n5_ n6_ n7_ n8_ n9_ n10_
                     (try clear hb)
                     (try clear hb2)
                     (try clear hk)
                     (try clear hi)
                     refine hK.out _ _ ⟨HS0_, HS1_, HS2_, HS3_, HS4_, HS5_, HS6_, HS7_, HS8_, HS9_, HS10_, HS11_, HS12_, HS13_, HS14_, HS15_⟩ (fun hHeld => ?_)
                     clear hK K
                     refine norm_ (a' := ?_) ?_ ?_
                     rotate_left
                     ·
                      show Act.put _ (some 145) _ = _
                      simp only [Act.put, zO, zP, zQ, i64_w, i32_w]
                      rfl
                     refine pure_ (i := 11) (N := some 146) (v := ?_) (a' := ?_) #[true, true, true, true, true, true, true, true, true, true, true, true, false] rfl rfl (any_of HT_.out (by kernel_rfl)) (fun _ _ _ h => h) (Or.inl ⟨by rfl, ?_⟩) ?_ ?_
                     rotate_left
                     ·
                      intro w'
                      go_simp
                      with_reducible rfl
                     rotate_left
                     ·
                      simp only [Act.put, zO, zP, zQ, i64_w, i32_w]
                      rfl
                     refine pure_ (i := 12) (N := some 14) (v := ?_) (a' := ?_) #[true, true, true, true, true, true, true, true, true, true, true, true, true] rfl rfl (any_of HT_.out (by kernel_rfl)) (fun _ _ _ h => h) (Or.inl ⟨by rfl, ?_⟩) ?_ ?_
                     rotate_left
                     ·
                      intro w'
                      go_simp
                      with_reducible rfl
                     rotate_left
                     ·
                      simp only [Act.put, zO, zP, zQ, i64_w, i32_w]
                      rfl
                     refine done_ (done_of HT_.out (by kernel_rfl)) ?_
                     try go_wp2
                     go_roundg k4
                     case measure => have := HK1.out; have := HK2.out; have := HJ84.out; have := HK4.out; omega
                     case rel => exact ⟨(t267), (wrap64 (x15_4 + 1)), (by first | rfl | (simp; done) | (simp [*]; done)), (by first | rfl | (simp; done) | (simp [*]; done)), H', ⟨by have := HK1.out; have := HK2.out; have := HJ84.out; have := HK4.out; omega⟩, ⟨by (with_reducible repeat (first | apply Kd.N_alloc | apply Kd.N_drewN | apply Kd.N_drew)); exact HO_5.out⟩, ⟨by (with_reducible repeat (first | apply Kd.N_alloc | apply Kd.N_drewN | apply Kd.N_drew)); exact HO_10.out⟩, ⟨by (with_reducible repeat (first | apply Kd.V_alloc | apply Kd.V_drewN | apply Kd.V_drew)); exact HO_235005.out⟩, ⟨by (with_reducible repeat (first | refine zH ?_ _ | refine zI ?_ | refine zG ?_ _)); exact BK234.out⟩, ⟨by (with_reducible repeat (first | refine zH ?_ _ | refine zI ?_ | refine zG ?_ _)); exact BK235.out⟩, ⟨by repeat (first | (with_reducible exact HR261_5.out) | (with_reducible refine Kd.C_alloc ?_ _) | (with_reducible refine Kd.C_drewN ?_ _) | (with_reducible refine Kd.C_drew ?_) | exact HR261_5.out)⟩, ⟨by repeat (first | (with_reducible first | exact HB.out | apply zE | apply zC | apply zD | refine zF ?_ GE234.out | refine zF ?_ GE235.out) | exact HB.out)⟩⟩
                    ·
                     rw [if_neg c111] at H
                     exact absurd H (by simp)
                   ·
                    rw [if_neg c110] at H
                    exact absurd H (by simp)
                  ·
                   rw [if_neg c109] at H
                   exact absurd H (by simp)
                ·
                 rw [if_neg c103] at H
                 have c103b0 : (a0_0 == 3) = false := beq_eq_false_iff_ne.mpr c103
                 have c103b1 : (a0_0 != 3) = true := bne_iff_ne.mpr c103
                 by_cases c118 : x14_4 = true
                 ·
                  subst c118
                  have H1 : (ostinatoref04_Simple.l1 k4 t258 x10_2 (wrap64 (x11_2 + 1)) a0_0 a0_1 a0_2 a0_3 a0_4 l0_5 a0_6 a0_7) = some (r1, r2, r3, r4, r5, r6, r7, r8) := by rw [if_pos rfl] at H; exact H
                  clear H
                  have H := H1
                  clear H1
                  have H' := zM H
                  clear H
                  obtain ⟨Ao119, co119, eo119⟩ := Kd.N_slice HO_10.out
                  subst eo119
                  have hnb120 := NB234_235.out
                  have hnc120 := NB235_234.out
                  obtain ⟨hcz121_0, hcz121_1, hcz121_2, hcz121_3, hcz121_4, hcz121_5, hcz121_6, hcz121_7, hfz121_0, hfz121_1, hfz121_2, hfz121_3, hfz121_4, hfz121_5, hfz121_6, hfz121_7⟩ := blk8 BK234.out
                  go_wp2
                  go_roundg k4
                  case measure => have := HK1.out; have := HK2.out; have := HJ84.out; have := HK4.out; omega
                  case rel => exact ⟨(x10_2), (wrap64 (x11_2 + 1)), (by first | rfl | (simp; done) | (simp [*]; done)), H', ⟨by have := HK1.out; have := HK2.out; have := HJ84.out; have := HK4.out; omega⟩, ⟨by (with_reducible repeat (first | apply Kd.N_alloc | apply Kd.N_drewN | apply Kd.N_drew)); exact HO_5.out⟩, ⟨by (with_reducible repeat (first | apply Kd.N_alloc | apply Kd.N_drewN | apply Kd.N_drew)); exact HO_10.out⟩, ⟨by (with_reducible repeat (first | apply Kd.V_alloc | apply Kd.V_drewN | apply Kd.V_drew)); exact HO_235005.out⟩, ⟨by (with_reducible repeat (first | refine zH ?_ _ | refine zI ?_ | refine zG ?_ _)); exact BK234.out⟩, ⟨by (with_reducible repeat (first | refine zH ?_ _ | refine zI ?_ | refine zG ?_ _)); exact BK235.out⟩, ⟨by repeat (first | (with_reducible first | exact HB.out | apply zE | apply zC | apply zD | refine zF ?_ GE234.out | refine zF ?_ GE235.out) | exact HB.out)⟩⟩
                 ·
                  replace c118 := Bool.eq_false_iff.mpr c118
                  subst c118
                  have H1 : (if 0 ≤ x11_2 then (if x11_2 < (t258.length : Int) then (if x10_2.length < 1759218604441 then (ostinatoref04_Simple.l1 k4 t258 (x10_2 ++ [(⟨(rd_T27 t258 x11_2).f0, (⟨(rd_T27 t258 x11_2).f1.f0, (rd_T27 t258 x11_2).f1.f1, (rd_T27 t258 x11_2).f1.f2, (rd_T27 t258 x11_2).f1.f3⟩ : S24), (rd_T27 t258 x11_2).f2, (rd_T27 t258 x11_2).f3, (rd_T27 t258 x11_2).f4⟩ : S27)]) (wrap64 (x11_2 + 1)) a0_0 a0_1 a0_2 a0_3 a0_4 l0_5 a0_6 a0_7) else (none)) else (none)) else (none)) = some (r1, r2, r3, r4, r5, r6, r7, r8) := by rw [if_neg (show ¬ (false = true) by decide)] at H; exact H
                  clear H
                  have H := H1
                  clear H1
                  by_cases c122 : 0 ≤ x11_2
                  ·
                   rw [if_pos c122] at H
                   have c122b0 : decide (0 ≤ x11_2) = true := decide_eq_true c122
                   clear c122
                   by_cases c123 : x11_2 < (t258.length : Int)
                   ·
                    rw [if_pos c123] at H
                    have c123b0 : decide (x11_2 < (t258.length : Int)) = true := decide_eq_true c123
                    clear c123
                    by_cases c124 : x10_2.length < 1759218604441
                    ·
                     rw [if_pos c124] at H
                     have LMc124 := zM c124
                     clear c124
                     obtain ⟨y269, hy269⟩ : ∃ y_ : List (S27), y_ = (x10_2 ++ [(⟨(rd_T27 t258 x11_2).f0, (⟨(rd_T27 t258 x11_2).f1.f0, (rd_T27 t258 x11_2).f1.f1, (rd_T27 t258 x11_2).f1.f2, (rd_T27 t258 x11_2).f1.f3⟩ : S24), (rd_T27 t258 x11_2).f2, (rd_T27 t258 x11_2).f3, (rd_T27 t258 x11_2).f4⟩ : S27)]) := ⟨_, rfl⟩
                     replace H : (ostinatoref04_Simple.l1 k4 t258 y269 (wrap64 (x11_2 + 1)) a0_0 a0_1 a0_2 a0_3 a0_4 l0_5 a0_6 a0_7) = some (r1, r2, r3, r4, r5, r6, r7, r8) := by first | (rw [hy269]; with_reducible exact H) | (have H2_ := (Option.bind_some _ _).symm.trans H; rw [hy269]; with_reducible exact H2_) | (have H2_ := (Option.bind_some _ _).symm.trans H; with_reducible exact H2_) | with_reducible exact H | (rw [hy269]; exact H) | exact H
                     have Ny269 := zM hy269
                     clear hy269
                     have H' := zM H
                     clear H
                     obtain ⟨Ao125, co125, eo125⟩ := Kd.N_slice HO_10.out
                     subst eo125
                     have hnb126 := NB234_235.out
                     have hnc126 := NB235_234.out
                     obtain ⟨hcz127_0, hcz127_1, hcz127_2, hcz127_3, hcz127_4, hcz127_5, hcz127_6, hcz127_7, hfz127_0, hfz127_1, hfz127_2, hfz127_3, hfz127_4, hfz127_5, hfz127_6, hfz127_7⟩ := blk8 BK234.out
                     have p268 : 0 ≤ (x11_2 : Int) := of_decide_eq_true (by first | (with_reducible assumption) | assumption)
                     have q268 : x11_2 < (t258.length : Int) := of_decide_eq_true (by first | (with_reducible assumption) | assumption)
                     obtain ⟨ad268, A268_5, c268_5, e268, hx268_0, hx268_1, hx268_2, hx268_3, hx268_4, hx268_5, hx268_6, hx268_7, hl268_5, hi268_5⟩ := at_T27 (Kd.N_reads' HO_5.out).2.2 x11_2 p268 q268
                     obtain rfl : ad261 = ad268 := (by injection e268)
                     obtain ⟨ce268, hce268, hMe268, hcc268⟩ := Kd.N_get HO_5.out z27 x11_2 p268 (by first | exact q268 | exact of_decide_eq_true (by first | (with_reducible assumption) | assumption) | (have e_ := (Kd.N_reads' HO_5.out).1; omega))
                     obtain ⟨ua268_5, uc268_5, rfl, ul268_5, ge268_5⟩ := k27_openF hMe268
                     have hv268_5 := hcc268 5 _ rfl
                     rw [add_field _ _ 5 (by omega)] at hv268_5
                     replace hv268_5 := Option.some.inj (hv268_5.symm.trans hx268_5)
                     injection hv268_5 with hva_ hvn_ hvc_
                     rw [hva_] at ge268_5
                     rw [hvc_] at ul268_5
                     have HL268_5 := zM (show Kd.V k27 27 _ w.heap.size _ _ ((rd_T27 t258 x11_2).f2) from Kd.V_mk ul268_5 ge268_5)
                     clear hva_ hvn_ hvc_ ge268_5 ul268_5 hcc268 hce268
                     have HR268_5 := zM hi268_5
                     have HC268_5 := zM hl268_5
                     clear hi268_5 hl268_5
                     replace p268 := eq_true p268
                     replace q268 := eq_true q268
                     go_wp2_with (first | ((with_reducible refine gate_builtin (b := .append) (xs := #[.tmp 149, .tmp 154]) rfl ?_); at_builtin; refine Kd.N_append k27 (w0 := w) w.heap.size rfl (.tmp 149) (.tmp 154) 25 27 (.agg #[(.int .i64 0), (.int .u64 0), (.int .u64 0), (.int .u64 0), (.int .u64 0), (.slice none 0 0), (.int .i64 0), (.int .i64 0)]) 80 rfl Try.underlying25 info27 rfl (by decide) (by omega) (.slice Ao125 x10_2.length co125) x10_2 (⟨(rd_T27 t258 x11_2).f0, (⟨(rd_T27 t258 x11_2).f1.f0, (rd_T27 t258 x11_2).f1.f1, (rd_T27 t258 x11_2).f1.f2, (rd_T27 t258 x11_2).f1.f3⟩ : S24), (rd_T27 t258 x11_2).f2, (rd_T27 t258 x11_2).f3, (rd_T27 t258 x11_2).f4⟩ : S27) [.int .i64 ((rd_T27 t258 x11_2).f0), .int .u64 ((rd_T27 t258 x11_2).f1.f0), .int .u64 ((rd_T27 t258 x11_2).f1.f1), .int .u64 ((rd_T27 t258 x11_2).f1.f2), .int .u64 ((rd_T27 t258 x11_2).f1.f3), .slice A268_5 ((rd_T27 t258 x11_2).f2).length c268_5, .int .i64 ((rd_T27 t258 x11_2).f3), .int .i64 ((rd_T27 t258 x11_2).f4)] (fun k_ => (P0_5_ k_ ∨ w.heap.size ≤ k_) ∧ some k_ ≠ (.slice (some ad261) t258.length co86 : Value).ownBlock ∧ k_ ≠ gb234 ∧ k_ ≠ gb235) (fun k_ => ((fun k_ => (P0_5_ k_ ∨ w.heap.size ≤ k_) ∧ some k_ ≠ (.slice (some ad261) t258.length co86 : Value).ownBlock ∧ k_ ≠ gb234 ∧ k_ ≠ gb235)) k_ ∧ some k_ ≠ (.slice Ao125 x10_2.length co125 : Value).ownBlock) rfl rfl ?aP (fun _ hk => hk) ?aF ?aO ?aB ?aS ?aL ?_; (case aP => exact (k27_mkF _ _ (⟨(rd_T27 t258 x11_2).f0, (⟨(rd_T27 t258 x11_2).f1.f0, (rd_T27 t258 x11_2).f1.f1, (rd_T27 t258 x11_2).f1.f2, (rd_T27 t258 x11_2).f1.f3⟩ : S24), (rd_T27 t258 x11_2).f2, (rd_T27 t258 x11_2).f3, (rd_T27 t258 x11_2).f4⟩ : S27) (Kd.V_reads' (Kd.V_mono (ok' := (fun k_ => ((fun k_ => (P0_5_ k_ ∨ w.heap.size ≤ k_) ∧ some k_ ≠ (.slice (some ad261) t258.length co86 : Value).ownBlock ∧ k_ ≠ gb234 ∧ k_ ≠ gb235)) k_ ∧ some k_ ≠ (.slice Ao125 x10_2.length co125 : Value).ownBlock)) (HL268_5.out) (fun k_ hk => ⟨⟨hk.1.1, ⟨hk.2, ⟨hk.1.2.2.1, hk.1.2.2.2⟩⟩⟩, hk.1.2.1⟩))).2.1 (Kd.V_F (Kd.V_mono (ok' := (fun k_ => ((fun k_ => (P0_5_ k_ ∨ w.heap.size ≤ k_) ∧ some k_ ≠ (.slice (some ad261) t258.length co86 : Value).ownBlock ∧ k_ ≠ gb234 ∧ k_ ≠ gb235)) k_ ∧ some k_ ≠ (.slice Ao125 x10_2.length co125 : Value).ownBlock)) (HL268_5.out) (fun k_ hk => ⟨⟨hk.1.1, ⟨hk.2, ⟨hk.1.2.2.1, hk.1.2.2.2⟩⟩⟩, hk.1.2.1⟩))))); (case aB => exact (by repeat (first | (with_reducible first | exact HB.out | apply zE | apply zC | apply zD | refine zF ?_ GE234.out | refine zF ?_ GE235.out) | exact HB.out))); (case aF => exact (fun k_ hk => ⟨(.inr (Nat.le_trans (zK (by repeat (first | (with_reducible first | exact HB.out | apply zE | apply zC | apply zD | refine zF ?_ GE234.out | refine zF ?_ GE235.out) | exact HB.out))) hk)), Kd.fresh' (Kd.N_lt (by (with_reducible repeat (first | apply Kd.N_alloc | apply Kd.N_drewN | apply Kd.N_drew)); exact HO_5.out)) k_ hk, Kd.freshB (g := gb234) (o := .cells #[.int .i64 a0_0, .int .u64 a0_1, .int .u64 a0_2, .int .u64 a0_3, .int .u64 a0_4, .slice A0_5 l0_5.length c0_5, .int .i64 a0_6, .int .i64 a0_7] 27 (0, 0)) (by (with_reducible repeat (first | refine zH ?_ _ | refine zI ?_ | refine zG ?_ _)); exact BK234.out) k_ hk, Kd.freshB (g := gb235) (o := .cells #[.int .i64 0, .int .u64 0, .int .u64 0, .int .u64 0, .int .u64 0, .slice none 0 0, .int .i64 0, .int .i64 0] 27 (0, 0)) (by (with_reducible repeat (first | refine zH ?_ _ | refine zI ?_ | refine zG ?_ _)); exact BK235.out) k_ hk⟩)); (case aO => exact (by (with_reducible repeat (first | apply Kd.N_alloc | apply Kd.N_drewN | apply Kd.N_drew)); exact HO_10.out)); (case aS => exact (zK (by repeat (first | (with_reducible first | exact HB.out | apply zE | apply zC | apply zD | refine zF ?_ GE234.out | refine zF ?_ GE235.out) | exact HB.out)))); (case aL => have := LMc124.out; omega); intro v270 w128 ho hb hg hat; rw [← Ny269.out] at ho; have n0_ := zM (Kd.N_afterv (ok := (fun k_ => (P0_5_ k_ ∨ w.heap.size ≤ k_) ∧ k_ ≠ gb234 ∧ k_ ≠ gb235)) (by (with_reducible repeat (first | apply Kd.N_alloc | apply Kd.N_drewN | apply Kd.N_drew)); exact Kd.N_mono HO_5.out (fun _ hk => ⟨⟨hk.1, ⟨hk.2.2.1, hk.2.2.2⟩⟩, hk.2.1⟩)) hg hat); have n1_ := zM (Kd.V_afterv (ok := (fun k_ => (P0_5_ k_ ∨ w.heap.size ≤ k_) ∧ some k_ ≠ (.slice (some ad261) t258.length co86 : Value).ownBlock ∧ k_ ≠ gb234 ∧ k_ ≠ gb235)) (by (with_reducible repeat (first | apply Kd.V_alloc | apply Kd.V_drewN | apply Kd.V_drew)); exact Kd.V_mono HO_235005.out (fun _ hk => ⟨⟨hk.1, ⟨hk.2.1, ⟨hk.2.2.2.1, hk.2.2.2.2⟩⟩⟩, hk.2.2.1⟩)) hg hat); have n2_ := zM (blk_grown (g := gb234) (o := .cells #[.int .i64 a0_0, .int .u64 a0_1, .int .u64 a0_2, .int .u64 a0_3, .int .u64 a0_4, .slice A0_5 l0_5.length c0_5, .int .i64 a0_6, .int .i64 a0_7] 27 (0, 0)) (by (with_reducible repeat (first | refine zH ?_ _ | refine zI ?_ | refine zG ?_ _)); exact BK234.out) hg (Kd.N_away HO_10.out (fun _ hk => hk.2.2.1))); have n3_ := zM (blk_grown (g := gb235) (o := .cells #[.int .i64 0, .int .u64 0, .int .u64 0, .int .u64 0, .int .u64 0, .slice none 0 0, .int .i64 0, .int .i64 0] 27 (0, 0)) (by (with_reducible repeat (first | refine zH ?_ _ | refine zI ?_ | refine zG ?_ _)); exact BK235.out) hg (Kd.N_away HO_10.out (fun _ hk => hk.2.2.2))); have n4_ := zM (Kd.V_afterv (ok := (fun k_ => (P0_5_ k_ ∨ w.heap.size ≤ k_) ∧ some k_ ≠ (.slice (some ad261) t258.length co86 : Value).ownBlock ∧ k_ ≠ gb234 ∧ k_ ≠ gb235)) (by (with_reducible repeat (first | apply Kd.V_alloc | apply Kd.V_drewN | apply Kd.V_drew)); exact Kd.V_mono HL268_5.out (fun _ hk => ⟨⟨hk.1.1, ⟨hk.2, ⟨hk.1.2.2.1, hk.1.2.2.2⟩⟩⟩, hk.1.2.1⟩)) hg hat); have n5_ := zM (hb); have n6_ := zM (ho); clear HO_5; clear HO_235005; clear BK234; clear BK235; clear HL268_5; clear HB; clear HO_10; have HO_5 := n0_; have HO_235005 := n1_; have BK234 := n2_; have BK235 := n3_; have HL268_5 := n4_; have HB := n5_; have HO271 := n6_; clear n0_ n1_ n2_ n3_ n4_ n5_ n6_; clear ho hb hg hat))
                     go_roundg k4
                     case measure => have := HK1.out; have := HK2.out; have := HJ84.out; have := HK4.out; omega
                     case rel => exact ⟨(y269), (wrap64 (x11_2 + 1)), (by first | rfl | (simp; done) | (simp [*]; done)), H', ⟨by have := HK1.out; have := HK2.out; have := HJ84.out; have := HK4.out; omega⟩, ⟨by (with_reducible repeat (first | apply Kd.N_alloc | apply Kd.N_drewN | apply Kd.N_drew)); exact Kd.N_mono HO_5.out (fun _ hk => ⟨hk.1.1, ⟨hk.2, ⟨hk.1.2.1, hk.1.2.2⟩⟩⟩)⟩, ⟨by (with_reducible repeat (first | apply Kd.N_alloc | apply Kd.N_drewN | apply Kd.N_drew)); exact HO271.out⟩, ⟨by (with_reducible repeat (first | apply Kd.V_alloc | apply Kd.V_drewN | apply Kd.V_drew)); exact Kd.V_mono HO_235005.out (fun _ hk => ⟨hk.1.1, ⟨hk.1.2.1, ⟨hk.2, ⟨hk.1.2.2.1, hk.1.2.2.2⟩⟩⟩⟩)⟩, ⟨by (with_reducible repeat (first | refine zH ?_ _ | refine zI ?_ | refine zG ?_ _)); exact BK234.out⟩, ⟨by (with_reducible repeat (first | refine zH ?_ _ | refine zI ?_ | refine zG ?_ _)); exact BK235.out⟩, ⟨by repeat (first | (with_reducible first | exact HB.out | apply zE | apply zC | apply zD | refine zF ?_ GE234.out | refine zF ?_ GE235.out) | exact HB.out)⟩⟩
                    ·
                     rw [if_neg c124] at H
                     exact absurd H (by simp)
                   ·
                    rw [if_neg c123] at H
                    exact absurd H (by simp)
                  ·
                   rw [if_neg c122] at H
                   exact absurd H (by simp)
               ·
                rw [if_neg c102] at H
                have c102b0 : decide (x15_4 < (x10_2.length : Int)) = false := decide_eq_false c102
                clear c102
                by_cases c129 : x14_4 = true
                ·
                 subst c129
                 have H1 : (ostinatoref04_Simple.l1 k4 t258 x10_2 (wrap64 (x11_2 + 1)) a0_0 a0_1 a0_2 a0_3 a0_4 l0_5 a0_6 a0_7) = some (r1, r2, r3, r4, r5, r6, r7, r8) := by rw [if_pos rfl] at H; exact H
                 clear H
                 have H := H1
                 clear H1
                 have H' := zM H
                 clear H
                 obtain ⟨Ao130, co130, eo130⟩ := Kd.N_slice HO_10.out
                 subst eo130
                 go_wp2
                 go_roundg k4
                 case measure => have := HK1.out; have := HK2.out; have := HJ84.out; have := HK4.out; omega
                 case rel => exact ⟨(x10_2), (wrap64 (x11_2 + 1)), (by first | rfl | (simp; done) | (simp [*]; done)), H', ⟨by have := HK1.out; have := HK2.out; have := HJ84.out; have := HK4.out; omega⟩, ⟨by (with_reducible repeat (first | apply Kd.N_alloc | apply Kd.N_drewN | apply Kd.N_drew)); exact HO_5.out⟩, ⟨by (with_reducible repeat (first | apply Kd.N_alloc | apply Kd.N_drewN | apply Kd.N_drew)); exact HO_10.out⟩, ⟨by (with_reducible repeat (first | apply Kd.V_alloc | apply Kd.V_drewN | apply Kd.V_drew)); exact HO_235005.out⟩, ⟨by (with_reducible repeat (first | refine zH ?_ _ | refine zI ?_ | refine zG ?_ _)); exact BK234.out⟩, ⟨by (with_reducible repeat (first | refine zH ?_ _ | refine zI ?_ | refine zG ?_ _)); exact BK235.out⟩, ⟨by repeat (first | (with_reducible first | exact HB.out | apply zE | apply zC | apply zD | refine zF ?_ GE234.out | refine zF ?_ GE235.out) | exact HB.out)⟩⟩
                ·
                 replace c129 := Bool.eq_false_iff.mpr c129
                 subst c129
                 have H1 : (if 0 ≤ x11_2 then (if x11_2 < (t258.length : Int) then (if x10_2.length < 1759218604441 then (ostinatoref04_Simple.l1 k4 t258 (x10_2 ++ [(⟨(rd_T27 t258 x11_2).f0, (⟨(rd_T27 t258 x11_2).f1.f0, (rd_T27 t258 x11_2).f1.f1, (rd_T27 t258 x11_2).f1.f2, (rd_T27 t258 x11_2).f1.f3⟩ : S24), (rd_T27 t258 x11_2).f2, (rd_T27 t258 x11_2).f3, (rd_T27 t258 x11_2).f4⟩ : S27)]) (wrap64 (x11_2 + 1)) a0_0 a0_1 a0_2 a0_3 a0_4 l0_5 a0_6 a0_7) else (none)) else (none)) else (none)) = some (r1, r2, r3, r4, r5, r6, r7, r8) := by rw [if_neg (show ¬ (false = true) by decide)] at H; exact H
                 clear H
                 have H := H1
                 clear H1
                 by_cases c131 : 0 ≤ x11_2
                 ·
                  rw [if_pos c131] at H
                  have c131b0 : decide (0 ≤ x11_2) = true := decide_eq_true c131
                  clear c131
                  by_cases c132 : x11_2 < (t258.length : Int)
                  ·
                   rw [if_pos c132] at H
                   have c132b0 : decide (x11_2 < (t258.length : Int)) = true := decide_eq_true c132
                   clear c132
                   by_cases c133 : x10_2.length < 1759218604441
                   ·
                    rw [if_pos c133] at H
                    have LMc133 := zM c133
                    clear c133
                    obtain ⟨y273, hy273⟩ : ∃ y_ : List (S27), y_ = (x10_2 ++ [(⟨(rd_T27 t258 x11_2).f0, (⟨(rd_T27 t258 x11_2).f1.f0, (rd_T27 t258 x11_2).f1.f1, (rd_T27 t258 x11_2).f1.f2, (rd_T27 t258 x11_2).f1.f3⟩ : S24), (rd_T27 t258 x11_2).f2, (rd_T27 t258 x11_2).f3, (rd_T27 t258 x11_2).f4⟩ : S27)]) := ⟨_, rfl⟩
                    replace H : (ostinatoref04_Simple.l1 k4 t258 y273 (wrap64 (x11_2 + 1)) a0_0 a0_1 a0_2 a0_3 a0_4 l0_5 a0_6 a0_7) = some (r1, r2, r3, r4, r5, r6, r7, r8) := by first | (rw [hy273]; with_reducible exact H) | (have H2_ := (Option.bind_some _ _).symm.trans H; rw [hy273]; with_reducible exact H2_) | (have H2_ := (Option.bind_some _ _).symm.trans H; with_reducible exact H2_) | with_reducible exact H | (rw [hy273]; exact H) | exact H
                    have Ny273 := zM hy273
                    clear hy273
                    have H' := zM H
                    clear H
                    obtain ⟨Ao134, co134, eo134⟩ := Kd.N_slice HO_10.out
                    subst eo134
                    have p272 : 0 ≤ (x11_2 : Int) := of_decide_eq_true (by first | (with_reducible assumption) | assumption)
                    have q272 : x11_2 < (t258.length : Int) := of_decide_eq_true (by first | (with_reducible assumption) | assumption)
                    obtain ⟨ad272, A272_5, c272_5, e272, hx272_0, hx272_1, hx272_2, hx272_3, hx272_4, hx272_5, hx272_6, hx272_7, hl272_5, hi272_5⟩ := at_T27 (Kd.N_reads' HO_5.out).2.2 x11_2 p272 q272
                    obtain rfl : ad261 = ad272 := (by injection e272)
                    obtain ⟨ce272, hce272, hMe272, hcc272⟩ := Kd.N_get HO_5.out z27 x11_2 p272 (by first | exact q272 | exact of_decide_eq_true (by first | (with_reducible assumption) | assumption) | (have e_ := (Kd.N_reads' HO_5.out).1; omega))
                    obtain ⟨ua272_5, uc272_5, rfl, ul272_5, ge272_5⟩ := k27_openF hMe272
                    have hv272_5 := hcc272 5 _ rfl
                    rw [add_field _ _ 5 (by omega)] at hv272_5
                    replace hv272_5 := Option.some.inj (hv272_5.symm.trans hx272_5)
                    injection hv272_5 with hva_ hvn_ hvc_
                    rw [hva_] at ge272_5
                    rw [hvc_] at ul272_5
                    have HL272_5 := zM (show Kd.V k27 27 _ w.heap.size _ _ ((rd_T27 t258 x11_2).f2) from Kd.V_mk ul272_5 ge272_5)
                    clear hva_ hvn_ hvc_ ge272_5 ul272_5 hcc272 hce272
                    have HR272_5 := zM hi272_5
                    have HC272_5 := zM hl272_5
                    clear hi272_5 hl272_5
                    replace p272 := eq_true p272
                    replace q272 := eq_true q272
                    go_wp2_with (first | ((with_reducible refine gate_builtin (b := .append) (xs := #[.tmp 149, .tmp 154]) rfl ?_); at_builtin; refine Kd.N_append k27 (w0 := w) w.heap.size rfl (.tmp 149) (.tmp 154) 25 27 (.agg #[(.int .i64 0), (.int .u64 0), (.int .u64 0), (.int .u64 0), (.int .u64 0), (.slice none 0 0), (.int .i64 0), (.int .i64 0)]) 80 rfl Try.underlying25 info27 rfl (by decide) (by omega) (.slice Ao134 x10_2.length co134) x10_2 (⟨(rd_T27 t258 x11_2).f0, (⟨(rd_T27 t258 x11_2).f1.f0, (rd_T27 t258 x11_2).f1.f1, (rd_T27 t258 x11_2).f1.f2, (rd_T27 t258 x11_2).f1.f3⟩ : S24), (rd_T27 t258 x11_2).f2, (rd_T27 t258 x11_2).f3, (rd_T27 t258 x11_2).f4⟩ : S27) [.int .i64 ((rd_T27 t258 x11_2).f0), .int .u64 ((rd_T27 t258 x11_2).f1.f0), .int .u64 ((rd_T27 t258 x11_2).f1.f1), .int .u64 ((rd_T27 t258 x11_2).f1.f2), .int .u64 ((rd_T27 t258 x11_2).f1.f3), .slice A272_5 ((rd_T27 t258 x11_2).f2).length c272_5, .int .i64 ((rd_T27 t258 x11_2).f3), .int .i64 ((rd_T27 t258 x11_2).f4)] (fun k_ => (P0_5_ k_ ∨ w.heap.size ≤ k_) ∧ some k_ ≠ (.slice (some ad261) t258.length co86 : Value).ownBlock ∧ k_ ≠ gb234 ∧ k_ ≠ gb235) (fun k_ => ((fun k_ => (P0_5_ k_ ∨ w.heap.size ≤ k_) ∧ some k_ ≠ (.slice (some ad261) t258.length co86 : Value).ownBlock ∧ k_ ≠ gb234 ∧ k_ ≠ gb235)) k_ ∧ some k_ ≠ (.slice Ao134 x10_2.length co134 : Value).ownBlock) rfl rfl ?aP (fun _ hk => hk) ?aF ?aO ?aB ?aS ?aL ?_; (case aP => exact (k27_mkF _ _ (⟨(rd_T27 t258 x11_2).f0, (⟨(rd_T27 t258 x11_2).f1.f0, (rd_T27 t258 x11_2).f1.f1, (rd_T27 t258 x11_2).f1.f2, (rd_T27 t258 x11_2).f1.f3⟩ : S24), (rd_T27 t258 x11_2).f2, (rd_T27 t258 x11_2).f3, (rd_T27 t258 x11_2).f4⟩ : S27) (Kd.V_reads' (Kd.V_mono (ok' := (fun k_ => ((fun k_ => (P0_5_ k_ ∨ w.heap.size ≤ k_) ∧ some k_ ≠ (.slice (some ad261) t258.length co86 : Value).ownBlock ∧ k_ ≠ gb234 ∧ k_ ≠ gb235)) k_ ∧ some k_ ≠ (.slice Ao134 x10_2.length co134 : Value).ownBlock)) (HL272_5.out) (fun k_ hk => ⟨⟨hk.1.1, ⟨hk.2, ⟨hk.1.2.2.1, hk.1.2.2.2⟩⟩⟩, hk.1.2.1⟩))).2.1 (Kd.V_F (Kd.V_mono (ok' := (fun k_ => ((fun k_ => (P0_5_ k_ ∨ w.heap.size ≤ k_) ∧ some k_ ≠ (.slice (some ad261) t258.length co86 : Value).ownBlock ∧ k_ ≠ gb234 ∧ k_ ≠ gb235)) k_ ∧ some k_ ≠ (.slice Ao134 x10_2.length co134 : Value).ownBlock)) (HL272_5.out) (fun k_ hk => ⟨⟨hk.1.1, ⟨hk.2, ⟨hk.1.2.2.1, hk.1.2.2.2⟩⟩⟩, hk.1.2.1⟩))))); (case aB => exact (by repeat (first | (with_reducible first | exact HB.out | apply zE | apply zC | apply zD | refine zF ?_ GE234.out | refine zF ?_ GE235.out) | exact HB.out))); (case aF => exact (fun k_ hk => ⟨(.inr (Nat.le_trans (zK (by repeat (first | (with_reducible first | exact HB.out | apply zE | apply zC | apply zD | refine zF ?_ GE234.out | refine zF ?_ GE235.out) | exact HB.out))) hk)), Kd.fresh' (Kd.N_lt (by (with_reducible repeat (first | apply Kd.N_alloc | apply Kd.N_drewN | apply Kd.N_drew)); exact HO_5.out)) k_ hk, Kd.freshB (g := gb234) (o := .cells #[.int .i64 a0_0, .int .u64 a0_1, .int .u64 a0_2, .int .u64 a0_3, .int .u64 a0_4, .slice A0_5 l0_5.length c0_5, .int .i64 a0_6, .int .i64 a0_7] 27 (0, 0)) (by (with_reducible repeat (first | refine zH ?_ _ | refine zI ?_ | refine zG ?_ _)); exact BK234.out) k_ hk, Kd.freshB (g := gb235) (o := .cells #[.int .i64 0, .int .u64 0, .int .u64 0, .int .u64 0, .int .u64 0, .slice none 0 0, .int .i64 0, .int .i64 0] 27 (0, 0)) (by (with_reducible repeat (first | refine zH ?_ _ | refine zI ?_ | refine zG ?_ _)); exact BK235.out) k_ hk⟩)); (case aO => exact (by (with_reducible repeat (first | apply Kd.N_alloc | apply Kd.N_drewN | apply Kd.N_drew)); exact HO_10.out)); (case aS => exact (zK (by repeat (first | (with_reducible first | exact HB.out | apply zE | apply zC | apply zD | refine zF ?_ GE234.out | refine zF ?_ GE235.out) | exact HB.out)))); (case aL => have := LMc133.out; omega); intro v274 w135 ho hb hg hat; rw [← Ny273.out] at ho; have n0_ := zM (Kd.N_afterv (ok := (fun k_ => (P0_5_ k_ ∨ w.heap.size ≤ k_) ∧ k_ ≠ gb234 ∧ k_ ≠ gb235)) (by (with_reducible repeat (first | apply Kd.N_alloc | apply Kd.N_drewN | apply Kd.N_drew)); exact Kd.N_mono HO_5.out (fun _ hk => ⟨⟨hk.1, ⟨hk.2.2.1, hk.2.2.2⟩⟩, hk.2.1⟩)) hg hat); have n1_ := zM (Kd.V_afterv (ok := (fun k_ => (P0_5_ k_ ∨ w.heap.size ≤ k_) ∧ some k_ ≠ (.slice (some ad261) t258.length co86 : Value).ownBlock ∧ k_ ≠ gb234 ∧ k_ ≠ gb235)) (by (with_reducible repeat (first | apply Kd.V_alloc | apply Kd.V_drewN | apply Kd.V_drew)); exact Kd.V_mono HO_235005.out (fun _ hk => ⟨⟨hk.1, ⟨hk.2.1, ⟨hk.2.2.2.1, hk.2.2.2.2⟩⟩⟩, hk.2.2.1⟩)) hg hat); have n2_ := zM (blk_grown (g := gb234) (o := .cells #[.int .i64 a0_0, .int .u64 a0_1, .int .u64 a0_2, .int .u64 a0_3, .int .u64 a0_4, .slice A0_5 l0_5.length c0_5, .int .i64 a0_6, .int .i64 a0_7] 27 (0, 0)) (by (with_reducible repeat (first | refine zH ?_ _ | refine zI ?_ | refine zG ?_ _)); exact BK234.out) hg (Kd.N_away HO_10.out (fun _ hk => hk.2.2.1))); have n3_ := zM (blk_grown (g := gb235) (o := .cells #[.int .i64 0, .int .u64 0, .int .u64 0, .int .u64 0, .int .u64 0, .slice none 0 0, .int .i64 0, .int .i64 0] 27 (0, 0)) (by (with_reducible repeat (first | refine zH ?_ _ | refine zI ?_ | refine zG ?_ _)); exact BK235.out) hg (Kd.N_away HO_10.out (fun _ hk => hk.2.2.2))); have n4_ := zM (Kd.V_afterv (ok := (fun k_ => (P0_5_ k_ ∨ w.heap.size ≤ k_) ∧ some k_ ≠ (.slice (some ad261) t258.length co86 : Value).ownBlock ∧ k_ ≠ gb234 ∧ k_ ≠ gb235)) (by (with_reducible repeat (first | apply Kd.V_alloc | apply Kd.V_drewN | apply Kd.V_drew)); exact Kd.V_mono HL272_5.out (fun _ hk => ⟨⟨hk.1.1, ⟨hk.2, ⟨hk.1.2.2.1, hk.1.2.2.2⟩⟩⟩, hk.1.2.1⟩)) hg hat); have n5_ := zM (hb); have n6_ := zM (ho); clear HO_5; clear HO_235005; clear BK234; clear BK235; clear HL272_5; clear HB; clear HO_10; have HO_5 := n0_; have HO_235005 := n1_; have BK234 := n2_; have BK235 := n3_; have HL272_5 := n4_; have HB := n5_; have HO275 := n6_; clear n0_ n1_ n2_ n3_ n4_ n5_ n6_; clear ho hb hg hat))
                    go_roundg k4
                    case measure => have := HK1.out; have := HK2.out; have := HJ84.out; have := HK4.out; omega
                    case rel => exact ⟨(y273), (wrap64 (x11_2 + 1)), (by first | rfl | (simp; done) | (simp [*]; done)), H', ⟨by have := HK1.out; have := HK2.out; have := HJ84.out; have := HK4.out; omega⟩, ⟨by (with_reducible repeat (first | apply Kd.N_alloc | apply Kd.N_drewN | apply Kd.N_drew)); exact Kd.N_mono HO_5.out (fun _ hk => ⟨hk.1.1, ⟨hk.2, ⟨hk.1.2.1, hk.1.2.2⟩⟩⟩)⟩, ⟨by (with_reducible repeat (first | apply Kd.N_alloc | apply Kd.N_drewN | apply Kd.N_drew)); exact HO275.out⟩, ⟨by (with_reducible repeat (first | apply Kd.V_alloc | apply Kd.V_drewN | apply Kd.V_drew)); exact Kd.V_mono HO_235005.out (fun _ hk => ⟨hk.1.1, ⟨hk.1.2.1, ⟨hk.2, ⟨hk.1.2.2.1, hk.1.2.2.2⟩⟩⟩⟩)⟩, ⟨by (with_reducible repeat (first | refine zH ?_ _ | refine zI ?_ | refine zG ?_ _)); exact BK234.out⟩, ⟨by (with_reducible repeat (first | refine zH ?_ _ | refine zI ?_ | refine zG ?_ _)); exact BK235.out⟩, ⟨by repeat (first | (with_reducible first | exact HB.out | apply zE | apply zC | apply zD | refine zF ?_ GE234.out | refine zF ?_ GE235.out) | exact HB.out)⟩⟩
                   ·
                    rw [if_neg c133] at H
                    exact absurd H (by simp)
                  ·
                   rw [if_neg c132] at H
                   exact absurd H (by simp)
                 ·
                  rw [if_neg c131] at H
                  exact absurd H (by simp)
          ·
           rw [if_neg c83] at H
           exact absurd H (by simp)
         ·
          rw [if_neg c82] at H
          have c82b0 : decide (x11_2 < (t258.length : Int)) = false := decide_eq_false c82
          clear c82
          by_cases c136 : (x10_2.length : Int) = 0
          ·
           rw [if_pos c136] at H
           have c136b0 : ((x10_2.length : Int) == 0) = true := beq_iff_eq.mpr c136
           have c136b1 : ((x10_2.length : Int) != 0) = false := bne_eq_false_iff_eq.mpr c136
           clear c136
           simp only [Option.some.injEq, Prod.mk.injEq] at H
           obtain ⟨rfl, rfl, rfl, rfl, rfl, rfl, rfl, rfl⟩ := H
           obtain ⟨Ao137, co137, eo137⟩ := Kd.N_slice HO_5.out
           subst eo137
           obtain ⟨Ao138, co138, eo138⟩ := Kd.N_slice HO_10.out
           subst eo138
           have hnb139 := NB235_234.out
           have hnc139 := NB234_235.out
           obtain ⟨hcz140_0, hcz140_1, hcz140_2, hcz140_3, hcz140_4, hcz140_5, hcz140_6, hcz140_7, hfz140_0, hfz140_1, hfz140_2, hfz140_3, hfz140_4, hfz140_5, hfz140_6, hfz140_7⟩ := blk8 BK235.out
           go_wp2
           refine bodyPost_ret (results_cell_row rfl _ _ gb235 27 #[.int .i64 0, .int .u64 0, .int .u64 0, .int .u64 0, .int .u64 0, .slice none 0 0, .int .i64 0, .int .i64 0] (0, 0) _ rfl (by (with_reducible repeat (first | refine zH ?_ _ | refine zI ?_ | refine zG ?_ _)); refine blk_put (cs := #[.int .i64 0, .int .u64 0, .int .u64 0, .int .u64 0, .int .u64 0, .slice none 0 0, .int .i64 0, .int .i64 0]) ?_ 7 _ rfl; (with_reducible repeat (first | refine zH ?_ _ | refine zI ?_ | refine zG ?_ _)); refine blk_put (cs := #[.int .i64 0, .int .u64 0, .int .u64 0, .int .u64 0, .int .u64 0, .slice none 0 0, .int .i64 0, .int .i64 0]) ?_ 6 _ rfl; (with_reducible repeat (first | refine zH ?_ _ | refine zI ?_ | refine zG ?_ _)); refine blk_put (cs := #[.int .i64 0, .int .u64 0, .int .u64 0, .int .u64 0, .int .u64 0, .slice none 0 0, .int .i64 0, .int .i64 0]) ?_ 5 _ rfl; (with_reducible repeat (first | refine zH ?_ _ | refine zI ?_ | refine zG ?_ _)); refine blk_put (cs := #[.int .i64 0, .int .u64 0, .int .u64 0, .int .u64 0, .int .u64 0, .slice none 0 0, .int .i64 0, .int .i64 0]) ?_ 4 _ rfl; (with_reducible repeat (first | refine zH ?_ _ | refine zI ?_ | refine zG ?_ _)); refine blk_put (cs := #[.int .i64 0, .int .u64 0, .int .u64 0, .int .u64 0, .int .u64 0, .slice none 0 0, .int .i64 0, .int .i64 0]) ?_ 3 _ rfl; (with_reducible repeat (first | refine zH ?_ _ | refine zI ?_ | refine zG ?_ _)); refine blk_put (cs := #[.int .i64 0, .int .u64 0, .int .u64 0, .int .u64 0, .int .u64 0, .slice none 0 0, .int .i64 0, .int .i64 0]) ?_ 2 _ rfl; (with_reducible repeat (first | refine zH ?_ _ | refine zI ?_ | refine zG ?_ _)); refine blk_put (cs := #[.int .i64 0, .int .u64 0, .int .u64 0, .int .u64 0, .int .u64 0, .slice none 0 0, .int .i64 0, .int .i64 0]) ?_ 1 _ rfl; (with_reducible repeat (first | refine zH ?_ _ | refine zI ?_ | refine zG ?_ _)); refine blk_put (cs := #[.int .i64 0, .int .u64 0, .int .u64 0, .int .u64 0, .int .u64 0, .slice none 0 0, .int .i64 0, .int .i64 0]) ?_ 0 _ rfl; (with_reducible repeat (first | refine zH ?_ _ | refine zI ?_ | refine zG ?_ _)); exact BK235.out) Try.underlying27 rfl (by kernel_rfl)) rfl ?_
           exact ⟨_, by first | rfl | (simp [errW_none, errW_some] <;> rfl) | (simp [*, errW_none, errW_some] <;> rfl), Kd.V_nil _ _ _ _ _, by repeat (first | (with_reducible first | exact HB.out | apply zE | apply zC | apply zD | refine zF ?_ GE234.out | refine zF ?_ GE235.out) | exact HB.out)⟩
          ·
           rw [if_neg c136] at H
           have c136b0 : ((x10_2.length : Int) == 0) = false := beq_eq_false_iff_ne.mpr c136
           have c136b1 : ((x10_2.length : Int) != 0) = true := bne_iff_ne.mpr c136
           have c136b2 : ¬ (x10_2 = []) := fun h_ => c136 (by rw [h_]; rfl)
           by_cases c141 : (x10_2.length : Int) = 1
           ·
            rw [if_pos c141] at H
            have c141b0 : ((x10_2.length : Int) == 1) = true := beq_iff_eq.mpr c141
            have c141b1 : ((x10_2.length : Int) != 1) = false := bne_eq_false_iff_eq.mpr c141
            clear c141
            by_cases c142 : 0 < (x10_2.length : Int)
            ·
             rw [if_pos c142] at H
             have c142b0 : decide (0 < (x10_2.length : Int)) = true := decide_eq_true c142
             have c142b1 : decide (0 < x10_2.length) = true := decide_eq_true (by omega)
             clear c142
             simp only [Option.some.injEq, Prod.mk.injEq] at H
             obtain ⟨rfl, rfl, rfl, rfl, rfl, rfl, rfl, rfl⟩ := H
             obtain ⟨Ao143, co143, eo143⟩ := Kd.N_slice HO_5.out
             subst eo143
             obtain ⟨Ao144, co144, eo144⟩ := Kd.N_slice HO_10.out
             subst eo144
             have p276 : 0 ≤ (0 : Int) := (by omega)
             have q276 : 0 < (x10_2.length : Int) := of_decide_eq_true (by first | (with_reducible assumption) | assumption)
             obtain ⟨ad276, A276_5, c276_5, e276, hx276_0, hx276_1, hx276_2, hx276_3, hx276_4, hx276_5, hx276_6, hx276_7, hl276_5, hi276_5⟩ := at_T27 (Kd.N_reads' HO_10.out).2.2 0 p276 q276
             cases e276
             obtain ⟨ce276, hce276, hMe276, hcc276⟩ := Kd.N_get HO_10.out z27 0 p276 (by first | exact q276 | exact of_decide_eq_true (by first | (with_reducible assumption) | assumption) | (have e_ := (Kd.N_reads' HO_10.out).1; omega))
             obtain ⟨ua276_5, uc276_5, rfl, ul276_5, ge276_5⟩ := k27_openF hMe276
             have hv276_5 := hcc276 5 _ rfl
             rw [add_field _ _ 5 (by omega)] at hv276_5
             replace hv276_5 := Option.some.inj (hv276_5.symm.trans hx276_5)
             injection hv276_5 with hva_ hvn_ hvc_
             rw [hva_] at ge276_5
             rw [hvc_] at ul276_5
             have HL276_5 := zM (show Kd.V k27 27 _ w.heap.size _ _ ((rd_T27 x10_2 0).f2) from Kd.V_mk ul276_5 ge276_5)
             clear hva_ hvn_ hvc_ ge276_5 ul276_5 hcc276 hce276
             have qi276 : (0 < x10_2.length) = True := eq_true (by omega)
             (try rw [show ((0 : Int)).toNat = 0 from rfl] at hx276_0)
             (try rw [show 0 * 8 = 0 from rfl] at hx276_0)
             (try rw [Addr.add_zero'] at hx276_0)
             (try rw [show ((0 : Int)).toNat = 0 from rfl] at hx276_1)
             (try rw [show 0 * 8 = 0 from rfl] at hx276_1)
             (try rw [Addr.add_zero'] at hx276_1)
             (try rw [show ((0 : Int)).toNat = 0 from rfl] at hx276_2)
             (try rw [show 0 * 8 = 0 from rfl] at hx276_2)
             (try rw [Addr.add_zero'] at hx276_2)
             (try rw [show ((0 : Int)).toNat = 0 from rfl] at hx276_3)
             (try rw [show 0 * 8 = 0 from rfl] at hx276_3)
             (try rw [Addr.add_zero'] at hx276_3)
             (try rw [show ((0 : Int)).toNat = 0 from rfl] at hx276_4)
             (try rw [show 0 * 8 = 0 from rfl] at hx276_4)
             (try rw [Addr.add_zero'] at hx276_4)
             (try rw [show ((0 : Int)).toNat = 0 from rfl] at hx276_5)
             (try rw [show 0 * 8 = 0 from rfl] at hx276_5)
             (try rw [Addr.add_zero'] at hx276_5)
             (try rw [show ((0 : Int)).toNat = 0 from rfl] at hx276_6)
             (try rw [show 0 * 8 = 0 from rfl] at hx276_6)
             (try rw [Addr.add_zero'] at hx276_6)
             (try rw [show ((0 : Int)).toNat = 0 from rfl] at hx276_7)
             (try rw [show 0 * 8 = 0 from rfl] at hx276_7)
             (try rw [Addr.add_zero'] at hx276_7)
             have HR276_5 := zM hi276_5
             have HC276_5 := zM hl276_5
             clear hi276_5 hl276_5
             replace p276 := eq_true p276
             replace q276 := eq_true q276
             have hnb145 := NB235_234.out
             have hnc145 := NB234_235.out
             obtain ⟨hcz146_0, hcz146_1, hcz146_2, hcz146_3, hcz146_4, hcz146_5, hcz146_6, hcz146_7, hfz146_0, hfz146_1, hfz146_2, hfz146_3, hfz146_4, hfz146_5, hfz146_6, hfz146_7⟩ := blk8 BK235.out
             go_wp2
             refine bodyPost_ret (results_cell_row rfl _ _ gb235 27 #[.int .i64 ((rd_T27 x10_2 0).f0), .int .u64 ((rd_T27 x10_2 0).f1.f0), .int .u64 ((rd_T27 x10_2 0).f1.f1), .int .u64 ((rd_T27 x10_2 0).f1.f2), .int .u64 ((rd_T27 x10_2 0).f1.f3), .slice A276_5 ((rd_T27 x10_2 0).f2).length c276_5, .int .i64 ((rd_T27 x10_2 0).f3), .int .i64 ((rd_T27 x10_2 0).f4)] (0, 0) _ rfl (by (with_reducible repeat (first | refine zH ?_ _ | refine zI ?_ | refine zG ?_ _)); refine blk_put (cs := #[.int .i64 ((rd_T27 x10_2 0).f0), .int .u64 ((rd_T27 x10_2 0).f1.f0), .int .u64 ((rd_T27 x10_2 0).f1.f1), .int .u64 ((rd_T27 x10_2 0).f1.f2), .int .u64 ((rd_T27 x10_2 0).f1.f3), .slice A276_5 ((rd_T27 x10_2 0).f2).length c276_5, .int .i64 ((rd_T27 x10_2 0).f3), .int .i64 0]) ?_ 7 _ rfl; (with_reducible repeat (first | refine zH ?_ _ | refine zI ?_ | refine zG ?_ _)); refine blk_put (cs := #[.int .i64 ((rd_T27 x10_2 0).f0), .int .u64 ((rd_T27 x10_2 0).f1.f0), .int .u64 ((rd_T27 x10_2 0).f1.f1), .int .u64 ((rd_T27 x10_2 0).f1.f2), .int .u64 ((rd_T27 x10_2 0).f1.f3), .slice A276_5 ((rd_T27 x10_2 0).f2).length c276_5, .int .i64 0, .int .i64 0]) ?_ 6 _ rfl; (with_reducible repeat (first | refine zH ?_ _ | refine zI ?_ | refine zG ?_ _)); refine blk_put (cs := #[.int .i64 ((rd_T27 x10_2 0).f0), .int .u64 ((rd_T27 x10_2 0).f1.f0), .int .u64 ((rd_T27 x10_2 0).f1.f1), .int .u64 ((rd_T27 x10_2 0).f1.f2), .int .u64 ((rd_T27 x10_2 0).f1.f3), .slice none 0 0, .int .i64 0, .int .i64 0]) ?_ 5 _ rfl; (with_reducible repeat (first | refine zH ?_ _ | refine zI ?_ | refine zG ?_ _)); refine blk_put (cs := #[.int .i64 ((rd_T27 x10_2 0).f0), .int .u64 ((rd_T27 x10_2 0).f1.f0), .int .u64 ((rd_T27 x10_2 0).f1.f1), .int .u64 ((rd_T27 x10_2 0).f1.f2), .int .u64 0, .slice none 0 0, .int .i64 0, .int .i64 0]) ?_ 4 _ rfl; (with_reducible repeat (first | refine zH ?_ _ | refine zI ?_ | refine zG ?_ _)); refine blk_put (cs := #[.int .i64 ((rd_T27 x10_2 0).f0), .int .u64 ((rd_T27 x10_2 0).f1.f0), .int .u64 ((rd_T27 x10_2 0).f1.f1), .int .u64 0, .int .u64 0, .slice none 0 0, .int .i64 0, .int .i64 0]) ?_ 3 _ rfl; (with_reducible repeat (first | refine zH ?_ _ | refine zI ?_ | refine zG ?_ _)); refine blk_put (cs := #[.int .i64 ((rd_T27 x10_2 0).f0), .int .u64 ((rd_T27 x10_2 0).f1.f0), .int .u64 0, .int .u64 0, .int .u64 0, .slice none 0 0, .int .i64 0, .int .i64 0]) ?_ 2 _ rfl; (with_reducible repeat (first | refine zH ?_ _ | refine zI ?_ | refine zG ?_ _)); refine blk_put (cs := #[.int .i64 ((rd_T27 x10_2 0).f0), .int .u64 0, .int .u64 0, .int .u64 0, .int .u64 0, .slice none 0 0, .int .i64 0, .int .i64 0]) ?_ 1 _ rfl; (with_reducible repeat (first | refine zH ?_ _ | refine zI ?_ | refine zG ?_ _)); refine blk_put (cs := #[.int .i64 0, .int .u64 0, .int .u64 0, .int .u64 0, .int .u64 0, .slice none 0 0, .int .i64 0, .int .i64 0]) ?_ 0 _ rfl; (with_reducible repeat (first | refine zH ?_ _ | refine zI ?_ | refine zG ?_ _)); exact BK235.out) Try.underlying27 rfl (by kernel_rfl)) rfl ?_
             exact ⟨_, by first | rfl | (simp [errW_none, errW_some] <;> rfl) | (simp [*, errW_none, errW_some] <;> rfl), by (with_reducible repeat (first | apply Kd.V_alloc | apply Kd.V_drewN | apply Kd.V_drew)); exact Kd.V_mono (Kd.V_far (p := ⟨gb235, 7, none⟩) (Kd.V_far (p := ⟨gb235, 6, none⟩) (Kd.V_far (p := ⟨gb235, 5, none⟩) (Kd.V_far (p := ⟨gb235, 4, none⟩) (Kd.V_far (p := ⟨gb235, 3, none⟩) (Kd.V_far (p := ⟨gb235, 2, none⟩) (Kd.V_far (p := ⟨gb235, 1, none⟩) (Kd.V_far (p := ⟨gb235, 0, none⟩) (Kd.V_mono HL276_5.out (fun k_ hk => (⟨hk, hk.1.2.2.2⟩ : _ ∧ k_ ≠ gb235))) (fun _ hk => hk.2) (.int .i64 ((rd_T27 x10_2 0).f0))) (fun _ hk => hk.2) (.int .u64 ((rd_T27 x10_2 0).f1.f0))) (fun _ hk => hk.2) (.int .u64 ((rd_T27 x10_2 0).f1.f1))) (fun _ hk => hk.2) (.int .u64 ((rd_T27 x10_2 0).f1.f2))) (fun _ hk => hk.2) (.int .u64 ((rd_T27 x10_2 0).f1.f3))) (fun _ hk => hk.2) (.slice A276_5 ((rd_T27 x10_2 0).f2).length c276_5)) (fun _ hk => hk.2) (.int .i64 ((rd_T27 x10_2 0).f3))) (fun _ hk => hk.2) (.int .i64 ((rd_T27 x10_2 0).f4))) (fun _ hk => hk.1.1.1), by repeat (first | (with_reducible first | exact HB.out | apply zE | apply zC | apply zD | refine zF ?_ GE234.out | refine zF ?_ GE235.out) | exact HB.out)⟩
            ·
             rw [if_neg c142] at H
             exact absurd H (by simp)
           ·
            rw [if_neg c141] at H
            have c141b0 : ((x10_2.length : Int) == 1) = false := beq_eq_false_iff_ne.mpr c141
            have c141b1 : ((x10_2.length : Int) != 1) = true := bne_iff_ne.mpr c141
            simp only [Option.some.injEq, Prod.mk.injEq] at H
            obtain ⟨rfl, rfl, rfl, rfl, rfl, rfl, rfl, rfl⟩ := H
            obtain ⟨Ao147, co147, eo147⟩ := Kd.N_slice HO_5.out
            subst eo147
            obtain ⟨Ao148, co148, eo148⟩ := Kd.N_slice HO_10.out
            subst eo148
            have hnb149 := NB234_235.out
            have hnc149 := NB235_234.out
            obtain ⟨hcz150_0, hcz150_1, hcz150_2, hcz150_3, hcz150_4, hcz150_5, hcz150_6, hcz150_7, hfz150_0, hfz150_1, hfz150_2, hfz150_3, hfz150_4, hfz150_5, hfz150_6, hfz150_7⟩ := blk8 BK234.out
            obtain ⟨hcz151_0, hcz151_1, hcz151_2, hcz151_3, hcz151_4, hcz151_5, hcz151_6, hcz151_7, hfz151_0, hfz151_1, hfz151_2, hfz151_3, hfz151_4, hfz151_5, hfz151_6, hfz151_7⟩ := blk8 BK235.out
            go_wp2
            refine bodyPost_ret (results_cell_row rfl _ _ gb235 27 #[.int .i64 a0_0, .int .u64 0, .int .u64 0, .int .u64 0, .int .u64 0, .slice Ao148 x10_2.length co148, .int .i64 0, .int .i64 0] (0, 0) _ rfl (by (with_reducible repeat (first | refine zH ?_ _ | refine zI ?_ | refine zG ?_ _)); refine blk_put (cs := #[.int .i64 a0_0, .int .u64 0, .int .u64 0, .int .u64 0, .int .u64 0, .slice Ao148 x10_2.length co148, .int .i64 0, .int .i64 0]) ?_ 7 _ rfl; (with_reducible repeat (first | refine zH ?_ _ | refine zI ?_ | refine zG ?_ _)); refine blk_put (cs := #[.int .i64 a0_0, .int .u64 0, .int .u64 0, .int .u64 0, .int .u64 0, .slice Ao148 x10_2.length co148, .int .i64 0, .int .i64 0]) ?_ 6 _ rfl; (with_reducible repeat (first | refine zH ?_ _ | refine zI ?_ | refine zG ?_ _)); refine blk_put (cs := #[.int .i64 a0_0, .int .u64 0, .int .u64 0, .int .u64 0, .int .u64 0, .slice none 0 0, .int .i64 0, .int .i64 0]) ?_ 5 _ rfl; (with_reducible repeat (first | refine zH ?_ _ | refine zI ?_ | refine zG ?_ _)); refine blk_put (cs := #[.int .i64 a0_0, .int .u64 0, .int .u64 0, .int .u64 0, .int .u64 0, .slice none 0 0, .int .i64 0, .int .i64 0]) ?_ 4 _ rfl; (with_reducible repeat (first | refine zH ?_ _ | refine zI ?_ | refine zG ?_ _)); refine blk_put (cs := #[.int .i64 a0_0, .int .u64 0, .int .u64 0, .int .u64 0, .int .u64 0, .slice none 0 0, .int .i64 0, .int .i64 0]) ?_ 3 _ rfl; (with_reducible repeat (first | refine zH ?_ _ | refine zI ?_ | refine zG ?_ _)); refine blk_put (cs := #[.int .i64 a0_0, .int .u64 0, .int .u64 0, .int .u64 0, .int .u64 0, .slice none 0 0, .int .i64 0, .int .i64 0]) ?_ 2 _ rfl; (with_reducible repeat (first | refine zH ?_ _ | refine zI ?_ | refine zG ?_ _)); refine blk_put (cs := #[.int .i64 a0_0, .int .u64 0, .int .u64 0, .int .u64 0, .int .u64 0, .slice none 0 0, .int .i64 0, .int .i64 0]) ?_ 1 _ rfl; (with_reducible repeat (first | refine zH ?_ _ | refine zI ?_ | refine zG ?_ _)); refine blk_put (cs := #[.int .i64 0, .int .u64 0, .int .u64 0, .int .u64 0, .int .u64 0, .slice none 0 0, .int .i64 0, .int .i64 0]) ?_ 0 _ rfl; (with_reducible repeat (first | refine zH ?_ _ | refine zI ?_ | refine zG ?_ _)); exact BK235.out) Try.underlying27 rfl (by kernel_rfl)) rfl ?_
            exact ⟨_, by first | rfl | (simp [errW_none, errW_some] <;> rfl) | (simp [*, errW_none, errW_some] <;> rfl), Kd.N_V (by (with_reducible repeat (first | apply Kd.N_alloc | apply Kd.N_drewN | apply Kd.N_drew)); exact Kd.N_mono (Kd.N_far (p := ⟨gb235, 7, none⟩) (Kd.N_far (p := ⟨gb235, 6, none⟩) (Kd.N_far (p := ⟨gb235, 5, none⟩) (Kd.N_far (p := ⟨gb235, 4, none⟩) (Kd.N_far (p := ⟨gb235, 3, none⟩) (Kd.N_far (p := ⟨gb235, 2, none⟩) (Kd.N_far (p := ⟨gb235, 1, none⟩) (Kd.N_far (p := ⟨gb235, 0, none⟩) (Kd.N_mono HO_10.out (fun k_ hk => (⟨hk, hk.2.2.2⟩ : _ ∧ k_ ≠ gb235))) (fun _ hk => hk.2) (.int .i64 a0_0)) (fun _ hk => hk.2) (.int .u64 0)) (fun _ hk => hk.2) (.int .u64 0)) (fun _ hk => hk.2) (.int .u64 0)) (fun _ hk => hk.2) (.int .u64 0)) (fun _ hk => hk.2) (.slice Ao148 x10_2.length co148)) (fun _ hk => hk.2) (.int .i64 0)) (fun _ hk => hk.2) (.int .i64 0)) (fun _ hk => hk.1.1)), by repeat (first | (with_reducible first | exact HB.out | apply zE | apply zC | apply zD | refine zF ?_ GE234.out | refine zF ?_ GE235.out) | exact HB.out)⟩

end Go.Proofs.Ytlnhiogpjdhhbaa.P
