import Derived.Test.YtlnhiogpjdhhbaaPx0
import Derived.Test.YtlnhiogpjdhhbaaPx1
import Derived.Test.YtlnhiogpjdhhbaaPx4
-- Written by wip/xp.
namespace Go.Proofs.Ytlnhiogpjdhhbaa.P
open Go.RowKit Go.Proofs.YtlnhiogpjdhhbaaW.PrintWords Go.Proofs.YtlnhiogpjdhhbaaW.PrintLast Go.Proofs.YtlnhiogpjdhhbaaW.PrintMore
open Go.Proofs.YtlnhiogpjdhhbaaW.PrintWords renaming blk_frozen → zA, blk_cell → zB, pw_below_drewN → zC, below_drew1 → zD, below_alloc → zE, blk_alloc → zF, blk_drewN → zG, blk_drew → zH, below_step → zI, below_size → zJ
open Go.Proofs.YtlnhiogpjdhhbaaW.PrintWords.Aside0 renaming mk → zK
open Go.World renaming block_lt_of_cell? → zL
attribute [local go_sem] max2_int min2_int max_two min_two max_three min_three max_four min_four   -- for this text's walks alone
set_option linter.unusedVariables false
set_option linter.unusedSimpArgs false

def core_one.f (a0 : Int) (l1 : List (S27)) : Option (Int × Int × Int × Int × Int × (List (S27)) × Int × Int) := if (l1.length : Int) = 0 then (some (0, 0, 0, 0, 0, ([] : List (S27)), 0, 0)) else (if (l1.length : Int) = 1 then (if 0 < (l1.length : Int) then (some ((rd_T27 l1 0).f0, (rd_T27 l1 0).f1.f0, (rd_T27 l1 0).f1.f1, (rd_T27 l1 0).f1.f2, (rd_T27 l1 0).f1.f3, (rd_T27 l1 0).f2, (rd_T27 l1 0).f3, (rd_T27 l1 0).f4)) else (none)) else (some (a0, 0, 0, 0, 0, l1, 0, 0)))
set_option maxHeartbeats 8000000 in
set_option maxRecDepth 100000 in
theorem core_one.calls (a0 : Int) (P1_ : Nat → Prop) (A1 : Option Addr) (c1 : Nat) (l1 : List (S27)) (r1 : Int) (r2 : Int) (r3 : Int) (r4 : Int) (r5 : Int) (r6 : List (S27)) (r7 : Int) (r8 : Int) (w : World) (hs1 : Kd.V k27 27 w w.heap.size (fun k_ => P1_ k_) (.slice A1 l1.length c1) l1) (h : core_one.f a0 l1 = some (r1, r2, r3, r4, r5, r6, r7, r8)) :
    Calls Try.prog 33 #[.int .i64 a0, .slice A1 l1.length c1] w fun e w' => ∃ v5_ : Value, e = .returned (.agg #[.int .i64 r1, .int .u64 r2, .int .u64 r3, .int .u64 r4, .int .u64 r5, v5_, .int .i64 r7, .int .i64 r8]) ∧ Kd.V k27 27 w' w.heap.size (fun k_ => (P1_ k_ ∨ w.heap.size ≤ k_)) v5_ r6 ∧ Below w.heap.size w w' := by
  have hu27 := Try.underlying27
  have HO1 := zK (show Kd.V k27 27 w w.heap.size (fun k_ => (P1_ k_ ∨ w.heap.size ≤ k_)) (.slice A1 l1.length c1) l1 from Kd.V_mono hs1 (fun k_ hk => .inl hk))
  have HB := zK (Below.refl w.heap.size w)
  have H : (if (l1.length : Int) = 0 then (some (0, 0, 0, 0, 0, ([] : List (S27)), 0, 0)) else (if (l1.length : Int) = 1 then (if 0 < (l1.length : Int) then (some ((rd_T27 l1 0).f0, (rd_T27 l1 0).f1.f0, (rd_T27 l1 0).f1.f1, (rd_T27 l1 0).f1.f2, (rd_T27 l1 0).f1.f3, (rd_T27 l1 0).f2, (rd_T27 l1 0).f3, (rd_T27 l1 0).f4)) else (none)) else (some (a0, 0, 0, 0, 0, l1, 0, 0)))) = some (r1, r2, r3, r4, r5, r6, r7, r8) := h
  clear h
  by_cases c3 : (l1.length : Int) = 0
  · rw [if_pos c3] at H
    have c3b0 : ((l1.length : Int) == 0) = true := beq_iff_eq.mpr c3
    have c3b1 : ((l1.length : Int) != 0) = false := bne_eq_false_iff_eq.mpr c3
    clear c3
    simp only [Option.some.injEq, Prod.mk.injEq] at H
    obtain ⟨rfl, rfl, rfl, rfl, rfl, rfl, rfl, rfl⟩ := H
    go_enter Try.func33, Try.ntmps33
    go_wp2_with (first | ((with_reducible refine gate_dst (N := 4) rfl ?_); refine box_event ?hg (N := 4) ?hd (cs := #[.int .i64 0, .int .u64 0, .int .u64 0, .int .u64 0, .int .u64 0, .slice none 0 0, .int .i64 0, .int .i64 0]) (t := 27) ?hr ?_; (case hd => rfl); (case hg => rfl); (case hr => first | (go_simp; done) | (go_simp; rfl)); intro gb106 hg w4 hbox hb; have n0_ := zK (Kd.V_below (Kd.V_elderB (by (with_reducible repeat (first | apply Kd.V_alloc | apply Kd.V_drewN | apply Kd.V_drew)); exact HO1.out) gb106 (Nat.le_of_eq hg.symm)) hb); have n1_ := zK (zI (by repeat (first | (with_reducible first | exact HB.out | apply zE | apply zC | apply zD) | exact HB.out)) hb); have n2_ := zK (hbox); have n3_ := zK ((by rw [hg]; exact (zJ (by repeat (first | (with_reducible first | exact HB.out | apply zE | apply zC | apply zD) | exact HB.out))) : w.heap.size ≤ gb106)); have n4_ := zK ((by rw [hg]; exact (zJ (by repeat (first | (with_reducible first | exact HB.out | apply zE | apply zC | apply zD) | exact HB.out))) : w.heap.size ≤ gb106)); clear HO1; clear HB; have HO1 := n0_; have HB := n1_; have BK106 := n2_; have GW106 := n3_; have GE106 := n4_; clear n0_ n1_ n2_ n3_ n4_; clear hb hbox hg; have hcz5_0 : w4.cell? ⟨gb106, 0, none⟩ = some (.int .i64 0) := (zB BK106.out 0).trans rfl; have hcz5_1 : w4.cell? ⟨gb106, 1, none⟩ = some (.int .u64 0) := (zB BK106.out 1).trans rfl; have hcz5_2 : w4.cell? ⟨gb106, 2, none⟩ = some (.int .u64 0) := (zB BK106.out 2).trans rfl; have hcz5_3 : w4.cell? ⟨gb106, 3, none⟩ = some (.int .u64 0) := (zB BK106.out 3).trans rfl; have hcz5_4 : w4.cell? ⟨gb106, 4, none⟩ = some (.int .u64 0) := (zB BK106.out 4).trans rfl; have hcz5_5 : w4.cell? ⟨gb106, 5, none⟩ = some (.slice none 0 0) := (zB BK106.out 5).trans rfl; have hcz5_6 : w4.cell? ⟨gb106, 6, none⟩ = some (.int .i64 0) := (zB BK106.out 6).trans rfl; have hcz5_7 : w4.cell? ⟨gb106, 7, none⟩ = some (.int .i64 0) := (zB BK106.out 7).trans rfl; have hfz5_0 := zA BK106.out 0; have hfz5_1 := zA BK106.out 1; have hfz5_2 := zA BK106.out 2; have hfz5_3 := zA BK106.out 3; have hfz5_4 := zA BK106.out 4; have hfz5_5 := zA BK106.out 5; have hfz5_6 := zA BK106.out 6; have hfz5_7 := zA BK106.out 7))
    refine bodyPost_ret (results_cell_row rfl _ _ gb106 27 #[.int .i64 0, .int .u64 0, .int .u64 0, .int .u64 0, .int .u64 0, .slice none 0 0, .int .i64 0, .int .i64 0] (0, 0) _ rfl (by (with_reducible repeat (first | refine zG ?_ _ | refine zH ?_ | refine zF ?_ _)); refine blk_put (cs := #[.int .i64 0, .int .u64 0, .int .u64 0, .int .u64 0, .int .u64 0, .slice none 0 0, .int .i64 0, .int .i64 0]) ?_ 7 _ rfl; (with_reducible repeat (first | refine zG ?_ _ | refine zH ?_ | refine zF ?_ _)); refine blk_put (cs := #[.int .i64 0, .int .u64 0, .int .u64 0, .int .u64 0, .int .u64 0, .slice none 0 0, .int .i64 0, .int .i64 0]) ?_ 6 _ rfl; (with_reducible repeat (first | refine zG ?_ _ | refine zH ?_ | refine zF ?_ _)); refine blk_put (cs := #[.int .i64 0, .int .u64 0, .int .u64 0, .int .u64 0, .int .u64 0, .slice none 0 0, .int .i64 0, .int .i64 0]) ?_ 5 _ rfl; (with_reducible repeat (first | refine zG ?_ _ | refine zH ?_ | refine zF ?_ _)); refine blk_put (cs := #[.int .i64 0, .int .u64 0, .int .u64 0, .int .u64 0, .int .u64 0, .slice none 0 0, .int .i64 0, .int .i64 0]) ?_ 4 _ rfl; (with_reducible repeat (first | refine zG ?_ _ | refine zH ?_ | refine zF ?_ _)); refine blk_put (cs := #[.int .i64 0, .int .u64 0, .int .u64 0, .int .u64 0, .int .u64 0, .slice none 0 0, .int .i64 0, .int .i64 0]) ?_ 3 _ rfl; (with_reducible repeat (first | refine zG ?_ _ | refine zH ?_ | refine zF ?_ _)); refine blk_put (cs := #[.int .i64 0, .int .u64 0, .int .u64 0, .int .u64 0, .int .u64 0, .slice none 0 0, .int .i64 0, .int .i64 0]) ?_ 2 _ rfl; (with_reducible repeat (first | refine zG ?_ _ | refine zH ?_ | refine zF ?_ _)); refine blk_put (cs := #[.int .i64 0, .int .u64 0, .int .u64 0, .int .u64 0, .int .u64 0, .slice none 0 0, .int .i64 0, .int .i64 0]) ?_ 1 _ rfl; (with_reducible repeat (first | refine zG ?_ _ | refine zH ?_ | refine zF ?_ _)); refine blk_put (cs := #[.int .i64 0, .int .u64 0, .int .u64 0, .int .u64 0, .int .u64 0, .slice none 0 0, .int .i64 0, .int .i64 0]) ?_ 0 _ rfl; (with_reducible repeat (first | refine zG ?_ _ | refine zH ?_ | refine zF ?_ _)); exact BK106.out) Try.underlying27 rfl (by kernel_rfl)) rfl ?_
    exact ⟨_, by first | rfl | (simp [errW_none, errW_some] <;> rfl) | (simp [*, errW_none, errW_some] <;> rfl), Kd.V_nil _ _ _ _ _, by repeat (first | (with_reducible first | exact HB.out | apply zE | apply zC | apply zD | refine below_set ?_ GE106.out) | exact HB.out)⟩
  · rw [if_neg c3] at H
    have c3b0 : ((l1.length : Int) == 0) = false := beq_eq_false_iff_ne.mpr c3
    have c3b1 : ((l1.length : Int) != 0) = true := bne_iff_ne.mpr c3
    have c3b2 : ¬ (l1 = []) := fun h_ => c3 (by rw [h_]; rfl)
    by_cases c6 : (l1.length : Int) = 1
    · rw [if_pos c6] at H
      have c6b0 : ((l1.length : Int) == 1) = true := beq_iff_eq.mpr c6
      have c6b1 : ((l1.length : Int) != 1) = false := bne_eq_false_iff_eq.mpr c6
      clear c6
      by_cases c7 : 0 < (l1.length : Int)
      · rw [if_pos c7] at H
        have c7b0 : decide (0 < (l1.length : Int)) = true := decide_eq_true c7
        have c7b1 : decide (0 < l1.length) = true := decide_eq_true (by omega)
        clear c7
        simp only [Option.some.injEq, Prod.mk.injEq] at H
        obtain ⟨rfl, rfl, rfl, rfl, rfl, rfl, rfl, rfl⟩ := H
        go_enter Try.func33, Try.ntmps33
        go_wp2_with (first | ((with_reducible refine gate_dst (N := 4) rfl ?_); refine box_event ?hg (N := 4) ?hd (cs := #[.int .i64 0, .int .u64 0, .int .u64 0, .int .u64 0, .int .u64 0, .slice none 0 0, .int .i64 0, .int .i64 0]) (t := 27) ?hr ?_; (case hd => rfl); (case hg => rfl); (case hr => first | (go_simp; done) | (go_simp; rfl)); intro gb106 hg w8 hbox hb; have n0_ := zK (Kd.V_below (Kd.V_elderB (by (with_reducible repeat (first | apply Kd.V_alloc | apply Kd.V_drewN | apply Kd.V_drew)); exact HO1.out) gb106 (Nat.le_of_eq hg.symm)) hb); have n1_ := zK (zI (by repeat (first | (with_reducible first | exact HB.out | apply zE | apply zC | apply zD) | exact HB.out)) hb); have n2_ := zK (hbox); have n3_ := zK ((by rw [hg]; exact (zJ (by repeat (first | (with_reducible first | exact HB.out | apply zE | apply zC | apply zD) | exact HB.out))) : w.heap.size ≤ gb106)); have n4_ := zK ((by rw [hg]; exact (zJ (by repeat (first | (with_reducible first | exact HB.out | apply zE | apply zC | apply zD) | exact HB.out))) : w.heap.size ≤ gb106)); clear HO1; clear HB; have HO1 := n0_; have HB := n1_; have BK106 := n2_; have GW106 := n3_; have GE106 := n4_; clear n0_ n1_ n2_ n3_ n4_; clear hb hbox hg; have p107 : 0 ≤ (0 : Int) := (by omega); have q107 : 0 < (l1.length : Int) := of_decide_eq_true (by first | (with_reducible assumption) | assumption); obtain ⟨ad107, A107_5, c107_5, e107, hx107_0, hx107_1, hx107_2, hx107_3, hx107_4, hx107_5, hx107_6, hx107_7, hl107_5, hi107_5⟩ := at_T27 (Kd.V_reads' HO1.out).2.2 0 p107 q107; cases e107; obtain ⟨ce107, hce107, hMe107, hcc107⟩ := Kd.V_get HO1.out z27 0 p107 (by first | exact q107 | exact of_decide_eq_true (by first | (with_reducible assumption) | assumption) | (have e_ := (Kd.V_reads' HO1.out).1; omega)); obtain ⟨ua107_5, uc107_5, rfl, ul107_5, ge107_5⟩ := k27_openF hMe107; have hv107_5 := hcc107 5 _ rfl; rw [add_field _ _ 5 (by omega)] at hv107_5; replace hv107_5 := Option.some.inj (hv107_5.symm.trans hx107_5); injection hv107_5 with hva_ hvn_ hvc_; rw [hva_] at ge107_5; rw [hvc_] at ul107_5; have HL107_5 := zK (show Kd.V k27 27 _ w.heap.size _ _ ((rd_T27 l1 0).f2) from Kd.V_mk ul107_5 ge107_5); clear hva_ hvn_ hvc_ ge107_5 ul107_5; clear hcc107 hce107; have qi107 : (0 < l1.length) = True := eq_true (by omega); (try rw [show ((0 : Int)).toNat = 0 from rfl] at hx107_0); (try rw [show 0 * 8 = 0 from rfl] at hx107_0); (try rw [Addr.add_zero'] at hx107_0); (try rw [show ((0 : Int)).toNat = 0 from rfl] at hx107_1); (try rw [show 0 * 8 = 0 from rfl] at hx107_1); (try rw [Addr.add_zero'] at hx107_1); (try rw [show ((0 : Int)).toNat = 0 from rfl] at hx107_2); (try rw [show 0 * 8 = 0 from rfl] at hx107_2); (try rw [Addr.add_zero'] at hx107_2); (try rw [show ((0 : Int)).toNat = 0 from rfl] at hx107_3); (try rw [show 0 * 8 = 0 from rfl] at hx107_3); (try rw [Addr.add_zero'] at hx107_3); (try rw [show ((0 : Int)).toNat = 0 from rfl] at hx107_4); (try rw [show 0 * 8 = 0 from rfl] at hx107_4); (try rw [Addr.add_zero'] at hx107_4); (try rw [show ((0 : Int)).toNat = 0 from rfl] at hx107_5); (try rw [show 0 * 8 = 0 from rfl] at hx107_5); (try rw [Addr.add_zero'] at hx107_5); (try rw [show ((0 : Int)).toNat = 0 from rfl] at hx107_6); (try rw [show 0 * 8 = 0 from rfl] at hx107_6); (try rw [Addr.add_zero'] at hx107_6); (try rw [show ((0 : Int)).toNat = 0 from rfl] at hx107_7); (try rw [show 0 * 8 = 0 from rfl] at hx107_7); (try rw [Addr.add_zero'] at hx107_7); have HR107_5 := zK hi107_5; have HC107_5 := zK hl107_5; clear hi107_5 hl107_5; replace p107 := eq_true p107; replace q107 := eq_true q107; have hcz9_0 : w8.cell? ⟨gb106, 0, none⟩ = some (.int .i64 0) := (zB BK106.out 0).trans rfl; have hcz9_1 : w8.cell? ⟨gb106, 1, none⟩ = some (.int .u64 0) := (zB BK106.out 1).trans rfl; have hcz9_2 : w8.cell? ⟨gb106, 2, none⟩ = some (.int .u64 0) := (zB BK106.out 2).trans rfl; have hcz9_3 : w8.cell? ⟨gb106, 3, none⟩ = some (.int .u64 0) := (zB BK106.out 3).trans rfl; have hcz9_4 : w8.cell? ⟨gb106, 4, none⟩ = some (.int .u64 0) := (zB BK106.out 4).trans rfl; have hcz9_5 : w8.cell? ⟨gb106, 5, none⟩ = some (.slice none 0 0) := (zB BK106.out 5).trans rfl; have hcz9_6 : w8.cell? ⟨gb106, 6, none⟩ = some (.int .i64 0) := (zB BK106.out 6).trans rfl; have hcz9_7 : w8.cell? ⟨gb106, 7, none⟩ = some (.int .i64 0) := (zB BK106.out 7).trans rfl; have hfz9_0 := zA BK106.out 0; have hfz9_1 := zA BK106.out 1; have hfz9_2 := zA BK106.out 2; have hfz9_3 := zA BK106.out 3; have hfz9_4 := zA BK106.out 4; have hfz9_5 := zA BK106.out 5; have hfz9_6 := zA BK106.out 6; have hfz9_7 := zA BK106.out 7))
        refine bodyPost_ret (results_cell_row rfl _ _ gb106 27 #[.int .i64 ((rd_T27 l1 0).f0), .int .u64 ((rd_T27 l1 0).f1.f0), .int .u64 ((rd_T27 l1 0).f1.f1), .int .u64 ((rd_T27 l1 0).f1.f2), .int .u64 ((rd_T27 l1 0).f1.f3), .slice A107_5 ((rd_T27 l1 0).f2).length c107_5, .int .i64 ((rd_T27 l1 0).f3), .int .i64 ((rd_T27 l1 0).f4)] (0, 0) _ rfl (by (with_reducible repeat (first | refine zG ?_ _ | refine zH ?_ | refine zF ?_ _)); refine blk_put (cs := #[.int .i64 ((rd_T27 l1 0).f0), .int .u64 ((rd_T27 l1 0).f1.f0), .int .u64 ((rd_T27 l1 0).f1.f1), .int .u64 ((rd_T27 l1 0).f1.f2), .int .u64 ((rd_T27 l1 0).f1.f3), .slice A107_5 ((rd_T27 l1 0).f2).length c107_5, .int .i64 ((rd_T27 l1 0).f3), .int .i64 0]) ?_ 7 _ rfl; (with_reducible repeat (first | refine zG ?_ _ | refine zH ?_ | refine zF ?_ _)); refine blk_put (cs := #[.int .i64 ((rd_T27 l1 0).f0), .int .u64 ((rd_T27 l1 0).f1.f0), .int .u64 ((rd_T27 l1 0).f1.f1), .int .u64 ((rd_T27 l1 0).f1.f2), .int .u64 ((rd_T27 l1 0).f1.f3), .slice A107_5 ((rd_T27 l1 0).f2).length c107_5, .int .i64 0, .int .i64 0]) ?_ 6 _ rfl; (with_reducible repeat (first | refine zG ?_ _ | refine zH ?_ | refine zF ?_ _)); refine blk_put (cs := #[.int .i64 ((rd_T27 l1 0).f0), .int .u64 ((rd_T27 l1 0).f1.f0), .int .u64 ((rd_T27 l1 0).f1.f1), .int .u64 ((rd_T27 l1 0).f1.f2), .int .u64 ((rd_T27 l1 0).f1.f3), .slice none 0 0, .int .i64 0, .int .i64 0]) ?_ 5 _ rfl; (with_reducible repeat (first | refine zG ?_ _ | refine zH ?_ | refine zF ?_ _)); refine blk_put (cs := #[.int .i64 ((rd_T27 l1 0).f0), .int .u64 ((rd_T27 l1 0).f1.f0), .int .u64 ((rd_T27 l1 0).f1.f1), .int .u64 ((rd_T27 l1 0).f1.f2), .int .u64 0, .slice none 0 0, .int .i64 0, .int .i64 0]) ?_ 4 _ rfl; (with_reducible repeat (first | refine zG ?_ _ | refine zH ?_ | refine zF ?_ _)); refine blk_put (cs := #[.int .i64 ((rd_T27 l1 0).f0), .int .u64 ((rd_T27 l1 0).f1.f0), .int .u64 ((rd_T27 l1 0).f1.f1), .int .u64 0, .int .u64 0, .slice none 0 0, .int .i64 0, .int .i64 0]) ?_ 3 _ rfl; (with_reducible repeat (first | refine zG ?_ _ | refine zH ?_ | refine zF ?_ _)); refine blk_put (cs := #[.int .i64 ((rd_T27 l1 0).f0), .int .u64 ((rd_T27 l1 0).f1.f0), .int .u64 0, .int .u64 0, .int .u64 0, .slice none 0 0, .int .i64 0, .int .i64 0]) ?_ 2 _ rfl; (with_reducible repeat (first | refine zG ?_ _ | refine zH ?_ | refine zF ?_ _)); refine blk_put (cs := #[.int .i64 ((rd_T27 l1 0).f0), .int .u64 0, .int .u64 0, .int .u64 0, .int .u64 0, .slice none 0 0, .int .i64 0, .int .i64 0]) ?_ 1 _ rfl; (with_reducible repeat (first | refine zG ?_ _ | refine zH ?_ | refine zF ?_ _)); refine blk_put (cs := #[.int .i64 0, .int .u64 0, .int .u64 0, .int .u64 0, .int .u64 0, .slice none 0 0, .int .i64 0, .int .i64 0]) ?_ 0 _ rfl; (with_reducible repeat (first | refine zG ?_ _ | refine zH ?_ | refine zF ?_ _)); exact BK106.out) Try.underlying27 rfl (by kernel_rfl)) rfl ?_
        exact ⟨_, by first | rfl | (simp [errW_none, errW_some] <;> rfl) | (simp [*, errW_none, errW_some] <;> rfl), by (with_reducible repeat (first | apply Kd.V_alloc | apply Kd.V_drewN | apply Kd.V_drew)); exact Kd.V_mono (Kd.V_far (p := ⟨gb106, 7, none⟩) (Kd.V_far (p := ⟨gb106, 6, none⟩) (Kd.V_far (p := ⟨gb106, 5, none⟩) (Kd.V_far (p := ⟨gb106, 4, none⟩) (Kd.V_far (p := ⟨gb106, 3, none⟩) (Kd.V_far (p := ⟨gb106, 2, none⟩) (Kd.V_far (p := ⟨gb106, 1, none⟩) (Kd.V_far (p := ⟨gb106, 0, none⟩) (Kd.V_mono HL107_5.out (fun k_ hk => (⟨hk, hk.2⟩ : _ ∧ k_ ≠ gb106))) (fun _ hk => hk.2) (.int .i64 ((rd_T27 l1 0).f0))) (fun _ hk => hk.2) (.int .u64 ((rd_T27 l1 0).f1.f0))) (fun _ hk => hk.2) (.int .u64 ((rd_T27 l1 0).f1.f1))) (fun _ hk => hk.2) (.int .u64 ((rd_T27 l1 0).f1.f2))) (fun _ hk => hk.2) (.int .u64 ((rd_T27 l1 0).f1.f3))) (fun _ hk => hk.2) (.slice A107_5 ((rd_T27 l1 0).f2).length c107_5)) (fun _ hk => hk.2) (.int .i64 ((rd_T27 l1 0).f3))) (fun _ hk => hk.2) (.int .i64 ((rd_T27 l1 0).f4))) (fun _ hk => hk.1.1), by repeat (first | (with_reducible first | exact HB.out | apply zE | apply zC | apply zD | refine below_set ?_ GE106.out) | exact HB.out)⟩
      · rw [if_neg c7] at H
        exact absurd H (by simp)
    · rw [if_neg c6] at H
      have c6b0 : ((l1.length : Int) == 1) = false := beq_eq_false_iff_ne.mpr c6
      have c6b1 : ((l1.length : Int) != 1) = true := bne_iff_ne.mpr c6
      simp only [Option.some.injEq, Prod.mk.injEq] at H
      obtain ⟨rfl, rfl, rfl, rfl, rfl, rfl, rfl, rfl⟩ := H
      go_enter Try.func33, Try.ntmps33
      go_wp2_with (first | ((with_reducible refine gate_dst (N := 4) rfl ?_); refine box_event ?hg (N := 4) ?hd (cs := #[.int .i64 0, .int .u64 0, .int .u64 0, .int .u64 0, .int .u64 0, .slice none 0 0, .int .i64 0, .int .i64 0]) (t := 27) ?hr ?_; (case hd => rfl); (case hg => rfl); (case hr => first | (go_simp; done) | (go_simp; rfl)); intro gb106 hg w10 hbox hb; have n0_ := zK (Kd.V_below (Kd.V_elderB (by (with_reducible repeat (first | apply Kd.V_alloc | apply Kd.V_drewN | apply Kd.V_drew)); exact HO1.out) gb106 (Nat.le_of_eq hg.symm)) hb); have n1_ := zK (zI (by repeat (first | (with_reducible first | exact HB.out | apply zE | apply zC | apply zD) | exact HB.out)) hb); have n2_ := zK (hbox); have n3_ := zK ((by rw [hg]; exact (zJ (by repeat (first | (with_reducible first | exact HB.out | apply zE | apply zC | apply zD) | exact HB.out))) : w.heap.size ≤ gb106)); have n4_ := zK ((by rw [hg]; exact (zJ (by repeat (first | (with_reducible first | exact HB.out | apply zE | apply zC | apply zD) | exact HB.out))) : w.heap.size ≤ gb106)); clear HO1; clear HB; have HO1 := n0_; have HB := n1_; have BK106 := n2_; have GW106 := n3_; have GE106 := n4_; clear n0_ n1_ n2_ n3_ n4_; clear hb hbox hg; have hcz11_0 : w10.cell? ⟨gb106, 0, none⟩ = some (.int .i64 0) := (zB BK106.out 0).trans rfl; have hcz11_1 : w10.cell? ⟨gb106, 1, none⟩ = some (.int .u64 0) := (zB BK106.out 1).trans rfl; have hcz11_2 : w10.cell? ⟨gb106, 2, none⟩ = some (.int .u64 0) := (zB BK106.out 2).trans rfl; have hcz11_3 : w10.cell? ⟨gb106, 3, none⟩ = some (.int .u64 0) := (zB BK106.out 3).trans rfl; have hcz11_4 : w10.cell? ⟨gb106, 4, none⟩ = some (.int .u64 0) := (zB BK106.out 4).trans rfl; have hcz11_5 : w10.cell? ⟨gb106, 5, none⟩ = some (.slice none 0 0) := (zB BK106.out 5).trans rfl; have hcz11_6 : w10.cell? ⟨gb106, 6, none⟩ = some (.int .i64 0) := (zB BK106.out 6).trans rfl; have hcz11_7 : w10.cell? ⟨gb106, 7, none⟩ = some (.int .i64 0) := (zB BK106.out 7).trans rfl; have hfz11_0 := zA BK106.out 0; have hfz11_1 := zA BK106.out 1; have hfz11_2 := zA BK106.out 2; have hfz11_3 := zA BK106.out 3; have hfz11_4 := zA BK106.out 4; have hfz11_5 := zA BK106.out 5; have hfz11_6 := zA BK106.out 6; have hfz11_7 := zA BK106.out 7))
      refine bodyPost_ret (results_cell_row rfl _ _ gb106 27 #[.int .i64 a0, .int .u64 0, .int .u64 0, .int .u64 0, .int .u64 0, .slice A1 l1.length c1, .int .i64 0, .int .i64 0] (0, 0) _ rfl (by (with_reducible repeat (first | refine zG ?_ _ | refine zH ?_ | refine zF ?_ _)); refine blk_put (cs := #[.int .i64 a0, .int .u64 0, .int .u64 0, .int .u64 0, .int .u64 0, .slice A1 l1.length c1, .int .i64 0, .int .i64 0]) ?_ 7 _ rfl; (with_reducible repeat (first | refine zG ?_ _ | refine zH ?_ | refine zF ?_ _)); refine blk_put (cs := #[.int .i64 a0, .int .u64 0, .int .u64 0, .int .u64 0, .int .u64 0, .slice A1 l1.length c1, .int .i64 0, .int .i64 0]) ?_ 6 _ rfl; (with_reducible repeat (first | refine zG ?_ _ | refine zH ?_ | refine zF ?_ _)); refine blk_put (cs := #[.int .i64 a0, .int .u64 0, .int .u64 0, .int .u64 0, .int .u64 0, .slice none 0 0, .int .i64 0, .int .i64 0]) ?_ 5 _ rfl; (with_reducible repeat (first | refine zG ?_ _ | refine zH ?_ | refine zF ?_ _)); refine blk_put (cs := #[.int .i64 a0, .int .u64 0, .int .u64 0, .int .u64 0, .int .u64 0, .slice none 0 0, .int .i64 0, .int .i64 0]) ?_ 4 _ rfl; (with_reducible repeat (first | refine zG ?_ _ | refine zH ?_ | refine zF ?_ _)); refine blk_put (cs := #[.int .i64 a0, .int .u64 0, .int .u64 0, .int .u64 0, .int .u64 0, .slice none 0 0, .int .i64 0, .int .i64 0]) ?_ 3 _ rfl; (with_reducible repeat (first | refine zG ?_ _ | refine zH ?_ | refine zF ?_ _)); refine blk_put (cs := #[.int .i64 a0, .int .u64 0, .int .u64 0, .int .u64 0, .int .u64 0, .slice none 0 0, .int .i64 0, .int .i64 0]) ?_ 2 _ rfl; (with_reducible repeat (first | refine zG ?_ _ | refine zH ?_ | refine zF ?_ _)); refine blk_put (cs := #[.int .i64 a0, .int .u64 0, .int .u64 0, .int .u64 0, .int .u64 0, .slice none 0 0, .int .i64 0, .int .i64 0]) ?_ 1 _ rfl; (with_reducible repeat (first | refine zG ?_ _ | refine zH ?_ | refine zF ?_ _)); refine blk_put (cs := #[.int .i64 0, .int .u64 0, .int .u64 0, .int .u64 0, .int .u64 0, .slice none 0 0, .int .i64 0, .int .i64 0]) ?_ 0 _ rfl; (with_reducible repeat (first | refine zG ?_ _ | refine zH ?_ | refine zF ?_ _)); exact BK106.out) Try.underlying27 rfl (by kernel_rfl)) rfl ?_
      exact ⟨_, by first | rfl | (simp [errW_none, errW_some] <;> rfl) | (simp [*, errW_none, errW_some] <;> rfl), by (with_reducible repeat (first | apply Kd.V_alloc | apply Kd.V_drewN | apply Kd.V_drew)); exact Kd.V_mono (Kd.V_far (p := ⟨gb106, 7, none⟩) (Kd.V_far (p := ⟨gb106, 6, none⟩) (Kd.V_far (p := ⟨gb106, 5, none⟩) (Kd.V_far (p := ⟨gb106, 4, none⟩) (Kd.V_far (p := ⟨gb106, 3, none⟩) (Kd.V_far (p := ⟨gb106, 2, none⟩) (Kd.V_far (p := ⟨gb106, 1, none⟩) (Kd.V_far (p := ⟨gb106, 0, none⟩) (Kd.V_mono HO1.out (fun k_ hk => (⟨hk, hk.2⟩ : _ ∧ k_ ≠ gb106))) (fun _ hk => hk.2) (.int .i64 a0)) (fun _ hk => hk.2) (.int .u64 0)) (fun _ hk => hk.2) (.int .u64 0)) (fun _ hk => hk.2) (.int .u64 0)) (fun _ hk => hk.2) (.int .u64 0)) (fun _ hk => hk.2) (.slice A1 l1.length c1)) (fun _ hk => hk.2) (.int .i64 0)) (fun _ hk => hk.2) (.int .i64 0)) (fun _ hk => hk.1.1), by repeat (first | (with_reducible first | exact HB.out | apply zE | apply zC | apply zD | refine below_set ?_ GE106.out) | exact HB.out)⟩

theorem box_belowS (w : World) (o : Obj) : Below w.heap.size w (w.alloc o) := (Below.refl _ _).alloc (Nat.le_refl _) _
theorem ndV_mkS (k s0 s1 s2 s3 lo hi : Int) (ps : List S27) (A : Option Addr) (c : Nat) : ndV ⟨k, ⟨s0, s1, s2, s3⟩, ps, lo, hi⟩ A c = .agg #[.int .i64 k, .int .u64 s0, .int .u64 s1, .int .u64 s2, .int .u64 s3, .slice A ps.length c, .int .i64 lo, .int .i64 hi] := rfl
mutual
def sameT : S27 → S27 → Bool
  | ⟨k, s, ps, lo, hi⟩, y => k == y.f0 && (s.f0 == y.f1.f0 && (s.f1 == y.f1.f1 && (s.f2 == y.f1.f2 && s.f3 == y.f1.f3))) && lo == y.f3 && hi == y.f4 && sameL ps y.f2
def sameL : List S27 → List S27 → Bool
  | [], l => l.isEmpty
  | p :: ps, l => match l with
    | [] => false
    | q :: qs => sameT p q && sameL ps qs
end
mutual
theorem sameT_iff : ∀ (x y : S27), sameT x y = true ↔ x = y
  | ⟨k, ⟨s0, s1, s2, s3⟩, ps, lo, hi⟩, ⟨k', ⟨t0, t1, t2, t3⟩, qs, lo', hi'⟩ => by
    rw [sameT]
    simp only [Bool.and_eq_true, beq_iff_eq, sameL_iff ps qs, S27.mk.injEq, S24.mk.injEq]
    constructor
    · rintro ⟨⟨⟨⟨a, b⟩, c⟩, d⟩, e⟩; exact ⟨a, b, e, c, d⟩
    · rintro ⟨a, b, e, c, d⟩; exact ⟨⟨⟨⟨a, b⟩, c⟩, d⟩, e⟩
theorem sameL_iff : ∀ (x y : List S27), sameL x y = true ↔ x = y
  | [], l => by cases l <;> simp [sameL]
  | p :: ps, l => by
    cases l with
    | nil => simp [sameL]
    | cons q qs => rw [sameL]; simp only [Bool.and_eq_true, sameT_iff p q, sameL_iff ps qs, List.cons.injEq]
end
theorem sameL_miss (xs ys : List S27) (k : Nat) (x y : S27) (hx : xs[k]? = some x) (hy : ys[k]? = some y) (h : sameT x y = false) : sameL xs ys = false := by
  rw [Bool.eq_false_iff, Ne, sameL_iff]
  rintro rfl
  rw [hx] at hy
  injection hy with hy
  rw [(sameT_iff x y).2 hy] at h
  cases h
theorem sameL_len (xs ys : List S27) (h : ¬ xs.length = ys.length) : sameL xs ys = false := by
  rw [Bool.eq_false_iff, Ne, sameL_iff]
  rintro rfl
  exact h rfl
theorem sameL_take (xs ys : List S27) (k : Nat) (x y : S27) (hx : xs[k]? = some x) (hy : ys[k]? = some y) (h : xs.take k = ys.take k) (hs : sameT x y = true) : xs.take (k + 1) = ys.take (k + 1) := by
  rw [List.take_add_one, List.take_add_one, h, hx, hy, (sameT_iff x y).1 hs]
theorem enS : Enters Try.prog 41 := enters_of Try.func41 (by kernel_rfl) rfl
set_option maxHeartbeats 4000000 in
theorem eqf_any (A B : Option Addr) (c d : Nat) (xs ys : List S27) (w : World) (hr : Kd.C k27 w A xs.length xs) (hs : Kd.C k27 w B ys.length ys)
    (hp : ∀ x ∈ xs, ∀ (y : S27) (A5 B5 : Option Addr) (c5 d5 : Nat) (W : World), Kd.C k27 W A5 x.f2.length x.f2 → x.f2.length ≤ c5 → Kd.C k27 W B5 y.f2.length y.f2 → y.f2.length ≤ d5 →
      Calls Try.prog 41 #[ndV x A5 c5, ndV y B5 d5] W fun e w' => e = .returned (.bool (sameT x y)) ∧ Below W.heap.size W w') :
    Calls Try.prog 43 #[.slice A xs.length c, .slice B ys.length d, .func (.func 41) #[] #[]] w fun e w' => e = .returned (.bool (sameL xs ys)) ∧ Below w.heap.size w w' := by
  have hmax := Kd.C_max hr
  have hmay := Kd.C_max hs
  have HR := zK hr
  have HY := zK hs
  have HP := zK hp
  have eg := enS
  clear hr hs hp
  by_cases hlen : xs.length = ys.length
  · have HL := zK hlen
    have e0 : ((xs.length : Int) != (ys.length : Int)) = false := by simp [hlen]
    have e1 : (xs.length == ys.length) = true := by simp [hlen]
    have hly : xs.length ≤ ys.length := by omega
    clear hlen
    go_enter Try.func43, Try.ntmps43
    go_wp2
    clear e0 e1
    go_loopg [7, 8, 9, 17] xs.length (fun gg _ _ _ s17 wr => ∃ kk : Nat, kk ≤ xs.length ∧ xs.length - kk ≤ gg ∧ s17 = .int .i64 kk ∧ Aside0 (Below w.heap.size w wr) ∧ Aside0 (xs.take kk = ys.take kk))
    case atStart => exact ⟨0, Nat.zero_le _, by omega, rfl, ⟨Below.refl _ w⟩, ⟨by simp⟩⟩
    case round =>
      obtain ⟨kk, hkk, hg, rfl, BW, HA⟩ := hrel
      by_cases hlt : kk < xs.length
      · have hltz : (kk : Int) < (xs.length : Int) := by omega
        have hlty : (kk : Int) < (ys.length : Int) := by omega
        obtain ⟨ad, A5, c5, e0, h0, h1, h2, h3, h4, h5, h6, h7, hl5, hi5⟩ := at_T27 (Kd.C_below HR.out BW.out) (kk : Int) (by omega) hltz
        cases e0
        obtain ⟨bd, B5, d5, e0, k0, k1, k2, k3, k4, k5, k6, k7, kl5, ki5⟩ := at_T27 (Kd.C_below HY.out BW.out) (kk : Int) (by omega) hlty
        cases e0
        simp only [Int.toNat_natCast] at h0 h1 h2 h3 h4 h5 h6 h7 k0 k1 k2 k3 k4 k5 k6 k7
        have hget : xs[kk]? = some (rd_T27 xs kk) := by simp [rd_T27, List.getD_eq_getElem?_getD, List.getElem?_eq_getElem hlt]
        have kget : ys[kk]? = some (rd_T27 ys kk) := by simp [rd_T27, List.getD_eq_getElem?_getD, List.getElem?_eq_getElem (show kk < ys.length by omega)]
        have hcall := fun (U : World) (hU : Below wr.heap.size wr U) => HP.out (rd_T27 xs kk) (List.mem_of_getElem? hget) (rd_T27 ys kk) A5 B5 c5 d5 U (Kd.C_below hi5 hU) hl5 (Kd.C_below ki5 hU) kl5
        unfold ndV at hcall
        generalize rd_T27 xs kk = x at h0 h1 h2 h3 h4 h5 h6 h7 hl5 hcall hget
        generalize rd_T27 ys kk = y at k0 k1 k2 k3 k4 k5 k6 k7 kl5 hcall kget
        have HG := zK hget
        have HK := zK kget
        have HC := zK hcall
        clear hget kget hi5 ki5 hl5 kl5 hcall
        have g0 := fun o : Obj => ((box_belowS wr o).cell (zL wr _ k0)).trans k0; have g1 := fun o : Obj => ((box_belowS wr o).cell (zL wr _ k1)).trans k1; have g2 := fun o : Obj => ((box_belowS wr o).cell (zL wr _ k2)).trans k2; have g3 := fun o : Obj => ((box_belowS wr o).cell (zL wr _ k3)).trans k3; have g4 := fun o : Obj => ((box_belowS wr o).cell (zL wr _ k4)).trans k4; have g5 := fun o : Obj => ((box_belowS wr o).cell (zL wr _ k5)).trans k5; have g6 := fun o : Obj => ((box_belowS wr o).cell (zL wr _ k6)).trans k6; have g7 := fun o : Obj => ((box_belowS wr o).cell (zL wr _ k7)).trans k7
        clear k0 k1 k2 k3 k4 k5 k6 k7
        have HQ := zK (show ∀ b, sameT x y = b → sameT x y = b from fun _ h => h)
        cases hq : sameT x y with
        | false =>
          rw [hq] at HC
          have HQ := zK hq
          clear hq
          go_wp2_with (go_at_call 41; refine (HC.out _ (Below.alloc (box_belowS _ _) (by simp) _)).mono ?_; rintro e w' ⟨rfl, hb'⟩)
          go_ret
          exact ⟨by rw [sameL_miss xs ys kk x y HG.out HK.out HQ.out]; rfl, zI BW.out (zI (Below.alloc (box_belowS _ _) (by simp) _) hb')⟩
        | true =>
          rw [hq] at HC
          have HQ := zK hq
          clear hq
          go_wp2_with (go_at_call 41; refine (HC.out _ (Below.alloc (box_belowS _ _) (by simp) _)).mono ?_; rintro e w' ⟨rfl, hb'⟩)
          go_roundg (xs.length - (kk + 1))
          case measure => omega
          case rel => exact ⟨kk + 1, by omega, by omega, by go_num, ⟨zI BW.out (zI (Below.alloc (box_belowS _ _) (by simp) _) hb')⟩, ⟨sameL_take xs ys kk x y HG.out HK.out HA.out HQ.out⟩⟩
      · have hltz : ¬ (kk : Int) < (xs.length : Int) := by omega
        have HK := zK (show kk = xs.length by omega)
        go_wp2
        go_ret
        refine ⟨?_, BW.out⟩
        have h := HA.out
        rw [HK.out, List.take_length, HL.out, List.take_length] at h
        rw [(sameL_iff xs ys).2 h]; rfl
  · have HL := zK hlen
    have e0 : ((xs.length : Int) != (ys.length : Int)) = true := by simp; omega
    have e1 : (xs.length == ys.length) = false := by simp; omega
    clear hlen
    go_enter Try.func43, Try.ntmps43
    go_wp2
    go_ret
    exact ⟨by rw [sameL_len xs ys HL.out]; rfl, Below.refl _ _⟩
section
attribute [local go_sem high] eqA24
set_option maxHeartbeats 4000000 in
set_option maxRecDepth 100000 in
theorem same_any (n : Nat) : ∀ (x y : S27) (A5 B5 : Option Addr) (c5 d5 : Nat) (w : World), SizeOf.sizeOf x < n → Kd.C k27 w A5 x.f2.length x.f2 → x.f2.length ≤ c5 → Kd.C k27 w B5 y.f2.length y.f2 → y.f2.length ≤ d5 →
    Calls Try.prog 41 #[ndV x A5 c5, ndV y B5 d5] w fun e w' => e = .returned (.bool (sameT x y)) ∧ Below w.heap.size w w' := by
  induction n with
  | zero => intro x y A5 B5 c5 d5 w h; omega
  | succ n ih =>
    intro x y A5 B5 c5 d5 w hn hr hc hs hd
    have HR := zK hr
    have HY := zK hs
    have HS := zK hn
    have HI := zK (show ∀ W, Below w.heap.size w W → Calls Try.prog 43 #[.slice A5 x.f2.length c5, .slice B5 y.f2.length d5, .func (.func 41) #[] #[]] W fun e w' => e = .returned (.bool (sameL x.f2 y.f2)) ∧ Below W.heap.size W w' from
      fun W hW => eqf_any A5 B5 c5 d5 x.f2 y.f2 W (Kd.C_below HR.out hW) (Kd.C_below HY.out hW) fun z hz z' A' B' c' d' V h1 h2 h3 h4 => ih z z' A' B' c' d' V (by have := mem_lt hz; have := HS.out; omega) h1 h2 h3 h4)
    clear hr hs hn hc hd ih
    obtain ⟨k, ⟨s0, s1, s2, s3⟩, ps, lo, hi⟩ := x
    obtain ⟨k', ⟨t0, t1, t2, t3⟩, qs, lo', hi'⟩ := y
    have HV := zK (show sameT ⟨k, ⟨s0, s1, s2, s3⟩, ps, lo, hi⟩ ⟨k', ⟨t0, t1, t2, t3⟩, qs, lo', hi'⟩ = (k == k' && (s0 == t0 && (s1 == t1 && (s2 == t2 && s3 == t3))) && lo == lo' && hi == hi' && sameL ps qs) by rw [sameT])
    rw [ndV_mkS, ndV_mkS]
    have hbx : ∀ (o o' : Obj), Below w.heap.size w ((w.alloc o).alloc o') := fun o o' => Below.alloc (box_belowS _ _) (by simp) _
    have HB := zK hbx
    clear hbx
    cases e1 : k == k' with
    | false =>
      rw [e1] at HV
      go_enter Try.func41, Try.ntmps41
      go_wp2_with fail
      go_ret
      exact ⟨by rw [HV.out]; rfl, HB.out _ _⟩
    | true =>
      cases e2 : (s0 == t0 && (s1 == t1 && (s2 == t2 && s3 == t3))) with
      | false =>
        rw [e1, e2] at HV
        go_enter Try.func41, Try.ntmps41
        go_wp2_with fail
        go_ret
        exact ⟨by rw [HV.out]; rfl, HB.out _ _⟩
      | true =>
        cases e3 : lo == lo' with
        | false =>
          rw [e1, e2, e3] at HV
          go_enter Try.func41, Try.ntmps41
          go_wp2_with fail
          go_ret
          exact ⟨by rw [HV.out]; rfl, HB.out _ _⟩
        | true =>
          cases e4 : hi == hi' with
          | false =>
            rw [e1, e2, e3, e4] at HV
            go_enter Try.func41, Try.ntmps41
            go_wp2_with fail
            go_ret
            exact ⟨by rw [HV.out]; rfl, HB.out _ _⟩
          | true =>
            rw [e1, e2, e3, e4] at HV
            go_enter Try.func41, Try.ntmps41
            go_wp2_with (go_at_call 43; refine (HI.out _ (HB.out _ _)).mono ?_; rintro e w1 ⟨rfl, hb1⟩)
            go_ret
            exact ⟨by rw [HV.out]; rfl, zI (HB.out _ _) hb1⟩
end
end Go.Proofs.Ytlnhiogpjdhhbaa.P
