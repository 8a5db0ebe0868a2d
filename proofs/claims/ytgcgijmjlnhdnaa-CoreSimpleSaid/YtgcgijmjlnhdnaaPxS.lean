-- Written by a program of this project (wip/xp over the words of the print), not by hand.
import Derived.Test.YtgcgijmjlnhdnaaPx0
import Derived.Test.YtgcgijmjlnhdnaaPx13
import Derived.Test.YtgcgijmjlnhdnaaPx14
import Derived.Test.YtgcgijmjlnhdnaaPx15
import Derived.Test.YtgcgijmjlnhdnaaPx16
namespace Go.Proofs.Ytgcgijmjlnhdnaa.P
open Go.RowKit Go.Proofs.YtgcgijmjlnhdnaaW.PrintWords Go.Proofs.YtgcgijmjlnhdnaaW.PrintLast Go.Proofs.YtgcgijmjlnhdnaaW.PrintMore
attribute [local go_sem] max2_int min2_int max_two min_two max_three min_three max_four min_four   -- for this text's walks alone
set_option linter.unusedVariables false
set_option linter.unusedSimpArgs false

/-! ### ostinatoref04_Simple: function 13 -/
theorem blk8 {w : World} {g : Nat} {t : TypeId} {c0 c1 c2 c3 c4 c5 c6 c7 : Value} (h : w.heap[g]? = some (.cells #[c0, c1, c2, c3, c4, c5, c6, c7] t (0, 0))) :
    w.cell? ⟨g, 0, none⟩ = some c0 ∧ w.cell? ⟨g, 1, none⟩ = some c1 ∧ w.cell? ⟨g, 2, none⟩ = some c2 ∧ w.cell? ⟨g, 3, none⟩ = some c3 ∧ w.cell? ⟨g, 4, none⟩ = some c4 ∧ w.cell? ⟨g, 5, none⟩ = some c5 ∧ w.cell? ⟨g, 6, none⟩ = some c6 ∧ w.cell? ⟨g, 7, none⟩ = some c7 ∧
    w.frozen? ⟨g, 0, none⟩ = false ∧ w.frozen? ⟨g, 1, none⟩ = false ∧ w.frozen? ⟨g, 2, none⟩ = false ∧ w.frozen? ⟨g, 3, none⟩ = false ∧ w.frozen? ⟨g, 4, none⟩ = false ∧ w.frozen? ⟨g, 5, none⟩ = false ∧ w.frozen? ⟨g, 6, none⟩ = false ∧ w.frozen? ⟨g, 7, none⟩ = false :=
  ⟨(blk_cell h 0).trans rfl, (blk_cell h 1).trans rfl, (blk_cell h 2).trans rfl, (blk_cell h 3).trans rfl, (blk_cell h 4).trans rfl, (blk_cell h 5).trans rfl, (blk_cell h 6).trans rfl, (blk_cell h 7).trans rfl,
    blk_frozen h 0, blk_frozen h 1, blk_frozen h 2, blk_frozen h 3, blk_frozen h 4, blk_frozen h 5, blk_frozen h 6, blk_frozen h 7⟩
set_option maxHeartbeats 40000000 in
set_option maxRecDepth 100000 in
theorem ostinatoref04_Simple.calls (k : Nat) : ∀ (a0_0 : Int) (a0_1 : Int) (a0_2 : Int) (a0_3 : Int) (a0_4 : Int) (P0_5_ : Nat → Prop) (A0_5 : Option Addr) (c0_5 : Nat) (l0_5 : List (S27)) (a0_6 : Int) (a0_7 : Int) (r1 : Int) (r2 : Int) (r3 : Int) (r4 : Int) (r5 : Int) (r6 : List (S27)) (r7 : Int) (r8 : Int) (w : World) (hs0_5 : Kd.V k27 27 w w.heap.size (fun k_ => P0_5_ k_) (.slice A0_5 l0_5.length c0_5) l0_5) (h : ostinatoref04_Simple.f k a0_0 a0_1 a0_2 a0_3 a0_4 l0_5 a0_6 a0_7 = some (r1, r2, r3, r4, r5, r6, r7, r8)),
  Calls Try.prog 13 #[.agg #[.int .i64 a0_0, .int .u64 a0_1, .int .u64 a0_2, .int .u64 a0_3, .int .u64 a0_4, .slice A0_5 l0_5.length c0_5, .int .i64 a0_6, .int .i64 a0_7]] w fun e w' => ∃ v5_ : Value, e = .returned (.agg #[.int .i64 r1, .int .u64 r2, .int .u64 r3, .int .u64 r4, .int .u64 r5, v5_, .int .i64 r7, .int .i64 r8]) ∧ Kd.V k27 27 w' w.heap.size (fun k_ => (P0_5_ k_ ∨ w.heap.size ≤ k_)) v5_ r6 ∧ Below w.heap.size w w' := by
 induction k using Nat.strongRecOn with
 | _ k ih =>
 intro a0_0 a0_1 a0_2 a0_3 a0_4 P0_5_ A0_5 c0_5 l0_5 a0_6 a0_7 r1 r2 r3 r4 r5 r6 r7 r8 w hs0_5 h
 cases k with
 | zero => exact absurd h (by simp [ostinatoref04_Simple.f])
 | succ k =>
 simp only [ostinatoref04_Simple.f] at h
 have hu27 := Try.underlying27
 have HO0_5 := Aside0.mk (show Kd.V k27 27 w w.heap.size (fun k_ => (P0_5_ k_ ∨ w.heap.size ≤ k_)) (.slice A0_5 l0_5.length c0_5) l0_5 from Kd.V_mono hs0_5 (fun k_ hk => .inl hk))
 have HB := Aside0.mk (Below.refl w.heap.size w)
 have H : ((ostinatoref04_Told.f k a0_0 a0_1 a0_2 a0_3 a0_4 l0_5 a0_6 a0_7).bind fun bt218 => (if bt218.1 = true then (some (1, 0, 0, 0, 0, ([] : List (S27)), 0, 0)) else (if a0_0 < 2 then (some (a0_0, a0_1, a0_2, a0_3, a0_4, l0_5, a0_6, a0_7)) else (ostinatoref04_Simple.l0 k ([] : List (S27)) 0 a0_0 a0_1 a0_2 a0_3 a0_4 l0_5 a0_6 a0_7)))) = some (r1, r2, r3, r4, r5, r6, r7, r8) := h
 clear h
 replace H := Option.bind_eq_some_iff.mp H
 obtain ⟨⟨t218, t219⟩, A20, H⟩ := H
 replace H : (if t218 = true then (some (1, 0, 0, 0, 0, ([] : List (S27)), 0, 0)) else (if a0_0 < 2 then (some (a0_0, a0_1, a0_2, a0_3, a0_4, l0_5, a0_6, a0_7)) else (ostinatoref04_Simple.l0 k ([] : List (S27)) 0 a0_0 a0_1 a0_2 a0_3 a0_4 l0_5 a0_6 a0_7))) = some (r1, r2, r3, r4, r5, r6, r7, r8) := H
 have A2 := Aside0.mk A20
 clear A20
 by_cases c3 : t218 = true
 ·
  subst c3
  have H1 : (some (1, 0, 0, 0, 0, ([] : List (S27)), 0, 0)) = some (r1, r2, r3, r4, r5, r6, r7, r8) := by rw [if_pos rfl] at H; exact H
  clear H
  have H := H1
  clear H1
  simp only [Option.some.injEq, Prod.mk.injEq] at H
  obtain ⟨rfl, rfl, rfl, rfl, rfl, rfl, rfl, rfl⟩ := H
  go_enter Try.func13, Try.ntmps13
  go_wp2_with (first | ((with_reducible refine gate_dst (N := 1) rfl ?_); refine box_event ?hg (N := 1) ?hd (cs := #[.int .i64 a0_0, .int .u64 a0_1, .int .u64 a0_2, .int .u64 a0_3, .int .u64 a0_4, .slice A0_5 l0_5.length c0_5, .int .i64 a0_6, .int .i64 a0_7]) (t := 27) ?hr ?_; (case hd => rfl); (case hg => rfl); (case hr => first | (go_simp; done) | (go_simp; rfl)); intro gb216 hg w4 hbox hb; have n0_ := Aside0.mk (Kd.V_below (Kd.V_elderB (by (with_reducible repeat (first | apply Kd.V_alloc | apply Kd.V_drewN | apply Kd.V_drew)); exact HO0_5.out) gb216 (Nat.le_of_eq hg.symm)) hb); have n1_ := Aside0.mk (below_step (by repeat (first | (with_reducible first | exact HB.out | apply below_alloc | apply pw_below_drewN | apply below_drew1) | exact HB.out)) hb); have n2_ := Aside0.mk (hbox); have n3_ := Aside0.mk ((by rw [hg]; exact (below_size (by repeat (first | (with_reducible first | exact HB.out | apply below_alloc | apply pw_below_drewN | apply below_drew1) | exact HB.out))) : w.heap.size ≤ gb216)); have n4_ := Aside0.mk ((by rw [hg]; exact (below_size (by repeat (first | (with_reducible first | exact HB.out | apply below_alloc | apply pw_below_drewN | apply below_drew1) | exact HB.out))) : w.heap.size ≤ gb216)); clear HO0_5; clear HB; have HO0_5 := n0_; have HB := n1_; have BK216 := n2_; have GW216 := n3_; have GE216 := n4_; clear n0_ n1_ n2_ n3_ n4_; clear hb hbox hg) | ((with_reducible refine gate_dst (N := 2) rfl ?_); refine box_event ?hg (N := 2) ?hd (cs := #[.int .i64 0, .int .u64 0, .int .u64 0, .int .u64 0, .int .u64 0, .slice none 0 0, .int .i64 0, .int .i64 0]) (t := 27) ?hr ?_; (case hd => rfl); (case hg => rfl); (case hr => first | (go_simp; done) | (go_simp; rfl)); intro gb217 hg w5 hbox hb; have n0_ := Aside0.mk (Kd.V_below (Kd.V_elderB (by (with_reducible repeat (first | apply Kd.V_alloc | apply Kd.V_drewN | apply Kd.V_drew)); exact HO0_5.out) gb217 (Nat.le_of_eq hg.symm)) hb); have n1_ := Aside0.mk (blk_below (g := gb216) (o := .cells #[.int .i64 a0_0, .int .u64 a0_1, .int .u64 a0_2, .int .u64 a0_3, .int .u64 a0_4, .slice A0_5 l0_5.length c0_5, .int .i64 a0_6, .int .i64 a0_7] 27 (0, 0)) (by (with_reducible repeat (first | refine blk_drewN ?_ _ | refine blk_drew ?_ | refine blk_alloc ?_ _)); exact BK216.out) hb); have n2_ := Aside0.mk (below_step (by repeat (first | (with_reducible first | exact HB.out | apply below_alloc | apply pw_below_drewN | apply below_drew1 | refine below_set ?_ GE216.out) | exact HB.out)) hb); have n3_ := Aside0.mk (hbox); have n4_ := Aside0.mk ((by rw [hg]; exact (below_size (by repeat (first | (with_reducible first | exact HB.out | apply below_alloc | apply pw_below_drewN | apply below_drew1 | refine below_set ?_ GE216.out) | exact HB.out))) : w.heap.size ≤ gb217)); have n5_ := Aside0.mk ((by rw [hg]; exact (below_size (by repeat (first | (with_reducible first | exact HB.out | apply below_alloc | apply pw_below_drewN | apply below_drew1 | refine below_set ?_ GE216.out) | exact HB.out))) : w.heap.size ≤ gb217)); have n6_ := Aside0.mk ((by rw [hg]; exact Nat.ne_of_lt (blk_lt (g := gb216) (o := .cells #[.int .i64 a0_0, .int .u64 a0_1, .int .u64 a0_2, .int .u64 a0_3, .int .u64 a0_4, .slice A0_5 l0_5.length c0_5, .int .i64 a0_6, .int .i64 a0_7] 27 (0, 0)) (by (with_reducible repeat (first | refine blk_drewN ?_ _ | refine blk_drew ?_ | refine blk_alloc ?_ _)); exact BK216.out)) : gb216 ≠ gb217)); have n7_ := Aside0.mk ((by rw [hg]; exact Nat.ne_of_gt (blk_lt (g := gb216) (o := .cells #[.int .i64 a0_0, .int .u64 a0_1, .int .u64 a0_2, .int .u64 a0_3, .int .u64 a0_4, .slice A0_5 l0_5.length c0_5, .int .i64 a0_6, .int .i64 a0_7] 27 (0, 0)) (by (with_reducible repeat (first | refine blk_drewN ?_ _ | refine blk_drew ?_ | refine blk_alloc ?_ _)); exact BK216.out)) : gb217 ≠ gb216)); clear HO0_5; clear BK216; clear HB; have HO0_5 := n0_; have BK216 := n1_; have HB := n2_; have BK217 := n3_; have GW217 := n4_; have GE217 := n5_; have NB216_217 := n6_; have NB217_216 := n7_; clear n0_ n1_ n2_ n3_ n4_ n5_ n6_ n7_; clear hb hbox hg; have hnb6 := NB216_217.out; have hnc6 := NB217_216.out; have hcz7_0 : w5.cell? ⟨gb216, 0, none⟩ = some (.int .i64 a0_0) := (blk_cell BK216.out 0).trans rfl; have hcz7_1 : w5.cell? ⟨gb216, 1, none⟩ = some (.int .u64 a0_1) := (blk_cell BK216.out 1).trans rfl; have hcz7_2 : w5.cell? ⟨gb216, 2, none⟩ = some (.int .u64 a0_2) := (blk_cell BK216.out 2).trans rfl; have hcz7_3 : w5.cell? ⟨gb216, 3, none⟩ = some (.int .u64 a0_3) := (blk_cell BK216.out 3).trans rfl; have hcz7_4 : w5.cell? ⟨gb216, 4, none⟩ = some (.int .u64 a0_4) := (blk_cell BK216.out 4).trans rfl; have hcz7_5 : w5.cell? ⟨gb216, 5, none⟩ = some (.slice A0_5 l0_5.length c0_5) := (blk_cell BK216.out 5).trans rfl; have hcz7_6 : w5.cell? ⟨gb216, 6, none⟩ = some (.int .i64 a0_6) := (blk_cell BK216.out 6).trans rfl; have hcz7_7 : w5.cell? ⟨gb216, 7, none⟩ = some (.int .i64 a0_7) := (blk_cell BK216.out 7).trans rfl; have hfz7_0 := blk_frozen BK216.out 0; have hfz7_1 := blk_frozen BK216.out 1; have hfz7_2 := blk_frozen BK216.out 2; have hfz7_3 := blk_frozen BK216.out 3; have hfz7_4 := blk_frozen BK216.out 4; have hfz7_5 := blk_frozen BK216.out 5; have hfz7_6 := blk_frozen BK216.out 6; have hfz7_7 := blk_frozen BK216.out 7) | ((with_reducible refine gate_callee (f := 16) rfl ?_); refine goesL_ (some 18) rfl rfl Try.func16 (by kernel_rfl) rfl #[.agg #[.int .i64 a0_0, .int .u64 a0_1, .int .u64 a0_2, .int .u64 a0_3, .int .u64 a0_4, .slice A0_5 l0_5.length c0_5, .int .i64 a0_6, .int .i64 a0_7]] rfl (by (try simp only [List.map_toArray, List.map_cons, List.map_nil]); first | done | rfl | (simp only [List.length_drop, List.length_take]; rfl)) ?_; (with_reducible refine (ostinatoref04_Told.calls k a0_0 a0_1 a0_2 a0_3 a0_4 _ _ l0_5 a0_6 a0_7 true t219 _ ?side1 ?side2 A2.out).mono ?_); (case side1 => repeat (first | exact (Kd.V_reads' HO0_5.out).2.2 | (with_reducible refine Kd.C_alloc ?_ _) | (with_reducible refine Kd.C_drewN ?_ _) | (with_reducible refine Kd.C_drew ?_))); (case side2 => exact (Kd.V_reads' HO0_5.out).2.1); rintro e w8 ⟨rfl, hb⟩; refine ⟨_, rfl, ?_⟩; have n0_ := Aside0.mk (Kd.V_below (by (with_reducible repeat (first | apply Kd.V_alloc | apply Kd.V_drewN | apply Kd.V_drew)); exact HO0_5.out) hb); have n1_ := Aside0.mk (blk_below (g := gb216) (o := .cells #[.int .i64 a0_0, .int .u64 a0_1, .int .u64 a0_2, .int .u64 a0_3, .int .u64 a0_4, .slice A0_5 l0_5.length c0_5, .int .i64 a0_6, .int .i64 a0_7] 27 (0, 0)) (by (with_reducible repeat (first | refine blk_drewN ?_ _ | refine blk_drew ?_ | refine blk_alloc ?_ _)); exact BK216.out) hb); have n2_ := Aside0.mk (blk_below (g := gb217) (o := .cells #[.int .i64 0, .int .u64 0, .int .u64 0, .int .u64 0, .int .u64 0, .slice none 0 0, .int .i64 0, .int .i64 0] 27 (0, 0)) (by (with_reducible repeat (first | refine blk_drewN ?_ _ | refine blk_drew ?_ | refine blk_alloc ?_ _)); exact BK217.out) hb); have n3_ := Aside0.mk (below_step (by repeat (first | (with_reducible first | exact HB.out | apply below_alloc | apply pw_below_drewN | apply below_drew1 | refine below_set ?_ GE216.out | refine below_set ?_ GE217.out) | exact HB.out)) hb); clear HO0_5; clear BK216; clear BK217; clear HB; have HO0_5 := n0_; have BK216 := n1_; have BK217 := n2_; have HB := n3_; clear n0_ n1_ n2_ n3_; (try clear hb); (try clear hb2); (try clear hk); (try clear hi); have hcz9_0 : w8.cell? ⟨gb217, 0, none⟩ = some (.int .i64 0) := (blk_cell BK217.out 0).trans rfl; have hcz9_1 : w8.cell? ⟨gb217, 1, none⟩ = some (.int .u64 0) := (blk_cell BK217.out 1).trans rfl; have hcz9_2 : w8.cell? ⟨gb217, 2, none⟩ = some (.int .u64 0) := (blk_cell BK217.out 2).trans rfl; have hcz9_3 : w8.cell? ⟨gb217, 3, none⟩ = some (.int .u64 0) := (blk_cell BK217.out 3).trans rfl; have hcz9_4 : w8.cell? ⟨gb217, 4, none⟩ = some (.int .u64 0) := (blk_cell BK217.out 4).trans rfl; have hcz9_5 : w8.cell? ⟨gb217, 5, none⟩ = some (.slice none 0 0) := (blk_cell BK217.out 5).trans rfl; have hcz9_6 : w8.cell? ⟨gb217, 6, none⟩ = some (.int .i64 0) := (blk_cell BK217.out 6).trans rfl; have hcz9_7 : w8.cell? ⟨gb217, 7, none⟩ = some (.int .i64 0) := (blk_cell BK217.out 7).trans rfl; have hfz9_0 := blk_frozen BK217.out 0; have hfz9_1 := blk_frozen BK217.out 1; have hfz9_2 := blk_frozen BK217.out 2; have hfz9_3 := blk_frozen BK217.out 3; have hfz9_4 := blk_frozen BK217.out 4; have hfz9_5 := blk_frozen BK217.out 5; have hfz9_6 := blk_frozen BK217.out 6; have hfz9_7 := blk_frozen BK217.out 7))
  refine bodyPost_ret (results_cell_row rfl _ _ gb217 27 #[.int .i64 1, .int .u64 0, .int .u64 0, .int .u64 0, .int .u64 0, .slice none 0 0, .int .i64 0, .int .i64 0] (0, 0) _ rfl (by (with_reducible repeat (first | refine blk_drewN ?_ _ | refine blk_drew ?_ | refine blk_alloc ?_ _)); refine blk_put (cs := #[.int .i64 1, .int .u64 0, .int .u64 0, .int .u64 0, .int .u64 0, .slice none 0 0, .int .i64 0, .int .i64 0]) ?_ 7 _ rfl; (with_reducible repeat (first | refine blk_drewN ?_ _ | refine blk_drew ?_ | refine blk_alloc ?_ _)); refine blk_put (cs := #[.int .i64 1, .int .u64 0, .int .u64 0, .int .u64 0, .int .u64 0, .slice none 0 0, .int .i64 0, .int .i64 0]) ?_ 6 _ rfl; (with_reducible repeat (first | refine blk_drewN ?_ _ | refine blk_drew ?_ | refine blk_alloc ?_ _)); refine blk_put (cs := #[.int .i64 1, .int .u64 0, .int .u64 0, .int .u64 0, .int .u64 0, .slice none 0 0, .int .i64 0, .int .i64 0]) ?_ 5 _ rfl; (with_reducible repeat (first | refine blk_drewN ?_ _ | refine blk_drew ?_ | refine blk_alloc ?_ _)); refine blk_put (cs := #[.int .i64 1, .int .u64 0, .int .u64 0, .int .u64 0, .int .u64 0, .slice none 0 0, .int .i64 0, .int .i64 0]) ?_ 4 _ rfl; (with_reducible repeat (first | refine blk_drewN ?_ _ | refine blk_drew ?_ | refine blk_alloc ?_ _)); refine blk_put (cs := #[.int .i64 1, .int .u64 0, .int .u64 0, .int .u64 0, .int .u64 0, .slice none 0 0, .int .i64 0, .int .i64 0]) ?_ 3 _ rfl; (with_reducible repeat (first | refine blk_drewN ?_ _ | refine blk_drew ?_ | refine blk_alloc ?_ _)); refine blk_put (cs := #[.int .i64 1, .int .u64 0, .int .u64 0, .int .u64 0, .int .u64 0, .slice none 0 0, .int .i64 0, .int .i64 0]) ?_ 2 _ rfl; (with_reducible repeat (first | refine blk_drewN ?_ _ | refine blk_drew ?_ | refine blk_alloc ?_ _)); refine blk_put (cs := #[.int .i64 1, .int .u64 0, .int .u64 0, .int .u64 0, .int .u64 0, .slice none 0 0, .int .i64 0, .int .i64 0]) ?_ 1 _ rfl; (with_reducible repeat (first | refine blk_drewN ?_ _ | refine blk_drew ?_ | refine blk_alloc ?_ _)); refine blk_put (cs := #[.int .i64 0, .int .u64 0, .int .u64 0, .int .u64 0, .int .u64 0, .slice none 0 0, .int .i64 0, .int .i64 0]) ?_ 0 _ rfl; (with_reducible repeat (first | refine blk_drewN ?_ _ | refine blk_drew ?_ | refine blk_alloc ?_ _)); exact BK217.out) Try.underlying27 rfl (by kernel_rfl)) rfl ?_
  exact ⟨_, by first | rfl | (simp [errW_none, errW_some] <;> rfl) | (simp [*, errW_none, errW_some] <;> rfl), Kd.V_nil _ _ _ _ _, by repeat (first | (with_reducible first | exact HB.out | apply below_alloc | apply pw_below_drewN | apply below_drew1 | refine below_set ?_ GE216.out | refine below_set ?_ GE217.out) | exact HB.out)⟩
 ·
  replace c3 := Bool.eq_false_iff.mpr c3
  subst c3
  have H1 : (if a0_0 < 2 then (some (a0_0, a0_1, a0_2, a0_3, a0_4, l0_5, a0_6, a0_7)) else (ostinatoref04_Simple.l0 k ([] : List (S27)) 0 a0_0 a0_1 a0_2 a0_3 a0_4 l0_5 a0_6 a0_7)) = some (r1, r2, r3, r4, r5, r6, r7, r8) := by rw [if_neg (show ¬ (false = true) by decide)] at H; exact H
  clear H
  have H := H1
  clear H1
  by_cases c10 : a0_0 < 2
  ·
   rw [if_pos c10] at H
   have c10b0 : decide (a0_0 < 2) = true := decide_eq_true c10
   clear c10
   simp only [Option.some.injEq, Prod.mk.injEq] at H
   obtain ⟨rfl, rfl, rfl, rfl, rfl, rfl, rfl, rfl⟩ := H
   go_enter Try.func13, Try.ntmps13
   go_wp2_with (first | ((with_reducible refine gate_dst (N := 1) rfl ?_); refine box_event ?hg (N := 1) ?hd (cs := #[.int .i64 a0_0, .int .u64 a0_1, .int .u64 a0_2, .int .u64 a0_3, .int .u64 a0_4, .slice A0_5 l0_5.length c0_5, .int .i64 a0_6, .int .i64 a0_7]) (t := 27) ?hr ?_; (case hd => rfl); (case hg => rfl); (case hr => first | (go_simp; done) | (go_simp; rfl)); intro gb216 hg w11 hbox hb; have n0_ := Aside0.mk (Kd.V_below (Kd.V_elderB (by (with_reducible repeat (first | apply Kd.V_alloc | apply Kd.V_drewN | apply Kd.V_drew)); exact HO0_5.out) gb216 (Nat.le_of_eq hg.symm)) hb); have n1_ := Aside0.mk (below_step (by repeat (first | (with_reducible first | exact HB.out | apply below_alloc | apply pw_below_drewN | apply below_drew1) | exact HB.out)) hb); have n2_ := Aside0.mk (hbox); have n3_ := Aside0.mk ((by rw [hg]; exact (below_size (by repeat (first | (with_reducible first | exact HB.out | apply below_alloc | apply pw_below_drewN | apply below_drew1) | exact HB.out))) : w.heap.size ≤ gb216)); have n4_ := Aside0.mk ((by rw [hg]; exact (below_size (by repeat (first | (with_reducible first | exact HB.out | apply below_alloc | apply pw_below_drewN | apply below_drew1) | exact HB.out))) : w.heap.size ≤ gb216)); clear HO0_5; clear HB; have HO0_5 := n0_; have HB := n1_; have BK216 := n2_; have GW216 := n3_; have GE216 := n4_; clear n0_ n1_ n2_ n3_ n4_; clear hb hbox hg) | ((with_reducible refine gate_dst (N := 2) rfl ?_); refine box_event ?hg (N := 2) ?hd (cs := #[.int .i64 0, .int .u64 0, .int .u64 0, .int .u64 0, .int .u64 0, .slice none 0 0, .int .i64 0, .int .i64 0]) (t := 27) ?hr ?_; (case hd => rfl); (case hg => rfl); (case hr => first | (go_simp; done) | (go_simp; rfl)); intro gb217 hg w12 hbox hb; have n0_ := Aside0.mk (Kd.V_below (Kd.V_elderB (by (with_reducible repeat (first | apply Kd.V_alloc | apply Kd.V_drewN | apply Kd.V_drew)); exact HO0_5.out) gb217 (Nat.le_of_eq hg.symm)) hb); have n1_ := Aside0.mk (blk_below (g := gb216) (o := .cells #[.int .i64 a0_0, .int .u64 a0_1, .int .u64 a0_2, .int .u64 a0_3, .int .u64 a0_4, .slice A0_5 l0_5.length c0_5, .int .i64 a0_6, .int .i64 a0_7] 27 (0, 0)) (by (with_reducible repeat (first | refine blk_drewN ?_ _ | refine blk_drew ?_ | refine blk_alloc ?_ _)); exact BK216.out) hb); have n2_ := Aside0.mk (below_step (by repeat (first | (with_reducible first | exact HB.out | apply below_alloc | apply pw_below_drewN | apply below_drew1 | refine below_set ?_ GE216.out) | exact HB.out)) hb); have n3_ := Aside0.mk (hbox); have n4_ := Aside0.mk ((by rw [hg]; exact (below_size (by repeat (first | (with_reducible first | exact HB.out | apply below_alloc | apply pw_below_drewN | apply below_drew1 | refine below_set ?_ GE216.out) | exact HB.out))) : w.heap.size ≤ gb217)); have n5_ := Aside0.mk ((by rw [hg]; exact (below_size (by repeat (first | (with_reducible first | exact HB.out | apply below_alloc | apply pw_below_drewN | apply below_drew1 | refine below_set ?_ GE216.out) | exact HB.out))) : w.heap.size ≤ gb217)); have n6_ := Aside0.mk ((by rw [hg]; exact Nat.ne_of_lt (blk_lt (g := gb216) (o := .cells #[.int .i64 a0_0, .int .u64 a0_1, .int .u64 a0_2, .int .u64 a0_3, .int .u64 a0_4, .slice A0_5 l0_5.length c0_5, .int .i64 a0_6, .int .i64 a0_7] 27 (0, 0)) (by (with_reducible repeat (first | refine blk_drewN ?_ _ | refine blk_drew ?_ | refine blk_alloc ?_ _)); exact BK216.out)) : gb216 ≠ gb217)); have n7_ := Aside0.mk ((by rw [hg]; exact Nat.ne_of_gt (blk_lt (g := gb216) (o := .cells #[.int .i64 a0_0, .int .u64 a0_1, .int .u64 a0_2, .int .u64 a0_3, .int .u64 a0_4, .slice A0_5 l0_5.length c0_5, .int .i64 a0_6, .int .i64 a0_7] 27 (0, 0)) (by (with_reducible repeat (first | refine blk_drewN ?_ _ | refine blk_drew ?_ | refine blk_alloc ?_ _)); exact BK216.out)) : gb217 ≠ gb216)); clear HO0_5; clear BK216; clear HB; have HO0_5 := n0_; have BK216 := n1_; have HB := n2_; have BK217 := n3_; have GW217 := n4_; have GE217 := n5_; have NB216_217 := n6_; have NB217_216 := n7_; clear n0_ n1_ n2_ n3_ n4_ n5_ n6_ n7_; clear hb hbox hg; have hnb13 := NB216_217.out; have hnc13 := NB217_216.out; have hcz14_0 : w12.cell? ⟨gb216, 0, none⟩ = some (.int .i64 a0_0) := (blk_cell BK216.out 0).trans rfl; have hcz14_1 : w12.cell? ⟨gb216, 1, none⟩ = some (.int .u64 a0_1) := (blk_cell BK216.out 1).trans rfl; have hcz14_2 : w12.cell? ⟨gb216, 2, none⟩ = some (.int .u64 a0_2) := (blk_cell BK216.out 2).trans rfl; have hcz14_3 : w12.cell? ⟨gb216, 3, none⟩ = some (.int .u64 a0_3) := (blk_cell BK216.out 3).trans rfl; have hcz14_4 : w12.cell? ⟨gb216, 4, none⟩ = some (.int .u64 a0_4) := (blk_cell BK216.out 4).trans rfl; have hcz14_5 : w12.cell? ⟨gb216, 5, none⟩ = some (.slice A0_5 l0_5.length c0_5) := (blk_cell BK216.out 5).trans rfl; have hcz14_6 : w12.cell? ⟨gb216, 6, none⟩ = some (.int .i64 a0_6) := (blk_cell BK216.out 6).trans rfl; have hcz14_7 : w12.cell? ⟨gb216, 7, none⟩ = some (.int .i64 a0_7) := (blk_cell BK216.out 7).trans rfl; have hfz14_0 := blk_frozen BK216.out 0; have hfz14_1 := blk_frozen BK216.out 1; have hfz14_2 := blk_frozen BK216.out 2; have hfz14_3 := blk_frozen BK216.out 3; have hfz14_4 := blk_frozen BK216.out 4; have hfz14_5 := blk_frozen BK216.out 5; have hfz14_6 := blk_frozen BK216.out 6; have hfz14_7 := blk_frozen BK216.out 7) | ((with_reducible refine gate_callee (f := 16) rfl ?_); refine goesL_ (some 18) rfl rfl Try.func16 (by kernel_rfl) rfl #[.agg #[.int .i64 a0_0, .int .u64 a0_1, .int .u64 a0_2, .int .u64 a0_3, .int .u64 a0_4, .slice A0_5 l0_5.length c0_5, .int .i64 a0_6, .int .i64 a0_7]] rfl (by (try simp only [List.map_toArray, List.map_cons, List.map_nil]); first | done | rfl | (simp only [List.length_drop, List.length_take]; rfl)) ?_; (with_reducible refine (ostinatoref04_Told.calls k a0_0 a0_1 a0_2 a0_3 a0_4 _ _ l0_5 a0_6 a0_7 false t219 _ ?side1 ?side2 A2.out).mono ?_); (case side1 => repeat (first | exact (Kd.V_reads' HO0_5.out).2.2 | (with_reducible refine Kd.C_alloc ?_ _) | (with_reducible refine Kd.C_drewN ?_ _) | (with_reducible refine Kd.C_drew ?_))); (case side2 => exact (Kd.V_reads' HO0_5.out).2.1); rintro e w15 ⟨rfl, hb⟩; refine ⟨_, rfl, ?_⟩; have n0_ := Aside0.mk (Kd.V_below (by (with_reducible repeat (first | apply Kd.V_alloc | apply Kd.V_drewN | apply Kd.V_drew)); exact HO0_5.out) hb); have n1_ := Aside0.mk (blk_below (g := gb216) (o := .cells #[.int .i64 a0_0, .int .u64 a0_1, .int .u64 a0_2, .int .u64 a0_3, .int .u64 a0_4, .slice A0_5 l0_5.length c0_5, .int .i64 a0_6, .int .i64 a0_7] 27 (0, 0)) (by (with_reducible repeat (first | refine blk_drewN ?_ _ | refine blk_drew ?_ | refine blk_alloc ?_ _)); exact BK216.out) hb); have n2_ := Aside0.mk (blk_below (g := gb217) (o := .cells #[.int .i64 0, .int .u64 0, .int .u64 0, .int .u64 0, .int .u64 0, .slice none 0 0, .int .i64 0, .int .i64 0] 27 (0, 0)) (by (with_reducible repeat (first | refine blk_drewN ?_ _ | refine blk_drew ?_ | refine blk_alloc ?_ _)); exact BK217.out) hb); have n3_ := Aside0.mk (below_step (by repeat (first | (with_reducible first | exact HB.out | apply below_alloc | apply pw_below_drewN | apply below_drew1 | refine below_set ?_ GE216.out | refine below_set ?_ GE217.out) | exact HB.out)) hb); clear HO0_5; clear BK216; clear BK217; clear HB; have HO0_5 := n0_; have BK216 := n1_; have BK217 := n2_; have HB := n3_; clear n0_ n1_ n2_ n3_; (try clear hb); (try clear hb2); (try clear hk); (try clear hi); have hcz16_0 : w15.cell? ⟨gb216, 0, none⟩ = some (.int .i64 a0_0) := (blk_cell BK216.out 0).trans rfl; have hcz16_1 : w15.cell? ⟨gb216, 1, none⟩ = some (.int .u64 a0_1) := (blk_cell BK216.out 1).trans rfl; have hcz16_2 : w15.cell? ⟨gb216, 2, none⟩ = some (.int .u64 a0_2) := (blk_cell BK216.out 2).trans rfl; have hcz16_3 : w15.cell? ⟨gb216, 3, none⟩ = some (.int .u64 a0_3) := (blk_cell BK216.out 3).trans rfl; have hcz16_4 : w15.cell? ⟨gb216, 4, none⟩ = some (.int .u64 a0_4) := (blk_cell BK216.out 4).trans rfl; have hcz16_5 : w15.cell? ⟨gb216, 5, none⟩ = some (.slice A0_5 l0_5.length c0_5) := (blk_cell BK216.out 5).trans rfl; have hcz16_6 : w15.cell? ⟨gb216, 6, none⟩ = some (.int .i64 a0_6) := (blk_cell BK216.out 6).trans rfl; have hcz16_7 : w15.cell? ⟨gb216, 7, none⟩ = some (.int .i64 a0_7) := (blk_cell BK216.out 7).trans rfl; have hfz16_0 := blk_frozen BK216.out 0; have hfz16_1 := blk_frozen BK216.out 1; have hfz16_2 := blk_frozen BK216.out 2; have hfz16_3 := blk_frozen BK216.out 3; have hfz16_4 := blk_frozen BK216.out 4; have hfz16_5 := blk_frozen BK216.out 5; have hfz16_6 := blk_frozen BK216.out 6; have hfz16_7 := blk_frozen BK216.out 7; have hcz17_0 : w15.cell? ⟨gb217, 0, none⟩ = some (.int .i64 0) := (blk_cell BK217.out 0).trans rfl; have hcz17_1 : w15.cell? ⟨gb217, 1, none⟩ = some (.int .u64 0) := (blk_cell BK217.out 1).trans rfl; have hcz17_2 : w15.cell? ⟨gb217, 2, none⟩ = some (.int .u64 0) := (blk_cell BK217.out 2).trans rfl; have hcz17_3 : w15.cell? ⟨gb217, 3, none⟩ = some (.int .u64 0) := (blk_cell BK217.out 3).trans rfl; have hcz17_4 : w15.cell? ⟨gb217, 4, none⟩ = some (.int .u64 0) := (blk_cell BK217.out 4).trans rfl; have hcz17_5 : w15.cell? ⟨gb217, 5, none⟩ = some (.slice none 0 0) := (blk_cell BK217.out 5).trans rfl; have hcz17_6 : w15.cell? ⟨gb217, 6, none⟩ = some (.int .i64 0) := (blk_cell BK217.out 6).trans rfl; have hcz17_7 : w15.cell? ⟨gb217, 7, none⟩ = some (.int .i64 0) := (blk_cell BK217.out 7).trans rfl; have hfz17_0 := blk_frozen BK217.out 0; have hfz17_1 := blk_frozen BK217.out 1; have hfz17_2 := blk_frozen BK217.out 2; have hfz17_3 := blk_frozen BK217.out 3; have hfz17_4 := blk_frozen BK217.out 4; have hfz17_5 := blk_frozen BK217.out 5; have hfz17_6 := blk_frozen BK217.out 6; have hfz17_7 := blk_frozen BK217.out 7))
   refine bodyPost_ret (results_cell_row rfl _ _ gb217 27 #[.int .i64 a0_0, .int .u64 a0_1, .int .u64 a0_2, .int .u64 a0_3, .int .u64 a0_4, .slice A0_5 l0_5.length c0_5, .int .i64 a0_6, .int .i64 a0_7] (0, 0) _ rfl (by (with_reducible repeat (first | refine blk_drewN ?_ _ | refine blk_drew ?_ | refine blk_alloc ?_ _)); refine blk_put (cs := #[.int .i64 a0_0, .int .u64 a0_1, .int .u64 a0_2, .int .u64 a0_3, .int .u64 a0_4, .slice A0_5 l0_5.length c0_5, .int .i64 a0_6, .int .i64 0]) ?_ 7 _ rfl; (with_reducible repeat (first | refine blk_drewN ?_ _ | refine blk_drew ?_ | refine blk_alloc ?_ _)); refine blk_put (cs := #[.int .i64 a0_0, .int .u64 a0_1, .int .u64 a0_2, .int .u64 a0_3, .int .u64 a0_4, .slice A0_5 l0_5.length c0_5, .int .i64 0, .int .i64 0]) ?_ 6 _ rfl; (with_reducible repeat (first | refine blk_drewN ?_ _ | refine blk_drew ?_ | refine blk_alloc ?_ _)); refine blk_put (cs := #[.int .i64 a0_0, .int .u64 a0_1, .int .u64 a0_2, .int .u64 a0_3, .int .u64 a0_4, .slice none 0 0, .int .i64 0, .int .i64 0]) ?_ 5 _ rfl; (with_reducible repeat (first | refine blk_drewN ?_ _ | refine blk_drew ?_ | refine blk_alloc ?_ _)); refine blk_put (cs := #[.int .i64 a0_0, .int .u64 a0_1, .int .u64 a0_2, .int .u64 a0_3, .int .u64 0, .slice none 0 0, .int .i64 0, .int .i64 0]) ?_ 4 _ rfl; (with_reducible repeat (first | refine blk_drewN ?_ _ | refine blk_drew ?_ | refine blk_alloc ?_ _)); refine blk_put (cs := #[.int .i64 a0_0, .int .u64 a0_1, .int .u64 a0_2, .int .u64 0, .int .u64 0, .slice none 0 0, .int .i64 0, .int .i64 0]) ?_ 3 _ rfl; (with_reducible repeat (first | refine blk_drewN ?_ _ | refine blk_drew ?_ | refine blk_alloc ?_ _)); refine blk_put (cs := #[.int .i64 a0_0, .int .u64 a0_1, .int .u64 0, .int .u64 0, .int .u64 0, .slice none 0 0, .int .i64 0, .int .i64 0]) ?_ 2 _ rfl; (with_reducible repeat (first | refine blk_drewN ?_ _ | refine blk_drew ?_ | refine blk_alloc ?_ _)); refine blk_put (cs := #[.int .i64 a0_0, .int .u64 0, .int .u64 0, .int .u64 0, .int .u64 0, .slice none 0 0, .int .i64 0, .int .i64 0]) ?_ 1 _ rfl; (with_reducible repeat (first | refine blk_drewN ?_ _ | refine blk_drew ?_ | refine blk_alloc ?_ _)); refine blk_put (cs := #[.int .i64 0, .int .u64 0, .int .u64 0, .int .u64 0, .int .u64 0, .slice none 0 0, .int .i64 0, .int .i64 0]) ?_ 0 _ rfl; (with_reducible repeat (first | refine blk_drewN ?_ _ | refine blk_drew ?_ | refine blk_alloc ?_ _)); exact BK217.out) Try.underlying27 rfl (by kernel_rfl)) rfl ?_
   exact ⟨_, by first | rfl | (simp [errW_none, errW_some] <;> rfl) | (simp [*, errW_none, errW_some] <;> rfl), by (with_reducible repeat (first | apply Kd.V_alloc | apply Kd.V_drewN | apply Kd.V_drew)); exact Kd.V_mono (Kd.V_far (p := ⟨gb217, 7, none⟩) (Kd.V_far (p := ⟨gb217, 6, none⟩) (Kd.V_far (p := ⟨gb217, 5, none⟩) (Kd.V_far (p := ⟨gb217, 4, none⟩) (Kd.V_far (p := ⟨gb217, 3, none⟩) (Kd.V_far (p := ⟨gb217, 2, none⟩) (Kd.V_far (p := ⟨gb217, 1, none⟩) (Kd.V_far (p := ⟨gb217, 0, none⟩) (Kd.V_mono HO0_5.out (fun k_ hk => (⟨hk, hk.2⟩ : _ ∧ k_ ≠ gb217))) (fun _ hk => hk.2) (.int .i64 a0_0)) (fun _ hk => hk.2) (.int .u64 a0_1)) (fun _ hk => hk.2) (.int .u64 a0_2)) (fun _ hk => hk.2) (.int .u64 a0_3)) (fun _ hk => hk.2) (.int .u64 a0_4)) (fun _ hk => hk.2) (.slice A0_5 l0_5.length c0_5)) (fun _ hk => hk.2) (.int .i64 a0_6)) (fun _ hk => hk.2) (.int .i64 a0_7)) (fun _ hk => hk.1.1.1), by repeat (first | (with_reducible first | exact HB.out | apply below_alloc | apply pw_below_drewN | apply below_drew1 | refine below_set ?_ GE216.out | refine below_set ?_ GE217.out) | exact HB.out)⟩
  ·
   rw [if_neg c10] at H
   have c10b0 : decide (a0_0 < 2) = false := decide_eq_false c10
   clear c10
   have H' := Aside0.mk H
   clear H
   go_enter Try.func13, Try.ntmps13
   go_wp2_with (first | ((with_reducible refine gate_dst (N := 1) rfl ?_); refine box_event ?hg (N := 1) ?hd (cs := #[.int .i64 a0_0, .int .u64 a0_1, .int .u64 a0_2, .int .u64 a0_3, .int .u64 a0_4, .slice A0_5 l0_5.length c0_5, .int .i64 a0_6, .int .i64 a0_7]) (t := 27) ?hr ?_; (case hd => rfl); (case hg => rfl); (case hr => first | (go_simp; done) | (go_simp; rfl)); intro gb216 hg w18 hbox hb; have n0_ := Aside0.mk (Kd.V_below (Kd.V_elderB (by (with_reducible repeat (first | apply Kd.V_alloc | apply Kd.V_drewN | apply Kd.V_drew)); exact HO0_5.out) gb216 (Nat.le_of_eq hg.symm)) hb); have n1_ := Aside0.mk (below_step (by repeat (first | (with_reducible first | exact HB.out | apply below_alloc | apply pw_below_drewN | apply below_drew1) | exact HB.out)) hb); have n2_ := Aside0.mk (hbox); have n3_ := Aside0.mk ((by rw [hg]; exact (below_size (by repeat (first | (with_reducible first | exact HB.out | apply below_alloc | apply pw_below_drewN | apply below_drew1) | exact HB.out))) : w.heap.size ≤ gb216)); have n4_ := Aside0.mk ((by rw [hg]; exact (below_size (by repeat (first | (with_reducible first | exact HB.out | apply below_alloc | apply pw_below_drewN | apply below_drew1) | exact HB.out))) : w.heap.size ≤ gb216)); clear HO0_5; clear HB; have HO0_5 := n0_; have HB := n1_; have BK216 := n2_; have GW216 := n3_; have GE216 := n4_; clear n0_ n1_ n2_ n3_ n4_; clear hb hbox hg) | ((with_reducible refine gate_dst (N := 2) rfl ?_); refine box_event ?hg (N := 2) ?hd (cs := #[.int .i64 0, .int .u64 0, .int .u64 0, .int .u64 0, .int .u64 0, .slice none 0 0, .int .i64 0, .int .i64 0]) (t := 27) ?hr ?_; (case hd => rfl); (case hg => rfl); (case hr => first | (go_simp; done) | (go_simp; rfl)); intro gb217 hg w19 hbox hb; have n0_ := Aside0.mk (Kd.V_below (Kd.V_elderB (by (with_reducible repeat (first | apply Kd.V_alloc | apply Kd.V_drewN | apply Kd.V_drew)); exact HO0_5.out) gb217 (Nat.le_of_eq hg.symm)) hb); have n1_ := Aside0.mk (blk_below (g := gb216) (o := .cells #[.int .i64 a0_0, .int .u64 a0_1, .int .u64 a0_2, .int .u64 a0_3, .int .u64 a0_4, .slice A0_5 l0_5.length c0_5, .int .i64 a0_6, .int .i64 a0_7] 27 (0, 0)) (by (with_reducible repeat (first | refine blk_drewN ?_ _ | refine blk_drew ?_ | refine blk_alloc ?_ _)); exact BK216.out) hb); have n2_ := Aside0.mk (below_step (by repeat (first | (with_reducible first | exact HB.out | apply below_alloc | apply pw_below_drewN | apply below_drew1 | refine below_set ?_ GE216.out) | exact HB.out)) hb); have n3_ := Aside0.mk (hbox); have n4_ := Aside0.mk ((by rw [hg]; exact (below_size (by repeat (first | (with_reducible first | exact HB.out | apply below_alloc | apply pw_below_drewN | apply below_drew1 | refine below_set ?_ GE216.out) | exact HB.out))) : w.heap.size ≤ gb217)); have n5_ := Aside0.mk ((by rw [hg]; exact (below_size (by repeat (first | (with_reducible first | exact HB.out | apply below_alloc | apply pw_below_drewN | apply below_drew1 | refine below_set ?_ GE216.out) | exact HB.out))) : w.heap.size ≤ gb217)); have n6_ := Aside0.mk ((by rw [hg]; exact Nat.ne_of_lt (blk_lt (g := gb216) (o := .cells #[.int .i64 a0_0, .int .u64 a0_1, .int .u64 a0_2, .int .u64 a0_3, .int .u64 a0_4, .slice A0_5 l0_5.length c0_5, .int .i64 a0_6, .int .i64 a0_7] 27 (0, 0)) (by (with_reducible repeat (first | refine blk_drewN ?_ _ | refine blk_drew ?_ | refine blk_alloc ?_ _)); exact BK216.out)) : gb216 ≠ gb217)); have n7_ := Aside0.mk ((by rw [hg]; exact Nat.ne_of_gt (blk_lt (g := gb216) (o := .cells #[.int .i64 a0_0, .int .u64 a0_1, .int .u64 a0_2, .int .u64 a0_3, .int .u64 a0_4, .slice A0_5 l0_5.length c0_5, .int .i64 a0_6, .int .i64 a0_7] 27 (0, 0)) (by (with_reducible repeat (first | refine blk_drewN ?_ _ | refine blk_drew ?_ | refine blk_alloc ?_ _)); exact BK216.out)) : gb217 ≠ gb216)); clear HO0_5; clear BK216; clear HB; have HO0_5 := n0_; have BK216 := n1_; have HB := n2_; have BK217 := n3_; have GW217 := n4_; have GE217 := n5_; have NB216_217 := n6_; have NB217_216 := n7_; clear n0_ n1_ n2_ n3_ n4_ n5_ n6_ n7_; clear hb hbox hg; have hnb20 := NB216_217.out; have hnc20 := NB217_216.out; have hcz21_0 : w19.cell? ⟨gb216, 0, none⟩ = some (.int .i64 a0_0) := (blk_cell BK216.out 0).trans rfl; have hcz21_1 : w19.cell? ⟨gb216, 1, none⟩ = some (.int .u64 a0_1) := (blk_cell BK216.out 1).trans rfl; have hcz21_2 : w19.cell? ⟨gb216, 2, none⟩ = some (.int .u64 a0_2) := (blk_cell BK216.out 2).trans rfl; have hcz21_3 : w19.cell? ⟨gb216, 3, none⟩ = some (.int .u64 a0_3) := (blk_cell BK216.out 3).trans rfl; have hcz21_4 : w19.cell? ⟨gb216, 4, none⟩ = some (.int .u64 a0_4) := (blk_cell BK216.out 4).trans rfl; have hcz21_5 : w19.cell? ⟨gb216, 5, none⟩ = some (.slice A0_5 l0_5.length c0_5) := (blk_cell BK216.out 5).trans rfl; have hcz21_6 : w19.cell? ⟨gb216, 6, none⟩ = some (.int .i64 a0_6) := (blk_cell BK216.out 6).trans rfl; have hcz21_7 : w19.cell? ⟨gb216, 7, none⟩ = some (.int .i64 a0_7) := (blk_cell BK216.out 7).trans rfl; have hfz21_0 := blk_frozen BK216.out 0; have hfz21_1 := blk_frozen BK216.out 1; have hfz21_2 := blk_frozen BK216.out 2; have hfz21_3 := blk_frozen BK216.out 3; have hfz21_4 := blk_frozen BK216.out 4; have hfz21_5 := blk_frozen BK216.out 5; have hfz21_6 := blk_frozen BK216.out 6; have hfz21_7 := blk_frozen BK216.out 7) | ((with_reducible refine gate_callee (f := 16) rfl ?_); refine goesL_ (some 18) rfl rfl Try.func16 (by kernel_rfl) rfl #[.agg #[.int .i64 a0_0, .int .u64 a0_1, .int .u64 a0_2, .int .u64 a0_3, .int .u64 a0_4, .slice A0_5 l0_5.length c0_5, .int .i64 a0_6, .int .i64 a0_7]] rfl (by (try simp only [List.map_toArray, List.map_cons, List.map_nil]); first | done | rfl | (simp only [List.length_drop, List.length_take]; rfl)) ?_; (with_reducible refine (ostinatoref04_Told.calls k a0_0 a0_1 a0_2 a0_3 a0_4 _ _ l0_5 a0_6 a0_7 false t219 _ ?side1 ?side2 A2.out).mono ?_); (case side1 => repeat (first | exact (Kd.V_reads' HO0_5.out).2.2 | (with_reducible refine Kd.C_alloc ?_ _) | (with_reducible refine Kd.C_drewN ?_ _) | (with_reducible refine Kd.C_drew ?_))); (case side2 => exact (Kd.V_reads' HO0_5.out).2.1); rintro e w22 ⟨rfl, hb⟩; refine ⟨_, rfl, ?_⟩; have n0_ := Aside0.mk (Kd.V_below (by (with_reducible repeat (first | apply Kd.V_alloc | apply Kd.V_drewN | apply Kd.V_drew)); exact HO0_5.out) hb); have n1_ := Aside0.mk (blk_below (g := gb216) (o := .cells #[.int .i64 a0_0, .int .u64 a0_1, .int .u64 a0_2, .int .u64 a0_3, .int .u64 a0_4, .slice A0_5 l0_5.length c0_5, .int .i64 a0_6, .int .i64 a0_7] 27 (0, 0)) (by (with_reducible repeat (first | refine blk_drewN ?_ _ | refine blk_drew ?_ | refine blk_alloc ?_ _)); exact BK216.out) hb); have n2_ := Aside0.mk (blk_below (g := gb217) (o := .cells #[.int .i64 0, .int .u64 0, .int .u64 0, .int .u64 0, .int .u64 0, .slice none 0 0, .int .i64 0, .int .i64 0] 27 (0, 0)) (by (with_reducible repeat (first | refine blk_drewN ?_ _ | refine blk_drew ?_ | refine blk_alloc ?_ _)); exact BK217.out) hb); have n3_ := Aside0.mk (below_step (by repeat (first | (with_reducible first | exact HB.out | apply below_alloc | apply pw_below_drewN | apply below_drew1 | refine below_set ?_ GE216.out | refine below_set ?_ GE217.out) | exact HB.out)) hb); clear HO0_5; clear BK216; clear BK217; clear HB; have HO0_5 := n0_; have BK216 := n1_; have BK217 := n2_; have HB := n3_; clear n0_ n1_ n2_ n3_; (try clear hb); (try clear hb2); (try clear hk); (try clear hi); have hcz23_0 : w22.cell? ⟨gb216, 0, none⟩ = some (.int .i64 a0_0) := (blk_cell BK216.out 0).trans rfl; have hcz23_1 : w22.cell? ⟨gb216, 1, none⟩ = some (.int .u64 a0_1) := (blk_cell BK216.out 1).trans rfl; have hcz23_2 : w22.cell? ⟨gb216, 2, none⟩ = some (.int .u64 a0_2) := (blk_cell BK216.out 2).trans rfl; have hcz23_3 : w22.cell? ⟨gb216, 3, none⟩ = some (.int .u64 a0_3) := (blk_cell BK216.out 3).trans rfl; have hcz23_4 : w22.cell? ⟨gb216, 4, none⟩ = some (.int .u64 a0_4) := (blk_cell BK216.out 4).trans rfl; have hcz23_5 : w22.cell? ⟨gb216, 5, none⟩ = some (.slice A0_5 l0_5.length c0_5) := (blk_cell BK216.out 5).trans rfl; have hcz23_6 : w22.cell? ⟨gb216, 6, none⟩ = some (.int .i64 a0_6) := (blk_cell BK216.out 6).trans rfl; have hcz23_7 : w22.cell? ⟨gb216, 7, none⟩ = some (.int .i64 a0_7) := (blk_cell BK216.out 7).trans rfl; have hfz23_0 := blk_frozen BK216.out 0; have hfz23_1 := blk_frozen BK216.out 1; have hfz23_2 := blk_frozen BK216.out 2; have hfz23_3 := blk_frozen BK216.out 3; have hfz23_4 := blk_frozen BK216.out 4; have hfz23_5 := blk_frozen BK216.out 5; have hfz23_6 := blk_frozen BK216.out 6; have hfz23_7 := blk_frozen BK216.out 7))
   go_loopg [5, 6] k (fun kq v5 v6 w' => ∃ (x5_1 : List (S27)) (x6_1 : Int), v6 = .int .i64 x6_1 ∧ Aside0 (ostinatoref04_Simple.l0 kq x5_1 x6_1 a0_0 a0_1 a0_2 a0_3 a0_4 l0_5 a0_6 a0_7 = some (r1, r2, r3, r4, r5, r6, r7, r8)) ∧ Aside0 (kq ≤ k) ∧ Aside0 (Kd.N k27 27 w' w.heap.size (fun k_ => (P0_5_ k_ ∨ w.heap.size ≤ k_) ∧ k_ ≠ gb216 ∧ k_ ≠ gb217) v5 x5_1) ∧ Aside0 (Kd.V k27 27 w' w.heap.size (fun k_ => (P0_5_ k_ ∨ w.heap.size ≤ k_) ∧ some k_ ≠ (v5 : Value).ownBlock ∧ k_ ≠ gb216 ∧ k_ ≠ gb217) (.slice A0_5 l0_5.length c0_5) l0_5) ∧ Aside0 (w'.heap[gb216]? = some (.cells #[.int .i64 a0_0, .int .u64 a0_1, .int .u64 a0_2, .int .u64 a0_3, .int .u64 a0_4, (.slice A0_5 l0_5.length c0_5), .int .i64 a0_6, .int .i64 a0_7] 27 (0, 0))) ∧ Aside0 (w'.heap[gb217]? = some (.cells #[.int .i64 0, .int .u64 0, .int .u64 0, .int .u64 0, .int .u64 0, (.slice none 0 0), .int .i64 0, .int .i64 0] 27 (0, 0))) ∧ Aside0 (Below w.heap.size w w'))
   case atStart => exact ⟨(([] : List (S27))), (0), (by first | rfl | (simp; done) | (simp [*]; done)), H', ⟨Nat.le_refl _⟩, ⟨by first | exact Kd.R_nil _ _ _ _ _ | exact Kd.N_nil _ _ _ _ _ | exact Kd.V_nil _ _ _ _ _ | exact Kd.Q_nil _ _ _ _ _ | exact Kd.S_nil _ _ _ _ _⟩, ⟨by (with_reducible repeat (first | apply Kd.V_alloc | apply Kd.V_drewN | apply Kd.V_drew)); exact Kd.V_mono HO0_5.out (fun _ hk => ⟨hk.1.1, ⟨(by simp [Value.ownBlock]), ⟨hk.1.2, hk.2⟩⟩⟩)⟩, ⟨by (with_reducible repeat (first | refine blk_drewN ?_ _ | refine blk_drew ?_ | refine blk_alloc ?_ _)); exact BK216.out⟩, ⟨by (with_reducible repeat (first | refine blk_drewN ?_ _ | refine blk_drew ?_ | refine blk_alloc ?_ _)); exact BK217.out⟩, ⟨by repeat (first | (with_reducible first | exact HB.out | apply below_alloc | apply pw_below_drewN | apply below_drew1 | refine below_set ?_ GE216.out | refine below_set ?_ GE217.out) | exact HB.out)⟩⟩
   case round =>
    clear H'
    (try clear c1); (try clear c2); (try clear p2); (try clear c3); (try clear c6); (try clear c10); (try clear c10b0); (try clear c13); (try clear c16); (try clear c20); (try clear hcz14_0 hcz14_1 hcz14_2 hcz14_3 hcz14_4 hcz14_5 hcz14_6 hcz14_7); (try clear hcz16_0 hcz16_1 hcz16_2 hcz16_3 hcz16_4 hcz16_5 hcz16_6 hcz16_7); (try clear hcz17_0 hcz17_1 hcz17_2 hcz17_3 hcz17_4 hcz17_5 hcz17_6 hcz17_7); (try clear hcz21_0 hcz21_1 hcz21_2 hcz21_3 hcz21_4 hcz21_5 hcz21_6 hcz21_7); (try clear hcz23_0 hcz23_1 hcz23_2 hcz23_3 hcz23_4 hcz23_5 hcz23_6 hcz23_7); (try clear hcz7_0 hcz7_1 hcz7_2 hcz7_3 hcz7_4 hcz7_5 hcz7_6 hcz7_7); (try clear hcz9_0 hcz9_1 hcz9_2 hcz9_3 hcz9_4 hcz9_5 hcz9_6 hcz9_7); (try clear hfz14_0 hfz14_1 hfz14_2 hfz14_3 hfz14_4 hfz14_5 hfz14_6 hfz14_7); (try clear hfz16_0 hfz16_1 hfz16_2 hfz16_3 hfz16_4 hfz16_5 hfz16_6 hfz16_7); (try clear hfz17_0 hfz17_1 hfz17_2 hfz17_3 hfz17_4 hfz17_5 hfz17_6 hfz17_7); (try clear hfz21_0 hfz21_1 hfz21_2 hfz21_3 hfz21_4 hfz21_5 hfz21_6 hfz21_7); (try clear hfz23_0 hfz23_1 hfz23_2 hfz23_3 hfz23_4 hfz23_5 hfz23_6 hfz23_7); (try clear hfz7_0 hfz7_1 hfz7_2 hfz7_3 hfz7_4 hfz7_5 hfz7_6 hfz7_7); (try clear hfz9_0 hfz9_1 hfz9_2 hfz9_3 hfz9_4 hfz9_5 hfz9_6 hfz9_7)
    obtain ⟨x5_1, x6_1, rfl, HA, HK1, HO_5, HO_217005, BK216, BK217, HB⟩ := hrel
    cases gk with
    | zero => exact absurd HA.out (by simp [ostinatoref04_Simple.l0])
    | succ k1 =>
     have H := HA.out
     clear HA
     simp only [ostinatoref04_Simple.l0] at H
     by_cases c24 : x6_1 < (l0_5.length : Int)
     ·
      rw [if_pos c24] at H
      have c24b0 : decide (x6_1 < (l0_5.length : Int)) = true := decide_eq_true c24
      clear c24
      by_cases c25 : 0 ≤ x6_1
      ·
       rw [if_pos c25] at H
       have c25b0 : decide (0 ≤ x6_1) = true := decide_eq_true c25
       clear c25
       replace H := Option.bind_eq_some_iff.mp H
       obtain ⟨⟨t221, t222, t223, t224, t225, t226, t229, t230⟩, A260, H⟩ := H
       replace H : (if x5_1.length < 1759218604441 then (ostinatoref04_Simple.l0 k1 (x5_1 ++ [(⟨t221, (⟨t222, t223, t224, t225⟩ : S24), t226, t229, t230⟩ : S27)]) (wrap64 (x6_1 + 1)) a0_0 a0_1 a0_2 a0_3 a0_4 l0_5 a0_6 a0_7) else (none)) = some (r1, r2, r3, r4, r5, r6, r7, r8) := H
       have A26 := Aside0.mk A260
       clear A260
       by_cases c27 : x5_1.length < 1759218604441
       ·
        rw [if_pos c27] at H
        have LMc27 := Aside0.mk c27
        clear c27
        obtain ⟨y231, hy231⟩ : ∃ y_ : List (S27), y_ = (x5_1 ++ [(⟨t221, (⟨t222, t223, t224, t225⟩ : S24), t226, t229, t230⟩ : S27)]) := ⟨_, rfl⟩
        replace H : (ostinatoref04_Simple.l0 k1 y231 (wrap64 (x6_1 + 1)) a0_0 a0_1 a0_2 a0_3 a0_4 l0_5 a0_6 a0_7) = some (r1, r2, r3, r4, r5, r6, r7, r8) := by first | (rw [hy231]; with_reducible exact H) | (have H2_ := (Option.bind_some _ _).symm.trans H; rw [hy231]; with_reducible exact H2_) | (have H2_ := (Option.bind_some _ _).symm.trans H; with_reducible exact H2_) | with_reducible exact H | (rw [hy231]; exact H) | exact H
        have Ny231 := Aside0.mk hy231
        clear hy231
        have H' := Aside0.mk H
        clear H
        have hnb28 := NB216_217.out
        have hnc28 := NB217_216.out
        obtain ⟨hcz29_0, hcz29_1, hcz29_2, hcz29_3, hcz29_4, hcz29_5, hcz29_6, hcz29_7, hfz29_0, hfz29_1, hfz29_2, hfz29_3, hfz29_4, hfz29_5, hfz29_6, hfz29_7⟩ := blk8 BK216.out
        have p220 : 0 ≤ (x6_1 : Int) := of_decide_eq_true (by first | (with_reducible assumption) | assumption)
        have q220 : x6_1 < (l0_5.length : Int) := of_decide_eq_true (by first | (with_reducible assumption) | assumption)
        obtain ⟨ad220, A220_5, c220_5, e220, hx220_0, hx220_1, hx220_2, hx220_3, hx220_4, hx220_5, hx220_6, hx220_7, hl220_5, hi220_5⟩ := at_T27 (Kd.V_reads' HO_217005.out).2.2 x6_1 p220 q220
        cases e220
        obtain ⟨ce220, hce220, hMe220, hcc220⟩ := Kd.V_get HO_217005.out z27 x6_1 p220 (by first | exact q220 | exact of_decide_eq_true (by first | (with_reducible assumption) | assumption) | (have e_ := (Kd.V_reads' HO_217005.out).1; omega))
        obtain ⟨ua220_5, uc220_5, rfl, ul220_5, ge220_5⟩ := k27_openF hMe220
        have hv220_5 := hcc220 5 _ rfl
        rw [add_field _ _ 5 (by omega)] at hv220_5
        replace hv220_5 := Option.some.inj (hv220_5.symm.trans hx220_5)
        injection hv220_5 with hva_ hvn_ hvc_
        rw [hva_] at ge220_5
        rw [hvc_] at ul220_5
        have HL220_5 := Aside0.mk (show Kd.V k27 27 _ w.heap.size _ _ ((rd_T27 l0_5 x6_1).f2) from Kd.V_mk ul220_5 ge220_5)
        clear hva_ hvn_ hvc_ ge220_5 ul220_5
        clear hcc220 hce220
        have HR220_5 := Aside0.mk hi220_5
        have HC220_5 := Aside0.mk hl220_5
        clear hi220_5 hl220_5
        replace p220 := eq_true p220
        replace q220 := eq_true q220
        go_wp2_with (first | ((with_reducible refine gate_callee (f := 13) rfl ?_); refine goesL_ (some 40) rfl rfl Try.func13 (by kernel_rfl) rfl #[.agg #[.int .i64 ((rd_T27 l0_5 x6_1).f0), .int .u64 ((rd_T27 l0_5 x6_1).f1.f0), .int .u64 ((rd_T27 l0_5 x6_1).f1.f1), .int .u64 ((rd_T27 l0_5 x6_1).f1.f2), .int .u64 ((rd_T27 l0_5 x6_1).f1.f3), .slice A220_5 ((rd_T27 l0_5 x6_1).f2).length c220_5, .int .i64 ((rd_T27 l0_5 x6_1).f3), .int .i64 ((rd_T27 l0_5 x6_1).f4)]] rfl (by (try simp only [List.map_toArray, List.map_cons, List.map_nil]); first | done | rfl | (simp only [List.length_drop, List.length_take]; rfl)) ?_; (with_reducible refine (ih k1 (by have := HK1.out; omega) ((rd_T27 l0_5 x6_1).f0) ((rd_T27 l0_5 x6_1).f1.f0) ((rd_T27 l0_5 x6_1).f1.f1) ((rd_T27 l0_5 x6_1).f1.f2) ((rd_T27 l0_5 x6_1).f1.f3) (fun k_ => ((P0_5_ k_ ∨ w.heap.size ≤ k_) ∧ (some k_ ≠ (u5 : Value).ownBlock ∧ (k_ ≠ gb216 ∧ k_ ≠ gb217)))) _ _ ((rd_T27 l0_5 x6_1).f2) ((rd_T27 l0_5 x6_1).f3) ((rd_T27 l0_5 x6_1).f4) t221 t222 t223 t224 t225 t226 t229 t230 _ ?side1 A26.out).mono ?_); (case side1 => exact HL220_5.out); rintro e w30 ⟨v227, rfl, ho0, hb⟩; refine ⟨_, rfl, ?_⟩; have n0_ := Aside0.mk (Kd.N_below (by (with_reducible repeat (first | apply Kd.N_alloc | apply Kd.N_drewN | apply Kd.N_drew)); exact HO_5.out) hb); have n1_ := Aside0.mk (Kd.V_below (by (with_reducible repeat (first | apply Kd.V_alloc | apply Kd.V_drewN | apply Kd.V_drew)); exact HO_217005.out) hb); have n2_ := Aside0.mk (Kd.V_below (by (with_reducible repeat (first | apply Kd.V_alloc | apply Kd.V_drewN | apply Kd.V_drew)); exact HL220_5.out) hb); have n3_ := Aside0.mk (Kd.V_lower (Kd.V_mono (ok' := fun k_ => (P0_5_ k_ ∨ w.heap.size ≤ k_) ∧ some k_ ≠ (u5 : Value).ownBlock ∧ k_ ≠ gb216 ∧ k_ ≠ gb217) ho0 (fun k_ hk_ => ⟨Or.elim hk_ (fun hs_ => hs_.1) (fun hn_ => (.inr (Nat.le_trans (below_size (by repeat (first | (with_reducible first | exact HB.out | apply below_alloc | apply pw_below_drewN | apply below_drew1 | refine below_set ?_ GE216.out | refine below_set ?_ GE217.out) | exact HB.out))) hn_))), Or.elim hk_ (fun hs_ => hs_.2.1) (fun hn_ => (Kd.fresh' (Kd.N_lt (by (with_reducible repeat (first | apply Kd.N_alloc | apply Kd.N_drewN | apply Kd.N_drew)); exact HO_5.out)) k_ hn_)), Or.elim hk_ (fun hs_ => hs_.2.2.1) (fun hn_ => (Kd.freshB (g := gb216) (o := .cells #[.int .i64 a0_0, .int .u64 a0_1, .int .u64 a0_2, .int .u64 a0_3, .int .u64 a0_4, .slice (some ad220) l0_5.length c0_5, .int .i64 a0_6, .int .i64 a0_7] 27 (0, 0)) (by (with_reducible repeat (first | refine blk_drewN ?_ _ | refine blk_drew ?_ | refine blk_alloc ?_ _)); exact BK216.out) k_ hn_)), Or.elim hk_ (fun hs_ => hs_.2.2.2) (fun hn_ => (Kd.freshB (g := gb217) (o := .cells #[.int .i64 0, .int .u64 0, .int .u64 0, .int .u64 0, .int .u64 0, .slice none 0 0, .int .i64 0, .int .i64 0] 27 (0, 0)) (by (with_reducible repeat (first | refine blk_drewN ?_ _ | refine blk_drew ?_ | refine blk_alloc ?_ _)); exact BK217.out) k_ hn_))⟩)) (below_size (by repeat (first | (with_reducible first | exact HB.out | apply below_alloc | apply pw_below_drewN | apply below_drew1 | refine below_set ?_ GE216.out | refine below_set ?_ GE217.out) | exact HB.out)))); have n4_ := Aside0.mk (blk_below (g := gb216) (o := .cells #[.int .i64 a0_0, .int .u64 a0_1, .int .u64 a0_2, .int .u64 a0_3, .int .u64 a0_4, .slice (some ad220) l0_5.length c0_5, .int .i64 a0_6, .int .i64 a0_7] 27 (0, 0)) (by (with_reducible repeat (first | refine blk_drewN ?_ _ | refine blk_drew ?_ | refine blk_alloc ?_ _)); exact BK216.out) hb); have n5_ := Aside0.mk (blk_below (g := gb217) (o := .cells #[.int .i64 0, .int .u64 0, .int .u64 0, .int .u64 0, .int .u64 0, .slice none 0 0, .int .i64 0, .int .i64 0] 27 (0, 0)) (by (with_reducible repeat (first | refine blk_drewN ?_ _ | refine blk_drew ?_ | refine blk_alloc ?_ _)); exact BK217.out) hb); (first | have n6_ := Aside0.mk (Kd.C_below (by repeat (first | (with_reducible exact HR220_5.out) | (with_reducible refine Kd.C_alloc ?_ _) | (with_reducible refine Kd.C_drewN ?_ _) | (with_reducible refine Kd.C_drew ?_) | exact HR220_5.out)) hb) | have n6_ := Aside0.mk (Kd.V_reads' n2_.out).2.2); have n7_ := Aside0.mk (below_step (by repeat (first | (with_reducible first | exact HB.out | apply below_alloc | apply pw_below_drewN | apply below_drew1 | refine below_set ?_ GE216.out | refine below_set ?_ GE217.out) | exact HB.out)) hb); clear HO_5; clear HO_217005; clear HL220_5; clear BK216; clear BK217; clear HR220_5; clear HB; have HO_5 := n0_; have HO_217005 := n1_; have HL220_5 := n2_; have HO228 := n3_; have BK216 := n4_; have BK217 := n5_; have HR220_5 := n6_; have HB := n7_; clear n0_ n1_ n2_ n3_ n4_ n5_ n6_ n7_; (try clear hb); (try clear hb2); (try clear hk); (try clear hi); (try clear ho0); obtain ⟨Ao32, co32, eo32⟩ := Kd.V_slice HO228.out; subst eo32) | ((with_reducible refine gate_builtin (b := .append) (xs := #[.tmp 34, .tmp 41]) rfl ?_); at_builtin; refine Kd.N_append k27 (w0 := w) w.heap.size rfl (.tmp 34) (.tmp 41) 25 27 (.agg #[(.int .i64 0), (.int .u64 0), (.int .u64 0), (.int .u64 0), (.int .u64 0), (.slice none 0 0), (.int .i64 0), (.int .i64 0)]) 80 rfl Try.underlying25 info27 rfl (by decide) (by omega) u5 x5_1 (⟨t221, (⟨t222, t223, t224, t225⟩ : S24), t226, t229, t230⟩ : S27) [.int .i64 t221, .int .u64 t222, .int .u64 t223, .int .u64 t224, .int .u64 t225, .slice Ao32 t226.length co32, .int .i64 t229, .int .i64 t230] (fun k_ => (P0_5_ k_ ∨ w.heap.size ≤ k_) ∧ k_ ≠ gb216 ∧ k_ ≠ gb217) (fun k_ => ((fun k_ => (P0_5_ k_ ∨ w.heap.size ≤ k_) ∧ k_ ≠ gb216 ∧ k_ ≠ gb217)) k_ ∧ some k_ ≠ (u5 : Value).ownBlock) rfl rfl ?aP (fun _ hk => hk) ?aF ?aO ?aB ?aS ?aL ?_; (case aP => exact (k27_mkF _ _ (⟨t221, (⟨t222, t223, t224, t225⟩ : S24), t226, t229, t230⟩ : S27) (Kd.V_reads' (Kd.V_mono (ok' := (fun k_ => ((fun k_ => (P0_5_ k_ ∨ w.heap.size ≤ k_) ∧ k_ ≠ gb216 ∧ k_ ≠ gb217)) k_ ∧ some k_ ≠ (u5 : Value).ownBlock)) (HO228.out) (fun k_ hk => ⟨⟨hk.1, ⟨hk.2.2.1, hk.2.2.2⟩⟩, hk.2.1⟩))).2.1 (Kd.V_F (Kd.V_mono (ok' := (fun k_ => ((fun k_ => (P0_5_ k_ ∨ w.heap.size ≤ k_) ∧ k_ ≠ gb216 ∧ k_ ≠ gb217)) k_ ∧ some k_ ≠ (u5 : Value).ownBlock)) (HO228.out) (fun k_ hk => ⟨⟨hk.1, ⟨hk.2.2.1, hk.2.2.2⟩⟩, hk.2.1⟩))))); (case aB => exact (by repeat (first | (with_reducible first | exact HB.out | apply below_alloc | apply pw_below_drewN | apply below_drew1 | refine below_set ?_ GE216.out | refine below_set ?_ GE217.out) | exact HB.out))); (case aF => exact (fun k_ hk => ⟨(.inr (Nat.le_trans (below_size (by repeat (first | (with_reducible first | exact HB.out | apply below_alloc | apply pw_below_drewN | apply below_drew1 | refine below_set ?_ GE216.out | refine below_set ?_ GE217.out) | exact HB.out))) hk)), Kd.freshB (g := gb216) (o := .cells #[.int .i64 a0_0, .int .u64 a0_1, .int .u64 a0_2, .int .u64 a0_3, .int .u64 a0_4, .slice (some ad220) l0_5.length c0_5, .int .i64 a0_6, .int .i64 a0_7] 27 (0, 0)) (by (with_reducible repeat (first | refine blk_drewN ?_ _ | refine blk_drew ?_ | refine blk_alloc ?_ _)); exact BK216.out) k_ hk, Kd.freshB (g := gb217) (o := .cells #[.int .i64 0, .int .u64 0, .int .u64 0, .int .u64 0, .int .u64 0, .slice none 0 0, .int .i64 0, .int .i64 0] 27 (0, 0)) (by (with_reducible repeat (first | refine blk_drewN ?_ _ | refine blk_drew ?_ | refine blk_alloc ?_ _)); exact BK217.out) k_ hk⟩)); (case aO => exact (by (with_reducible repeat (first | apply Kd.N_alloc | apply Kd.N_drewN | apply Kd.N_drew)); exact HO_5.out)); (case aS => exact (below_size (by repeat (first | (with_reducible first | exact HB.out | apply below_alloc | apply pw_below_drewN | apply below_drew1 | refine below_set ?_ GE216.out | refine below_set ?_ GE217.out) | exact HB.out)))); (case aL => have := LMc27.out; omega); intro v232 w31 ho hb hg hat; rw [← Ny231.out] at ho; have n0_ := Aside0.mk (Kd.V_afterv (ok := (fun k_ => (P0_5_ k_ ∨ w.heap.size ≤ k_) ∧ k_ ≠ gb216 ∧ k_ ≠ gb217)) (by (with_reducible repeat (first | apply Kd.V_alloc | apply Kd.V_drewN | apply Kd.V_drew)); exact Kd.V_mono HO_217005.out (fun _ hk => ⟨⟨hk.1, ⟨hk.2.2.1, hk.2.2.2⟩⟩, hk.2.1⟩)) hg hat); have n1_ := Aside0.mk (blk_grown (g := gb216) (o := .cells #[.int .i64 a0_0, .int .u64 a0_1, .int .u64 a0_2, .int .u64 a0_3, .int .u64 a0_4, .slice (some ad220) l0_5.length c0_5, .int .i64 a0_6, .int .i64 a0_7] 27 (0, 0)) (by (with_reducible repeat (first | refine blk_drewN ?_ _ | refine blk_drew ?_ | refine blk_alloc ?_ _)); exact BK216.out) hg (Kd.N_away HO_5.out (fun _ hk => hk.2.1))); have n2_ := Aside0.mk (blk_grown (g := gb217) (o := .cells #[.int .i64 0, .int .u64 0, .int .u64 0, .int .u64 0, .int .u64 0, .slice none 0 0, .int .i64 0, .int .i64 0] 27 (0, 0)) (by (with_reducible repeat (first | refine blk_drewN ?_ _ | refine blk_drew ?_ | refine blk_alloc ?_ _)); exact BK217.out) hg (Kd.N_away HO_5.out (fun _ hk => hk.2.2))); have n3_ := Aside0.mk (Kd.V_afterv (ok := (fun k_ => (P0_5_ k_ ∨ w.heap.size ≤ k_) ∧ k_ ≠ gb216 ∧ k_ ≠ gb217)) (by (with_reducible repeat (first | apply Kd.V_alloc | apply Kd.V_drewN | apply Kd.V_drew)); exact Kd.V_mono HL220_5.out (fun _ hk => ⟨⟨hk.1, ⟨hk.2.2.1, hk.2.2.2⟩⟩, hk.2.1⟩)) hg hat); have n4_ := Aside0.mk (Kd.V_afterv (ok := (fun k_ => (P0_5_ k_ ∨ w.heap.size ≤ k_) ∧ k_ ≠ gb216 ∧ k_ ≠ gb217)) (by (with_reducible repeat (first | apply Kd.V_alloc | apply Kd.V_drewN | apply Kd.V_drew)); exact Kd.V_mono HO228.out (fun _ hk => ⟨⟨hk.1, ⟨hk.2.2.1, hk.2.2.2⟩⟩, hk.2.1⟩)) hg hat); have n5_ := Aside0.mk (hb); have n6_ := Aside0.mk (ho); clear HO_217005; clear BK216; clear BK217; clear HL220_5; clear HO228; clear HB; clear HO_5; have HO_217005 := n0_; have BK216 := n1_; have BK217 := n2_; have HL220_5 := n3_; have HO228 := n4_; have HB := n5_; have HO233 := n6_; clear n0_ n1_ n2_ n3_ n4_ n5_ n6_; clear ho hb hg hat))
        go_roundg k1
        case measure => have := HK1.out; omega
        case rel => exact ⟨(y231), (wrap64 (x6_1 + 1)), (by first | rfl | (simp; done) | (simp [*]; done)), H', ⟨by have := HK1.out; omega⟩, ⟨by (with_reducible repeat (first | apply Kd.N_alloc | apply Kd.N_drewN | apply Kd.N_drew)); exact HO233.out⟩, ⟨by (with_reducible repeat (first | apply Kd.V_alloc | apply Kd.V_drewN | apply Kd.V_drew)); exact Kd.V_mono HO_217005.out (fun _ hk => ⟨hk.1.1, ⟨hk.2, ⟨hk.1.2.1, hk.1.2.2⟩⟩⟩)⟩, ⟨by (with_reducible repeat (first | refine blk_drewN ?_ _ | refine blk_drew ?_ | refine blk_alloc ?_ _)); exact BK216.out⟩, ⟨by (with_reducible repeat (first | refine blk_drewN ?_ _ | refine blk_drew ?_ | refine blk_alloc ?_ _)); exact BK217.out⟩, ⟨by repeat (first | (with_reducible first | exact HB.out | apply below_alloc | apply pw_below_drewN | apply below_drew1 | refine below_set ?_ GE216.out | refine below_set ?_ GE217.out) | exact HB.out)⟩⟩
       ·
        rw [if_neg c27] at H
        exact absurd H (by simp)
      ·
       rw [if_neg c25] at H
       exact absurd H (by simp)
     ·
      rw [if_neg c24] at H
      have c24b0 : decide (x6_1 < (l0_5.length : Int)) = false := decide_eq_false c24
      clear c24
      by_cases c33 : a0_0 = 4
      ·
       rw [if_pos c33] at H
       have c33b0 : (a0_0 == 4) = true := beq_iff_eq.mpr c33
       have c33b1 : (a0_0 != 4) = false := bne_eq_false_iff_eq.mpr c33
       clear c33
       by_cases c34 : 0 < (x5_1.length : Int)
       ·
        rw [if_pos c34] at H
        have c34b0 : decide (0 < (x5_1.length : Int)) = true := decide_eq_true c34
        have c34b1 : decide (0 < x5_1.length) = true := decide_eq_true (by omega)
        clear c34
        replace H := Option.bind_eq_some_iff.mp H
        obtain ⟨⟨t235, t236⟩, A350, H⟩ := H
        replace H : (if a0_7 = 0 then (ostinatoref04_Simple.j1 k1 x5_1 t236 true a0_0 a0_1 a0_2 a0_3 a0_4 l0_5 a0_6 a0_7) else (if ((rd_T27 x5_1 0).f0) = 0 then (ostinatoref04_Simple.j1 k1 x5_1 t236 true a0_0 a0_1 a0_2 a0_3 a0_4 l0_5 a0_6 a0_7) else (ostinatoref04_Simple.j1 k1 x5_1 t236 t235 a0_0 a0_1 a0_2 a0_3 a0_4 l0_5 a0_6 a0_7))) = some (r1, r2, r3, r4, r5, r6, r7, r8) := H
        have A35 := Aside0.mk A350
        clear A350
        have HC36 := Aside0.mk H
        clear H
        have hnb37 := NB216_217.out
        have hnc37 := NB217_216.out
        obtain ⟨hcz38_0, hcz38_1, hcz38_2, hcz38_3, hcz38_4, hcz38_5, hcz38_6, hcz38_7, hfz38_0, hfz38_1, hfz38_2, hfz38_3, hfz38_4, hfz38_5, hfz38_6, hfz38_7⟩ := blk8 BK216.out
        obtain ⟨Ao39, co39, eo39⟩ := Kd.N_slice HO_5.out
        subst eo39
        have p234 : 0 ≤ (0 : Int) := (by omega)
        have q234 : 0 < (x5_1.length : Int) := of_decide_eq_true (by first | (with_reducible assumption) | assumption)
        obtain ⟨ad234, A234_5, c234_5, e234, hx234_0, hx234_1, hx234_2, hx234_3, hx234_4, hx234_5, hx234_6, hx234_7, hl234_5, hi234_5⟩ := at_T27 (Kd.N_reads' HO_5.out).2.2 0 p234 q234
        cases e234
        obtain ⟨ce234, hce234, hMe234, hcc234⟩ := Kd.N_get HO_5.out z27 0 p234 (by first | exact q234 | exact of_decide_eq_true (by first | (with_reducible assumption) | assumption) | (have e_ := (Kd.N_reads' HO_5.out).1; omega))
        obtain ⟨ua234_5, uc234_5, rfl, ul234_5, ge234_5⟩ := k27_openF hMe234
        have hv234_5 := hcc234 5 _ rfl
        rw [add_field _ _ 5 (by omega)] at hv234_5
        replace hv234_5 := Option.some.inj (hv234_5.symm.trans hx234_5)
        injection hv234_5 with hva_ hvn_ hvc_
        rw [hva_] at ge234_5
        rw [hvc_] at ul234_5
        have HL234_5 := Aside0.mk (show Kd.V k27 27 _ w.heap.size _ _ ((rd_T27 x5_1 0).f2) from Kd.V_mk ul234_5 ge234_5)
        clear hva_ hvn_ hvc_ ge234_5 ul234_5
        clear hcc234 hce234
        have qi234 : (0 < x5_1.length) = True := eq_true (by omega)
        (try rw [show ((0 : Int)).toNat = 0 from rfl] at hx234_0)
        (try rw [show 0 * 8 = 0 from rfl] at hx234_0)
        (try rw [Addr.add_zero'] at hx234_0)
        (try rw [show ((0 : Int)).toNat = 0 from rfl] at hx234_1)
        (try rw [show 0 * 8 = 0 from rfl] at hx234_1)
        (try rw [Addr.add_zero'] at hx234_1)
        (try rw [show ((0 : Int)).toNat = 0 from rfl] at hx234_2)
        (try rw [show 0 * 8 = 0 from rfl] at hx234_2)
        (try rw [Addr.add_zero'] at hx234_2)
        (try rw [show ((0 : Int)).toNat = 0 from rfl] at hx234_3)
        (try rw [show 0 * 8 = 0 from rfl] at hx234_3)
        (try rw [Addr.add_zero'] at hx234_3)
        (try rw [show ((0 : Int)).toNat = 0 from rfl] at hx234_4)
        (try rw [show 0 * 8 = 0 from rfl] at hx234_4)
        (try rw [Addr.add_zero'] at hx234_4)
        (try rw [show ((0 : Int)).toNat = 0 from rfl] at hx234_5)
        (try rw [show 0 * 8 = 0 from rfl] at hx234_5)
        (try rw [Addr.add_zero'] at hx234_5)
        (try rw [show ((0 : Int)).toNat = 0 from rfl] at hx234_6)
        (try rw [show 0 * 8 = 0 from rfl] at hx234_6)
        (try rw [Addr.add_zero'] at hx234_6)
        (try rw [show ((0 : Int)).toNat = 0 from rfl] at hx234_7)
        (try rw [show 0 * 8 = 0 from rfl] at hx234_7)
        (try rw [Addr.add_zero'] at hx234_7)
        have HR234_5 := Aside0.mk hi234_5
        have HC234_5 := Aside0.mk hl234_5
        clear hi234_5 hl234_5
        replace p234 := eq_true p234
        replace q234 := eq_true q234
        go_upto_region 13 with (first | ((with_reducible refine gate_callee (f := 16) rfl ?_); refine goesL_ (some 50) rfl rfl Try.func16 (by kernel_rfl) rfl #[.agg #[.int .i64 ((rd_T27 x5_1 0).f0), .int .u64 ((rd_T27 x5_1 0).f1.f0), .int .u64 ((rd_T27 x5_1 0).f1.f1), .int .u64 ((rd_T27 x5_1 0).f1.f2), .int .u64 ((rd_T27 x5_1 0).f1.f3), .slice A234_5 ((rd_T27 x5_1 0).f2).length c234_5, .int .i64 ((rd_T27 x5_1 0).f3), .int .i64 ((rd_T27 x5_1 0).f4)]] rfl (by (try simp only [List.map_toArray, List.map_cons, List.map_nil]); first | done | rfl | (simp only [List.length_drop, List.length_take]; rfl)) ?_; (with_reducible refine (ostinatoref04_Told.calls k1 ((rd_T27 x5_1 0).f0) ((rd_T27 x5_1 0).f1.f0) ((rd_T27 x5_1 0).f1.f1) ((rd_T27 x5_1 0).f1.f2) ((rd_T27 x5_1 0).f1.f3) _ _ ((rd_T27 x5_1 0).f2) ((rd_T27 x5_1 0).f3) ((rd_T27 x5_1 0).f4) t235 t236 _ ?side1 ?side2 A35.out).mono ?_); (case side1 => repeat (first | exact (by repeat (first | (with_reducible exact HR234_5.out) | (with_reducible refine Kd.C_alloc ?_ _) | (with_reducible refine Kd.C_drewN ?_ _) | (with_reducible refine Kd.C_drew ?_) | exact HR234_5.out)) | (with_reducible refine Kd.C_alloc ?_ _) | (with_reducible refine Kd.C_drewN ?_ _) | (with_reducible refine Kd.C_drew ?_))); (case side2 => exact HC234_5.out); rintro e w40 ⟨rfl, hb⟩; refine ⟨_, rfl, ?_⟩; have n0_ := Aside0.mk (Kd.N_below (by (with_reducible repeat (first | apply Kd.N_alloc | apply Kd.N_drewN | apply Kd.N_drew)); exact HO_5.out) hb); have n1_ := Aside0.mk (Kd.V_below (by (with_reducible repeat (first | apply Kd.V_alloc | apply Kd.V_drewN | apply Kd.V_drew)); exact HO_217005.out) hb); have n2_ := Aside0.mk (Kd.V_below (by (with_reducible repeat (first | apply Kd.V_alloc | apply Kd.V_drewN | apply Kd.V_drew)); exact HL234_5.out) hb); have n3_ := Aside0.mk (blk_below (g := gb216) (o := .cells #[.int .i64 a0_0, .int .u64 a0_1, .int .u64 a0_2, .int .u64 a0_3, .int .u64 a0_4, .slice A0_5 l0_5.length c0_5, .int .i64 a0_6, .int .i64 a0_7] 27 (0, 0)) (by (with_reducible repeat (first | refine blk_drewN ?_ _ | refine blk_drew ?_ | refine blk_alloc ?_ _)); exact BK216.out) hb); have n4_ := Aside0.mk (blk_below (g := gb217) (o := .cells #[.int .i64 0, .int .u64 0, .int .u64 0, .int .u64 0, .int .u64 0, .slice none 0 0, .int .i64 0, .int .i64 0] 27 (0, 0)) (by (with_reducible repeat (first | refine blk_drewN ?_ _ | refine blk_drew ?_ | refine blk_alloc ?_ _)); exact BK217.out) hb); (first | have n5_ := Aside0.mk (Kd.C_below (by repeat (first | (with_reducible exact HR234_5.out) | (with_reducible refine Kd.C_alloc ?_ _) | (with_reducible refine Kd.C_drewN ?_ _) | (with_reducible refine Kd.C_drew ?_) | exact HR234_5.out)) hb) | have n5_ := Aside0.mk (Kd.V_reads' n2_.out).2.2); have n6_ := Aside0.mk (below_step (by repeat (first | (with_reducible first | exact HB.out | apply below_alloc | apply pw_below_drewN | apply below_drew1 | refine below_set ?_ GE216.out | refine below_set ?_ GE217.out) | exact HB.out)) hb); clear HO_5; clear HO_217005; clear HL234_5; clear BK216; clear BK217; clear HR234_5; clear HB; have HO_5 := n0_; have HO_217005 := n1_; have HL234_5 := n2_; have BK216 := n3_; have BK217 := n4_; have HR234_5 := n5_; have HB := n6_; clear n0_ n1_ n2_ n3_ n4_ n5_ n6_; (try clear hb); (try clear hb2); (try clear hk); (try clear hi)))
        (try simp only [Act.put, List.setIfInBounds_toArray, List.set_cons_zero, List.set_cons_succ])
        go_cut [65] (fun v65 wc => ∃ (kq : Nat) (x65_35 : Bool), v65 = .bool x65_35 ∧ Aside0 (ostinatoref04_Simple.j1 kq x5_1 t236 x65_35 a0_0 a0_1 a0_2 a0_3 a0_4 l0_5 a0_6 a0_7 = some (r1, r2, r3, r4, r5, r6, r7, r8)) ∧ Aside0 (kq ≤ k1) ∧ Aside0 (Kd.N k27 27 wc w.heap.size (fun k_ => (P0_5_ k_ ∨ w.heap.size ≤ k_) ∧ k_ ≠ gb216 ∧ k_ ≠ gb217) (.slice (some ad234) x5_1.length co39) x5_1) ∧ Aside0 (Kd.V k27 27 wc w.heap.size (fun k_ => (P0_5_ k_ ∨ w.heap.size ≤ k_) ∧ some k_ ≠ ((.slice (some ad234) x5_1.length co39) : Value).ownBlock ∧ k_ ≠ gb216 ∧ k_ ≠ gb217) (.slice A0_5 l0_5.length c0_5) l0_5) ∧ Aside0 (wc.heap[gb216]? = some (.cells #[.int .i64 a0_0, .int .u64 a0_1, .int .u64 a0_2, .int .u64 a0_3, .int .u64 a0_4, (.slice A0_5 l0_5.length c0_5), .int .i64 a0_6, .int .i64 a0_7] 27 (0, 0))) ∧ Aside0 (wc.heap[gb217]? = some (.cells #[.int .i64 0, .int .u64 0, .int .u64 0, .int .u64 0, .int .u64 0, (.slice none 0 0), .int .i64 0, .int .i64 0] 27 (0, 0))) ∧ Aside0 (Kd.C k27 wc A234_5 ((rd_T27 x5_1 0).f2).length ((rd_T27 x5_1 0).f2)) ∧ Aside0 (Below w.heap.size w wc))
        case first =>
         have H := HC36.out
         clear HC36
         by_cases c41 : a0_7 = 0
         ·
          rw [if_pos c41] at H
          have c41b0 : (a0_7 == 0) = true := beq_iff_eq.mpr c41
          have c41b1 : (a0_7 != 0) = false := bne_eq_false_iff_eq.mpr c41
          clear c41
          (first | rw [c41b0] | (simp only [i64_w, i32_w]; rw [c41b0]) | skip)
          have H' := Aside0.mk H
          clear H
          have hnb42 := NB216_217.out
          have hnc42 := NB217_216.out
          obtain ⟨hcz43_0, hcz43_1, hcz43_2, hcz43_3, hcz43_4, hcz43_5, hcz43_6, hcz43_7, hfz43_0, hfz43_1, hfz43_2, hfz43_3, hfz43_4, hfz43_5, hfz43_6, hfz43_7⟩ := blk8 BK216.out
          go_wp2
          go_meet
          case rel => exact ⟨_, (true), (by first | rfl | (simp; done) | (simp [*]; done)), H', ⟨by have := HK1.out; first | omega | exact Nat.le_refl _⟩, ⟨by (with_reducible repeat (first | apply Kd.N_alloc | apply Kd.N_drewN | apply Kd.N_drew)); exact HO_5.out⟩, ⟨by (with_reducible repeat (first | apply Kd.V_alloc | apply Kd.V_drewN | apply Kd.V_drew)); exact HO_217005.out⟩, ⟨by (with_reducible repeat (first | refine blk_drewN ?_ _ | refine blk_drew ?_ | refine blk_alloc ?_ _)); exact BK216.out⟩, ⟨by (with_reducible repeat (first | refine blk_drewN ?_ _ | refine blk_drew ?_ | refine blk_alloc ?_ _)); exact BK217.out⟩, ⟨by repeat (first | (with_reducible exact HR234_5.out) | (with_reducible refine Kd.C_alloc ?_ _) | (with_reducible refine Kd.C_drewN ?_ _) | (with_reducible refine Kd.C_drew ?_) | exact HR234_5.out)⟩, ⟨by repeat (first | (with_reducible first | exact HB.out | apply below_alloc | apply pw_below_drewN | apply below_drew1 | refine below_set ?_ GE216.out | refine below_set ?_ GE217.out) | exact HB.out)⟩⟩
         ·
          rw [if_neg c41] at H
          have c41b0 : (a0_7 == 0) = false := beq_eq_false_iff_ne.mpr c41
          have c41b1 : (a0_7 != 0) = true := bne_iff_ne.mpr c41
          (first | rw [c41b0] | (simp only [i64_w, i32_w]; rw [c41b0]) | skip)
          by_cases c44 : ((rd_T27 x5_1 0).f0) = 0
          ·
           rw [if_pos c44] at H
           have c44b0 : (((rd_T27 x5_1 0).f0) == 0) = true := beq_iff_eq.mpr c44
           have c44b1 : (((rd_T27 x5_1 0).f0) != 0) = false := bne_eq_false_iff_eq.mpr c44
           clear c44
           have H' := Aside0.mk H
           clear H
           have hnb45 := NB216_217.out
           have hnc45 := NB217_216.out
           obtain ⟨hcz46_0, hcz46_1, hcz46_2, hcz46_3, hcz46_4, hcz46_5, hcz46_6, hcz46_7, hfz46_0, hfz46_1, hfz46_2, hfz46_3, hfz46_4, hfz46_5, hfz46_6, hfz46_7⟩ := blk8 BK216.out
           have p237 : 0 ≤ (0 : Int) := (by omega)
           have q237 : 0 < (x5_1.length : Int) := of_decide_eq_true (by first | (with_reducible assumption) | assumption)
           obtain ⟨ad237, A237_5, c237_5, e237, hx237_0, hx237_1, hx237_2, hx237_3, hx237_4, hx237_5, hx237_6, hx237_7, hl237_5, hi237_5⟩ := at_T27 (Kd.N_reads' HO_5.out).2.2 0 p237 q237
           obtain rfl : ad234 = ad237 := (by injection e237)
           obtain ⟨ce237, hce237, hMe237, hcc237⟩ := Kd.N_get HO_5.out z27 0 p237 (by first | exact q237 | exact of_decide_eq_true (by first | (with_reducible assumption) | assumption) | (have e_ := (Kd.N_reads' HO_5.out).1; omega))
           obtain ⟨ua237_5, uc237_5, rfl, ul237_5, ge237_5⟩ := k27_openF hMe237
           have hv237_5 := hcc237 5 _ rfl
           rw [add_field _ _ 5 (by omega)] at hv237_5
           replace hv237_5 := Option.some.inj (hv237_5.symm.trans hx237_5)
           injection hv237_5 with hva_ hvn_ hvc_
           rw [hva_] at ge237_5
           rw [hvc_] at ul237_5
           have HL237_5 := Aside0.mk (show Kd.V k27 27 _ w.heap.size _ _ ((rd_T27 x5_1 0).f2) from Kd.V_mk ul237_5 ge237_5)
           clear hva_ hvn_ hvc_ ge237_5 ul237_5
           clear hcc237 hce237
           have qi237 : (0 < x5_1.length) = True := eq_true (by omega)
           (try rw [show ((0 : Int)).toNat = 0 from rfl] at hx237_0)
           (try rw [show 0 * 8 = 0 from rfl] at hx237_0)
           (try rw [Addr.add_zero'] at hx237_0)
           (try rw [show ((0 : Int)).toNat = 0 from rfl] at hx237_1)
           (try rw [show 0 * 8 = 0 from rfl] at hx237_1)
           (try rw [Addr.add_zero'] at hx237_1)
           (try rw [show ((0 : Int)).toNat = 0 from rfl] at hx237_2)
           (try rw [show 0 * 8 = 0 from rfl] at hx237_2)
           (try rw [Addr.add_zero'] at hx237_2)
           (try rw [show ((0 : Int)).toNat = 0 from rfl] at hx237_3)
           (try rw [show 0 * 8 = 0 from rfl] at hx237_3)
           (try rw [Addr.add_zero'] at hx237_3)
           (try rw [show ((0 : Int)).toNat = 0 from rfl] at hx237_4)
           (try rw [show 0 * 8 = 0 from rfl] at hx237_4)
           (try rw [Addr.add_zero'] at hx237_4)
           (try rw [show ((0 : Int)).toNat = 0 from rfl] at hx237_5)
           (try rw [show 0 * 8 = 0 from rfl] at hx237_5)
           (try rw [Addr.add_zero'] at hx237_5)
           (try rw [show ((0 : Int)).toNat = 0 from rfl] at hx237_6)
           (try rw [show 0 * 8 = 0 from rfl] at hx237_6)
           (try rw [Addr.add_zero'] at hx237_6)
           (try rw [show ((0 : Int)).toNat = 0 from rfl] at hx237_7)
           (try rw [show 0 * 8 = 0 from rfl] at hx237_7)
           (try rw [Addr.add_zero'] at hx237_7)
           have HR237_5 := Aside0.mk hi237_5
           have HC237_5 := Aside0.mk hl237_5
           clear hi237_5 hl237_5
           replace p237 := eq_true p237
           replace q237 := eq_true q237
           go_wp2
           go_meet
           case rel => exact ⟨_, (true), (by first | rfl | (simp; done) | (simp [*]; done)), H', ⟨by have := HK1.out; first | omega | exact Nat.le_refl _⟩, ⟨by (with_reducible repeat (first | apply Kd.N_alloc | apply Kd.N_drewN | apply Kd.N_drew)); exact HO_5.out⟩, ⟨by (with_reducible repeat (first | apply Kd.V_alloc | apply Kd.V_drewN | apply Kd.V_drew)); exact HO_217005.out⟩, ⟨by (with_reducible repeat (first | refine blk_drewN ?_ _ | refine blk_drew ?_ | refine blk_alloc ?_ _)); exact BK216.out⟩, ⟨by (with_reducible repeat (first | refine blk_drewN ?_ _ | refine blk_drew ?_ | refine blk_alloc ?_ _)); exact BK217.out⟩, ⟨by repeat (first | (with_reducible exact HR234_5.out) | (with_reducible refine Kd.C_alloc ?_ _) | (with_reducible refine Kd.C_drewN ?_ _) | (with_reducible refine Kd.C_drew ?_) | exact HR234_5.out)⟩, ⟨by repeat (first | (with_reducible first | exact HB.out | apply below_alloc | apply pw_below_drewN | apply below_drew1 | refine below_set ?_ GE216.out | refine below_set ?_ GE217.out) | exact HB.out)⟩⟩
          ·
           rw [if_neg c44] at H
           have c44b0 : (((rd_T27 x5_1 0).f0) == 0) = false := beq_eq_false_iff_ne.mpr c44
           have c44b1 : (((rd_T27 x5_1 0).f0) != 0) = true := bne_iff_ne.mpr c44
           have H' := Aside0.mk H
           clear H
           have hnb47 := NB216_217.out
           have hnc47 := NB217_216.out
           obtain ⟨hcz48_0, hcz48_1, hcz48_2, hcz48_3, hcz48_4, hcz48_5, hcz48_6, hcz48_7, hfz48_0, hfz48_1, hfz48_2, hfz48_3, hfz48_4, hfz48_5, hfz48_6, hfz48_7⟩ := blk8 BK216.out
           have p237 : 0 ≤ (0 : Int) := (by omega)
           have q237 : 0 < (x5_1.length : Int) := of_decide_eq_true (by first | (with_reducible assumption) | assumption)
           obtain ⟨ad237, A237_5, c237_5, e237, hx237_0, hx237_1, hx237_2, hx237_3, hx237_4, hx237_5, hx237_6, hx237_7, hl237_5, hi237_5⟩ := at_T27 (Kd.N_reads' HO_5.out).2.2 0 p237 q237
           obtain rfl : ad234 = ad237 := (by injection e237)
           obtain ⟨ce237, hce237, hMe237, hcc237⟩ := Kd.N_get HO_5.out z27 0 p237 (by first | exact q237 | exact of_decide_eq_true (by first | (with_reducible assumption) | assumption) | (have e_ := (Kd.N_reads' HO_5.out).1; omega))
           obtain ⟨ua237_5, uc237_5, rfl, ul237_5, ge237_5⟩ := k27_openF hMe237
           have hv237_5 := hcc237 5 _ rfl
           rw [add_field _ _ 5 (by omega)] at hv237_5
           replace hv237_5 := Option.some.inj (hv237_5.symm.trans hx237_5)
           injection hv237_5 with hva_ hvn_ hvc_
           rw [hva_] at ge237_5
           rw [hvc_] at ul237_5
           have HL237_5 := Aside0.mk (show Kd.V k27 27 _ w.heap.size _ _ ((rd_T27 x5_1 0).f2) from Kd.V_mk ul237_5 ge237_5)
           clear hva_ hvn_ hvc_ ge237_5 ul237_5
           clear hcc237 hce237
           have qi237 : (0 < x5_1.length) = True := eq_true (by omega)
           (try rw [show ((0 : Int)).toNat = 0 from rfl] at hx237_0)
           (try rw [show 0 * 8 = 0 from rfl] at hx237_0)
           (try rw [Addr.add_zero'] at hx237_0)
           (try rw [show ((0 : Int)).toNat = 0 from rfl] at hx237_1)
           (try rw [show 0 * 8 = 0 from rfl] at hx237_1)
           (try rw [Addr.add_zero'] at hx237_1)
           (try rw [show ((0 : Int)).toNat = 0 from rfl] at hx237_2)
           (try rw [show 0 * 8 = 0 from rfl] at hx237_2)
           (try rw [Addr.add_zero'] at hx237_2)
           (try rw [show ((0 : Int)).toNat = 0 from rfl] at hx237_3)
           (try rw [show 0 * 8 = 0 from rfl] at hx237_3)
           (try rw [Addr.add_zero'] at hx237_3)
           (try rw [show ((0 : Int)).toNat = 0 from rfl] at hx237_4)
           (try rw [show 0 * 8 = 0 from rfl] at hx237_4)
           (try rw [Addr.add_zero'] at hx237_4)
           (try rw [show ((0 : Int)).toNat = 0 from rfl] at hx237_5)
           (try rw [show 0 * 8 = 0 from rfl] at hx237_5)
           (try rw [Addr.add_zero'] at hx237_5)
           (try rw [show ((0 : Int)).toNat = 0 from rfl] at hx237_6)
           (try rw [show 0 * 8 = 0 from rfl] at hx237_6)
           (try rw [Addr.add_zero'] at hx237_6)
           (try rw [show ((0 : Int)).toNat = 0 from rfl] at hx237_7)
           (try rw [show 0 * 8 = 0 from rfl] at hx237_7)
           (try rw [Addr.add_zero'] at hx237_7)
           have HR237_5 := Aside0.mk hi237_5
           have HC237_5 := Aside0.mk hl237_5
           clear hi237_5 hl237_5
           replace p237 := eq_true p237
           replace q237 := eq_true q237
           go_wp2
           go_meet
           case rel => exact ⟨_, (t235), (by first | rfl | (simp; done) | (simp [*]; done)), H', ⟨by have := HK1.out; first | omega | exact Nat.le_refl _⟩, ⟨by (with_reducible repeat (first | apply Kd.N_alloc | apply Kd.N_drewN | apply Kd.N_drew)); exact HO_5.out⟩, ⟨by (with_reducible repeat (first | apply Kd.V_alloc | apply Kd.V_drewN | apply Kd.V_drew)); exact HO_217005.out⟩, ⟨by (with_reducible repeat (first | refine blk_drewN ?_ _ | refine blk_drew ?_ | refine blk_alloc ?_ _)); exact BK216.out⟩, ⟨by (with_reducible repeat (first | refine blk_drewN ?_ _ | refine blk_drew ?_ | refine blk_alloc ?_ _)); exact BK217.out⟩, ⟨by repeat (first | (with_reducible exact HR234_5.out) | (with_reducible refine Kd.C_alloc ?_ _) | (with_reducible refine Kd.C_drewN ?_ _) | (with_reducible refine Kd.C_drew ?_) | exact HR234_5.out)⟩, ⟨by repeat (first | (with_reducible first | exact HB.out | apply below_alloc | apply pw_below_drewN | apply below_drew1 | refine below_set ?_ GE216.out | refine below_set ?_ GE217.out) | exact HB.out)⟩⟩
        case rest =>
         clear HC36
         (try clear c1); (try clear c2); (try clear p2 p2); (try clear q2); (try clear hx2); (try clear qi2); (try clear c3); (try clear c4); (try clear c6); (try clear p6); (try clear c10); (try clear c10b0); (try clear c13); (try clear c16); (try clear c20); (try clear c22); (try clear p22); (try clear q22); (try clear hx22); (try clear c23); (try clear p23); (try clear q23); (try clear hx23); (try clear qi23); (try clear c24); (try clear c24b0); (try clear c25); (try clear c25b0); (try clear c27); (try clear c28); (try clear c33); (try clear c33b0); (try clear c33b1); (try clear c34); (try clear c34b0); (try clear c34b1); (try clear c37); (try clear c41); (try clear c41b0); (try clear c41b1); (try clear c42); (try clear c44); (try clear c44b0); (try clear c44b1); (try clear c45); (try clear c47); (try clear hcz14_0 hcz14_1 hcz14_2 hcz14_3 hcz14_4 hcz14_5 hcz14_6 hcz14_7); (try clear hcz16_0 hcz16_1 hcz16_2 hcz16_3 hcz16_4 hcz16_5 hcz16_6 hcz16_7); (try clear hcz17_0 hcz17_1 hcz17_2 hcz17_3 hcz17_4 hcz17_5 hcz17_6 hcz17_7); (try clear hcz21_0 hcz21_1 hcz21_2 hcz21_3 hcz21_4 hcz21_5 hcz21_6 hcz21_7); (try clear hcz23_0 hcz23_1 hcz23_2 hcz23_3 hcz23_4 hcz23_5 hcz23_6 hcz23_7); (try clear hcz29_0 hcz29_1 hcz29_2 hcz29_3 hcz29_4 hcz29_5 hcz29_6 hcz29_7); (try clear hcz38_0 hcz38_1 hcz38_2 hcz38_3 hcz38_4 hcz38_5 hcz38_6 hcz38_7); (try clear hcz43_0 hcz43_1 hcz43_2 hcz43_3 hcz43_4 hcz43_5 hcz43_6 hcz43_7); (try clear hcz46_0 hcz46_1 hcz46_2 hcz46_3 hcz46_4 hcz46_5 hcz46_6 hcz46_7); (try clear hcz48_0 hcz48_1 hcz48_2 hcz48_3 hcz48_4 hcz48_5 hcz48_6 hcz48_7); (try clear hcz7_0 hcz7_1 hcz7_2 hcz7_3 hcz7_4 hcz7_5 hcz7_6 hcz7_7); (try clear hcz9_0 hcz9_1 hcz9_2 hcz9_3 hcz9_4 hcz9_5 hcz9_6 hcz9_7); (try clear hfz14_0 hfz14_1 hfz14_2 hfz14_3 hfz14_4 hfz14_5 hfz14_6 hfz14_7); (try clear hfz16_0 hfz16_1 hfz16_2 hfz16_3 hfz16_4 hfz16_5 hfz16_6 hfz16_7); (try clear hfz17_0 hfz17_1 hfz17_2 hfz17_3 hfz17_4 hfz17_5 hfz17_6 hfz17_7); (try clear hfz21_0 hfz21_1 hfz21_2 hfz21_3 hfz21_4 hfz21_5 hfz21_6 hfz21_7); (try clear hfz23_0 hfz23_1 hfz23_2 hfz23_3 hfz23_4 hfz23_5 hfz23_6 hfz23_7); (try clear hfz29_0 hfz29_1 hfz29_2 hfz29_3 hfz29_4 hfz29_5 hfz29_6 hfz29_7); (try clear hfz38_0 hfz38_1 hfz38_2 hfz38_3 hfz38_4 hfz38_5 hfz38_6 hfz38_7); (try clear hfz43_0 hfz43_1 hfz43_2 hfz43_3 hfz43_4 hfz43_5 hfz43_6 hfz43_7); (try clear hfz46_0 hfz46_1 hfz46_2 hfz46_3 hfz46_4 hfz46_5 hfz46_6 hfz46_7); (try clear hfz48_0 hfz48_1 hfz48_2 hfz48_3 hfz48_4 hfz48_5 hfz48_6 hfz48_7); (try clear hfz7_0 hfz7_1 hfz7_2 hfz7_3 hfz7_4 hfz7_5 hfz7_6 hfz7_7); (try clear hfz9_0 hfz9_1 hfz9_2 hfz9_3 hfz9_4 hfz9_5 hfz9_6 hfz9_7); (try clear hx220_0 hx220_1 hx220_2 hx220_3 hx220_4 hx220_5 hx220_6 hx220_7); (try clear hx234_0 hx234_1 hx234_2 hx234_3 hx234_4 hx234_5 hx234_6 hx234_7); (try clear hx237_0 hx237_1 hx237_2 hx237_3 hx237_4 hx237_5 hx237_6 hx237_7); (try clear p220); (try clear p234); (try clear p237); (try clear q220); (try clear q234); (try clear q237)
         obtain ⟨kq, x65_35, rfl, HA, HJ35, HO_5, HO_217005, BK216, BK217, HR234_5, HB⟩ := hcut
         cases kq with
         | zero => exact absurd HA.out (by simp [ostinatoref04_Simple.j1])
         | succ kj35 =>
          have H := HA.out
          clear HA
          simp only [ostinatoref04_Simple.j1] at H
          by_cases c49 : x65_35 = true
          ·
           subst c49
           have H1 : (some (0, 0, 0, 0, 0, ([] : List (S27)), 0, 0)) = some (r1, r2, r3, r4, r5, r6, r7, r8) := by rw [if_pos rfl] at H; exact H
           clear H
           have H := H1
           clear H1
           simp only [Option.some.injEq, Prod.mk.injEq] at H
           obtain ⟨rfl, rfl, rfl, rfl, rfl, rfl, rfl, rfl⟩ := H
           have hnb50 := NB217_216.out
           have hnc50 := NB216_217.out
           obtain ⟨hcz51_0, hcz51_1, hcz51_2, hcz51_3, hcz51_4, hcz51_5, hcz51_6, hcz51_7, hfz51_0, hfz51_1, hfz51_2, hfz51_3, hfz51_4, hfz51_5, hfz51_6, hfz51_7⟩ := blk8 BK217.out
           go_wp2
           refine bodyPost_ret (results_cell_row rfl _ _ gb217 27 #[.int .i64 0, .int .u64 0, .int .u64 0, .int .u64 0, .int .u64 0, .slice none 0 0, .int .i64 0, .int .i64 0] (0, 0) _ rfl (by (with_reducible repeat (first | refine blk_drewN ?_ _ | refine blk_drew ?_ | refine blk_alloc ?_ _)); refine blk_put (cs := #[.int .i64 0, .int .u64 0, .int .u64 0, .int .u64 0, .int .u64 0, .slice none 0 0, .int .i64 0, .int .i64 0]) ?_ 7 _ rfl; (with_reducible repeat (first | refine blk_drewN ?_ _ | refine blk_drew ?_ | refine blk_alloc ?_ _)); refine blk_put (cs := #[.int .i64 0, .int .u64 0, .int .u64 0, .int .u64 0, .int .u64 0, .slice none 0 0, .int .i64 0, .int .i64 0]) ?_ 6 _ rfl; (with_reducible repeat (first | refine blk_drewN ?_ _ | refine blk_drew ?_ | refine blk_alloc ?_ _)); refine blk_put (cs := #[.int .i64 0, .int .u64 0, .int .u64 0, .int .u64 0, .int .u64 0, .slice none 0 0, .int .i64 0, .int .i64 0]) ?_ 5 _ rfl; (with_reducible repeat (first | refine blk_drewN ?_ _ | refine blk_drew ?_ | refine blk_alloc ?_ _)); refine blk_put (cs := #[.int .i64 0, .int .u64 0, .int .u64 0, .int .u64 0, .int .u64 0, .slice none 0 0, .int .i64 0, .int .i64 0]) ?_ 4 _ rfl; (with_reducible repeat (first | refine blk_drewN ?_ _ | refine blk_drew ?_ | refine blk_alloc ?_ _)); refine blk_put (cs := #[.int .i64 0, .int .u64 0, .int .u64 0, .int .u64 0, .int .u64 0, .slice none 0 0, .int .i64 0, .int .i64 0]) ?_ 3 _ rfl; (with_reducible repeat (first | refine blk_drewN ?_ _ | refine blk_drew ?_ | refine blk_alloc ?_ _)); refine blk_put (cs := #[.int .i64 0, .int .u64 0, .int .u64 0, .int .u64 0, .int .u64 0, .slice none 0 0, .int .i64 0, .int .i64 0]) ?_ 2 _ rfl; (with_reducible repeat (first | refine blk_drewN ?_ _ | refine blk_drew ?_ | refine blk_alloc ?_ _)); refine blk_put (cs := #[.int .i64 0, .int .u64 0, .int .u64 0, .int .u64 0, .int .u64 0, .slice none 0 0, .int .i64 0, .int .i64 0]) ?_ 1 _ rfl; (with_reducible repeat (first | refine blk_drewN ?_ _ | refine blk_drew ?_ | refine blk_alloc ?_ _)); refine blk_put (cs := #[.int .i64 0, .int .u64 0, .int .u64 0, .int .u64 0, .int .u64 0, .slice none 0 0, .int .i64 0, .int .i64 0]) ?_ 0 _ rfl; (with_reducible repeat (first | refine blk_drewN ?_ _ | refine blk_drew ?_ | refine blk_alloc ?_ _)); exact BK217.out) Try.underlying27 rfl (by kernel_rfl)) rfl ?_
           exact ⟨_, by first | rfl | (simp [errW_none, errW_some] <;> rfl) | (simp [*, errW_none, errW_some] <;> rfl), Kd.V_nil _ _ _ _ _, by repeat (first | (with_reducible first | exact HB.out | apply below_alloc | apply pw_below_drewN | apply below_drew1 | refine below_set ?_ GE216.out | refine below_set ?_ GE217.out) | exact HB.out)⟩
          ·
           replace c49 := Bool.eq_false_iff.mpr c49
           subst c49
           have H1 : (if a0_6 = 1 then (ostinatoref04_Simple.j2 kj35 x5_1 t236 (a0_7 == 1) a0_0 a0_1 a0_2 a0_3 a0_4 l0_5 a0_6 a0_7) else (ostinatoref04_Simple.j2 kj35 x5_1 t236 false a0_0 a0_1 a0_2 a0_3 a0_4 l0_5 a0_6 a0_7)) = some (r1, r2, r3, r4, r5, r6, r7, r8) := by rw [if_neg (show ¬ (false = true) by decide)] at H; exact H
           clear H
           have H := H1
           clear H1
           have HC52 := Aside0.mk H
           clear H
           go_upto_region 15 with (fail)
           go_cut [74] (fun v74 wc => ∃ (kq : Nat) (x74_51 : Bool), v74 = .bool x74_51 ∧ Aside0 (ostinatoref04_Simple.j2 kq x5_1 t236 x74_51 a0_0 a0_1 a0_2 a0_3 a0_4 l0_5 a0_6 a0_7 = some (r1, r2, r3, r4, r5, r6, r7, r8)) ∧ Aside0 (kq ≤ kj35) ∧ Aside0 (Kd.N k27 27 wc w.heap.size (fun k_ => (P0_5_ k_ ∨ w.heap.size ≤ k_) ∧ k_ ≠ gb216 ∧ k_ ≠ gb217) (.slice (some ad234) x5_1.length co39) x5_1) ∧ Aside0 (Kd.V k27 27 wc w.heap.size (fun k_ => (P0_5_ k_ ∨ w.heap.size ≤ k_) ∧ some k_ ≠ ((.slice (some ad234) x5_1.length co39) : Value).ownBlock ∧ k_ ≠ gb216 ∧ k_ ≠ gb217) (.slice A0_5 l0_5.length c0_5) l0_5) ∧ Aside0 (wc.heap[gb216]? = some (.cells #[.int .i64 a0_0, .int .u64 a0_1, .int .u64 a0_2, .int .u64 a0_3, .int .u64 a0_4, (.slice A0_5 l0_5.length c0_5), .int .i64 a0_6, .int .i64 a0_7] 27 (0, 0))) ∧ Aside0 (wc.heap[gb217]? = some (.cells #[.int .i64 0, .int .u64 0, .int .u64 0, .int .u64 0, .int .u64 0, (.slice none 0 0), .int .i64 0, .int .i64 0] 27 (0, 0))) ∧ Aside0 (Kd.C k27 wc A234_5 ((rd_T27 x5_1 0).f2).length ((rd_T27 x5_1 0).f2)) ∧ Aside0 (Below w.heap.size w wc))
           case first =>
            have H := HC52.out
            clear HC52
            by_cases c53 : a0_6 = 1
            ·
             rw [if_pos c53] at H
             have c53b0 : (a0_6 == 1) = true := beq_iff_eq.mpr c53
             have c53b1 : (a0_6 != 1) = false := bne_eq_false_iff_eq.mpr c53
             clear c53
             (first | rw [c53b0] | (simp only [i64_w, i32_w]; rw [c53b0]) | skip)
             have H' := Aside0.mk H
             clear H
             have hnb54 := NB216_217.out
             have hnc54 := NB217_216.out
             obtain ⟨hcz55_0, hcz55_1, hcz55_2, hcz55_3, hcz55_4, hcz55_5, hcz55_6, hcz55_7, hfz55_0, hfz55_1, hfz55_2, hfz55_3, hfz55_4, hfz55_5, hfz55_6, hfz55_7⟩ := blk8 BK216.out
             go_wp2
             go_meet
             case rel => exact ⟨_, ((a0_7 == 1)), (by first | rfl | (simp; done) | (simp [*]; done)), H', ⟨by have := HK1.out; have := HJ35.out; first | omega | exact Nat.le_refl _⟩, ⟨by (with_reducible repeat (first | apply Kd.N_alloc | apply Kd.N_drewN | apply Kd.N_drew)); exact HO_5.out⟩, ⟨by (with_reducible repeat (first | apply Kd.V_alloc | apply Kd.V_drewN | apply Kd.V_drew)); exact HO_217005.out⟩, ⟨by (with_reducible repeat (first | refine blk_drewN ?_ _ | refine blk_drew ?_ | refine blk_alloc ?_ _)); exact BK216.out⟩, ⟨by (with_reducible repeat (first | refine blk_drewN ?_ _ | refine blk_drew ?_ | refine blk_alloc ?_ _)); exact BK217.out⟩, ⟨by repeat (first | (with_reducible exact HR234_5.out) | (with_reducible refine Kd.C_alloc ?_ _) | (with_reducible refine Kd.C_drewN ?_ _) | (with_reducible refine Kd.C_drew ?_) | exact HR234_5.out)⟩, ⟨by repeat (first | (with_reducible first | exact HB.out | apply below_alloc | apply pw_below_drewN | apply below_drew1 | refine below_set ?_ GE216.out | refine below_set ?_ GE217.out) | exact HB.out)⟩⟩
            ·
             rw [if_neg c53] at H
             have c53b0 : (a0_6 == 1) = false := beq_eq_false_iff_ne.mpr c53
             have c53b1 : (a0_6 != 1) = true := bne_iff_ne.mpr c53
             (first | rw [c53b0] | (simp only [i64_w, i32_w]; rw [c53b0]) | skip)
             have H' := Aside0.mk H
             clear H
             have hnb56 := NB216_217.out
             have hnc56 := NB217_216.out
             obtain ⟨hcz57_0, hcz57_1, hcz57_2, hcz57_3, hcz57_4, hcz57_5, hcz57_6, hcz57_7, hfz57_0, hfz57_1, hfz57_2, hfz57_3, hfz57_4, hfz57_5, hfz57_6, hfz57_7⟩ := blk8 BK216.out
             go_wp2
             go_meet
             case rel => exact ⟨_, (false), (by first | rfl | (simp; done) | (simp [*]; done)), H', ⟨by have := HK1.out; have := HJ35.out; first | omega | exact Nat.le_refl _⟩, ⟨by (with_reducible repeat (first | apply Kd.N_alloc | apply Kd.N_drewN | apply Kd.N_drew)); exact HO_5.out⟩, ⟨by (with_reducible repeat (first | apply Kd.V_alloc | apply Kd.V_drewN | apply Kd.V_drew)); exact HO_217005.out⟩, ⟨by (with_reducible repeat (first | refine blk_drewN ?_ _ | refine blk_drew ?_ | refine blk_alloc ?_ _)); exact BK216.out⟩, ⟨by (with_reducible repeat (first | refine blk_drewN ?_ _ | refine blk_drew ?_ | refine blk_alloc ?_ _)); exact BK217.out⟩, ⟨by repeat (first | (with_reducible exact HR234_5.out) | (with_reducible refine Kd.C_alloc ?_ _) | (with_reducible refine Kd.C_drewN ?_ _) | (with_reducible refine Kd.C_drew ?_) | exact HR234_5.out)⟩, ⟨by repeat (first | (with_reducible first | exact HB.out | apply below_alloc | apply pw_below_drewN | apply below_drew1 | refine below_set ?_ GE216.out | refine below_set ?_ GE217.out) | exact HB.out)⟩⟩
           case rest =>
            clear HC52
            (try clear c1); (try clear c2); (try clear p2 p2); (try clear q2 q2); (try clear hx2); (try clear qi2); (try clear c3); (try clear c4); (try clear c5); (try clear c6); (try clear p6 p6); (try clear c10); (try clear c10b0); (try clear c13); (try clear c16); (try clear c20); (try clear c22); (try clear p22 p22); (try clear q22 q22); (try clear hx22); (try clear c23); (try clear p23 p23); (try clear q23 q23); (try clear hx23); (try clear qi23); (try clear c24); (try clear c24b0); (try clear c25); (try clear c25b0); (try clear c27); (try clear c28); (try clear c33); (try clear c33b0); (try clear c33b1); (try clear c34); (try clear c34b0); (try clear c34b1); (try clear c37); (try clear c41); (try clear c41b0); (try clear c41b1); (try clear c42); (try clear c44); (try clear c44b0); (try clear c44b1); (try clear c45); (try clear c47); (try clear c49); (try clear c50); (try clear c53); (try clear c53b0); (try clear c53b1); (try clear c54); (try clear c56); (try clear hcz14_0 hcz14_1 hcz14_2 hcz14_3 hcz14_4 hcz14_5 hcz14_6 hcz14_7); (try clear hcz16_0 hcz16_1 hcz16_2 hcz16_3 hcz16_4 hcz16_5 hcz16_6 hcz16_7); (try clear hcz17_0 hcz17_1 hcz17_2 hcz17_3 hcz17_4 hcz17_5 hcz17_6 hcz17_7); (try clear hcz21_0 hcz21_1 hcz21_2 hcz21_3 hcz21_4 hcz21_5 hcz21_6 hcz21_7); (try clear hcz23_0 hcz23_1 hcz23_2 hcz23_3 hcz23_4 hcz23_5 hcz23_6 hcz23_7); (try clear hcz29_0 hcz29_1 hcz29_2 hcz29_3 hcz29_4 hcz29_5 hcz29_6 hcz29_7); (try clear hcz38_0 hcz38_1 hcz38_2 hcz38_3 hcz38_4 hcz38_5 hcz38_6 hcz38_7); (try clear hcz43_0 hcz43_1 hcz43_2 hcz43_3 hcz43_4 hcz43_5 hcz43_6 hcz43_7); (try clear hcz46_0 hcz46_1 hcz46_2 hcz46_3 hcz46_4 hcz46_5 hcz46_6 hcz46_7); (try clear hcz48_0 hcz48_1 hcz48_2 hcz48_3 hcz48_4 hcz48_5 hcz48_6 hcz48_7); (try clear hcz51_0 hcz51_1 hcz51_2 hcz51_3 hcz51_4 hcz51_5 hcz51_6 hcz51_7); (try clear hcz55_0 hcz55_1 hcz55_2 hcz55_3 hcz55_4 hcz55_5 hcz55_6 hcz55_7); (try clear hcz57_0 hcz57_1 hcz57_2 hcz57_3 hcz57_4 hcz57_5 hcz57_6 hcz57_7); (try clear hcz7_0 hcz7_1 hcz7_2 hcz7_3 hcz7_4 hcz7_5 hcz7_6 hcz7_7); (try clear hcz9_0 hcz9_1 hcz9_2 hcz9_3 hcz9_4 hcz9_5 hcz9_6 hcz9_7); (try clear hfz14_0 hfz14_1 hfz14_2 hfz14_3 hfz14_4 hfz14_5 hfz14_6 hfz14_7); (try clear hfz16_0 hfz16_1 hfz16_2 hfz16_3 hfz16_4 hfz16_5 hfz16_6 hfz16_7); (try clear hfz17_0 hfz17_1 hfz17_2 hfz17_3 hfz17_4 hfz17_5 hfz17_6 hfz17_7); (try clear hfz21_0 hfz21_1 hfz21_2 hfz21_3 hfz21_4 hfz21_5 hfz21_6 hfz21_7); (try clear hfz23_0 hfz23_1 hfz23_2 hfz23_3 hfz23_4 hfz23_5 hfz23_6 hfz23_7); (try clear hfz29_0 hfz29_1 hfz29_2 hfz29_3 hfz29_4 hfz29_5 hfz29_6 hfz29_7); (try clear hfz38_0 hfz38_1 hfz38_2 hfz38_3 hfz38_4 hfz38_5 hfz38_6 hfz38_7); (try clear hfz43_0 hfz43_1 hfz43_2 hfz43_3 hfz43_4 hfz43_5 hfz43_6 hfz43_7); (try clear hfz46_0 hfz46_1 hfz46_2 hfz46_3 hfz46_4 hfz46_5 hfz46_6 hfz46_7); (try clear hfz48_0 hfz48_1 hfz48_2 hfz48_3 hfz48_4 hfz48_5 hfz48_6 hfz48_7); (try clear hfz51_0 hfz51_1 hfz51_2 hfz51_3 hfz51_4 hfz51_5 hfz51_6 hfz51_7); (try clear hfz55_0 hfz55_1 hfz55_2 hfz55_3 hfz55_4 hfz55_5 hfz55_6 hfz55_7); (try clear hfz57_0 hfz57_1 hfz57_2 hfz57_3 hfz57_4 hfz57_5 hfz57_6 hfz57_7); (try clear hfz7_0 hfz7_1 hfz7_2 hfz7_3 hfz7_4 hfz7_5 hfz7_6 hfz7_7); (try clear hfz9_0 hfz9_1 hfz9_2 hfz9_3 hfz9_4 hfz9_5 hfz9_6 hfz9_7); (try clear hx220_0 hx220_1 hx220_2 hx220_3 hx220_4 hx220_5 hx220_6 hx220_7); (try clear hx234_0 hx234_1 hx234_2 hx234_3 hx234_4 hx234_5 hx234_6 hx234_7); (try clear hx237_0 hx237_1 hx237_2 hx237_3 hx237_4 hx237_5 hx237_6 hx237_7); (try clear p220); (try clear p234); (try clear p237); (try clear q220); (try clear q234); (try clear q237)
            obtain ⟨kq, x74_51, rfl, HA, HJ51, HO_5, HO_217005, BK216, BK217, HR234_5, HB⟩ := hcut
            cases kq with
            | zero => exact absurd HA.out (by simp [ostinatoref04_Simple.j2])
            | succ kj51 =>
             have H := HA.out
             clear HA
             simp only [ostinatoref04_Simple.j2] at H
             by_cases c58 : x74_51 = true
             ·
              subst c58
              have H1 : (if 0 < (x5_1.length : Int) then (some ((rd_T27 x5_1 0).f0, (rd_T27 x5_1 0).f1.f0, (rd_T27 x5_1 0).f1.f1, (rd_T27 x5_1 0).f1.f2, (rd_T27 x5_1 0).f1.f3, (rd_T27 x5_1 0).f2, (rd_T27 x5_1 0).f3, (rd_T27 x5_1 0).f4)) else (none)) = some (r1, r2, r3, r4, r5, r6, r7, r8) := by rw [if_pos rfl] at H; exact H
              clear H
              have H := H1
              clear H1
              by_cases c59 : 0 < (x5_1.length : Int)
              ·
               rw [if_pos c59] at H
               have c59b0 : decide (0 < (x5_1.length : Int)) = true := decide_eq_true c59
               have c59b1 : decide (0 < x5_1.length) = true := decide_eq_true (by omega)
               clear c59
               simp only [Option.some.injEq, Prod.mk.injEq] at H
               obtain ⟨rfl, rfl, rfl, rfl, rfl, rfl, rfl, rfl⟩ := H
               have p238 : 0 ≤ (0 : Int) := (by omega)
               have q238 : 0 < (x5_1.length : Int) := of_decide_eq_true (by first | (with_reducible assumption) | assumption)
               obtain ⟨ad238, A238_5, c238_5, e238, hx238_0, hx238_1, hx238_2, hx238_3, hx238_4, hx238_5, hx238_6, hx238_7, hl238_5, hi238_5⟩ := at_T27 (Kd.N_reads' HO_5.out).2.2 0 p238 q238
               obtain rfl : ad234 = ad238 := (by injection e238)
               obtain ⟨ce238, hce238, hMe238, hcc238⟩ := Kd.N_get HO_5.out z27 0 p238 (by first | exact q238 | exact of_decide_eq_true (by first | (with_reducible assumption) | assumption) | (have e_ := (Kd.N_reads' HO_5.out).1; omega))
               obtain ⟨ua238_5, uc238_5, rfl, ul238_5, ge238_5⟩ := k27_openF hMe238
               have hv238_5 := hcc238 5 _ rfl
               rw [add_field _ _ 5 (by omega)] at hv238_5
               replace hv238_5 := Option.some.inj (hv238_5.symm.trans hx238_5)
               injection hv238_5 with hva_ hvn_ hvc_
               rw [hva_] at ge238_5
               rw [hvc_] at ul238_5
               have HL238_5 := Aside0.mk (show Kd.V k27 27 _ w.heap.size _ _ ((rd_T27 x5_1 0).f2) from Kd.V_mk ul238_5 ge238_5)
               clear hva_ hvn_ hvc_ ge238_5 ul238_5
               clear hcc238 hce238
               have qi238 : (0 < x5_1.length) = True := eq_true (by omega)
               (try rw [show ((0 : Int)).toNat = 0 from rfl] at hx238_0)
               (try rw [show 0 * 8 = 0 from rfl] at hx238_0)
               (try rw [Addr.add_zero'] at hx238_0)
               (try rw [show ((0 : Int)).toNat = 0 from rfl] at hx238_1)
               (try rw [show 0 * 8 = 0 from rfl] at hx238_1)
               (try rw [Addr.add_zero'] at hx238_1)
               (try rw [show ((0 : Int)).toNat = 0 from rfl] at hx238_2)
               (try rw [show 0 * 8 = 0 from rfl] at hx238_2)
               (try rw [Addr.add_zero'] at hx238_2)
               (try rw [show ((0 : Int)).toNat = 0 from rfl] at hx238_3)
               (try rw [show 0 * 8 = 0 from rfl] at hx238_3)
               (try rw [Addr.add_zero'] at hx238_3)
               (try rw [show ((0 : Int)).toNat = 0 from rfl] at hx238_4)
               (try rw [show 0 * 8 = 0 from rfl] at hx238_4)
               (try rw [Addr.add_zero'] at hx238_4)
               (try rw [show ((0 : Int)).toNat = 0 from rfl] at hx238_5)
               (try rw [show 0 * 8 = 0 from rfl] at hx238_5)
               (try rw [Addr.add_zero'] at hx238_5)
               (try rw [show ((0 : Int)).toNat = 0 from rfl] at hx238_6)
               (try rw [show 0 * 8 = 0 from rfl] at hx238_6)
               (try rw [Addr.add_zero'] at hx238_6)
               (try rw [show ((0 : Int)).toNat = 0 from rfl] at hx238_7)
               (try rw [show 0 * 8 = 0 from rfl] at hx238_7)
               (try rw [Addr.add_zero'] at hx238_7)
               have HR238_5 := Aside0.mk hi238_5
               have HC238_5 := Aside0.mk hl238_5
               clear hi238_5 hl238_5
               replace p238 := eq_true p238
               replace q238 := eq_true q238
               have hnb60 := NB217_216.out
               have hnc60 := NB216_217.out
               obtain ⟨hcz61_0, hcz61_1, hcz61_2, hcz61_3, hcz61_4, hcz61_5, hcz61_6, hcz61_7, hfz61_0, hfz61_1, hfz61_2, hfz61_3, hfz61_4, hfz61_5, hfz61_6, hfz61_7⟩ := blk8 BK217.out
               go_wp2
               refine bodyPost_ret (results_cell_row rfl _ _ gb217 27 #[.int .i64 ((rd_T27 x5_1 0).f0), .int .u64 ((rd_T27 x5_1 0).f1.f0), .int .u64 ((rd_T27 x5_1 0).f1.f1), .int .u64 ((rd_T27 x5_1 0).f1.f2), .int .u64 ((rd_T27 x5_1 0).f1.f3), .slice A238_5 ((rd_T27 x5_1 0).f2).length c238_5, .int .i64 ((rd_T27 x5_1 0).f3), .int .i64 ((rd_T27 x5_1 0).f4)] (0, 0) _ rfl (by (with_reducible repeat (first | refine blk_drewN ?_ _ | refine blk_drew ?_ | refine blk_alloc ?_ _)); refine blk_put (cs := #[.int .i64 ((rd_T27 x5_1 0).f0), .int .u64 ((rd_T27 x5_1 0).f1.f0), .int .u64 ((rd_T27 x5_1 0).f1.f1), .int .u64 ((rd_T27 x5_1 0).f1.f2), .int .u64 ((rd_T27 x5_1 0).f1.f3), .slice A238_5 ((rd_T27 x5_1 0).f2).length c238_5, .int .i64 ((rd_T27 x5_1 0).f3), .int .i64 0]) ?_ 7 _ rfl; (with_reducible repeat (first | refine blk_drewN ?_ _ | refine blk_drew ?_ | refine blk_alloc ?_ _)); refine blk_put (cs := #[.int .i64 ((rd_T27 x5_1 0).f0), .int .u64 ((rd_T27 x5_1 0).f1.f0), .int .u64 ((rd_T27 x5_1 0).f1.f1), .int .u64 ((rd_T27 x5_1 0).f1.f2), .int .u64 ((rd_T27 x5_1 0).f1.f3), .slice A238_5 ((rd_T27 x5_1 0).f2).length c238_5, .int .i64 0, .int .i64 0]) ?_ 6 _ rfl; (with_reducible repeat (first | refine blk_drewN ?_ _ | refine blk_drew ?_ | refine blk_alloc ?_ _)); refine blk_put (cs := #[.int .i64 ((rd_T27 x5_1 0).f0), .int .u64 ((rd_T27 x5_1 0).f1.f0), .int .u64 ((rd_T27 x5_1 0).f1.f1), .int .u64 ((rd_T27 x5_1 0).f1.f2), .int .u64 ((rd_T27 x5_1 0).f1.f3), .slice none 0 0, .int .i64 0, .int .i64 0]) ?_ 5 _ rfl; (with_reducible repeat (first | refine blk_drewN ?_ _ | refine blk_drew ?_ | refine blk_alloc ?_ _)); refine blk_put (cs := #[.int .i64 ((rd_T27 x5_1 0).f0), .int .u64 ((rd_T27 x5_1 0).f1.f0), .int .u64 ((rd_T27 x5_1 0).f1.f1), .int .u64 ((rd_T27 x5_1 0).f1.f2), .int .u64 0, .slice none 0 0, .int .i64 0, .int .i64 0]) ?_ 4 _ rfl; (with_reducible repeat (first | refine blk_drewN ?_ _ | refine blk_drew ?_ | refine blk_alloc ?_ _)); refine blk_put (cs := #[.int .i64 ((rd_T27 x5_1 0).f0), .int .u64 ((rd_T27 x5_1 0).f1.f0), .int .u64 ((rd_T27 x5_1 0).f1.f1), .int .u64 0, .int .u64 0, .slice none 0 0, .int .i64 0, .int .i64 0]) ?_ 3 _ rfl; (with_reducible repeat (first | refine blk_drewN ?_ _ | refine blk_drew ?_ | refine blk_alloc ?_ _)); refine blk_put (cs := #[.int .i64 ((rd_T27 x5_1 0).f0), .int .u64 ((rd_T27 x5_1 0).f1.f0), .int .u64 0, .int .u64 0, .int .u64 0, .slice none 0 0, .int .i64 0, .int .i64 0]) ?_ 2 _ rfl; (with_reducible repeat (first | refine blk_drewN ?_ _ | refine blk_drew ?_ | refine blk_alloc ?_ _)); refine blk_put (cs := #[.int .i64 ((rd_T27 x5_1 0).f0), .int .u64 0, .int .u64 0, .int .u64 0, .int .u64 0, .slice none 0 0, .int .i64 0, .int .i64 0]) ?_ 1 _ rfl; (with_reducible repeat (first | refine blk_drewN ?_ _ | refine blk_drew ?_ | refine blk_alloc ?_ _)); refine blk_put (cs := #[.int .i64 0, .int .u64 0, .int .u64 0, .int .u64 0, .int .u64 0, .slice none 0 0, .int .i64 0, .int .i64 0]) ?_ 0 _ rfl; (with_reducible repeat (first | refine blk_drewN ?_ _ | refine blk_drew ?_ | refine blk_alloc ?_ _)); exact BK217.out) Try.underlying27 rfl (by kernel_rfl)) rfl ?_
               exact ⟨_, by first | rfl | (simp [errW_none, errW_some] <;> rfl) | (simp [*, errW_none, errW_some] <;> rfl), by (with_reducible repeat (first | apply Kd.V_alloc | apply Kd.V_drewN | apply Kd.V_drew)); exact Kd.V_mono (Kd.V_far (p := ⟨gb217, 7, none⟩) (Kd.V_far (p := ⟨gb217, 6, none⟩) (Kd.V_far (p := ⟨gb217, 5, none⟩) (Kd.V_far (p := ⟨gb217, 4, none⟩) (Kd.V_far (p := ⟨gb217, 3, none⟩) (Kd.V_far (p := ⟨gb217, 2, none⟩) (Kd.V_far (p := ⟨gb217, 1, none⟩) (Kd.V_far (p := ⟨gb217, 0, none⟩) (Kd.V_mono HL238_5.out (fun k_ hk => (⟨hk, hk.1.2.2⟩ : _ ∧ k_ ≠ gb217))) (fun _ hk => hk.2) (.int .i64 ((rd_T27 x5_1 0).f0))) (fun _ hk => hk.2) (.int .u64 ((rd_T27 x5_1 0).f1.f0))) (fun _ hk => hk.2) (.int .u64 ((rd_T27 x5_1 0).f1.f1))) (fun _ hk => hk.2) (.int .u64 ((rd_T27 x5_1 0).f1.f2))) (fun _ hk => hk.2) (.int .u64 ((rd_T27 x5_1 0).f1.f3))) (fun _ hk => hk.2) (.slice A238_5 ((rd_T27 x5_1 0).f2).length c238_5)) (fun _ hk => hk.2) (.int .i64 ((rd_T27 x5_1 0).f3))) (fun _ hk => hk.2) (.int .i64 ((rd_T27 x5_1 0).f4))) (fun _ hk => hk.1.1.1), by repeat (first | (with_reducible first | exact HB.out | apply below_alloc | apply pw_below_drewN | apply below_drew1 | refine below_set ?_ GE216.out | refine below_set ?_ GE217.out) | exact HB.out)⟩
              ·
               rw [if_neg c59] at H
               exact absurd H (by simp)
             ·
              replace c58 := Bool.eq_false_iff.mpr c58
              subst c58
              have H1 : (if t236 = true then (some (4, 0, 0, 0, 0, x5_1, 0, a0_7)) else (some (4, 0, 0, 0, 0, x5_1, a0_6, a0_7))) = some (r1, r2, r3, r4, r5, r6, r7, r8) := by rw [if_neg (show ¬ (false = true) by decide)] at H; exact H
              clear H
              have H := H1
              clear H1
              by_cases c62 : t236 = true
              ·
               subst c62
               have H1 : (some (4, 0, 0, 0, 0, x5_1, 0, a0_7)) = some (r1, r2, r3, r4, r5, r6, r7, r8) := by rw [if_pos rfl] at H; exact H
               clear H
               have H := H1
               clear H1
               simp only [Option.some.injEq, Prod.mk.injEq] at H
               obtain ⟨rfl, rfl, rfl, rfl, rfl, rfl, rfl, rfl⟩ := H
               have hnb63 := NB216_217.out
               have hnc63 := NB217_216.out
               obtain ⟨hcz64_0, hcz64_1, hcz64_2, hcz64_3, hcz64_4, hcz64_5, hcz64_6, hcz64_7, hfz64_0, hfz64_1, hfz64_2, hfz64_3, hfz64_4, hfz64_5, hfz64_6, hfz64_7⟩ := blk8 BK216.out
               have hy0 : ∀ o, (wc.alloc o).cell? ⟨gb217, 0, none⟩ = some (.int .i64 0) := fun o => (blk_cell (blk_alloc BK217.out o) 0).trans rfl
               have hy1 : ∀ o, (wc.alloc o).cell? ⟨gb217, 1, none⟩ = some (.int .u64 0) := fun o => (blk_cell (blk_alloc BK217.out o) 1).trans rfl
               have hy2 : ∀ o, (wc.alloc o).cell? ⟨gb217, 2, none⟩ = some (.int .u64 0) := fun o => (blk_cell (blk_alloc BK217.out o) 2).trans rfl
               have hy3 : ∀ o, (wc.alloc o).cell? ⟨gb217, 3, none⟩ = some (.int .u64 0) := fun o => (blk_cell (blk_alloc BK217.out o) 3).trans rfl
               have hy4 : ∀ o, (wc.alloc o).cell? ⟨gb217, 4, none⟩ = some (.int .u64 0) := fun o => (blk_cell (blk_alloc BK217.out o) 4).trans rfl
               have hy5 : ∀ o, (wc.alloc o).cell? ⟨gb217, 5, none⟩ = some (.slice none 0 0) := fun o => (blk_cell (blk_alloc BK217.out o) 5).trans rfl
               have hy6 : ∀ o, (wc.alloc o).cell? ⟨gb217, 6, none⟩ = some (.int .i64 0) := fun o => (blk_cell (blk_alloc BK217.out o) 6).trans rfl
               have hy7 : ∀ o, (wc.alloc o).cell? ⟨gb217, 7, none⟩ = some (.int .i64 0) := fun o => (blk_cell (blk_alloc BK217.out o) 7).trans rfl
               have hf0 : ∀ o, (wc.alloc o).frozen? ⟨gb217, 0, none⟩ = false := fun o => blk_frozen (blk_alloc BK217.out o) 0
               have hf1 : ∀ o, (wc.alloc o).frozen? ⟨gb217, 1, none⟩ = false := fun o => blk_frozen (blk_alloc BK217.out o) 1
               have hf2 : ∀ o, (wc.alloc o).frozen? ⟨gb217, 2, none⟩ = false := fun o => blk_frozen (blk_alloc BK217.out o) 2
               have hf3 : ∀ o, (wc.alloc o).frozen? ⟨gb217, 3, none⟩ = false := fun o => blk_frozen (blk_alloc BK217.out o) 3
               have hf4 : ∀ o, (wc.alloc o).frozen? ⟨gb217, 4, none⟩ = false := fun o => blk_frozen (blk_alloc BK217.out o) 4
               have hf5 : ∀ o, (wc.alloc o).frozen? ⟨gb217, 5, none⟩ = false := fun o => blk_frozen (blk_alloc BK217.out o) 5
               have hf6 : ∀ o, (wc.alloc o).frozen? ⟨gb217, 6, none⟩ = false := fun o => blk_frozen (blk_alloc BK217.out o) 6
               have hf7 : ∀ o, (wc.alloc o).frozen? ⟨gb217, 7, none⟩ = false := fun o => blk_frozen (blk_alloc BK217.out o) 7
               go_wp2_with fail
               refine bodyPost_ret (results_cell_row rfl _ _ gb217 27 #[.int .i64 4, .int .u64 0, .int .u64 0, .int .u64 0, .int .u64 0, .slice (some ad234) x5_1.length co39, .int .i64 0, .int .i64 a0_7] (0, 0) _ rfl (by (with_reducible repeat (first | refine blk_drewN ?_ _ | refine blk_drew ?_ | refine blk_alloc ?_ _)); refine blk_put (cs := #[.int .i64 4, .int .u64 0, .int .u64 0, .int .u64 0, .int .u64 0, .slice (some ad234) x5_1.length co39, .int .i64 0, .int .i64 0]) ?_ 7 _ rfl; (with_reducible repeat (first | refine blk_drewN ?_ _ | refine blk_drew ?_ | refine blk_alloc ?_ _)); refine blk_put (cs := #[.int .i64 4, .int .u64 0, .int .u64 0, .int .u64 0, .int .u64 0, .slice (some ad234) x5_1.length co39, .int .i64 0, .int .i64 0]) ?_ 6 _ rfl; (with_reducible repeat (first | refine blk_drewN ?_ _ | refine blk_drew ?_ | refine blk_alloc ?_ _)); refine blk_put (cs := #[.int .i64 4, .int .u64 0, .int .u64 0, .int .u64 0, .int .u64 0, .slice none 0 0, .int .i64 0, .int .i64 0]) ?_ 5 _ rfl; (with_reducible repeat (first | refine blk_drewN ?_ _ | refine blk_drew ?_ | refine blk_alloc ?_ _)); refine blk_put (cs := #[.int .i64 4, .int .u64 0, .int .u64 0, .int .u64 0, .int .u64 0, .slice none 0 0, .int .i64 0, .int .i64 0]) ?_ 4 _ rfl; (with_reducible repeat (first | refine blk_drewN ?_ _ | refine blk_drew ?_ | refine blk_alloc ?_ _)); refine blk_put (cs := #[.int .i64 4, .int .u64 0, .int .u64 0, .int .u64 0, .int .u64 0, .slice none 0 0, .int .i64 0, .int .i64 0]) ?_ 3 _ rfl; (with_reducible repeat (first | refine blk_drewN ?_ _ | refine blk_drew ?_ | refine blk_alloc ?_ _)); refine blk_put (cs := #[.int .i64 4, .int .u64 0, .int .u64 0, .int .u64 0, .int .u64 0, .slice none 0 0, .int .i64 0, .int .i64 0]) ?_ 2 _ rfl; (with_reducible repeat (first | refine blk_drewN ?_ _ | refine blk_drew ?_ | refine blk_alloc ?_ _)); refine blk_put (cs := #[.int .i64 4, .int .u64 0, .int .u64 0, .int .u64 0, .int .u64 0, .slice none 0 0, .int .i64 0, .int .i64 0]) ?_ 1 _ rfl; (with_reducible repeat (first | refine blk_drewN ?_ _ | refine blk_drew ?_ | refine blk_alloc ?_ _)); refine blk_put (cs := #[.int .i64 0, .int .u64 0, .int .u64 0, .int .u64 0, .int .u64 0, .slice none 0 0, .int .i64 0, .int .i64 0]) ?_ 0 _ rfl; (with_reducible repeat (first | refine blk_drewN ?_ _ | refine blk_drew ?_ | refine blk_alloc ?_ _)); exact BK217.out) Try.underlying27 rfl (by kernel_rfl)) rfl ?_
               exact ⟨_, by first | rfl | (simp [errW_none, errW_some] <;> rfl) | (simp [*, errW_none, errW_some] <;> rfl), Kd.N_V (by (with_reducible repeat (first | apply Kd.N_alloc | apply Kd.N_drewN | apply Kd.N_drew)); exact Kd.N_mono (Kd.N_far (p := ⟨gb217, 7, none⟩) (Kd.N_far (p := ⟨gb217, 6, none⟩) (Kd.N_far (p := ⟨gb217, 5, none⟩) (Kd.N_far (p := ⟨gb217, 4, none⟩) (Kd.N_far (p := ⟨gb217, 3, none⟩) (Kd.N_far (p := ⟨gb217, 2, none⟩) (Kd.N_far (p := ⟨gb217, 1, none⟩) (Kd.N_far (p := ⟨gb217, 0, none⟩) (Kd.N_mono (Kd.N_alloc HO_5.out _) (fun k_ hk => (⟨hk, hk.2.2⟩ : _ ∧ k_ ≠ gb217))) (fun _ hk => hk.2) (.int .i64 4)) (fun _ hk => hk.2) (.int .u64 0)) (fun _ hk => hk.2) (.int .u64 0)) (fun _ hk => hk.2) (.int .u64 0)) (fun _ hk => hk.2) (.int .u64 0)) (fun _ hk => hk.2) (.slice (some ad234) x5_1.length co39)) (fun _ hk => hk.2) (.int .i64 0)) (fun _ hk => hk.2) (.int .i64 a0_7)) (fun _ hk => hk.1.1)), by repeat (first | (with_reducible first | exact HB.out | apply below_alloc | apply pw_below_drewN | apply below_drew1 | refine below_set ?_ GE216.out | refine below_set ?_ GE217.out) | exact HB.out)⟩
              ·
               replace c62 := Bool.eq_false_iff.mpr c62
               subst c62
               have H1 : (some (4, 0, 0, 0, 0, x5_1, a0_6, a0_7)) = some (r1, r2, r3, r4, r5, r6, r7, r8) := by rw [if_neg (show ¬ (false = true) by decide)] at H; exact H
               clear H
               have H := H1
               clear H1
               simp only [Option.some.injEq, Prod.mk.injEq] at H
               obtain ⟨rfl, rfl, rfl, rfl, rfl, rfl, rfl, rfl⟩ := H
               have hnb70 := NB216_217.out
               have hnc70 := NB217_216.out
               obtain ⟨hcz71_0, hcz71_1, hcz71_2, hcz71_3, hcz71_4, hcz71_5, hcz71_6, hcz71_7, hfz71_0, hfz71_1, hfz71_2, hfz71_3, hfz71_4, hfz71_5, hfz71_6, hfz71_7⟩ := blk8 BK216.out
               have hy0 : ∀ o, (wc.alloc o).cell? ⟨gb217, 0, none⟩ = some (.int .i64 0) := fun o => (blk_cell (blk_alloc BK217.out o) 0).trans rfl
               have hy1 : ∀ o, (wc.alloc o).cell? ⟨gb217, 1, none⟩ = some (.int .u64 0) := fun o => (blk_cell (blk_alloc BK217.out o) 1).trans rfl
               have hy2 : ∀ o, (wc.alloc o).cell? ⟨gb217, 2, none⟩ = some (.int .u64 0) := fun o => (blk_cell (blk_alloc BK217.out o) 2).trans rfl
               have hy3 : ∀ o, (wc.alloc o).cell? ⟨gb217, 3, none⟩ = some (.int .u64 0) := fun o => (blk_cell (blk_alloc BK217.out o) 3).trans rfl
               have hy4 : ∀ o, (wc.alloc o).cell? ⟨gb217, 4, none⟩ = some (.int .u64 0) := fun o => (blk_cell (blk_alloc BK217.out o) 4).trans rfl
               have hy5 : ∀ o, (wc.alloc o).cell? ⟨gb217, 5, none⟩ = some (.slice none 0 0) := fun o => (blk_cell (blk_alloc BK217.out o) 5).trans rfl
               have hy6 : ∀ o, (wc.alloc o).cell? ⟨gb217, 6, none⟩ = some (.int .i64 0) := fun o => (blk_cell (blk_alloc BK217.out o) 6).trans rfl
               have hy7 : ∀ o, (wc.alloc o).cell? ⟨gb217, 7, none⟩ = some (.int .i64 0) := fun o => (blk_cell (blk_alloc BK217.out o) 7).trans rfl
               have hf0 : ∀ o, (wc.alloc o).frozen? ⟨gb217, 0, none⟩ = false := fun o => blk_frozen (blk_alloc BK217.out o) 0
               have hf1 : ∀ o, (wc.alloc o).frozen? ⟨gb217, 1, none⟩ = false := fun o => blk_frozen (blk_alloc BK217.out o) 1
               have hf2 : ∀ o, (wc.alloc o).frozen? ⟨gb217, 2, none⟩ = false := fun o => blk_frozen (blk_alloc BK217.out o) 2
               have hf3 : ∀ o, (wc.alloc o).frozen? ⟨gb217, 3, none⟩ = false := fun o => blk_frozen (blk_alloc BK217.out o) 3
               have hf4 : ∀ o, (wc.alloc o).frozen? ⟨gb217, 4, none⟩ = false := fun o => blk_frozen (blk_alloc BK217.out o) 4
               have hf5 : ∀ o, (wc.alloc o).frozen? ⟨gb217, 5, none⟩ = false := fun o => blk_frozen (blk_alloc BK217.out o) 5
               have hf6 : ∀ o, (wc.alloc o).frozen? ⟨gb217, 6, none⟩ = false := fun o => blk_frozen (blk_alloc BK217.out o) 6
               have hf7 : ∀ o, (wc.alloc o).frozen? ⟨gb217, 7, none⟩ = false := fun o => blk_frozen (blk_alloc BK217.out o) 7
               go_wp2_with fail
               refine bodyPost_ret (results_cell_row rfl _ _ gb217 27 #[.int .i64 4, .int .u64 0, .int .u64 0, .int .u64 0, .int .u64 0, .slice (some ad234) x5_1.length co39, .int .i64 a0_6, .int .i64 a0_7] (0, 0) _ rfl (by (with_reducible repeat (first | refine blk_drewN ?_ _ | refine blk_drew ?_ | refine blk_alloc ?_ _)); refine blk_put (cs := #[.int .i64 4, .int .u64 0, .int .u64 0, .int .u64 0, .int .u64 0, .slice (some ad234) x5_1.length co39, .int .i64 a0_6, .int .i64 0]) ?_ 7 _ rfl; (with_reducible repeat (first | refine blk_drewN ?_ _ | refine blk_drew ?_ | refine blk_alloc ?_ _)); refine blk_put (cs := #[.int .i64 4, .int .u64 0, .int .u64 0, .int .u64 0, .int .u64 0, .slice (some ad234) x5_1.length co39, .int .i64 0, .int .i64 0]) ?_ 6 _ rfl; (with_reducible repeat (first | refine blk_drewN ?_ _ | refine blk_drew ?_ | refine blk_alloc ?_ _)); refine blk_put (cs := #[.int .i64 4, .int .u64 0, .int .u64 0, .int .u64 0, .int .u64 0, .slice none 0 0, .int .i64 0, .int .i64 0]) ?_ 5 _ rfl; (with_reducible repeat (first | refine blk_drewN ?_ _ | refine blk_drew ?_ | refine blk_alloc ?_ _)); refine blk_put (cs := #[.int .i64 4, .int .u64 0, .int .u64 0, .int .u64 0, .int .u64 0, .slice none 0 0, .int .i64 0, .int .i64 0]) ?_ 4 _ rfl; (with_reducible repeat (first | refine blk_drewN ?_ _ | refine blk_drew ?_ | refine blk_alloc ?_ _)); refine blk_put (cs := #[.int .i64 4, .int .u64 0, .int .u64 0, .int .u64 0, .int .u64 0, .slice none 0 0, .int .i64 0, .int .i64 0]) ?_ 3 _ rfl; (with_reducible repeat (first | refine blk_drewN ?_ _ | refine blk_drew ?_ | refine blk_alloc ?_ _)); refine blk_put (cs := #[.int .i64 4, .int .u64 0, .int .u64 0, .int .u64 0, .int .u64 0, .slice none 0 0, .int .i64 0, .int .i64 0]) ?_ 2 _ rfl; (with_reducible repeat (first | refine blk_drewN ?_ _ | refine blk_drew ?_ | refine blk_alloc ?_ _)); refine blk_put (cs := #[.int .i64 4, .int .u64 0, .int .u64 0, .int .u64 0, .int .u64 0, .slice none 0 0, .int .i64 0, .int .i64 0]) ?_ 1 _ rfl; (with_reducible repeat (first | refine blk_drewN ?_ _ | refine blk_drew ?_ | refine blk_alloc ?_ _)); refine blk_put (cs := #[.int .i64 0, .int .u64 0, .int .u64 0, .int .u64 0, .int .u64 0, .slice none 0 0, .int .i64 0, .int .i64 0]) ?_ 0 _ rfl; (with_reducible repeat (first | refine blk_drewN ?_ _ | refine blk_drew ?_ | refine blk_alloc ?_ _)); exact BK217.out) Try.underlying27 rfl (by kernel_rfl)) rfl ?_
               exact ⟨_, by first | rfl | (simp [errW_none, errW_some] <;> rfl) | (simp [*, errW_none, errW_some] <;> rfl), Kd.N_V (by (with_reducible repeat (first | apply Kd.N_alloc | apply Kd.N_drewN | apply Kd.N_drew)); exact Kd.N_mono (Kd.N_far (p := ⟨gb217, 7, none⟩) (Kd.N_far (p := ⟨gb217, 6, none⟩) (Kd.N_far (p := ⟨gb217, 5, none⟩) (Kd.N_far (p := ⟨gb217, 4, none⟩) (Kd.N_far (p := ⟨gb217, 3, none⟩) (Kd.N_far (p := ⟨gb217, 2, none⟩) (Kd.N_far (p := ⟨gb217, 1, none⟩) (Kd.N_far (p := ⟨gb217, 0, none⟩) (Kd.N_mono (Kd.N_alloc HO_5.out _) (fun k_ hk => (⟨hk, hk.2.2⟩ : _ ∧ k_ ≠ gb217))) (fun _ hk => hk.2) (.int .i64 4)) (fun _ hk => hk.2) (.int .u64 0)) (fun _ hk => hk.2) (.int .u64 0)) (fun _ hk => hk.2) (.int .u64 0)) (fun _ hk => hk.2) (.int .u64 0)) (fun _ hk => hk.2) (.slice (some ad234) x5_1.length co39)) (fun _ hk => hk.2) (.int .i64 a0_6)) (fun _ hk => hk.2) (.int .i64 a0_7)) (fun _ hk => hk.1.1)), by repeat (first | (with_reducible first | exact HB.out | apply below_alloc | apply pw_below_drewN | apply below_drew1 | refine below_set ?_ GE216.out | refine below_set ?_ GE217.out) | exact HB.out)⟩
       ·
        rw [if_neg c34] at H
        exact absurd H (by simp)
      ·
       rw [if_neg c33] at H
       have c33b0 : (a0_0 == 4) = false := beq_eq_false_iff_ne.mpr c33
       have c33b1 : (a0_0 != 4) = true := bne_iff_ne.mpr c33
       replace H := Option.bind_eq_some_iff.mp H
       obtain ⟨t240, A770, H⟩ := H
       replace H : (ostinatoref04_Simple.l1 k1 t240 ([] : List (S27)) 0 a0_0 a0_1 a0_2 a0_3 a0_4 l0_5 a0_6 a0_7) = some (r1, r2, r3, r4, r5, r6, r7, r8) := H
       have A77 := Aside0.mk A770
       clear A770
       have H' := Aside0.mk H
       clear H
       have hnb78 := NB216_217.out
       have hnc78 := NB217_216.out
       obtain ⟨hcz79_0, hcz79_1, hcz79_2, hcz79_3, hcz79_4, hcz79_5, hcz79_6, hcz79_7, hfz79_0, hfz79_1, hfz79_2, hfz79_3, hfz79_4, hfz79_5, hfz79_6, hfz79_7⟩ := blk8 BK216.out
       obtain ⟨Ao80, co80, eo80⟩ := Kd.N_slice HO_5.out
       subst eo80
       go_wp2_with (first | ((with_reducible refine gate_callee (f := 22) rfl ?_); refine goesL_ (some 90) rfl rfl Try.func22 (by kernel_rfl) rfl #[.int .i64 a0_0, .slice Ao80 x5_1.length co80] rfl (by (try simp only [List.map_toArray, List.map_cons, List.map_nil]); first | done | rfl | (simp only [List.length_drop, List.length_take]; rfl)) ?_; (with_reducible refine (ostinatoref04_spread.calls k1 a0_0 (fun k_ => ((P0_5_ k_ ∨ w.heap.size ≤ k_) ∧ (k_ ≠ gb216 ∧ k_ ≠ gb217))) _ _ x5_1 t240 _ ?side1 A77.out).mono ?_); (case side1 => exact Kd.N_V (HO_5.out)); rintro e w81 ⟨v241, rfl, ho0, hb⟩; refine ⟨_, rfl, ?_⟩; have n0_ := Aside0.mk (Kd.N_elder' (by (with_reducible repeat (first | apply Kd.N_alloc | apply Kd.N_drewN | apply Kd.N_drew)); exact HO_5.out) (Kd.N_base ho0) hb); have n1_ := Aside0.mk (Kd.V_elder' (by (with_reducible repeat (first | apply Kd.V_alloc | apply Kd.V_drewN | apply Kd.V_drew)); exact HO_217005.out) (Kd.N_base ho0) hb); have n2_ := Aside0.mk (Kd.N_lower (Kd.N_mono (ok' := fun k_ => (P0_5_ k_ ∨ w.heap.size ≤ k_) ∧ k_ ≠ gb216 ∧ k_ ≠ gb217) ho0 (fun k_ hk_ => ⟨Or.elim hk_ (fun hs_ => hs_.1) (fun hn_ => (.inr (Nat.le_trans (below_size (by repeat (first | (with_reducible first | exact HB.out | apply below_alloc | apply pw_below_drewN | apply below_drew1 | refine below_set ?_ GE216.out | refine below_set ?_ GE217.out) | exact HB.out))) hn_))), Or.elim hk_ (fun hs_ => hs_.2.1) (fun hn_ => (Kd.freshB (g := gb216) (o := .cells #[.int .i64 a0_0, .int .u64 a0_1, .int .u64 a0_2, .int .u64 a0_3, .int .u64 a0_4, .slice A0_5 l0_5.length c0_5, .int .i64 a0_6, .int .i64 a0_7] 27 (0, 0)) (by (with_reducible repeat (first | refine blk_drewN ?_ _ | refine blk_drew ?_ | refine blk_alloc ?_ _)); exact BK216.out) k_ hn_)), Or.elim hk_ (fun hs_ => hs_.2.2) (fun hn_ => (Kd.freshB (g := gb217) (o := .cells #[.int .i64 0, .int .u64 0, .int .u64 0, .int .u64 0, .int .u64 0, .slice none 0 0, .int .i64 0, .int .i64 0] 27 (0, 0)) (by (with_reducible repeat (first | refine blk_drewN ?_ _ | refine blk_drew ?_ | refine blk_alloc ?_ _)); exact BK217.out) k_ hn_))⟩)) (below_size (by repeat (first | (with_reducible first | exact HB.out | apply below_alloc | apply pw_below_drewN | apply below_drew1 | refine below_set ?_ GE216.out | refine below_set ?_ GE217.out) | exact HB.out)))); have n3_ := Aside0.mk (blk_below (g := gb216) (o := .cells #[.int .i64 a0_0, .int .u64 a0_1, .int .u64 a0_2, .int .u64 a0_3, .int .u64 a0_4, .slice A0_5 l0_5.length c0_5, .int .i64 a0_6, .int .i64 a0_7] 27 (0, 0)) (by (with_reducible repeat (first | refine blk_drewN ?_ _ | refine blk_drew ?_ | refine blk_alloc ?_ _)); exact BK216.out) hb); have n4_ := Aside0.mk (blk_below (g := gb217) (o := .cells #[.int .i64 0, .int .u64 0, .int .u64 0, .int .u64 0, .int .u64 0, .slice none 0 0, .int .i64 0, .int .i64 0] 27 (0, 0)) (by (with_reducible repeat (first | refine blk_drewN ?_ _ | refine blk_drew ?_ | refine blk_alloc ?_ _)); exact BK217.out) hb); have n5_ := Aside0.mk (below_step (by repeat (first | (with_reducible first | exact HB.out | apply below_alloc | apply pw_below_drewN | apply below_drew1 | refine below_set ?_ GE216.out | refine below_set ?_ GE217.out) | exact HB.out)) hb); clear HO_5; clear HO_217005; clear BK216; clear BK217; clear HB; have HO_5 := n0_; have HO_217005 := n1_; have HO242 := n2_; have BK216 := n3_; have BK217 := n4_; have HB := n5_; clear n0_ n1_ n2_ n3_ n4_ n5_; (try clear hb); (try clear hb2); (try clear hk); (try clear hi); (try clear ho0)))
       go_loopg [10, 11] k1 (fun kq v10 v11 w' => ∃ (x10_2 : List (S27)) (x11_2 : Int), v11 = .int .i64 x11_2 ∧ Aside0 (ostinatoref04_Simple.l1 kq t240 x10_2 x11_2 a0_0 a0_1 a0_2 a0_3 a0_4 l0_5 a0_6 a0_7 = some (r1, r2, r3, r4, r5, r6, r7, r8)) ∧ Aside0 (kq ≤ k1) ∧ Aside0 (Kd.N k27 27 w' w.heap.size (fun k_ => (P0_5_ k_ ∨ w.heap.size ≤ k_) ∧ some k_ ≠ (v10 : Value).ownBlock ∧ k_ ≠ gb216 ∧ k_ ≠ gb217) v241 t240) ∧ Aside0 (Kd.N k27 27 w' w.heap.size (fun k_ => (P0_5_ k_ ∨ w.heap.size ≤ k_) ∧ some k_ ≠ (v241 : Value).ownBlock ∧ k_ ≠ gb216 ∧ k_ ≠ gb217) v10 x10_2) ∧ Aside0 (Kd.V k27 27 w' w.heap.size (fun k_ => (P0_5_ k_ ∨ w.heap.size ≤ k_) ∧ some k_ ≠ (v241 : Value).ownBlock ∧ some k_ ≠ (v10 : Value).ownBlock ∧ k_ ≠ gb216 ∧ k_ ≠ gb217) (.slice A0_5 l0_5.length c0_5) l0_5) ∧ Aside0 (w'.heap[gb216]? = some (.cells #[.int .i64 a0_0, .int .u64 a0_1, .int .u64 a0_2, .int .u64 a0_3, .int .u64 a0_4, (.slice A0_5 l0_5.length c0_5), .int .i64 a0_6, .int .i64 a0_7] 27 (0, 0))) ∧ Aside0 (w'.heap[gb217]? = some (.cells #[.int .i64 0, .int .u64 0, .int .u64 0, .int .u64 0, .int .u64 0, (.slice none 0 0), .int .i64 0, .int .i64 0] 27 (0, 0))) ∧ Aside0 (Below w.heap.size w w'))
       case atStart => exact ⟨(([] : List (S27))), (0), (by first | rfl | (simp; done) | (simp [*]; done)), H', ⟨Nat.le_refl _⟩, ⟨by (with_reducible repeat (first | apply Kd.N_alloc | apply Kd.N_drewN | apply Kd.N_drew)); exact Kd.N_mono HO242.out (fun _ hk => ⟨hk.1, ⟨(by simp [Value.ownBlock]), ⟨hk.2.1, hk.2.2⟩⟩⟩)⟩, ⟨by first | exact Kd.R_nil _ _ _ _ _ | exact Kd.N_nil _ _ _ _ _ | exact Kd.V_nil _ _ _ _ _ | exact Kd.Q_nil _ _ _ _ _ | exact Kd.S_nil _ _ _ _ _⟩, ⟨by (with_reducible repeat (first | apply Kd.V_alloc | apply Kd.V_drewN | apply Kd.V_drew)); exact Kd.V_mono HO_217005.out (fun _ hk => ⟨hk.1.1, ⟨hk.2, ⟨(by simp [Value.ownBlock]), ⟨hk.1.2.2.1, hk.1.2.2.2⟩⟩⟩⟩)⟩, ⟨by (with_reducible repeat (first | refine blk_drewN ?_ _ | refine blk_drew ?_ | refine blk_alloc ?_ _)); exact BK216.out⟩, ⟨by (with_reducible repeat (first | refine blk_drewN ?_ _ | refine blk_drew ?_ | refine blk_alloc ?_ _)); exact BK217.out⟩, ⟨by repeat (first | (with_reducible first | exact HB.out | apply below_alloc | apply pw_below_drewN | apply below_drew1 | refine below_set ?_ GE216.out | refine below_set ?_ GE217.out) | exact HB.out)⟩⟩
       case round =>
        clear H'
        (try clear c1); (try clear c2); (try clear p2 p2); (try clear q2 q2); (try clear hx2); (try clear qi2); (try clear c3); (try clear c4); (try clear c5); (try clear c6); (try clear p6 p6); (try clear c7); (try clear c10); (try clear c10b0); (try clear c13); (try clear c16); (try clear c20); (try clear c22); (try clear p22 p22); (try clear q22 q22); (try clear hx22); (try clear c23); (try clear p23 p23); (try clear q23 q23); (try clear hx23); (try clear qi23); (try clear c24); (try clear c24b0); (try clear c25); (try clear c25b0); (try clear c27); (try clear c28); (try clear c33); (try clear c33b0); (try clear c33b1); (try clear c34); (try clear c34b0); (try clear c34b1); (try clear c37); (try clear c41); (try clear c41b0); (try clear c41b1); (try clear c42); (try clear c44); (try clear c44b0); (try clear c44b1); (try clear c45); (try clear c47); (try clear c49); (try clear c50); (try clear c53); (try clear c53b0); (try clear c53b1); (try clear c54); (try clear c56); (try clear c58); (try clear c59); (try clear c59b0); (try clear c59b1); (try clear c60); (try clear c62); (try clear c63); (try clear c66); (try clear c67); (try clear c70); (try clear c73); (try clear c74); (try clear c78); (try clear hcz14_0 hcz14_1 hcz14_2 hcz14_3 hcz14_4 hcz14_5 hcz14_6 hcz14_7); (try clear hcz16_0 hcz16_1 hcz16_2 hcz16_3 hcz16_4 hcz16_5 hcz16_6 hcz16_7); (try clear hcz17_0 hcz17_1 hcz17_2 hcz17_3 hcz17_4 hcz17_5 hcz17_6 hcz17_7); (try clear hcz21_0 hcz21_1 hcz21_2 hcz21_3 hcz21_4 hcz21_5 hcz21_6 hcz21_7); (try clear hcz23_0 hcz23_1 hcz23_2 hcz23_3 hcz23_4 hcz23_5 hcz23_6 hcz23_7); (try clear hcz29_0 hcz29_1 hcz29_2 hcz29_3 hcz29_4 hcz29_5 hcz29_6 hcz29_7); (try clear hcz38_0 hcz38_1 hcz38_2 hcz38_3 hcz38_4 hcz38_5 hcz38_6 hcz38_7); (try clear hcz43_0 hcz43_1 hcz43_2 hcz43_3 hcz43_4 hcz43_5 hcz43_6 hcz43_7); (try clear hcz46_0 hcz46_1 hcz46_2 hcz46_3 hcz46_4 hcz46_5 hcz46_6 hcz46_7); (try clear hcz48_0 hcz48_1 hcz48_2 hcz48_3 hcz48_4 hcz48_5 hcz48_6 hcz48_7); (try clear hcz51_0 hcz51_1 hcz51_2 hcz51_3 hcz51_4 hcz51_5 hcz51_6 hcz51_7); (try clear hcz55_0 hcz55_1 hcz55_2 hcz55_3 hcz55_4 hcz55_5 hcz55_6 hcz55_7); (try clear hcz57_0 hcz57_1 hcz57_2 hcz57_3 hcz57_4 hcz57_5 hcz57_6 hcz57_7); (try clear hcz61_0 hcz61_1 hcz61_2 hcz61_3 hcz61_4 hcz61_5 hcz61_6 hcz61_7); (try clear hcz64_0 hcz64_1 hcz64_2 hcz64_3 hcz64_4 hcz64_5 hcz64_6 hcz64_7); (try clear hcz68_0 hcz68_1 hcz68_2 hcz68_3 hcz68_4 hcz68_5 hcz68_6 hcz68_7); (try clear hcz69_0 hcz69_1 hcz69_2 hcz69_3 hcz69_4 hcz69_5 hcz69_6 hcz69_7); (try clear hcz71_0 hcz71_1 hcz71_2 hcz71_3 hcz71_4 hcz71_5 hcz71_6 hcz71_7); (try clear hcz75_0 hcz75_1 hcz75_2 hcz75_3 hcz75_4 hcz75_5 hcz75_6 hcz75_7); (try clear hcz76_0 hcz76_1 hcz76_2 hcz76_3 hcz76_4 hcz76_5 hcz76_6 hcz76_7); (try clear hcz79_0 hcz79_1 hcz79_2 hcz79_3 hcz79_4 hcz79_5 hcz79_6 hcz79_7); (try clear hcz7_0 hcz7_1 hcz7_2 hcz7_3 hcz7_4 hcz7_5 hcz7_6 hcz7_7); (try clear hcz9_0 hcz9_1 hcz9_2 hcz9_3 hcz9_4 hcz9_5 hcz9_6 hcz9_7); (try clear hfz14_0 hfz14_1 hfz14_2 hfz14_3 hfz14_4 hfz14_5 hfz14_6 hfz14_7); (try clear hfz16_0 hfz16_1 hfz16_2 hfz16_3 hfz16_4 hfz16_5 hfz16_6 hfz16_7); (try clear hfz17_0 hfz17_1 hfz17_2 hfz17_3 hfz17_4 hfz17_5 hfz17_6 hfz17_7); (try clear hfz21_0 hfz21_1 hfz21_2 hfz21_3 hfz21_4 hfz21_5 hfz21_6 hfz21_7); (try clear hfz23_0 hfz23_1 hfz23_2 hfz23_3 hfz23_4 hfz23_5 hfz23_6 hfz23_7); (try clear hfz29_0 hfz29_1 hfz29_2 hfz29_3 hfz29_4 hfz29_5 hfz29_6 hfz29_7); (try clear hfz38_0 hfz38_1 hfz38_2 hfz38_3 hfz38_4 hfz38_5 hfz38_6 hfz38_7); (try clear hfz43_0 hfz43_1 hfz43_2 hfz43_3 hfz43_4 hfz43_5 hfz43_6 hfz43_7); (try clear hfz46_0 hfz46_1 hfz46_2 hfz46_3 hfz46_4 hfz46_5 hfz46_6 hfz46_7); (try clear hfz48_0 hfz48_1 hfz48_2 hfz48_3 hfz48_4 hfz48_5 hfz48_6 hfz48_7); (try clear hfz51_0 hfz51_1 hfz51_2 hfz51_3 hfz51_4 hfz51_5 hfz51_6 hfz51_7); (try clear hfz55_0 hfz55_1 hfz55_2 hfz55_3 hfz55_4 hfz55_5 hfz55_6 hfz55_7); (try clear hfz57_0 hfz57_1 hfz57_2 hfz57_3 hfz57_4 hfz57_5 hfz57_6 hfz57_7); (try clear hfz61_0 hfz61_1 hfz61_2 hfz61_3 hfz61_4 hfz61_5 hfz61_6 hfz61_7); (try clear hfz64_0 hfz64_1 hfz64_2 hfz64_3 hfz64_4 hfz64_5 hfz64_6 hfz64_7); (try clear hfz68_0 hfz68_1 hfz68_2 hfz68_3 hfz68_4 hfz68_5 hfz68_6 hfz68_7); (try clear hfz69_0 hfz69_1 hfz69_2 hfz69_3 hfz69_4 hfz69_5 hfz69_6 hfz69_7); (try clear hfz71_0 hfz71_1 hfz71_2 hfz71_3 hfz71_4 hfz71_5 hfz71_6 hfz71_7); (try clear hfz75_0 hfz75_1 hfz75_2 hfz75_3 hfz75_4 hfz75_5 hfz75_6 hfz75_7); (try clear hfz76_0 hfz76_1 hfz76_2 hfz76_3 hfz76_4 hfz76_5 hfz76_6 hfz76_7); (try clear hfz79_0 hfz79_1 hfz79_2 hfz79_3 hfz79_4 hfz79_5 hfz79_6 hfz79_7); (try clear hfz7_0 hfz7_1 hfz7_2 hfz7_3 hfz7_4 hfz7_5 hfz7_6 hfz7_7); (try clear hfz9_0 hfz9_1 hfz9_2 hfz9_3 hfz9_4 hfz9_5 hfz9_6 hfz9_7); (try clear hx220_0 hx220_1 hx220_2 hx220_3 hx220_4 hx220_5 hx220_6 hx220_7); (try clear hx234_0 hx234_1 hx234_2 hx234_3 hx234_4 hx234_5 hx234_6 hx234_7); (try clear hx237_0 hx237_1 hx237_2 hx237_3 hx237_4 hx237_5 hx237_6 hx237_7); (try clear hx238_0 hx238_1 hx238_2 hx238_3 hx238_4 hx238_5 hx238_6 hx238_7); (try clear p220); (try clear p234); (try clear p237); (try clear p238); (try clear q220); (try clear q234); (try clear q237); (try clear q238)
        obtain ⟨x10_2, x11_2, rfl, HA, HK2, HO_5, HO_10, HO_217005, BK216, BK217, HB⟩ := hrel
        cases gk with
        | zero => exact absurd HA.out (by simp [ostinatoref04_Simple.l1])
        | succ k2 =>
         have H := HA.out
         clear HA
         simp only [ostinatoref04_Simple.l1] at H
         by_cases c82 : x11_2 < (t240.length : Int)
         ·
          rw [if_pos c82] at H
          have c82b0 : decide (x11_2 < (t240.length : Int)) = true := decide_eq_true c82
          clear c82
          by_cases c83 : 0 ≤ x11_2
          ·
           rw [if_pos c83] at H
           have c83b0 : decide (0 ≤ x11_2) = true := decide_eq_true c83
           clear c83
           replace H := Option.bind_eq_some_iff.mp H
           obtain ⟨⟨t244, t245⟩, A840, H⟩ := H
           replace H : (if a0_0 = 2 then (if ((rd_T27 t240 x11_2).f0) = 0 then (ostinatoref04_Simple.j4 k2 t240 x10_2 x11_2 true a0_0 a0_1 a0_2 a0_3 a0_4 l0_5 a0_6 a0_7) else (if a0_0 = 3 then (ostinatoref04_Simple.j4 k2 t240 x10_2 x11_2 t244 a0_0 a0_1 a0_2 a0_3 a0_4 l0_5 a0_6 a0_7) else (ostinatoref04_Simple.j4 k2 t240 x10_2 x11_2 false a0_0 a0_1 a0_2 a0_3 a0_4 l0_5 a0_6 a0_7))) else (if a0_0 = 3 then (ostinatoref04_Simple.j4 k2 t240 x10_2 x11_2 t244 a0_0 a0_1 a0_2 a0_3 a0_4 l0_5 a0_6 a0_7) else (ostinatoref04_Simple.j4 k2 t240 x10_2 x11_2 false a0_0 a0_1 a0_2 a0_3 a0_4 l0_5 a0_6 a0_7))) = some (r1, r2, r3, r4, r5, r6, r7, r8) := H
           have A84 := Aside0.mk A840
           clear A840
           have HC85 := Aside0.mk H
           clear H
           obtain ⟨Ao86, co86, eo86⟩ := Kd.N_slice HO_5.out
           subst eo86
           have p243 : 0 ≤ (x11_2 : Int) := of_decide_eq_true (by first | (with_reducible assumption) | assumption)
           have q243 : x11_2 < (t240.length : Int) := of_decide_eq_true (by first | (with_reducible assumption) | assumption)
           obtain ⟨ad243, A243_5, c243_5, e243, hx243_0, hx243_1, hx243_2, hx243_3, hx243_4, hx243_5, hx243_6, hx243_7, hl243_5, hi243_5⟩ := at_T27 (Kd.N_reads' HO_5.out).2.2 x11_2 p243 q243
           cases e243
           obtain ⟨ce243, hce243, hMe243, hcc243⟩ := Kd.N_get HO_5.out z27 x11_2 p243 (by first | exact q243 | exact of_decide_eq_true (by first | (with_reducible assumption) | assumption) | (have e_ := (Kd.N_reads' HO_5.out).1; omega))
           obtain ⟨ua243_5, uc243_5, rfl, ul243_5, ge243_5⟩ := k27_openF hMe243
           have hv243_5 := hcc243 5 _ rfl
           rw [add_field _ _ 5 (by omega)] at hv243_5
           replace hv243_5 := Option.some.inj (hv243_5.symm.trans hx243_5)
           injection hv243_5 with hva_ hvn_ hvc_
           rw [hva_] at ge243_5
           rw [hvc_] at ul243_5
           have HL243_5 := Aside0.mk (show Kd.V k27 27 _ w.heap.size _ _ ((rd_T27 t240 x11_2).f2) from Kd.V_mk ul243_5 ge243_5)
           clear hva_ hvn_ hvc_ ge243_5 ul243_5
           clear hcc243 hce243
           have HR243_5 := Aside0.mk hi243_5
           have HC243_5 := Aside0.mk hl243_5
           clear hi243_5 hl243_5
           replace p243 := eq_true p243
           replace q243 := eq_true q243
           go_upto_region 27 with (first | ((with_reducible refine gate_callee (f := 16) rfl ?_); refine goesL_ (some 102) rfl rfl Try.func16 (by kernel_rfl) rfl #[.agg #[.int .i64 ((rd_T27 t240 x11_2).f0), .int .u64 ((rd_T27 t240 x11_2).f1.f0), .int .u64 ((rd_T27 t240 x11_2).f1.f1), .int .u64 ((rd_T27 t240 x11_2).f1.f2), .int .u64 ((rd_T27 t240 x11_2).f1.f3), .slice A243_5 ((rd_T27 t240 x11_2).f2).length c243_5, .int .i64 ((rd_T27 t240 x11_2).f3), .int .i64 ((rd_T27 t240 x11_2).f4)]] rfl (by (try simp only [List.map_toArray, List.map_cons, List.map_nil]); first | done | rfl | (simp only [List.length_drop, List.length_take]; rfl)) ?_; (with_reducible refine (ostinatoref04_Told.calls k2 ((rd_T27 t240 x11_2).f0) ((rd_T27 t240 x11_2).f1.f0) ((rd_T27 t240 x11_2).f1.f1) ((rd_T27 t240 x11_2).f1.f2) ((rd_T27 t240 x11_2).f1.f3) _ _ ((rd_T27 t240 x11_2).f2) ((rd_T27 t240 x11_2).f3) ((rd_T27 t240 x11_2).f4) t244 t245 _ ?side1 ?side2 A84.out).mono ?_); (case side1 => repeat (first | exact (by repeat (first | (with_reducible exact HR243_5.out) | (with_reducible refine Kd.C_alloc ?_ _) | (with_reducible refine Kd.C_drewN ?_ _) | (with_reducible refine Kd.C_drew ?_) | exact HR243_5.out)) | (with_reducible refine Kd.C_alloc ?_ _) | (with_reducible refine Kd.C_drewN ?_ _) | (with_reducible refine Kd.C_drew ?_))); (case side2 => exact HC243_5.out); rintro e w87 ⟨rfl, hb⟩; refine ⟨_, rfl, ?_⟩; have n0_ := Aside0.mk (Kd.N_below (by (with_reducible repeat (first | apply Kd.N_alloc | apply Kd.N_drewN | apply Kd.N_drew)); exact HO_5.out) hb); have n1_ := Aside0.mk (Kd.N_below (by (with_reducible repeat (first | apply Kd.N_alloc | apply Kd.N_drewN | apply Kd.N_drew)); exact HO_10.out) hb); have n2_ := Aside0.mk (Kd.V_below (by (with_reducible repeat (first | apply Kd.V_alloc | apply Kd.V_drewN | apply Kd.V_drew)); exact HO_217005.out) hb); have n3_ := Aside0.mk (Kd.V_below (by (with_reducible repeat (first | apply Kd.V_alloc | apply Kd.V_drewN | apply Kd.V_drew)); exact HL243_5.out) hb); have n4_ := Aside0.mk (blk_below (g := gb216) (o := .cells #[.int .i64 a0_0, .int .u64 a0_1, .int .u64 a0_2, .int .u64 a0_3, .int .u64 a0_4, .slice A0_5 l0_5.length c0_5, .int .i64 a0_6, .int .i64 a0_7] 27 (0, 0)) (by (with_reducible repeat (first | refine blk_drewN ?_ _ | refine blk_drew ?_ | refine blk_alloc ?_ _)); exact BK216.out) hb); have n5_ := Aside0.mk (blk_below (g := gb217) (o := .cells #[.int .i64 0, .int .u64 0, .int .u64 0, .int .u64 0, .int .u64 0, .slice none 0 0, .int .i64 0, .int .i64 0] 27 (0, 0)) (by (with_reducible repeat (first | refine blk_drewN ?_ _ | refine blk_drew ?_ | refine blk_alloc ?_ _)); exact BK217.out) hb); (first | have n6_ := Aside0.mk (Kd.C_below (by repeat (first | (with_reducible exact HR243_5.out) | (with_reducible refine Kd.C_alloc ?_ _) | (with_reducible refine Kd.C_drewN ?_ _) | (with_reducible refine Kd.C_drew ?_) | exact HR243_5.out)) hb) | have n6_ := Aside0.mk (Kd.V_reads' n3_.out).2.2); have n7_ := Aside0.mk (below_step (by repeat (first | (with_reducible first | exact HB.out | apply below_alloc | apply pw_below_drewN | apply below_drew1 | refine below_set ?_ GE216.out | refine below_set ?_ GE217.out) | exact HB.out)) hb); clear HO_5; clear HO_10; clear HO_217005; clear HL243_5; clear BK216; clear BK217; clear HR243_5; clear HB; have HO_5 := n0_; have HO_10 := n1_; have HO_217005 := n2_; have HL243_5 := n3_; have BK216 := n4_; have BK217 := n5_; have HR243_5 := n6_; have HB := n7_; clear n0_ n1_ n2_ n3_ n4_ n5_ n6_ n7_; (try clear hb); (try clear hb2); (try clear hk); (try clear hi)))
           (try simp only [Act.put, List.setIfInBounds_toArray, List.set_cons_zero, List.set_cons_succ])
           go_cut [14] (fun v14 wc => ∃ (kq : Nat) (x14_84 : Bool), v14 = .bool x14_84 ∧ Aside0 (ostinatoref04_Simple.j4 kq t240 x10_2 x11_2 x14_84 a0_0 a0_1 a0_2 a0_3 a0_4 l0_5 a0_6 a0_7 = some (r1, r2, r3, r4, r5, r6, r7, r8)) ∧ Aside0 (kq ≤ k2) ∧ Aside0 (Kd.N k27 27 wc w.heap.size (fun k_ => (P0_5_ k_ ∨ w.heap.size ≤ k_) ∧ some k_ ≠ (u10 : Value).ownBlock ∧ k_ ≠ gb216 ∧ k_ ≠ gb217) (.slice (some ad243) t240.length co86) t240) ∧ Aside0 (Kd.N k27 27 wc w.heap.size (fun k_ => (P0_5_ k_ ∨ w.heap.size ≤ k_) ∧ some k_ ≠ ((.slice (some ad243) t240.length co86) : Value).ownBlock ∧ k_ ≠ gb216 ∧ k_ ≠ gb217) u10 x10_2) ∧ Aside0 (Kd.V k27 27 wc w.heap.size (fun k_ => (P0_5_ k_ ∨ w.heap.size ≤ k_) ∧ some k_ ≠ ((.slice (some ad243) t240.length co86) : Value).ownBlock ∧ some k_ ≠ (u10 : Value).ownBlock ∧ k_ ≠ gb216 ∧ k_ ≠ gb217) (.slice A0_5 l0_5.length c0_5) l0_5) ∧ Aside0 (wc.heap[gb216]? = some (.cells #[.int .i64 a0_0, .int .u64 a0_1, .int .u64 a0_2, .int .u64 a0_3, .int .u64 a0_4, (.slice A0_5 l0_5.length c0_5), .int .i64 a0_6, .int .i64 a0_7] 27 (0, 0))) ∧ Aside0 (wc.heap[gb217]? = some (.cells #[.int .i64 0, .int .u64 0, .int .u64 0, .int .u64 0, .int .u64 0, (.slice none 0 0), .int .i64 0, .int .i64 0] 27 (0, 0))) ∧ Aside0 (Kd.C k27 wc A243_5 ((rd_T27 t240 x11_2).f2).length ((rd_T27 t240 x11_2).f2)) ∧ Aside0 (Below w.heap.size w wc))
           case first =>
            have H := HC85.out
            clear HC85
            by_cases c88 : a0_0 = 2
            ·
             rw [if_pos c88] at H
             have c88b0 : (a0_0 == 2) = true := beq_iff_eq.mpr c88
             have c88b1 : (a0_0 != 2) = false := bne_eq_false_iff_eq.mpr c88
             clear c88
             (first | rw [c88b0] | (simp only [i64_w, i32_w]; rw [c88b0]) | skip)
             by_cases c89 : ((rd_T27 t240 x11_2).f0) = 0
             ·
              rw [if_pos c89] at H
              have c89b0 : (((rd_T27 t240 x11_2).f0) == 0) = true := beq_iff_eq.mpr c89
              have c89b1 : (((rd_T27 t240 x11_2).f0) != 0) = false := bne_eq_false_iff_eq.mpr c89
              clear c89
              have H' := Aside0.mk H
              clear H
              have hnb90 := NB216_217.out
              have hnc90 := NB217_216.out
              obtain ⟨hcz91_0, hcz91_1, hcz91_2, hcz91_3, hcz91_4, hcz91_5, hcz91_6, hcz91_7, hfz91_0, hfz91_1, hfz91_2, hfz91_3, hfz91_4, hfz91_5, hfz91_6, hfz91_7⟩ := blk8 BK216.out
              have p246 : 0 ≤ (x11_2 : Int) := of_decide_eq_true (by first | (with_reducible assumption) | assumption)
              have q246 : x11_2 < (t240.length : Int) := of_decide_eq_true (by first | (with_reducible assumption) | assumption)
              obtain ⟨ad246, A246_5, c246_5, e246, hx246_0, hx246_1, hx246_2, hx246_3, hx246_4, hx246_5, hx246_6, hx246_7, hl246_5, hi246_5⟩ := at_T27 (Kd.N_reads' HO_5.out).2.2 x11_2 p246 q246
              obtain rfl : ad243 = ad246 := (by injection e246)
              obtain ⟨ce246, hce246, hMe246, hcc246⟩ := Kd.N_get HO_5.out z27 x11_2 p246 (by first | exact q246 | exact of_decide_eq_true (by first | (with_reducible assumption) | assumption) | (have e_ := (Kd.N_reads' HO_5.out).1; omega))
              obtain ⟨ua246_5, uc246_5, rfl, ul246_5, ge246_5⟩ := k27_openF hMe246
              have hv246_5 := hcc246 5 _ rfl
              rw [add_field _ _ 5 (by omega)] at hv246_5
              replace hv246_5 := Option.some.inj (hv246_5.symm.trans hx246_5)
              injection hv246_5 with hva_ hvn_ hvc_
              rw [hva_] at ge246_5
              rw [hvc_] at ul246_5
              have HL246_5 := Aside0.mk (show Kd.V k27 27 _ w.heap.size _ _ ((rd_T27 t240 x11_2).f2) from Kd.V_mk ul246_5 ge246_5)
              clear hva_ hvn_ hvc_ ge246_5 ul246_5
              clear hcc246 hce246
              have HR246_5 := Aside0.mk hi246_5
              have HC246_5 := Aside0.mk hl246_5
              clear hi246_5 hl246_5
              replace p246 := eq_true p246
              replace q246 := eq_true q246
              go_wp2
              go_meet
              case rel => exact ⟨_, (true), (by first | rfl | (simp; done) | (simp [*]; done)), H', ⟨by have := HK1.out; have := HK2.out; first | omega | exact Nat.le_refl _⟩, ⟨by (with_reducible repeat (first | apply Kd.N_alloc | apply Kd.N_drewN | apply Kd.N_drew)); exact HO_5.out⟩, ⟨by (with_reducible repeat (first | apply Kd.N_alloc | apply Kd.N_drewN | apply Kd.N_drew)); exact HO_10.out⟩, ⟨by (with_reducible repeat (first | apply Kd.V_alloc | apply Kd.V_drewN | apply Kd.V_drew)); exact HO_217005.out⟩, ⟨by (with_reducible repeat (first | refine blk_drewN ?_ _ | refine blk_drew ?_ | refine blk_alloc ?_ _)); exact BK216.out⟩, ⟨by (with_reducible repeat (first | refine blk_drewN ?_ _ | refine blk_drew ?_ | refine blk_alloc ?_ _)); exact BK217.out⟩, ⟨by repeat (first | (with_reducible exact HR243_5.out) | (with_reducible refine Kd.C_alloc ?_ _) | (with_reducible refine Kd.C_drewN ?_ _) | (with_reducible refine Kd.C_drew ?_) | exact HR243_5.out)⟩, ⟨by repeat (first | (with_reducible first | exact HB.out | apply below_alloc | apply pw_below_drewN | apply below_drew1 | refine below_set ?_ GE216.out | refine below_set ?_ GE217.out) | exact HB.out)⟩⟩
             ·
              rw [if_neg c89] at H
              have c89b0 : (((rd_T27 t240 x11_2).f0) == 0) = false := beq_eq_false_iff_ne.mpr c89
              have c89b1 : (((rd_T27 t240 x11_2).f0) != 0) = true := bne_iff_ne.mpr c89
              by_cases c92 : a0_0 = 3
              ·
               rw [if_pos c92] at H
               have c92b0 : (a0_0 == 3) = true := beq_iff_eq.mpr c92
               have c92b1 : (a0_0 != 3) = false := bne_eq_false_iff_eq.mpr c92
               clear c92
               have H' := Aside0.mk H
               clear H
               have hnb93 := NB216_217.out
               have hnc93 := NB217_216.out
               obtain ⟨hcz94_0, hcz94_1, hcz94_2, hcz94_3, hcz94_4, hcz94_5, hcz94_6, hcz94_7, hfz94_0, hfz94_1, hfz94_2, hfz94_3, hfz94_4, hfz94_5, hfz94_6, hfz94_7⟩ := blk8 BK216.out
               have p246 : 0 ≤ (x11_2 : Int) := of_decide_eq_true (by first | (with_reducible assumption) | assumption)
               have q246 : x11_2 < (t240.length : Int) := of_decide_eq_true (by first | (with_reducible assumption) | assumption)
               obtain ⟨ad246, A246_5, c246_5, e246, hx246_0, hx246_1, hx246_2, hx246_3, hx246_4, hx246_5, hx246_6, hx246_7, hl246_5, hi246_5⟩ := at_T27 (Kd.N_reads' HO_5.out).2.2 x11_2 p246 q246
               obtain rfl : ad243 = ad246 := (by injection e246)
               obtain ⟨ce246, hce246, hMe246, hcc246⟩ := Kd.N_get HO_5.out z27 x11_2 p246 (by first | exact q246 | exact of_decide_eq_true (by first | (with_reducible assumption) | assumption) | (have e_ := (Kd.N_reads' HO_5.out).1; omega))
               obtain ⟨ua246_5, uc246_5, rfl, ul246_5, ge246_5⟩ := k27_openF hMe246
               have hv246_5 := hcc246 5 _ rfl
               rw [add_field _ _ 5 (by omega)] at hv246_5
               replace hv246_5 := Option.some.inj (hv246_5.symm.trans hx246_5)
               injection hv246_5 with hva_ hvn_ hvc_
               rw [hva_] at ge246_5
               rw [hvc_] at ul246_5
               have HL246_5 := Aside0.mk (show Kd.V k27 27 _ w.heap.size _ _ ((rd_T27 t240 x11_2).f2) from Kd.V_mk ul246_5 ge246_5)
               clear hva_ hvn_ hvc_ ge246_5 ul246_5
               clear hcc246 hce246
               have HR246_5 := Aside0.mk hi246_5
               have HC246_5 := Aside0.mk hl246_5
               clear hi246_5 hl246_5
               replace p246 := eq_true p246
               replace q246 := eq_true q246
               go_wp2
               go_meet
               case rel => exact ⟨_, (t244), (by first | rfl | (simp; done) | (simp [*]; done)), H', ⟨by have := HK1.out; have := HK2.out; first | omega | exact Nat.le_refl _⟩, ⟨by (with_reducible repeat (first | apply Kd.N_alloc | apply Kd.N_drewN | apply Kd.N_drew)); exact HO_5.out⟩, ⟨by (with_reducible repeat (first | apply Kd.N_alloc | apply Kd.N_drewN | apply Kd.N_drew)); exact HO_10.out⟩, ⟨by (with_reducible repeat (first | apply Kd.V_alloc | apply Kd.V_drewN | apply Kd.V_drew)); exact HO_217005.out⟩, ⟨by (with_reducible repeat (first | refine blk_drewN ?_ _ | refine blk_drew ?_ | refine blk_alloc ?_ _)); exact BK216.out⟩, ⟨by (with_reducible repeat (first | refine blk_drewN ?_ _ | refine blk_drew ?_ | refine blk_alloc ?_ _)); exact BK217.out⟩, ⟨by repeat (first | (with_reducible exact HR243_5.out) | (with_reducible refine Kd.C_alloc ?_ _) | (with_reducible refine Kd.C_drewN ?_ _) | (with_reducible refine Kd.C_drew ?_) | exact HR243_5.out)⟩, ⟨by repeat (first | (with_reducible first | exact HB.out | apply below_alloc | apply pw_below_drewN | apply below_drew1 | refine below_set ?_ GE216.out | refine below_set ?_ GE217.out) | exact HB.out)⟩⟩
              ·
               rw [if_neg c92] at H
               have c92b0 : (a0_0 == 3) = false := beq_eq_false_iff_ne.mpr c92
               have c92b1 : (a0_0 != 3) = true := bne_iff_ne.mpr c92
               have H' := Aside0.mk H
               clear H
               have hnb95 := NB216_217.out
               have hnc95 := NB217_216.out
               obtain ⟨hcz96_0, hcz96_1, hcz96_2, hcz96_3, hcz96_4, hcz96_5, hcz96_6, hcz96_7, hfz96_0, hfz96_1, hfz96_2, hfz96_3, hfz96_4, hfz96_5, hfz96_6, hfz96_7⟩ := blk8 BK216.out
               have p246 : 0 ≤ (x11_2 : Int) := of_decide_eq_true (by first | (with_reducible assumption) | assumption)
               have q246 : x11_2 < (t240.length : Int) := of_decide_eq_true (by first | (with_reducible assumption) | assumption)
               obtain ⟨ad246, A246_5, c246_5, e246, hx246_0, hx246_1, hx246_2, hx246_3, hx246_4, hx246_5, hx246_6, hx246_7, hl246_5, hi246_5⟩ := at_T27 (Kd.N_reads' HO_5.out).2.2 x11_2 p246 q246
               obtain rfl : ad243 = ad246 := (by injection e246)
               obtain ⟨ce246, hce246, hMe246, hcc246⟩ := Kd.N_get HO_5.out z27 x11_2 p246 (by first | exact q246 | exact of_decide_eq_true (by first | (with_reducible assumption) | assumption) | (have e_ := (Kd.N_reads' HO_5.out).1; omega))
               obtain ⟨ua246_5, uc246_5, rfl, ul246_5, ge246_5⟩ := k27_openF hMe246
               have hv246_5 := hcc246 5 _ rfl
               rw [add_field _ _ 5 (by omega)] at hv246_5
               replace hv246_5 := Option.some.inj (hv246_5.symm.trans hx246_5)
               injection hv246_5 with hva_ hvn_ hvc_
               rw [hva_] at ge246_5
               rw [hvc_] at ul246_5
               have HL246_5 := Aside0.mk (show Kd.V k27 27 _ w.heap.size _ _ ((rd_T27 t240 x11_2).f2) from Kd.V_mk ul246_5 ge246_5)
               clear hva_ hvn_ hvc_ ge246_5 ul246_5
               clear hcc246 hce246
               have HR246_5 := Aside0.mk hi246_5
               have HC246_5 := Aside0.mk hl246_5
               clear hi246_5 hl246_5
               replace p246 := eq_true p246
               replace q246 := eq_true q246
               go_wp2
               go_meet
               case rel => exact ⟨_, (false), (by first | rfl | (simp; done) | (simp [*]; done)), H', ⟨by have := HK1.out; have := HK2.out; first | omega | exact Nat.le_refl _⟩, ⟨by (with_reducible repeat (first | apply Kd.N_alloc | apply Kd.N_drewN | apply Kd.N_drew)); exact HO_5.out⟩, ⟨by (with_reducible repeat (first | apply Kd.N_alloc | apply Kd.N_drewN | apply Kd.N_drew)); exact HO_10.out⟩, ⟨by (with_reducible repeat (first | apply Kd.V_alloc | apply Kd.V_drewN | apply Kd.V_drew)); exact HO_217005.out⟩, ⟨by (with_reducible repeat (first | refine blk_drewN ?_ _ | refine blk_drew ?_ | refine blk_alloc ?_ _)); exact BK216.out⟩, ⟨by (with_reducible repeat (first | refine blk_drewN ?_ _ | refine blk_drew ?_ | refine blk_alloc ?_ _)); exact BK217.out⟩, ⟨by repeat (first | (with_reducible exact HR243_5.out) | (with_reducible refine Kd.C_alloc ?_ _) | (with_reducible refine Kd.C_drewN ?_ _) | (with_reducible refine Kd.C_drew ?_) | exact HR243_5.out)⟩, ⟨by repeat (first | (with_reducible first | exact HB.out | apply below_alloc | apply pw_below_drewN | apply below_drew1 | refine below_set ?_ GE216.out | refine below_set ?_ GE217.out) | exact HB.out)⟩⟩
            ·
             rw [if_neg c88] at H
             have c88b0 : (a0_0 == 2) = false := beq_eq_false_iff_ne.mpr c88
             have c88b1 : (a0_0 != 2) = true := bne_iff_ne.mpr c88
             (first | rw [c88b0] | (simp only [i64_w, i32_w]; rw [c88b0]) | skip)
             by_cases c97 : a0_0 = 3
             ·
              rw [if_pos c97] at H
              have c97b0 : (a0_0 == 3) = true := beq_iff_eq.mpr c97
              have c97b1 : (a0_0 != 3) = false := bne_eq_false_iff_eq.mpr c97
              clear c97
              have H' := Aside0.mk H
              clear H
              have hnb98 := NB216_217.out
              have hnc98 := NB217_216.out
              obtain ⟨hcz99_0, hcz99_1, hcz99_2, hcz99_3, hcz99_4, hcz99_5, hcz99_6, hcz99_7, hfz99_0, hfz99_1, hfz99_2, hfz99_3, hfz99_4, hfz99_5, hfz99_6, hfz99_7⟩ := blk8 BK216.out
              go_wp2
              go_meet
              case rel => exact ⟨_, (t244), (by first | rfl | (simp; done) | (simp [*]; done)), H', ⟨by have := HK1.out; have := HK2.out; first | omega | exact Nat.le_refl _⟩, ⟨by (with_reducible repeat (first | apply Kd.N_alloc | apply Kd.N_drewN | apply Kd.N_drew)); exact HO_5.out⟩, ⟨by (with_reducible repeat (first | apply Kd.N_alloc | apply Kd.N_drewN | apply Kd.N_drew)); exact HO_10.out⟩, ⟨by (with_reducible repeat (first | apply Kd.V_alloc | apply Kd.V_drewN | apply Kd.V_drew)); exact HO_217005.out⟩, ⟨by (with_reducible repeat (first | refine blk_drewN ?_ _ | refine blk_drew ?_ | refine blk_alloc ?_ _)); exact BK216.out⟩, ⟨by (with_reducible repeat (first | refine blk_drewN ?_ _ | refine blk_drew ?_ | refine blk_alloc ?_ _)); exact BK217.out⟩, ⟨by repeat (first | (with_reducible exact HR243_5.out) | (with_reducible refine Kd.C_alloc ?_ _) | (with_reducible refine Kd.C_drewN ?_ _) | (with_reducible refine Kd.C_drew ?_) | exact HR243_5.out)⟩, ⟨by repeat (first | (with_reducible first | exact HB.out | apply below_alloc | apply pw_below_drewN | apply below_drew1 | refine below_set ?_ GE216.out | refine below_set ?_ GE217.out) | exact HB.out)⟩⟩
             ·
              rw [if_neg c97] at H
              have c97b0 : (a0_0 == 3) = false := beq_eq_false_iff_ne.mpr c97
              have c97b1 : (a0_0 != 3) = true := bne_iff_ne.mpr c97
              have H' := Aside0.mk H
              clear H
              have hnb100 := NB216_217.out
              have hnc100 := NB217_216.out
              obtain ⟨hcz101_0, hcz101_1, hcz101_2, hcz101_3, hcz101_4, hcz101_5, hcz101_6, hcz101_7, hfz101_0, hfz101_1, hfz101_2, hfz101_3, hfz101_4, hfz101_5, hfz101_6, hfz101_7⟩ := blk8 BK216.out
              go_wp2
              go_meet
              case rel => exact ⟨_, (false), (by first | rfl | (simp; done) | (simp [*]; done)), H', ⟨by have := HK1.out; have := HK2.out; first | omega | exact Nat.le_refl _⟩, ⟨by (with_reducible repeat (first | apply Kd.N_alloc | apply Kd.N_drewN | apply Kd.N_drew)); exact HO_5.out⟩, ⟨by (with_reducible repeat (first | apply Kd.N_alloc | apply Kd.N_drewN | apply Kd.N_drew)); exact HO_10.out⟩, ⟨by (with_reducible repeat (first | apply Kd.V_alloc | apply Kd.V_drewN | apply Kd.V_drew)); exact HO_217005.out⟩, ⟨by (with_reducible repeat (first | refine blk_drewN ?_ _ | refine blk_drew ?_ | refine blk_alloc ?_ _)); exact BK216.out⟩, ⟨by (with_reducible repeat (first | refine blk_drewN ?_ _ | refine blk_drew ?_ | refine blk_alloc ?_ _)); exact BK217.out⟩, ⟨by repeat (first | (with_reducible exact HR243_5.out) | (with_reducible refine Kd.C_alloc ?_ _) | (with_reducible refine Kd.C_drewN ?_ _) | (with_reducible refine Kd.C_drew ?_) | exact HR243_5.out)⟩, ⟨by repeat (first | (with_reducible first | exact HB.out | apply below_alloc | apply pw_below_drewN | apply below_drew1 | refine below_set ?_ GE216.out | refine below_set ?_ GE217.out) | exact HB.out)⟩⟩
           case rest =>
            clear HC85
            (try clear c1); (try clear c2); (try clear p2 p2); (try clear q2 q2); (try clear hx2); (try clear p6 p6); (try clear c8); (try clear c9); (try clear c10); (try clear c16); (try clear p22 p22); (try clear q22 q22); (try clear hx22); (try clear p23 p23); (try clear q23 q23); (try clear hx23); (try clear c24); (try clear p24); (try clear q24); (try clear hx24); (try clear c82); (try clear c82b0); (try clear c83); (try clear c83b0); (try clear c88); (try clear c88b0); (try clear c88b1); (try clear c89); (try clear c89b0); (try clear c89b1); (try clear c90); (try clear c92); (try clear c92b0); (try clear c92b1); (try clear c93); (try clear c95); (try clear c97); (try clear c97b0); (try clear c97b1); (try clear c98); (try clear c100); (try clear hcz101_0 hcz101_1 hcz101_2 hcz101_3 hcz101_4 hcz101_5 hcz101_6 hcz101_7); (try clear hcz48_4 hcz48_5 hcz48_6 hcz48_7); (try clear hcz51_0 hcz51_1 hcz51_2 hcz51_3 hcz51_4 hcz51_5 hcz51_6 hcz51_7); (try clear hcz55_0 hcz55_1 hcz55_2 hcz55_3 hcz55_4 hcz55_5 hcz55_6 hcz55_7); (try clear hcz57_0 hcz57_1 hcz57_2 hcz57_3 hcz57_4 hcz57_5 hcz57_6 hcz57_7); (try clear hcz61_0 hcz61_1 hcz61_2 hcz61_3 hcz61_4 hcz61_5 hcz61_6 hcz61_7); (try clear hcz64_0 hcz64_1 hcz64_2 hcz64_3 hcz64_4 hcz64_5 hcz64_6 hcz64_7); (try clear hcz68_0 hcz68_1 hcz68_2 hcz68_3 hcz68_4 hcz68_5 hcz68_6 hcz68_7); (try clear hcz69_0 hcz69_1 hcz69_2 hcz69_3 hcz69_4 hcz69_5 hcz69_6 hcz69_7); (try clear hcz71_0 hcz71_1 hcz71_2 hcz71_3 hcz71_4 hcz71_5 hcz71_6 hcz71_7); (try clear hcz75_0 hcz75_1 hcz75_2 hcz75_3 hcz75_4 hcz75_5 hcz75_6 hcz75_7); (try clear hcz76_0 hcz76_1 hcz76_2 hcz76_3 hcz76_4 hcz76_5 hcz76_6 hcz76_7); (try clear hcz79_0 hcz79_1 hcz79_2 hcz79_3 hcz79_4 hcz79_5 hcz79_6 hcz79_7); (try clear hcz7_0 hcz7_1 hcz7_2 hcz7_3 hcz7_4 hcz7_5 hcz7_6 hcz7_7); (try clear hcz91_0 hcz91_1 hcz91_2 hcz91_3 hcz91_4 hcz91_5 hcz91_6 hcz91_7); (try clear hcz94_0 hcz94_1 hcz94_2 hcz94_3 hcz94_4 hcz94_5 hcz94_6 hcz94_7); (try clear hcz96_0 hcz96_1 hcz96_2 hcz96_3 hcz96_4 hcz96_5 hcz96_6 hcz96_7); (try clear hcz99_0 hcz99_1 hcz99_2 hcz99_3 hcz99_4 hcz99_5 hcz99_6 hcz99_7); (try clear hcz9_0 hcz9_1 hcz9_2 hcz9_3 hcz9_4 hcz9_5 hcz9_6 hcz9_7); (try clear hfz101_0 hfz101_1 hfz101_2 hfz101_3 hfz101_4 hfz101_5 hfz101_6 hfz101_7); (try clear hfz14_0 hfz14_1 hfz14_2 hfz14_3 hfz14_4 hfz14_5 hfz14_6 hfz14_7); (try clear hfz16_0 hfz16_1 hfz16_2 hfz16_3 hfz16_4 hfz16_5 hfz16_6 hfz16_7); (try clear hfz17_0 hfz17_1 hfz17_2 hfz17_3 hfz17_4 hfz17_5 hfz17_6 hfz17_7); (try clear hfz21_0 hfz21_1 hfz21_2 hfz21_3 hfz21_4 hfz21_5 hfz21_6 hfz21_7); (try clear hfz23_0 hfz23_1 hfz23_2 hfz23_3 hfz23_4 hfz23_5 hfz23_6 hfz23_7); (try clear hfz29_0 hfz29_1 hfz29_2 hfz29_3 hfz29_4 hfz29_5 hfz29_6 hfz29_7); (try clear hfz38_0 hfz38_1 hfz38_2 hfz38_3 hfz38_4 hfz38_5 hfz38_6 hfz38_7); (try clear hfz43_0 hfz43_1 hfz43_2 hfz43_3 hfz43_4 hfz43_5 hfz43_6 hfz43_7); (try clear hfz46_0 hfz46_1 hfz46_2 hfz46_3 hfz46_4 hfz46_5 hfz46_6 hfz46_7); (try clear hfz48_0 hfz48_1 hfz48_2 hfz48_3 hfz48_4 hfz48_5 hfz48_6 hfz48_7); (try clear hfz51_0 hfz51_1 hfz51_2 hfz51_3 hfz51_4 hfz51_5 hfz51_6 hfz51_7); (try clear hfz55_0 hfz55_1 hfz55_2 hfz55_3 hfz55_4 hfz55_5 hfz55_6 hfz55_7); (try clear hfz57_0 hfz57_1 hfz57_2 hfz57_3 hfz57_4 hfz57_5 hfz57_6 hfz57_7); (try clear hfz61_0 hfz61_1 hfz61_2 hfz61_3 hfz61_4 hfz61_5 hfz61_6 hfz61_7); (try clear hfz64_0 hfz64_1 hfz64_2 hfz64_3 hfz64_4 hfz64_5 hfz64_6 hfz64_7); (try clear hfz68_0 hfz68_1 hfz68_2 hfz68_3 hfz68_4 hfz68_5 hfz68_6 hfz68_7); (try clear hfz69_0 hfz69_1 hfz69_2 hfz69_3 hfz69_4 hfz69_5 hfz69_6 hfz69_7); (try clear hfz71_0 hfz71_1 hfz71_2 hfz71_3 hfz71_4 hfz71_5 hfz71_6 hfz71_7); (try clear hfz75_0 hfz75_1 hfz75_2 hfz75_3 hfz75_4 hfz75_5 hfz75_6 hfz75_7); (try clear hfz76_0 hfz76_1 hfz76_2 hfz76_3 hfz76_4 hfz76_5 hfz76_6 hfz76_7); (try clear hfz79_0 hfz79_1 hfz79_2 hfz79_3 hfz79_4 hfz79_5 hfz79_6 hfz79_7); (try clear hfz7_0 hfz7_1 hfz7_2 hfz7_3 hfz7_4 hfz7_5 hfz7_6 hfz7_7); (try clear hfz91_0 hfz91_1 hfz91_2 hfz91_3 hfz91_4 hfz91_5 hfz91_6 hfz91_7); (try clear hfz94_0 hfz94_1 hfz94_2 hfz94_3 hfz94_4 hfz94_5 hfz94_6 hfz94_7); (try clear hfz96_0 hfz96_1 hfz96_2 hfz96_3 hfz96_4 hfz96_5 hfz96_6 hfz96_7); (try clear hfz99_0 hfz99_1 hfz99_2 hfz99_3 hfz99_4 hfz99_5 hfz99_6 hfz99_7); (try clear hfz9_0 hfz9_1 hfz9_2 hfz9_3 hfz9_4 hfz9_5 hfz9_6 hfz9_7); (try clear hx220_0 hx220_1 hx220_2 hx220_3 hx220_4 hx220_5 hx220_6 hx220_7); (try clear hx234_0 hx234_1 hx234_2 hx234_3 hx234_4 hx234_5 hx234_6 hx234_7); (try clear hx237_0 hx237_1 hx237_2 hx237_3 hx237_4 hx237_5 hx237_6 hx237_7); (try clear hx238_0 hx238_1 hx238_2 hx238_3 hx238_4 hx238_5 hx238_6 hx238_7); (try clear hx243_0 hx243_1 hx243_2 hx243_3 hx243_4 hx243_5 hx243_6 hx243_7); (try clear hx246_0 hx246_1 hx246_2 hx246_3 hx246_4 hx246_5 hx246_6 hx246_7); (try clear p220); (try clear p234); (try clear p237); (try clear p238); (try clear p243); (try clear p246); (try clear q220); (try clear q234); (try clear q237); (try clear q238); (try clear q243); (try clear q246)
            obtain ⟨kq, x14_84, rfl, HA, HJ84, HO_5, HO_10, HO_217005, BK216, BK217, HR243_5, HB⟩ := hcut
            cases kq with
            | zero => exact absurd HA.out (by simp [ostinatoref04_Simple.j4])
            | succ kj84 =>
             have H := HA.out
             clear HA
             simp only [ostinatoref04_Simple.j4] at H
             have H' := Aside0.mk H
             clear H
             go_wp2
             go_loopg [14, 15] kj84 (fun kq v14 v15 w' => ∃ (x14_4 : Bool) (x15_4 : Int), v14 = .bool x14_4 ∧ v15 = .int .i64 x15_4 ∧ Aside0 (ostinatoref04_Simple.l2 kq t240 x10_2 x11_2 x14_4 x15_4 a0_0 a0_1 a0_2 a0_3 a0_4 l0_5 a0_6 a0_7 = some (r1, r2, r3, r4, r5, r6, r7, r8)) ∧ Aside0 (kq ≤ kj84) ∧ Aside0 (Kd.N k27 27 w' w.heap.size (fun k_ => (P0_5_ k_ ∨ w.heap.size ≤ k_) ∧ some k_ ≠ (u10 : Value).ownBlock ∧ k_ ≠ gb216 ∧ k_ ≠ gb217) (.slice (some ad243) t240.length co86) t240) ∧ Aside0 (Kd.N k27 27 w' w.heap.size (fun k_ => (P0_5_ k_ ∨ w.heap.size ≤ k_) ∧ some k_ ≠ ((.slice (some ad243) t240.length co86) : Value).ownBlock ∧ k_ ≠ gb216 ∧ k_ ≠ gb217) u10 x10_2) ∧ Aside0 (Kd.V k27 27 w' w.heap.size (fun k_ => (P0_5_ k_ ∨ w.heap.size ≤ k_) ∧ some k_ ≠ ((.slice (some ad243) t240.length co86) : Value).ownBlock ∧ some k_ ≠ (u10 : Value).ownBlock ∧ k_ ≠ gb216 ∧ k_ ≠ gb217) (.slice A0_5 l0_5.length c0_5) l0_5) ∧ Aside0 (w'.heap[gb216]? = some (.cells #[.int .i64 a0_0, .int .u64 a0_1, .int .u64 a0_2, .int .u64 a0_3, .int .u64 a0_4, (.slice A0_5 l0_5.length c0_5), .int .i64 a0_6, .int .i64 a0_7] 27 (0, 0))) ∧ Aside0 (w'.heap[gb217]? = some (.cells #[.int .i64 0, .int .u64 0, .int .u64 0, .int .u64 0, .int .u64 0, (.slice none 0 0), .int .i64 0, .int .i64 0] 27 (0, 0))) ∧ Aside0 (Kd.C k27 w' A243_5 ((rd_T27 t240 x11_2).f2).length ((rd_T27 t240 x11_2).f2)) ∧ Aside0 (Below w.heap.size w w'))
             case atStart => exact ⟨(x14_84), (0), (by first | rfl | (simp; done) | (simp [*]; done)), (by first | rfl | (simp; done) | (simp [*]; done)), H', ⟨Nat.le_refl _⟩, ⟨by (with_reducible repeat (first | apply Kd.N_alloc | apply Kd.N_drewN | apply Kd.N_drew)); exact HO_5.out⟩, ⟨by (with_reducible repeat (first | apply Kd.N_alloc | apply Kd.N_drewN | apply Kd.N_drew)); exact HO_10.out⟩, ⟨by (with_reducible repeat (first | apply Kd.V_alloc | apply Kd.V_drewN | apply Kd.V_drew)); exact HO_217005.out⟩, ⟨by (with_reducible repeat (first | refine blk_drewN ?_ _ | refine blk_drew ?_ | refine blk_alloc ?_ _)); exact BK216.out⟩, ⟨by (with_reducible repeat (first | refine blk_drewN ?_ _ | refine blk_drew ?_ | refine blk_alloc ?_ _)); exact BK217.out⟩, ⟨by repeat (first | (with_reducible exact HR243_5.out) | (with_reducible refine Kd.C_alloc ?_ _) | (with_reducible refine Kd.C_drewN ?_ _) | (with_reducible refine Kd.C_drew ?_) | exact HR243_5.out)⟩, ⟨by repeat (first | (with_reducible first | exact HB.out | apply below_alloc | apply pw_below_drewN | apply below_drew1 | refine below_set ?_ GE216.out | refine below_set ?_ GE217.out) | exact HB.out)⟩⟩
             case round =>
              clear H'
              (try clear c1); (try clear c2); (try clear p2 p2); (try clear q2 q2); (try clear hx2); (try clear p6 p6); (try clear c8); (try clear c9); (try clear c10); (try clear c16); (try clear p22 p22); (try clear q22 q22); (try clear hx22); (try clear p23 p23); (try clear q23 q23); (try clear hx23); (try clear c24); (try clear p24 p24); (try clear q24 q24); (try clear hx24); (try clear c82); (try clear c82b0); (try clear c83); (try clear c83b0); (try clear c88); (try clear c88b0); (try clear c88b1); (try clear c89); (try clear c89b0); (try clear c89b1); (try clear c90); (try clear c92); (try clear c92b0); (try clear c92b1); (try clear c93); (try clear c95); (try clear c97); (try clear c97b0); (try clear c97b1); (try clear c98); (try clear c100); (try clear hcz101_0 hcz101_1 hcz101_2 hcz101_3 hcz101_4 hcz101_5 hcz101_6 hcz101_7); (try clear hcz48_4 hcz48_5 hcz48_6 hcz48_7); (try clear hcz51_0 hcz51_1 hcz51_2 hcz51_3 hcz51_4 hcz51_5 hcz51_6 hcz51_7); (try clear hcz55_0 hcz55_1 hcz55_2 hcz55_3 hcz55_4 hcz55_5 hcz55_6 hcz55_7); (try clear hcz57_0 hcz57_1 hcz57_2 hcz57_3 hcz57_4 hcz57_5 hcz57_6 hcz57_7); (try clear hcz61_0 hcz61_1 hcz61_2 hcz61_3 hcz61_4 hcz61_5 hcz61_6 hcz61_7); (try clear hcz64_0 hcz64_1 hcz64_2 hcz64_3 hcz64_4 hcz64_5 hcz64_6 hcz64_7); (try clear hcz68_0 hcz68_1 hcz68_2 hcz68_3 hcz68_4 hcz68_5 hcz68_6 hcz68_7); (try clear hcz69_0 hcz69_1 hcz69_2 hcz69_3 hcz69_4 hcz69_5 hcz69_6 hcz69_7); (try clear hcz71_0 hcz71_1 hcz71_2 hcz71_3 hcz71_4 hcz71_5 hcz71_6 hcz71_7); (try clear hcz75_0 hcz75_1 hcz75_2 hcz75_3 hcz75_4 hcz75_5 hcz75_6 hcz75_7); (try clear hcz76_0 hcz76_1 hcz76_2 hcz76_3 hcz76_4 hcz76_5 hcz76_6 hcz76_7); (try clear hcz79_0 hcz79_1 hcz79_2 hcz79_3 hcz79_4 hcz79_5 hcz79_6 hcz79_7); (try clear hcz7_0 hcz7_1 hcz7_2 hcz7_3 hcz7_4 hcz7_5 hcz7_6 hcz7_7); (try clear hcz91_0 hcz91_1 hcz91_2 hcz91_3 hcz91_4 hcz91_5 hcz91_6 hcz91_7); (try clear hcz94_0 hcz94_1 hcz94_2 hcz94_3 hcz94_4 hcz94_5 hcz94_6 hcz94_7); (try clear hcz96_0 hcz96_1 hcz96_2 hcz96_3 hcz96_4 hcz96_5 hcz96_6 hcz96_7); (try clear hcz99_0 hcz99_1 hcz99_2 hcz99_3 hcz99_4 hcz99_5 hcz99_6 hcz99_7); (try clear hcz9_0 hcz9_1 hcz9_2 hcz9_3 hcz9_4 hcz9_5 hcz9_6 hcz9_7); (try clear hfz101_0 hfz101_1 hfz101_2 hfz101_3 hfz101_4 hfz101_5 hfz101_6 hfz101_7); (try clear hfz14_0 hfz14_1 hfz14_2 hfz14_3 hfz14_4 hfz14_5 hfz14_6 hfz14_7); (try clear hfz16_0 hfz16_1 hfz16_2 hfz16_3 hfz16_4 hfz16_5 hfz16_6 hfz16_7); (try clear hfz17_0 hfz17_1 hfz17_2 hfz17_3 hfz17_4 hfz17_5 hfz17_6 hfz17_7); (try clear hfz21_0 hfz21_1 hfz21_2 hfz21_3 hfz21_4 hfz21_5 hfz21_6 hfz21_7); (try clear hfz23_0 hfz23_1 hfz23_2 hfz23_3 hfz23_4 hfz23_5 hfz23_6 hfz23_7); (try clear hfz29_0 hfz29_1 hfz29_2 hfz29_3 hfz29_4 hfz29_5 hfz29_6 hfz29_7); (try clear hfz38_0 hfz38_1 hfz38_2 hfz38_3 hfz38_4 hfz38_5 hfz38_6 hfz38_7); (try clear hfz43_0 hfz43_1 hfz43_2 hfz43_3 hfz43_4 hfz43_5 hfz43_6 hfz43_7); (try clear hfz46_0 hfz46_1 hfz46_2 hfz46_3 hfz46_4 hfz46_5 hfz46_6 hfz46_7); (try clear hfz48_0 hfz48_1 hfz48_2 hfz48_3 hfz48_4 hfz48_5 hfz48_6 hfz48_7); (try clear hfz51_0 hfz51_1 hfz51_2 hfz51_3 hfz51_4 hfz51_5 hfz51_6 hfz51_7); (try clear hfz55_0 hfz55_1 hfz55_2 hfz55_3 hfz55_4 hfz55_5 hfz55_6 hfz55_7); (try clear hfz57_0 hfz57_1 hfz57_2 hfz57_3 hfz57_4 hfz57_5 hfz57_6 hfz57_7); (try clear hfz61_0 hfz61_1 hfz61_2 hfz61_3 hfz61_4 hfz61_5 hfz61_6 hfz61_7); (try clear hfz64_0 hfz64_1 hfz64_2 hfz64_3 hfz64_4 hfz64_5 hfz64_6 hfz64_7); (try clear hfz68_0 hfz68_1 hfz68_2 hfz68_3 hfz68_4 hfz68_5 hfz68_6 hfz68_7); (try clear hfz69_0 hfz69_1 hfz69_2 hfz69_3 hfz69_4 hfz69_5 hfz69_6 hfz69_7); (try clear hfz71_0 hfz71_1 hfz71_2 hfz71_3 hfz71_4 hfz71_5 hfz71_6 hfz71_7); (try clear hfz75_0 hfz75_1 hfz75_2 hfz75_3 hfz75_4 hfz75_5 hfz75_6 hfz75_7); (try clear hfz76_0 hfz76_1 hfz76_2 hfz76_3 hfz76_4 hfz76_5 hfz76_6 hfz76_7); (try clear hfz79_0 hfz79_1 hfz79_2 hfz79_3 hfz79_4 hfz79_5 hfz79_6 hfz79_7); (try clear hfz7_0 hfz7_1 hfz7_2 hfz7_3 hfz7_4 hfz7_5 hfz7_6 hfz7_7); (try clear hfz91_0 hfz91_1 hfz91_2 hfz91_3 hfz91_4 hfz91_5 hfz91_6 hfz91_7); (try clear hfz94_0 hfz94_1 hfz94_2 hfz94_3 hfz94_4 hfz94_5 hfz94_6 hfz94_7); (try clear hfz96_0 hfz96_1 hfz96_2 hfz96_3 hfz96_4 hfz96_5 hfz96_6 hfz96_7); (try clear hfz99_0 hfz99_1 hfz99_2 hfz99_3 hfz99_4 hfz99_5 hfz99_6 hfz99_7); (try clear hfz9_0 hfz9_1 hfz9_2 hfz9_3 hfz9_4 hfz9_5 hfz9_6 hfz9_7); (try clear hx220_0 hx220_1 hx220_2 hx220_3 hx220_4 hx220_5 hx220_6 hx220_7); (try clear hx234_0 hx234_1 hx234_2 hx234_3 hx234_4 hx234_5 hx234_6 hx234_7); (try clear hx237_0 hx237_1 hx237_2 hx237_3 hx237_4 hx237_5 hx237_6 hx237_7); (try clear hx238_0 hx238_1 hx238_2 hx238_3 hx238_4 hx238_5 hx238_6 hx238_7); (try clear hx243_0 hx243_1 hx243_2 hx243_3 hx243_4 hx243_5 hx243_6 hx243_7); (try clear hx246_0 hx246_1 hx246_2 hx246_3 hx246_4 hx246_5 hx246_6 hx246_7); (try clear p220); (try clear p234); (try clear p237); (try clear p238); (try clear p243); (try clear p246); (try clear q220); (try clear q234); (try clear q237); (try clear q238); (try clear q243); (try clear q246)
              obtain ⟨x14_4, x15_4, rfl, rfl, HA, HK4, HO_5, HO_10, HO_217005, BK216, BK217, HR243_5, HB⟩ := hrel
              cases gk with
              | zero => exact absurd HA.out (by simp [ostinatoref04_Simple.l2])
              | succ k4 =>
               have H := HA.out
               clear HA
               simp only [ostinatoref04_Simple.l2] at H
               by_cases c102 : x15_4 < (x10_2.length : Int)
               ·
                rw [if_pos c102] at H
                have c102b0 : decide (x15_4 < (x10_2.length : Int)) = true := decide_eq_true c102
                clear c102
                by_cases c103 : a0_0 = 3
                ·
                 rw [if_pos c103] at H
                 have c103b0 : (a0_0 == 3) = true := beq_iff_eq.mpr c103
                 have c103b1 : (a0_0 != 3) = false := bne_eq_false_iff_eq.mpr c103
                 clear c103
                 by_cases c104 : x14_4 = true
                 ·
                  subst c104
                  have H1 : (ostinatoref04_Simple.l2 k4 t240 x10_2 x11_2 true (wrap64 (x15_4 + 1)) a0_0 a0_1 a0_2 a0_3 a0_4 l0_5 a0_6 a0_7) = some (r1, r2, r3, r4, r5, r6, r7, r8) := by rw [if_pos rfl] at H; exact H
                  clear H
                  have H := H1
                  clear H1
                  have H' := Aside0.mk H
                  clear H
                  obtain ⟨Ao105, co105, eo105⟩ := Kd.N_slice HO_10.out
                  subst eo105
                  have hnb106 := NB216_217.out
                  have hnc106 := NB217_216.out
                  obtain ⟨hcz107_0, hcz107_1, hcz107_2, hcz107_3, hcz107_4, hcz107_5, hcz107_6, hcz107_7, hfz107_0, hfz107_1, hfz107_2, hfz107_3, hfz107_4, hfz107_5, hfz107_6, hfz107_7⟩ := blk8 BK216.out
                  try go_wp2
                  have n0_ := Aside0.mk (Kd.N_drew HO_5.out)
                  have n1_ := Aside0.mk (Kd.N_drew HO_10.out)
                  have n2_ := Aside0.mk (Kd.V_drew HO_217005.out)
                  have n3_ := Aside0.mk (blk_drew BK216.out)
                  have n4_ := Aside0.mk (blk_drew BK217.out)
                  have n5_ := Aside0.mk (Kd.C_drew HR243_5.out)
                  have n6_ := Aside0.mk (below_drew1 HB.out)
                  clear HO_5
                  clear HO_10
                  clear HO_217005
                  clear BK216
                  clear BK217
                  clear HR243_5
                  clear HB
                  have HO_5 := n0_
                  have HO_10 := n1_
                  have HO_217005 := n2_
                  have BK216 := n3_
                  have BK217 := n4_
                  have HR243_5 := n5_
                  have HB := n6_
                  clear n0_ n1_ n2_ n3_ n4_ n5_ n6_
                  refine start_ (n := 13) (S := fun w' => True) (ds := []) #[false, false, false, false, false, false, false, false, false, false, false, false, false] (by kernel_rfl) rfl rfl trivial (fun hHeld => ?_); refine with_tabW ostinatoref04_Simple.tab31 ostinatoref04_Simple.bits31 (fun HT_ HW_ => ?_)
                  generalize wr.drew = w108 at HO_5 HO_10 HO_217005 BK216 BK217 HR243_5 HB hHeld ⊢
                  refine pure_ (i := 0) (N := some 135) (v := ?_) (a' := ?_) #[true, false, false, false, false, false, false, false, false, false, false, false, false] rfl rfl (any_of HT_.out (by kernel_rfl)) (fun _ _ _ h => h) (Or.inl ⟨by rfl, ?_⟩) ?_ ?_
                  rotate_left
                  ·
                   intro w'
                   go_simp
                   with_reducible rfl
                  rotate_left
                  ·
                   simp only [Act.put, List.setIfInBounds_toArray, List.set_cons_zero, List.set_cons_succ, i64_w, i32_w]
                   rfl
                  refine pure_ (i := 1) (N := some 136) (v := ?_) (a' := ?_) #[true, true, false, false, false, false, false, false, false, false, false, false, false] rfl rfl (any_of HT_.out (by kernel_rfl)) (fun _ _ _ h => h) (Or.inl ⟨by rfl, ?_⟩) ?_ ?_
                  rotate_left
                  ·
                   intro w'
                   go_simp
                   with_reducible rfl
                  rotate_left
                  ·
                   simp only [Act.put, List.setIfInBounds_toArray, List.set_cons_zero, List.set_cons_succ, i64_w, i32_w]
                   rfl
                  refine pure_ (i := 2) (N := some 137) (v := undef) (a' := ?_) #[true, true, true, false, false, false, false, false, false, false, false, false, false] rfl rfl (any_of HT_.out (by kernel_rfl)) (fun _ _ _ h => h) (Or.inr ⟨by rfl, rfl⟩) ?_ ?_
                  rotate_left
                  ·
                   simp only [Act.put, List.setIfInBounds_toArray, List.set_cons_zero, List.set_cons_succ, i64_w, i32_w]
                   rfl
                  refine pure_ (i := 3) (N := some 138) (v := undef) (a' := ?_) #[true, true, true, true, false, false, false, false, false, false, false, false, false] rfl rfl (any_of HT_.out (by kernel_rfl)) (fun _ _ _ h => h) (Or.inr ⟨by rfl, rfl⟩) ?_ ?_
                  rotate_left
                  ·
                   simp only [Act.put, List.setIfInBounds_toArray, List.set_cons_zero, List.set_cons_succ, i64_w, i32_w]
                   rfl
                  refine pure_ (i := 4) (N := some 139) (v := undef) (a' := ?_) #[true, true, true, true, true, false, false, false, false, false, false, false, false] rfl rfl (any_of HT_.out (by kernel_rfl)) (fun _ _ _ h => h) (Or.inr ⟨by rfl, rfl⟩) ?_ ?_
                  rotate_left
                  ·
                   simp only [Act.put, List.setIfInBounds_toArray, List.set_cons_zero, List.set_cons_succ, i64_w, i32_w]
                   rfl
                  refine pure_ (i := 5) (N := some 140) (v := undef) (a' := ?_) #[true, true, true, true, true, true, false, false, false, false, false, false, false] rfl rfl (any_of HT_.out (by kernel_rfl)) (fun _ _ _ h => h) (Or.inr ⟨by rfl, rfl⟩) ?_ ?_
                  rotate_left
                  ·
                   simp only [Act.put, List.setIfInBounds_toArray, List.set_cons_zero, List.set_cons_succ, i64_w, i32_w]
                   rfl
                  refine pure_ (i := 6) (N := some 141) (v := undef) (a' := ?_) #[true, true, true, true, true, true, true, false, false, false, false, false, false] rfl rfl (any_of HT_.out (by kernel_rfl)) (fun _ _ _ h => h) (Or.inr ⟨by rfl, rfl⟩) ?_ ?_
                  rotate_left
                  ·
                   simp only [Act.put, List.setIfInBounds_toArray, List.set_cons_zero, List.set_cons_succ, i64_w, i32_w]
                   rfl
                  refine pure_ (i := 7) (N := some 142) (v := undef) (a' := ?_) #[true, true, true, true, true, true, true, true, false, false, false, false, false] rfl rfl (any_of HT_.out (by kernel_rfl)) (fun _ _ _ h => h) (Or.inr ⟨by rfl, rfl⟩) ?_ ?_
                  rotate_left
                  ·
                   simp only [Act.put, List.setIfInBounds_toArray, List.set_cons_zero, List.set_cons_succ, i64_w, i32_w]
                   rfl
                  refine pure_ (i := 8) (N := some 143) (v := undef) (a' := ?_) #[true, true, true, true, true, true, true, true, true, false, false, false, false] rfl rfl (any_of HT_.out (by kernel_rfl)) (fun _ _ _ h => h) (Or.inr ⟨by rfl, rfl⟩) ?_ ?_
                  rotate_left
                  ·
                   simp only [Act.put, List.setIfInBounds_toArray, List.set_cons_zero, List.set_cons_succ, i64_w, i32_w]
                   rfl
                  refine pure_ (i := 9) (N := some 144) (v := undef) (a' := ?_) #[true, true, true, true, true, true, true, true, true, true, false, false, false] rfl rfl (any_of HT_.out (by kernel_rfl)) (fun _ _ _ h => h) (Or.inr ⟨by rfl, rfl⟩) ?_ ?_
                  rotate_left
                  ·
                   simp only [Act.put, List.setIfInBounds_toArray, List.set_cons_zero, List.set_cons_succ, i64_w, i32_w]
                   rfl
                  refine pure_ (i := 10) (N := some 145) (v := undef) (a' := ?_) #[true, true, true, true, true, true, true, true, true, true, true, false, false] rfl rfl (any_of HT_.out (by kernel_rfl)) (fun _ _ _ h => h) (Or.inr ⟨by rfl, rfl⟩) ?_ ?_
                  rotate_left
                  ·
                   simp only [Act.put, List.setIfInBounds_toArray, List.set_cons_zero, List.set_cons_succ, i64_w, i32_w]
                   rfl
                  refine pure_ (i := 11) (N := some 146) (v := ?_) (a' := ?_) #[true, true, true, true, true, true, true, true, true, true, true, true, false] rfl rfl (any_of HT_.out (by kernel_rfl)) (fun _ _ _ h => h) (Or.inl ⟨by rfl, ?_⟩) ?_ ?_
                  rotate_left
                  ·
                   intro w'
                   go_simp
                   with_reducible rfl
                  rotate_left
                  ·
                   simp only [Act.put, List.setIfInBounds_toArray, List.set_cons_zero, List.set_cons_succ, i64_w, i32_w]
                   rfl
                  refine pure_ (i := 12) (N := some 14) (v := ?_) (a' := ?_) #[true, true, true, true, true, true, true, true, true, true, true, true, true] rfl rfl (any_of HT_.out (by kernel_rfl)) (fun _ _ _ h => h) (Or.inl ⟨by rfl, ?_⟩) ?_ ?_
                  rotate_left
                  ·
                   intro w'
                   go_simp
                   with_reducible rfl
                  rotate_left
                  ·
                   simp only [Act.put, List.setIfInBounds_toArray, List.set_cons_zero, List.set_cons_succ, i64_w, i32_w]
                   rfl
                  refine done_ (done_of HT_.out (by kernel_rfl)) ?_
                  try go_wp2
                  go_roundg k4
                  case measure => have := HK1.out; have := HK2.out; have := HJ84.out; have := HK4.out; omega
                  case rel => exact ⟨(true), (wrap64 (x15_4 + 1)), (by first | rfl | (simp; done) | (simp [*]; done)), (by first | rfl | (simp; done) | (simp [*]; done)), H', ⟨by have := HK1.out; have := HK2.out; have := HJ84.out; have := HK4.out; omega⟩, ⟨by (with_reducible repeat (first | apply Kd.N_alloc | apply Kd.N_drewN | apply Kd.N_drew)); exact HO_5.out⟩, ⟨by (with_reducible repeat (first | apply Kd.N_alloc | apply Kd.N_drewN | apply Kd.N_drew)); exact HO_10.out⟩, ⟨by (with_reducible repeat (first | apply Kd.V_alloc | apply Kd.V_drewN | apply Kd.V_drew)); exact HO_217005.out⟩, ⟨by (with_reducible repeat (first | refine blk_drewN ?_ _ | refine blk_drew ?_ | refine blk_alloc ?_ _)); exact BK216.out⟩, ⟨by (with_reducible repeat (first | refine blk_drewN ?_ _ | refine blk_drew ?_ | refine blk_alloc ?_ _)); exact BK217.out⟩, ⟨by repeat (first | (with_reducible exact HR243_5.out) | (with_reducible refine Kd.C_alloc ?_ _) | (with_reducible refine Kd.C_drewN ?_ _) | (with_reducible refine Kd.C_drew ?_) | exact HR243_5.out)⟩, ⟨by repeat (first | (with_reducible first | exact HB.out | apply below_alloc | apply pw_below_drewN | apply below_drew1 | refine below_set ?_ GE216.out | refine below_set ?_ GE217.out) | exact HB.out)⟩⟩
                 ·
                  replace c104 := Bool.eq_false_iff.mpr c104
                  subst c104
                  have H1 : (if 0 ≤ x15_4 then (if 0 ≤ x11_2 then (if x11_2 < (t240.length : Int) then ((ostinatoref02_Same.f k4 ((rd_T27 x10_2 x15_4).f0) ((rd_T27 x10_2 x15_4).f1.f0) ((rd_T27 x10_2 x15_4).f1.f1) ((rd_T27 x10_2 x15_4).f1.f2) ((rd_T27 x10_2 x15_4).f1.f3) ((rd_T27 x10_2 x15_4).f2) ((rd_T27 x10_2 x15_4).f3) ((rd_T27 x10_2 x15_4).f4) ((rd_T27 t240 x11_2).f0) ((rd_T27 t240 x11_2).f1.f0) ((rd_T27 t240 x11_2).f1.f1) ((rd_T27 t240 x11_2).f1.f2) ((rd_T27 t240 x11_2).f1.f3) ((rd_T27 t240 x11_2).f2) ((rd_T27 t240 x11_2).f3) ((rd_T27 t240 x11_2).f4)).bind fun t249 => (ostinatoref04_Simple.l2 k4 t240 x10_2 x11_2 t249 (wrap64 (x15_4 + 1)) a0_0 a0_1 a0_2 a0_3 a0_4 l0_5 a0_6 a0_7)) else (none)) else (none)) else (none)) = some (r1, r2, r3, r4, r5, r6, r7, r8) := by rw [if_neg (show ¬ (false = true) by decide)] at H; exact H
                  clear H
                  have H := H1
                  clear H1
                  by_cases c109 : 0 ≤ x15_4
                  ·
                   rw [if_pos c109] at H
                   have c109b0 : decide (0 ≤ x15_4) = true := decide_eq_true c109
                   clear c109
                   by_cases c110 : 0 ≤ x11_2
                   ·
                    rw [if_pos c110] at H
                    have c110b0 : decide (0 ≤ x11_2) = true := decide_eq_true c110
                    clear c110
                    by_cases c111 : x11_2 < (t240.length : Int)
                    ·
                     rw [if_pos c111] at H
                     have c111b0 : decide (x11_2 < (t240.length : Int)) = true := decide_eq_true c111
                     clear c111
                     replace H := Option.bind_eq_some_iff.mp H
                     obtain ⟨t249, A1120, H⟩ := H
                     replace H : (ostinatoref04_Simple.l2 k4 t240 x10_2 x11_2 t249 (wrap64 (x15_4 + 1)) a0_0 a0_1 a0_2 a0_3 a0_4 l0_5 a0_6 a0_7) = some (r1, r2, r3, r4, r5, r6, r7, r8) := H
                     have A112 := Aside0.mk A1120
                     clear A1120
                     have H' := Aside0.mk H
                     clear H
                     obtain ⟨Ao113, co113, eo113⟩ := Kd.N_slice HO_10.out
                     subst eo113
                     have hnb114 := NB216_217.out
                     have hnc114 := NB217_216.out
                     obtain ⟨hcz115_0, hcz115_1, hcz115_2, hcz115_3, hcz115_4, hcz115_5, hcz115_6, hcz115_7, hfz115_0, hfz115_1, hfz115_2, hfz115_3, hfz115_4, hfz115_5, hfz115_6, hfz115_7⟩ := blk8 BK216.out
                     try go_wp2
                     have n0_ := Aside0.mk (Kd.N_drew HO_5.out)
                     have n1_ := Aside0.mk (Kd.N_drew HO_10.out)
                     have n2_ := Aside0.mk (Kd.V_drew HO_217005.out)
                     have n3_ := Aside0.mk (blk_drew BK216.out)
                     have n4_ := Aside0.mk (blk_drew BK217.out)
                     have n5_ := Aside0.mk (Kd.C_drew HR243_5.out)
                     have n6_ := Aside0.mk (below_drew1 HB.out)
                     clear HO_5
                     clear HO_10
                     clear HO_217005
                     clear BK216
                     clear BK217
                     clear HR243_5
                     clear HB
                     have HO_5 := n0_
                     have HO_10 := n1_
                     have HO_217005 := n2_
                     have BK216 := n3_
                     have BK217 := n4_
                     have HR243_5 := n5_
                     have HB := n6_
                     clear n0_ n1_ n2_ n3_ n4_ n5_ n6_
                     have p247 : 0 ≤ (x15_4 : Int) := of_decide_eq_true (by first | (with_reducible assumption) | assumption)
                     have q247 : x15_4 < (x10_2.length : Int) := of_decide_eq_true (by first | (with_reducible assumption) | assumption)
                     obtain ⟨ad247, A247_5, c247_5, e247, hx247_0, hx247_1, hx247_2, hx247_3, hx247_4, hx247_5, hx247_6, hx247_7, hl247_5, hi247_5⟩ := at_T27 (Kd.N_reads' HO_10.out).2.2 x15_4 p247 q247
                     cases e247
                     obtain ⟨ce247, hce247, hMe247, hcc247⟩ := Kd.N_get HO_10.out z27 x15_4 p247 (by first | exact q247 | exact of_decide_eq_true (by first | (with_reducible assumption) | assumption) | (have e_ := (Kd.N_reads' HO_10.out).1; omega))
                     obtain ⟨ua247_5, uc247_5, rfl, ul247_5, ge247_5⟩ := k27_openF hMe247
                     have hv247_5 := hcc247 5 _ rfl
                     rw [add_field _ _ 5 (by omega)] at hv247_5
                     replace hv247_5 := Option.some.inj (hv247_5.symm.trans hx247_5)
                     injection hv247_5 with hva_ hvn_ hvc_
                     rw [hva_] at ge247_5
                     rw [hvc_] at ul247_5
                     have HL247_5 := Aside0.mk (show Kd.V k27 27 _ w.heap.size _ _ ((rd_T27 x10_2 x15_4).f2) from Kd.V_mk ul247_5 ge247_5)
                     clear hva_ hvn_ hvc_ ge247_5 ul247_5
                     clear hcc247 hce247
                     have HR247_5 := Aside0.mk hi247_5
                     have HC247_5 := Aside0.mk hl247_5
                     clear hi247_5 hl247_5
                     replace p247 := eq_true p247
                     replace q247 := eq_true q247
                     have p248 : 0 ≤ (x11_2 : Int) := of_decide_eq_true (by first | (with_reducible assumption) | assumption)
                     have q248 : x11_2 < (t240.length : Int) := of_decide_eq_true (by first | (with_reducible assumption) | assumption)
                     obtain ⟨ad248, A248_5, c248_5, e248, hx248_0, hx248_1, hx248_2, hx248_3, hx248_4, hx248_5, hx248_6, hx248_7, hl248_5, hi248_5⟩ := at_T27 (Kd.N_reads' HO_5.out).2.2 x11_2 p248 q248
                     obtain rfl : ad243 = ad248 := (by injection e248)
                     obtain ⟨ce248, hce248, hMe248, hcc248⟩ := Kd.N_get HO_5.out z27 x11_2 p248 (by first | exact q248 | exact of_decide_eq_true (by first | (with_reducible assumption) | assumption) | (have e_ := (Kd.N_reads' HO_5.out).1; omega))
                     obtain ⟨ua248_5, uc248_5, rfl, ul248_5, ge248_5⟩ := k27_openF hMe248
                     have hv248_5 := hcc248 5 _ rfl
                     rw [add_field _ _ 5 (by omega)] at hv248_5
                     replace hv248_5 := Option.some.inj (hv248_5.symm.trans hx248_5)
                     injection hv248_5 with hva_ hvn_ hvc_
                     rw [hva_] at ge248_5
                     rw [hvc_] at ul248_5
                     have HL248_5 := Aside0.mk (show Kd.V k27 27 _ w.heap.size _ _ ((rd_T27 t240 x11_2).f2) from Kd.V_mk ul248_5 ge248_5)
                     clear hva_ hvn_ hvc_ ge248_5 ul248_5
                     clear hcc248 hce248
                     have HR248_5 := Aside0.mk hi248_5
                     have HC248_5 := Aside0.mk hl248_5
                     clear hi248_5 hl248_5
                     replace p248 := eq_true p248
                     replace q248 := eq_true q248
                     refine start_ (n := 13) (S := fun w' => w'.cell? (ad247.add ((x15_4).toNat * 8)) = some (.int .i64 ((rd_T27 x10_2 x15_4).f0)) ∧ w'.cell? ⟨(ad247.add ((x15_4).toNat * 8)).block, (ad247.add ((x15_4).toNat * 8)).off + 1, none⟩ = some (.int .u64 ((rd_T27 x10_2 x15_4).f1.f0)) ∧ w'.cell? ⟨(ad247.add ((x15_4).toNat * 8)).block, (ad247.add ((x15_4).toNat * 8)).off + 2, none⟩ = some (.int .u64 ((rd_T27 x10_2 x15_4).f1.f1)) ∧ w'.cell? ⟨(ad247.add ((x15_4).toNat * 8)).block, (ad247.add ((x15_4).toNat * 8)).off + 3, none⟩ = some (.int .u64 ((rd_T27 x10_2 x15_4).f1.f2)) ∧ w'.cell? ⟨(ad247.add ((x15_4).toNat * 8)).block, (ad247.add ((x15_4).toNat * 8)).off + 4, none⟩ = some (.int .u64 ((rd_T27 x10_2 x15_4).f1.f3)) ∧ w'.cell? ⟨(ad247.add ((x15_4).toNat * 8)).block, (ad247.add ((x15_4).toNat * 8)).off + 5, none⟩ = some (.slice A247_5 ((rd_T27 x10_2 x15_4).f2).length c247_5) ∧ w'.cell? ⟨(ad247.add ((x15_4).toNat * 8)).block, (ad247.add ((x15_4).toNat * 8)).off + 6, none⟩ = some (.int .i64 ((rd_T27 x10_2 x15_4).f3)) ∧ w'.cell? ⟨(ad247.add ((x15_4).toNat * 8)).block, (ad247.add ((x15_4).toNat * 8)).off + 7, none⟩ = some (.int .i64 ((rd_T27 x10_2 x15_4).f4)) ∧ w'.cell? (ad243.add ((x11_2).toNat * 8)) = some (.int .i64 ((rd_T27 t240 x11_2).f0)) ∧ w'.cell? ⟨(ad243.add ((x11_2).toNat * 8)).block, (ad243.add ((x11_2).toNat * 8)).off + 1, none⟩ = some (.int .u64 ((rd_T27 t240 x11_2).f1.f0)) ∧ w'.cell? ⟨(ad243.add ((x11_2).toNat * 8)).block, (ad243.add ((x11_2).toNat * 8)).off + 2, none⟩ = some (.int .u64 ((rd_T27 t240 x11_2).f1.f1)) ∧ w'.cell? ⟨(ad243.add ((x11_2).toNat * 8)).block, (ad243.add ((x11_2).toNat * 8)).off + 3, none⟩ = some (.int .u64 ((rd_T27 t240 x11_2).f1.f2)) ∧ w'.cell? ⟨(ad243.add ((x11_2).toNat * 8)).block, (ad243.add ((x11_2).toNat * 8)).off + 4, none⟩ = some (.int .u64 ((rd_T27 t240 x11_2).f1.f3)) ∧ w'.cell? ⟨(ad243.add ((x11_2).toNat * 8)).block, (ad243.add ((x11_2).toNat * 8)).off + 5, none⟩ = some (.slice A248_5 ((rd_T27 t240 x11_2).f2).length c248_5) ∧ w'.cell? ⟨(ad243.add ((x11_2).toNat * 8)).block, (ad243.add ((x11_2).toNat * 8)).off + 6, none⟩ = some (.int .i64 ((rd_T27 t240 x11_2).f3)) ∧ w'.cell? ⟨(ad243.add ((x11_2).toNat * 8)).block, (ad243.add ((x11_2).toNat * 8)).off + 7, none⟩ = some (.int .i64 ((rd_T27 t240 x11_2).f4))) (ds := []) #[false, false, false, false, false, false, false, false, false, false, false, false, false] (by kernel_rfl) rfl rfl ⟨hx247_0, hx247_1, hx247_2, hx247_3, hx247_4, hx247_5, hx247_6, hx247_7, hx248_0, hx248_1, hx248_2, hx248_3, hx248_4, hx248_5, hx248_6, hx248_7⟩ (fun hHeld => ?_); refine with_tabW ostinatoref04_Simple.tab31 ostinatoref04_Simple.bits31 (fun HT_ HW_ => ?_)
                     generalize wr.drew = w116 at HO_5 HO_10 HO_217005 BK216 BK217 HR243_5 HB HL247_5 HL248_5 HR247_5 HR248_5 hx247_0 hx247_1 hx247_2 hx247_3 hx247_4 hx247_5 hx247_6 hx247_7 hx248_0 hx248_1 hx248_2 hx248_3 hx248_4 hx248_5 hx248_6 hx248_7 hHeld ⊢
                     refine pure_ (i := 0) (N := some 135) (v := ?_) (a' := ?_) #[true, false, false, false, false, false, false, false, false, false, false, false, false] rfl rfl (any_of HT_.out (by kernel_rfl)) (fun _ _ _ h => h) (Or.inl ⟨by rfl, ?_⟩) ?_ ?_
                     rotate_left
                     ·
                      intro w'
                      go_simp
                      with_reducible rfl
                     rotate_left
                     ·
                      simp only [Act.put, List.setIfInBounds_toArray, List.set_cons_zero, List.set_cons_succ, i64_w, i32_w]
                      rfl
                     refine pure_ (i := 1) (N := some 136) (v := ?_) (a' := ?_) #[true, true, false, false, false, false, false, false, false, false, false, false, false] rfl rfl (any_of HT_.out (by kernel_rfl)) (fun _ _ _ h => h) (Or.inl ⟨by rfl, ?_⟩) ?_ ?_
                     rotate_left
                     ·
                      intro w'
                      go_simp
                      with_reducible rfl
                     rotate_left
                     ·
                      simp only [Act.put, List.setIfInBounds_toArray, List.set_cons_zero, List.set_cons_succ, i64_w, i32_w]
                      rfl
                     refine pure_ (i := 2) (N := some 137) (v := ?_) (a' := ?_) #[true, true, true, false, false, false, false, false, false, false, false, false, false] rfl rfl (any_of HT_.out (by kernel_rfl)) (fun _ _ _ h => h) (Or.inl ⟨by rfl, ?_⟩) ?_ ?_
                     rotate_left
                     ·
                      intro w'
                      go_simp
                      with_reducible rfl
                     rotate_left
                     ·
                      simp only [Act.put, List.setIfInBounds_toArray, List.set_cons_zero, List.set_cons_succ, i64_w, i32_w]
                      rfl
                     refine pure_ (i := 3) (N := some 138) (v := ?_) (a' := ?_) #[true, true, true, true, false, false, false, false, false, false, false, false, false] rfl rfl (any_of HT_.out (by kernel_rfl)) (fun _ _ _ h => h) (Or.inl ⟨by rfl, ?_⟩) ?_ ?_
                     rotate_left
                     ·
                      intro w'
                      go_simp
                      with_reducible rfl
                     rotate_left
                     ·
                      simp only [Act.put, List.setIfInBounds_toArray, List.set_cons_zero, List.set_cons_succ, i64_w, i32_w]
                      rfl
                     refine pure_ (i := 4) (N := some 139) (v := ?_) (a' := ?_) #[true, true, true, true, true, false, false, false, false, false, false, false, false] rfl rfl (any_of HT_.out (by kernel_rfl)) (fun _ _ _ h => h) (Or.inl ⟨by rfl, ?_⟩) ?_ ?_
                     rotate_left
                     ·
                      intro w'
                      go_simp
                      with_reducible rfl
                     rotate_left
                     ·
                      simp only [Act.put, List.setIfInBounds_toArray, List.set_cons_zero, List.set_cons_succ, i64_w, i32_w]
                      rfl
                     refine pure_ (i := 6) (N := some 141) (v := ?_) (a' := ?_) #[true, true, true, true, true, false, true, false, false, false, false, false, false] rfl rfl (any_of HT_.out (by kernel_rfl)) (fun _ _ _ h => h) (Or.inl ⟨by rfl, ?_⟩) ?_ ?_
                     rotate_left
                     ·
                      intro w'
                      go_simp
                      with_reducible rfl
                     rotate_left
                     ·
                      simp only [Act.put, List.setIfInBounds_toArray, List.set_cons_zero, List.set_cons_succ, i64_w, i32_w]
                      rfl
                     refine pure_ (i := 7) (N := some 142) (v := ?_) (a' := ?_) #[true, true, true, true, true, false, true, true, false, false, false, false, false] rfl rfl (any_of HT_.out (by kernel_rfl)) (fun _ _ _ h => h) (Or.inl ⟨by rfl, ?_⟩) ?_ ?_
                     rotate_left
                     ·
                      intro w'
                      go_simp
                      with_reducible rfl
                     rotate_left
                     ·
                      simp only [Act.put, List.setIfInBounds_toArray, List.set_cons_zero, List.set_cons_succ, i64_w, i32_w]
                      rfl
                     refine pure_ (i := 8) (N := some 143) (v := ?_) (a' := ?_) #[true, true, true, true, true, false, true, true, true, false, false, false, false] rfl rfl (any_of HT_.out (by kernel_rfl)) (fun _ _ _ h => h) (Or.inl ⟨by rfl, ?_⟩) ?_ ?_
                     rotate_left
                     ·
                      intro w'
                      go_simp
                      with_reducible rfl
                     rotate_left
                     ·
                      simp only [Act.put, List.setIfInBounds_toArray, List.set_cons_zero, List.set_cons_succ, i64_w, i32_w]
                      rfl
                     refine take_ (i := 5) (N := some 140) (v := ?_) (a' := ?_) #[true, true, true, true, true, true, true, true, true, false, false, false, false] rfl rfl (take_ofW HT_.out HW_.out (by kernel_rfl)) (fun _ _ _ h => h) (Or.inl ⟨by rfl, ?_⟩) hHeld ?_ ?_
                     rotate_left
                     ·
                      rintro w' ⟨s0, s1, s2, s3, s4, s5, s6, s7, s8, s9, s10, s11, s12, s13, s14, s15⟩
                      go_simp
                      with_reducible rfl
                     rotate_left
                     ·
                      simp only [Act.put, List.setIfInBounds_toArray, List.set_cons_zero, List.set_cons_succ, i64_w, i32_w]
                      rfl
                     refine take_ (i := 9) (N := some 144) (v := ?_) (a' := ?_) #[true, true, true, true, true, true, true, true, true, true, false, false, false] rfl rfl (take_ofW HT_.out HW_.out (by kernel_rfl)) (fun _ _ _ h => h) (Or.inl ⟨by rfl, ?_⟩) hHeld ?_ ?_
                     rotate_left
                     ·
                      rintro w' ⟨s0, s1, s2, s3, s4, s5, s6, s7, s8, s9, s10, s11, s12, s13, s14, s15⟩
                      go_simp
                      with_reducible rfl
                     rotate_left
                     ·
                      simp only [Act.put, List.setIfInBounds_toArray, List.set_cons_zero, List.set_cons_succ, i64_w, i32_w]
                      rfl
                     refine one_ (i := 10) (N := some 145) #[true, true, true, true, true, true, true, true, true, true, true, false, false] rfl rfl (one_of HT_.out (by kernel_rfl)) (by decide) (fun K hK => ?_)
                     refine goes_ Try.func12 (by kernel_rfl) rfl #[.agg #[.int .i64 ((rd_T27 x10_2 x15_4).f0), .int .u64 ((rd_T27 x10_2 x15_4).f1.f0), .int .u64 ((rd_T27 x10_2 x15_4).f1.f1), .int .u64 ((rd_T27 x10_2 x15_4).f1.f2), .int .u64 ((rd_T27 x10_2 x15_4).f1.f3), .slice A247_5 ((rd_T27 x10_2 x15_4).f2).length c247_5, .int .i64 ((rd_T27 x10_2 x15_4).f3), .int .i64 ((rd_T27 x10_2 x15_4).f4)], .agg #[.int .i64 ((rd_T27 t240 x11_2).f0), .int .u64 ((rd_T27 t240 x11_2).f1.f0), .int .u64 ((rd_T27 t240 x11_2).f1.f1), .int .u64 ((rd_T27 t240 x11_2).f1.f2), .int .u64 ((rd_T27 t240 x11_2).f1.f3), .slice A248_5 ((rd_T27 t240 x11_2).f2).length c248_5, .int .i64 ((rd_T27 t240 x11_2).f3), .int .i64 ((rd_T27 t240 x11_2).f4)]] (by rfl) rfl rfl (by (try simp only [List.map_toArray, List.map_cons, List.map_nil]); first | done | rfl | (simp only [List.length_drop, List.length_take]; rfl)) ?_
                     with_reducible refine (ostinatoref02_Same.calls k4 ((rd_T27 x10_2 x15_4).f0) ((rd_T27 x10_2 x15_4).f1.f0) ((rd_T27 x10_2 x15_4).f1.f1) ((rd_T27 x10_2 x15_4).f1.f2) ((rd_T27 x10_2 x15_4).f1.f3) _ _ ((rd_T27 x10_2 x15_4).f2) ((rd_T27 x10_2 x15_4).f3) ((rd_T27 x10_2 x15_4).f4) ((rd_T27 t240 x11_2).f0) ((rd_T27 t240 x11_2).f1.f0) ((rd_T27 t240 x11_2).f1.f1) ((rd_T27 t240 x11_2).f1.f2) ((rd_T27 t240 x11_2).f1.f3) _ _ ((rd_T27 t240 x11_2).f2) ((rd_T27 t240 x11_2).f3) ((rd_T27 t240 x11_2).f4) t249 _ ?side1 ?side2 ?side3 ?side4 A112.out).mono ?_
                     (case side1 => repeat (first | exact (by repeat (first | (with_reducible exact HR247_5.out) | (with_reducible refine Kd.C_alloc ?_ _) | (with_reducible refine Kd.C_drewN ?_ _) | (with_reducible refine Kd.C_drew ?_) | exact HR247_5.out)) | (with_reducible refine Kd.C_alloc ?_ _) | (with_reducible refine Kd.C_drewN ?_ _) | (with_reducible refine Kd.C_drew ?_)))
                     (case side2 => exact HC247_5.out)
                     (case side3 => repeat (first | exact (by repeat (first | (with_reducible exact HR248_5.out) | (with_reducible refine Kd.C_alloc ?_ _) | (with_reducible refine Kd.C_drewN ?_ _) | (with_reducible refine Kd.C_drew ?_) | exact HR248_5.out)) | (with_reducible refine Kd.C_alloc ?_ _) | (with_reducible refine Kd.C_drewN ?_ _) | (with_reducible refine Kd.C_drew ?_)))
                     (case side4 => exact HC248_5.out)
                     rintro e w117 ⟨rfl, hb⟩
                     have HS0_ := (hb.cell (World.block_lt_of_cell? _ _ (hHeld.1))).trans (hHeld.1)
                     have HS1_ := (hb.cell (World.block_lt_of_cell? _ _ (hHeld.2.1))).trans (hHeld.2.1)
                     have HS2_ := (hb.cell (World.block_lt_of_cell? _ _ (hHeld.2.2.1))).trans (hHeld.2.2.1)
                     have HS3_ := (hb.cell (World.block_lt_of_cell? _ _ (hHeld.2.2.2.1))).trans (hHeld.2.2.2.1)
                     have HS4_ := (hb.cell (World.block_lt_of_cell? _ _ (hHeld.2.2.2.2.1))).trans (hHeld.2.2.2.2.1)
                     have HS5_ := (hb.cell (World.block_lt_of_cell? _ _ (hHeld.2.2.2.2.2.1))).trans (hHeld.2.2.2.2.2.1)
                     have HS6_ := (hb.cell (World.block_lt_of_cell? _ _ (hHeld.2.2.2.2.2.2.1))).trans (hHeld.2.2.2.2.2.2.1)
                     have HS7_ := (hb.cell (World.block_lt_of_cell? _ _ (hHeld.2.2.2.2.2.2.2.1))).trans (hHeld.2.2.2.2.2.2.2.1)
                     have HS8_ := (hb.cell (World.block_lt_of_cell? _ _ (hHeld.2.2.2.2.2.2.2.2.1))).trans (hHeld.2.2.2.2.2.2.2.2.1)
                     have HS9_ := (hb.cell (World.block_lt_of_cell? _ _ (hHeld.2.2.2.2.2.2.2.2.2.1))).trans (hHeld.2.2.2.2.2.2.2.2.2.1)
                     have HS10_ := (hb.cell (World.block_lt_of_cell? _ _ (hHeld.2.2.2.2.2.2.2.2.2.2.1))).trans (hHeld.2.2.2.2.2.2.2.2.2.2.1)
                     have HS11_ := (hb.cell (World.block_lt_of_cell? _ _ (hHeld.2.2.2.2.2.2.2.2.2.2.2.1))).trans (hHeld.2.2.2.2.2.2.2.2.2.2.2.1)
                     have HS12_ := (hb.cell (World.block_lt_of_cell? _ _ (hHeld.2.2.2.2.2.2.2.2.2.2.2.2.1))).trans (hHeld.2.2.2.2.2.2.2.2.2.2.2.2.1)
                     have HS13_ := (hb.cell (World.block_lt_of_cell? _ _ (hHeld.2.2.2.2.2.2.2.2.2.2.2.2.2.1))).trans (hHeld.2.2.2.2.2.2.2.2.2.2.2.2.2.1)
                     have HS14_ := (hb.cell (World.block_lt_of_cell? _ _ (hHeld.2.2.2.2.2.2.2.2.2.2.2.2.2.2.1))).trans (hHeld.2.2.2.2.2.2.2.2.2.2.2.2.2.2.1)
                     have HS15_ := (hb.cell (World.block_lt_of_cell? _ _ (hHeld.2.2.2.2.2.2.2.2.2.2.2.2.2.2.2))).trans (hHeld.2.2.2.2.2.2.2.2.2.2.2.2.2.2.2)
                     refine ⟨_, rfl, ?_⟩
                     have n0_ := Aside0.mk (Kd.N_below (by (with_reducible repeat (first | apply Kd.N_alloc | apply Kd.N_drewN | apply Kd.N_drew)); exact HO_5.out) hb)
                     have n1_ := Aside0.mk (Kd.N_below (by (with_reducible repeat (first | apply Kd.N_alloc | apply Kd.N_drewN | apply Kd.N_drew)); exact HO_10.out) hb)
                     have n2_ := Aside0.mk (Kd.V_below (by (with_reducible repeat (first | apply Kd.V_alloc | apply Kd.V_drewN | apply Kd.V_drew)); exact HO_217005.out) hb)
                     have n3_ := Aside0.mk (Kd.V_below (by (with_reducible repeat (first | apply Kd.V_alloc | apply Kd.V_drewN | apply Kd.V_drew)); exact HL247_5.out) hb)
                     have n4_ := Aside0.mk (Kd.V_below (by (with_reducible repeat (first | apply Kd.V_alloc | apply Kd.V_drewN | apply Kd.V_drew)); exact HL248_5.out) hb)
                     have n5_ := Aside0.mk (blk_below (g := gb216) (o := .cells #[.int .i64 a0_0, .int .u64 a0_1, .int .u64 a0_2, .int .u64 a0_3, .int .u64 a0_4, .slice A0_5 l0_5.length c0_5, .int .i64 a0_6, .int .i64 a0_7] 27 (0, 0)) (by (with_reducible repeat (first | refine blk_drewN ?_ _ | refine blk_drew ?_ | refine blk_alloc ?_ _)); exact BK216.out) hb)
                     have n6_ := Aside0.mk (blk_below (g := gb217) (o := .cells #[.int .i64 0, .int .u64 0, .int .u64 0, .int .u64 0, .int .u64 0, .slice none 0 0, .int .i64 0, .int .i64 0] 27 (0, 0)) (by (with_reducible repeat (first | refine blk_drewN ?_ _ | refine blk_drew ?_ | refine blk_alloc ?_ _)); exact BK217.out) hb)
                     have n7_ := Aside0.mk (Kd.C_below (by repeat (first | (with_reducible exact HR243_5.out) | (with_reducible refine Kd.C_alloc ?_ _) | (with_reducible refine Kd.C_drewN ?_ _) | (with_reducible refine Kd.C_drew ?_) | exact HR243_5.out)) hb)
                     have n8_ := Aside0.mk (Kd.C_below (by repeat (first | (with_reducible exact HR247_5.out) | (with_reducible refine Kd.C_alloc ?_ _) | (with_reducible refine Kd.C_drewN ?_ _) | (with_reducible refine Kd.C_drew ?_) | exact HR247_5.out)) hb)
                     have n9_ := Aside0.mk (Kd.C_below (by repeat (first | (with_reducible exact HR248_5.out) | (with_reducible refine Kd.C_alloc ?_ _) | (with_reducible refine Kd.C_drewN ?_ _) | (with_reducible refine Kd.C_drew ?_) | exact HR248_5.out)) hb)
                     have n10_ := Aside0.mk (below_step (by repeat (first | (with_reducible first | exact HB.out | apply below_alloc | apply pw_below_drewN | apply below_drew1 | refine below_set ?_ GE216.out | refine below_set ?_ GE217.out) | exact HB.out)) hb)
                     clear HO_5
                     clear HO_10
                     clear HO_217005
                     clear HL247_5
                     clear HL248_5
                     clear BK216
                     clear BK217
                     clear HR243_5
                     clear HR247_5
                     clear HR248_5
                     clear HB
                     have HO_5 := n0_
                     have HO_10 := n1_
                     have HO_217005 := n2_
                     have HL247_5 := n3_
                     have HL248_5 := n4_
                     have BK216 := n5_
                     have BK217 := n6_
                     have HR243_5 := n7_
                     have HR247_5 := n8_
                     have HR248_5 := n9_
                     have HB := n10_
                     clear n0_ n1_ n2_ n3_ n4_ n5_ n6_ n7_ n8_ n9_ n10_
                     (try clear hb)
                     (try clear hb2)
                     (try clear hk)
                     (try clear hi)
                     refine hK.out _ _ ⟨HS0_, HS1_, HS2_, HS3_, HS4_, HS5_, HS6_, HS7_, HS8_, HS9_, HS10_, HS11_, HS12_, HS13_, HS14_, HS15_⟩ (fun hHeld => ?_)
                     clear hK K
                     refine norm_ (a' := ?_) ?_ ?_
                     rotate_left
                     ·
                      show Act.put _ (some 145) _ = _
                      simp only [Act.put, List.setIfInBounds_toArray, List.set_cons_zero, List.set_cons_succ, i64_w, i32_w]
                      rfl
                     refine pure_ (i := 11) (N := some 146) (v := ?_) (a' := ?_) #[true, true, true, true, true, true, true, true, true, true, true, true, false] rfl rfl (any_of HT_.out (by kernel_rfl)) (fun _ _ _ h => h) (Or.inl ⟨by rfl, ?_⟩) ?_ ?_
                     rotate_left
                     ·
                      intro w'
                      go_simp
                      with_reducible rfl
                     rotate_left
                     ·
                      simp only [Act.put, List.setIfInBounds_toArray, List.set_cons_zero, List.set_cons_succ, i64_w, i32_w]
                      rfl
                     refine pure_ (i := 12) (N := some 14) (v := ?_) (a' := ?_) #[true, true, true, true, true, true, true, true, true, true, true, true, true] rfl rfl (any_of HT_.out (by kernel_rfl)) (fun _ _ _ h => h) (Or.inl ⟨by rfl, ?_⟩) ?_ ?_
                     rotate_left
                     ·
                      intro w'
                      go_simp
                      with_reducible rfl
                     rotate_left
                     ·
                      simp only [Act.put, List.setIfInBounds_toArray, List.set_cons_zero, List.set_cons_succ, i64_w, i32_w]
                      rfl
                     refine done_ (done_of HT_.out (by kernel_rfl)) ?_
                     try go_wp2
                     go_roundg k4
                     case measure => have := HK1.out; have := HK2.out; have := HJ84.out; have := HK4.out; omega
                     case rel => exact ⟨(t249), (wrap64 (x15_4 + 1)), (by first | rfl | (simp; done) | (simp [*]; done)), (by first | rfl | (simp; done) | (simp [*]; done)), H', ⟨by have := HK1.out; have := HK2.out; have := HJ84.out; have := HK4.out; omega⟩, ⟨by (with_reducible repeat (first | apply Kd.N_alloc | apply Kd.N_drewN | apply Kd.N_drew)); exact HO_5.out⟩, ⟨by (with_reducible repeat (first | apply Kd.N_alloc | apply Kd.N_drewN | apply Kd.N_drew)); exact HO_10.out⟩, ⟨by (with_reducible repeat (first | apply Kd.V_alloc | apply Kd.V_drewN | apply Kd.V_drew)); exact HO_217005.out⟩, ⟨by (with_reducible repeat (first | refine blk_drewN ?_ _ | refine blk_drew ?_ | refine blk_alloc ?_ _)); exact BK216.out⟩, ⟨by (with_reducible repeat (first | refine blk_drewN ?_ _ | refine blk_drew ?_ | refine blk_alloc ?_ _)); exact BK217.out⟩, ⟨by repeat (first | (with_reducible exact HR243_5.out) | (with_reducible refine Kd.C_alloc ?_ _) | (with_reducible refine Kd.C_drewN ?_ _) | (with_reducible refine Kd.C_drew ?_) | exact HR243_5.out)⟩, ⟨by repeat (first | (with_reducible first | exact HB.out | apply below_alloc | apply pw_below_drewN | apply below_drew1 | refine below_set ?_ GE216.out | refine below_set ?_ GE217.out) | exact HB.out)⟩⟩
                    ·
                     rw [if_neg c111] at H
                     exact absurd H (by simp)
                   ·
                    rw [if_neg c110] at H
                    exact absurd H (by simp)
                  ·
                   rw [if_neg c109] at H
                   exact absurd H (by simp)
                ·
                 rw [if_neg c103] at H
                 have c103b0 : (a0_0 == 3) = false := beq_eq_false_iff_ne.mpr c103
                 have c103b1 : (a0_0 != 3) = true := bne_iff_ne.mpr c103
                 by_cases c118 : x14_4 = true
                 ·
                  subst c118
                  have H1 : (ostinatoref04_Simple.l1 k4 t240 x10_2 (wrap64 (x11_2 + 1)) a0_0 a0_1 a0_2 a0_3 a0_4 l0_5 a0_6 a0_7) = some (r1, r2, r3, r4, r5, r6, r7, r8) := by rw [if_pos rfl] at H; exact H
                  clear H
                  have H := H1
                  clear H1
                  have H' := Aside0.mk H
                  clear H
                  obtain ⟨Ao119, co119, eo119⟩ := Kd.N_slice HO_10.out
                  subst eo119
                  have hnb120 := NB216_217.out
                  have hnc120 := NB217_216.out
                  obtain ⟨hcz121_0, hcz121_1, hcz121_2, hcz121_3, hcz121_4, hcz121_5, hcz121_6, hcz121_7, hfz121_0, hfz121_1, hfz121_2, hfz121_3, hfz121_4, hfz121_5, hfz121_6, hfz121_7⟩ := blk8 BK216.out
                  go_wp2
                  go_roundg k4
                  case measure => have := HK1.out; have := HK2.out; have := HJ84.out; have := HK4.out; omega
                  case rel => exact ⟨(x10_2), (wrap64 (x11_2 + 1)), (by first | rfl | (simp; done) | (simp [*]; done)), H', ⟨by have := HK1.out; have := HK2.out; have := HJ84.out; have := HK4.out; omega⟩, ⟨by (with_reducible repeat (first | apply Kd.N_alloc | apply Kd.N_drewN | apply Kd.N_drew)); exact HO_5.out⟩, ⟨by (with_reducible repeat (first | apply Kd.N_alloc | apply Kd.N_drewN | apply Kd.N_drew)); exact HO_10.out⟩, ⟨by (with_reducible repeat (first | apply Kd.V_alloc | apply Kd.V_drewN | apply Kd.V_drew)); exact HO_217005.out⟩, ⟨by (with_reducible repeat (first | refine blk_drewN ?_ _ | refine blk_drew ?_ | refine blk_alloc ?_ _)); exact BK216.out⟩, ⟨by (with_reducible repeat (first | refine blk_drewN ?_ _ | refine blk_drew ?_ | refine blk_alloc ?_ _)); exact BK217.out⟩, ⟨by repeat (first | (with_reducible first | exact HB.out | apply below_alloc | apply pw_below_drewN | apply below_drew1 | refine below_set ?_ GE216.out | refine below_set ?_ GE217.out) | exact HB.out)⟩⟩
                 ·
                  replace c118 := Bool.eq_false_iff.mpr c118
                  subst c118
                  have H1 : (if 0 ≤ x11_2 then (if x11_2 < (t240.length : Int) then (if x10_2.length < 1759218604441 then (ostinatoref04_Simple.l1 k4 t240 (x10_2 ++ [(⟨(rd_T27 t240 x11_2).f0, (⟨(rd_T27 t240 x11_2).f1.f0, (rd_T27 t240 x11_2).f1.f1, (rd_T27 t240 x11_2).f1.f2, (rd_T27 t240 x11_2).f1.f3⟩ : S24), (rd_T27 t240 x11_2).f2, (rd_T27 t240 x11_2).f3, (rd_T27 t240 x11_2).f4⟩ : S27)]) (wrap64 (x11_2 + 1)) a0_0 a0_1 a0_2 a0_3 a0_4 l0_5 a0_6 a0_7) else (none)) else (none)) else (none)) = some (r1, r2, r3, r4, r5, r6, r7, r8) := by rw [if_neg (show ¬ (false = true) by decide)] at H; exact H
                  clear H
                  have H := H1
                  clear H1
                  by_cases c122 : 0 ≤ x11_2
                  ·
                   rw [if_pos c122] at H
                   have c122b0 : decide (0 ≤ x11_2) = true := decide_eq_true c122
                   clear c122
                   by_cases c123 : x11_2 < (t240.length : Int)
                   ·
                    rw [if_pos c123] at H
                    have c123b0 : decide (x11_2 < (t240.length : Int)) = true := decide_eq_true c123
                    clear c123
                    by_cases c124 : x10_2.length < 1759218604441
                    ·
                     rw [if_pos c124] at H
                     have LMc124 := Aside0.mk c124
                     clear c124
                     obtain ⟨y251, hy251⟩ : ∃ y_ : List (S27), y_ = (x10_2 ++ [(⟨(rd_T27 t240 x11_2).f0, (⟨(rd_T27 t240 x11_2).f1.f0, (rd_T27 t240 x11_2).f1.f1, (rd_T27 t240 x11_2).f1.f2, (rd_T27 t240 x11_2).f1.f3⟩ : S24), (rd_T27 t240 x11_2).f2, (rd_T27 t240 x11_2).f3, (rd_T27 t240 x11_2).f4⟩ : S27)]) := ⟨_, rfl⟩
                     replace H : (ostinatoref04_Simple.l1 k4 t240 y251 (wrap64 (x11_2 + 1)) a0_0 a0_1 a0_2 a0_3 a0_4 l0_5 a0_6 a0_7) = some (r1, r2, r3, r4, r5, r6, r7, r8) := by first | (rw [hy251]; with_reducible exact H) | (have H2_ := (Option.bind_some _ _).symm.trans H; rw [hy251]; with_reducible exact H2_) | (have H2_ := (Option.bind_some _ _).symm.trans H; with_reducible exact H2_) | with_reducible exact H | (rw [hy251]; exact H) | exact H
                     have Ny251 := Aside0.mk hy251
                     clear hy251
                     have H' := Aside0.mk H
                     clear H
                     obtain ⟨Ao125, co125, eo125⟩ := Kd.N_slice HO_10.out
                     subst eo125
                     have hnb126 := NB216_217.out
                     have hnc126 := NB217_216.out
                     obtain ⟨hcz127_0, hcz127_1, hcz127_2, hcz127_3, hcz127_4, hcz127_5, hcz127_6, hcz127_7, hfz127_0, hfz127_1, hfz127_2, hfz127_3, hfz127_4, hfz127_5, hfz127_6, hfz127_7⟩ := blk8 BK216.out
                     have p250 : 0 ≤ (x11_2 : Int) := of_decide_eq_true (by first | (with_reducible assumption) | assumption)
                     have q250 : x11_2 < (t240.length : Int) := of_decide_eq_true (by first | (with_reducible assumption) | assumption)
                     obtain ⟨ad250, A250_5, c250_5, e250, hx250_0, hx250_1, hx250_2, hx250_3, hx250_4, hx250_5, hx250_6, hx250_7, hl250_5, hi250_5⟩ := at_T27 (Kd.N_reads' HO_5.out).2.2 x11_2 p250 q250
                     obtain rfl : ad243 = ad250 := (by injection e250)
                     obtain ⟨ce250, hce250, hMe250, hcc250⟩ := Kd.N_get HO_5.out z27 x11_2 p250 (by first | exact q250 | exact of_decide_eq_true (by first | (with_reducible assumption) | assumption) | (have e_ := (Kd.N_reads' HO_5.out).1; omega))
                     obtain ⟨ua250_5, uc250_5, rfl, ul250_5, ge250_5⟩ := k27_openF hMe250
                     have hv250_5 := hcc250 5 _ rfl
                     rw [add_field _ _ 5 (by omega)] at hv250_5
                     replace hv250_5 := Option.some.inj (hv250_5.symm.trans hx250_5)
                     injection hv250_5 with hva_ hvn_ hvc_
                     rw [hva_] at ge250_5
                     rw [hvc_] at ul250_5
                     have HL250_5 := Aside0.mk (show Kd.V k27 27 _ w.heap.size _ _ ((rd_T27 t240 x11_2).f2) from Kd.V_mk ul250_5 ge250_5)
                     clear hva_ hvn_ hvc_ ge250_5 ul250_5
                     clear hcc250 hce250
                     have HR250_5 := Aside0.mk hi250_5
                     have HC250_5 := Aside0.mk hl250_5
                     clear hi250_5 hl250_5
                     replace p250 := eq_true p250
                     replace q250 := eq_true q250
                     go_wp2_with (first | ((with_reducible refine gate_builtin (b := .append) (xs := #[.tmp 149, .tmp 154]) rfl ?_); at_builtin; refine Kd.N_append k27 (w0 := w) w.heap.size rfl (.tmp 149) (.tmp 154) 25 27 (.agg #[(.int .i64 0), (.int .u64 0), (.int .u64 0), (.int .u64 0), (.int .u64 0), (.slice none 0 0), (.int .i64 0), (.int .i64 0)]) 80 rfl Try.underlying25 info27 rfl (by decide) (by omega) (.slice Ao125 x10_2.length co125) x10_2 (⟨(rd_T27 t240 x11_2).f0, (⟨(rd_T27 t240 x11_2).f1.f0, (rd_T27 t240 x11_2).f1.f1, (rd_T27 t240 x11_2).f1.f2, (rd_T27 t240 x11_2).f1.f3⟩ : S24), (rd_T27 t240 x11_2).f2, (rd_T27 t240 x11_2).f3, (rd_T27 t240 x11_2).f4⟩ : S27) [.int .i64 ((rd_T27 t240 x11_2).f0), .int .u64 ((rd_T27 t240 x11_2).f1.f0), .int .u64 ((rd_T27 t240 x11_2).f1.f1), .int .u64 ((rd_T27 t240 x11_2).f1.f2), .int .u64 ((rd_T27 t240 x11_2).f1.f3), .slice A250_5 ((rd_T27 t240 x11_2).f2).length c250_5, .int .i64 ((rd_T27 t240 x11_2).f3), .int .i64 ((rd_T27 t240 x11_2).f4)] (fun k_ => (P0_5_ k_ ∨ w.heap.size ≤ k_) ∧ some k_ ≠ (.slice (some ad243) t240.length co86 : Value).ownBlock ∧ k_ ≠ gb216 ∧ k_ ≠ gb217) (fun k_ => ((fun k_ => (P0_5_ k_ ∨ w.heap.size ≤ k_) ∧ some k_ ≠ (.slice (some ad243) t240.length co86 : Value).ownBlock ∧ k_ ≠ gb216 ∧ k_ ≠ gb217)) k_ ∧ some k_ ≠ (.slice Ao125 x10_2.length co125 : Value).ownBlock) rfl rfl ?aP (fun _ hk => hk) ?aF ?aO ?aB ?aS ?aL ?_; (case aP => exact (k27_mkF _ _ (⟨(rd_T27 t240 x11_2).f0, (⟨(rd_T27 t240 x11_2).f1.f0, (rd_T27 t240 x11_2).f1.f1, (rd_T27 t240 x11_2).f1.f2, (rd_T27 t240 x11_2).f1.f3⟩ : S24), (rd_T27 t240 x11_2).f2, (rd_T27 t240 x11_2).f3, (rd_T27 t240 x11_2).f4⟩ : S27) (Kd.V_reads' (Kd.V_mono (ok' := (fun k_ => ((fun k_ => (P0_5_ k_ ∨ w.heap.size ≤ k_) ∧ some k_ ≠ (.slice (some ad243) t240.length co86 : Value).ownBlock ∧ k_ ≠ gb216 ∧ k_ ≠ gb217)) k_ ∧ some k_ ≠ (.slice Ao125 x10_2.length co125 : Value).ownBlock)) (HL250_5.out) (fun k_ hk => ⟨⟨hk.1.1, ⟨hk.2, ⟨hk.1.2.2.1, hk.1.2.2.2⟩⟩⟩, hk.1.2.1⟩))).2.1 (Kd.V_F (Kd.V_mono (ok' := (fun k_ => ((fun k_ => (P0_5_ k_ ∨ w.heap.size ≤ k_) ∧ some k_ ≠ (.slice (some ad243) t240.length co86 : Value).ownBlock ∧ k_ ≠ gb216 ∧ k_ ≠ gb217)) k_ ∧ some k_ ≠ (.slice Ao125 x10_2.length co125 : Value).ownBlock)) (HL250_5.out) (fun k_ hk => ⟨⟨hk.1.1, ⟨hk.2, ⟨hk.1.2.2.1, hk.1.2.2.2⟩⟩⟩, hk.1.2.1⟩))))); (case aB => exact (by repeat (first | (with_reducible first | exact HB.out | apply below_alloc | apply pw_below_drewN | apply below_drew1 | refine below_set ?_ GE216.out | refine below_set ?_ GE217.out) | exact HB.out))); (case aF => exact (fun k_ hk => ⟨(.inr (Nat.le_trans (below_size (by repeat (first | (with_reducible first | exact HB.out | apply below_alloc | apply pw_below_drewN | apply below_drew1 | refine below_set ?_ GE216.out | refine below_set ?_ GE217.out) | exact HB.out))) hk)), Kd.fresh' (Kd.N_lt (by (with_reducible repeat (first | apply Kd.N_alloc | apply Kd.N_drewN | apply Kd.N_drew)); exact HO_5.out)) k_ hk, Kd.freshB (g := gb216) (o := .cells #[.int .i64 a0_0, .int .u64 a0_1, .int .u64 a0_2, .int .u64 a0_3, .int .u64 a0_4, .slice A0_5 l0_5.length c0_5, .int .i64 a0_6, .int .i64 a0_7] 27 (0, 0)) (by (with_reducible repeat (first | refine blk_drewN ?_ _ | refine blk_drew ?_ | refine blk_alloc ?_ _)); exact BK216.out) k_ hk, Kd.freshB (g := gb217) (o := .cells #[.int .i64 0, .int .u64 0, .int .u64 0, .int .u64 0, .int .u64 0, .slice none 0 0, .int .i64 0, .int .i64 0] 27 (0, 0)) (by (with_reducible repeat (first | refine blk_drewN ?_ _ | refine blk_drew ?_ | refine blk_alloc ?_ _)); exact BK217.out) k_ hk⟩)); (case aO => exact (by (with_reducible repeat (first | apply Kd.N_alloc | apply Kd.N_drewN | apply Kd.N_drew)); exact HO_10.out)); (case aS => exact (below_size (by repeat (first | (with_reducible first | exact HB.out | apply below_alloc | apply pw_below_drewN | apply below_drew1 | refine below_set ?_ GE216.out | refine below_set ?_ GE217.out) | exact HB.out)))); (case aL => have := LMc124.out; omega); intro v252 w128 ho hb hg hat; rw [← Ny251.out] at ho; have n0_ := Aside0.mk (Kd.N_afterv (ok := (fun k_ => (P0_5_ k_ ∨ w.heap.size ≤ k_) ∧ k_ ≠ gb216 ∧ k_ ≠ gb217)) (by (with_reducible repeat (first | apply Kd.N_alloc | apply Kd.N_drewN | apply Kd.N_drew)); exact Kd.N_mono HO_5.out (fun _ hk => ⟨⟨hk.1, ⟨hk.2.2.1, hk.2.2.2⟩⟩, hk.2.1⟩)) hg hat); have n1_ := Aside0.mk (Kd.V_afterv (ok := (fun k_ => (P0_5_ k_ ∨ w.heap.size ≤ k_) ∧ some k_ ≠ (.slice (some ad243) t240.length co86 : Value).ownBlock ∧ k_ ≠ gb216 ∧ k_ ≠ gb217)) (by (with_reducible repeat (first | apply Kd.V_alloc | apply Kd.V_drewN | apply Kd.V_drew)); exact Kd.V_mono HO_217005.out (fun _ hk => ⟨⟨hk.1, ⟨hk.2.1, ⟨hk.2.2.2.1, hk.2.2.2.2⟩⟩⟩, hk.2.2.1⟩)) hg hat); have n2_ := Aside0.mk (blk_grown (g := gb216) (o := .cells #[.int .i64 a0_0, .int .u64 a0_1, .int .u64 a0_2, .int .u64 a0_3, .int .u64 a0_4, .slice A0_5 l0_5.length c0_5, .int .i64 a0_6, .int .i64 a0_7] 27 (0, 0)) (by (with_reducible repeat (first | refine blk_drewN ?_ _ | refine blk_drew ?_ | refine blk_alloc ?_ _)); exact BK216.out) hg (Kd.N_away HO_10.out (fun _ hk => hk.2.2.1))); have n3_ := Aside0.mk (blk_grown (g := gb217) (o := .cells #[.int .i64 0, .int .u64 0, .int .u64 0, .int .u64 0, .int .u64 0, .slice none 0 0, .int .i64 0, .int .i64 0] 27 (0, 0)) (by (with_reducible repeat (first | refine blk_drewN ?_ _ | refine blk_drew ?_ | refine blk_alloc ?_ _)); exact BK217.out) hg (Kd.N_away HO_10.out (fun _ hk => hk.2.2.2))); have n4_ := Aside0.mk (Kd.V_afterv (ok := (fun k_ => (P0_5_ k_ ∨ w.heap.size ≤ k_) ∧ some k_ ≠ (.slice (some ad243) t240.length co86 : Value).ownBlock ∧ k_ ≠ gb216 ∧ k_ ≠ gb217)) (by (with_reducible repeat (first | apply Kd.V_alloc | apply Kd.V_drewN | apply Kd.V_drew)); exact Kd.V_mono HL250_5.out (fun _ hk => ⟨⟨hk.1.1, ⟨hk.2, ⟨hk.1.2.2.1, hk.1.2.2.2⟩⟩⟩, hk.1.2.1⟩)) hg hat); have n5_ := Aside0.mk (hb); have n6_ := Aside0.mk (ho); clear HO_5; clear HO_217005; clear BK216; clear BK217; clear HL250_5; clear HB; clear HO_10; have HO_5 := n0_; have HO_217005 := n1_; have BK216 := n2_; have BK217 := n3_; have HL250_5 := n4_; have HB := n5_; have HO253 := n6_; clear n0_ n1_ n2_ n3_ n4_ n5_ n6_; clear ho hb hg hat))
                     go_roundg k4
                     case measure => have := HK1.out; have := HK2.out; have := HJ84.out; have := HK4.out; omega
                     case rel => exact ⟨(y251), (wrap64 (x11_2 + 1)), (by first | rfl | (simp; done) | (simp [*]; done)), H', ⟨by have := HK1.out; have := HK2.out; have := HJ84.out; have := HK4.out; omega⟩, ⟨by (with_reducible repeat (first | apply Kd.N_alloc | apply Kd.N_drewN | apply Kd.N_drew)); exact Kd.N_mono HO_5.out (fun _ hk => ⟨hk.1.1, ⟨hk.2, ⟨hk.1.2.1, hk.1.2.2⟩⟩⟩)⟩, ⟨by (with_reducible repeat (first | apply Kd.N_alloc | apply Kd.N_drewN | apply Kd.N_drew)); exact HO253.out⟩, ⟨by (with_reducible repeat (first | apply Kd.V_alloc | apply Kd.V_drewN | apply Kd.V_drew)); exact Kd.V_mono HO_217005.out (fun _ hk => ⟨hk.1.1, ⟨hk.1.2.1, ⟨hk.2, ⟨hk.1.2.2.1, hk.1.2.2.2⟩⟩⟩⟩)⟩, ⟨by (with_reducible repeat (first | refine blk_drewN ?_ _ | refine blk_drew ?_ | refine blk_alloc ?_ _)); exact BK216.out⟩, ⟨by (with_reducible repeat (first | refine blk_drewN ?_ _ | refine blk_drew ?_ | refine blk_alloc ?_ _)); exact BK217.out⟩, ⟨by repeat (first | (with_reducible first | exact HB.out | apply below_alloc | apply pw_below_drewN | apply below_drew1 | refine below_set ?_ GE216.out | refine below_set ?_ GE217.out) | exact HB.out)⟩⟩
                    ·
                     rw [if_neg c124] at H
                     exact absurd H (by simp)
                   ·
                    rw [if_neg c123] at H
                    exact absurd H (by simp)
                  ·
                   rw [if_neg c122] at H
                   exact absurd H (by simp)
               ·
                rw [if_neg c102] at H
                have c102b0 : decide (x15_4 < (x10_2.length : Int)) = false := decide_eq_false c102
                clear c102
                by_cases c129 : x14_4 = true
                ·
                 subst c129
                 have H1 : (ostinatoref04_Simple.l1 k4 t240 x10_2 (wrap64 (x11_2 + 1)) a0_0 a0_1 a0_2 a0_3 a0_4 l0_5 a0_6 a0_7) = some (r1, r2, r3, r4, r5, r6, r7, r8) := by rw [if_pos rfl] at H; exact H
                 clear H
                 have H := H1
                 clear H1
                 have H' := Aside0.mk H
                 clear H
                 obtain ⟨Ao130, co130, eo130⟩ := Kd.N_slice HO_10.out
                 subst eo130
                 go_wp2
                 go_roundg k4
                 case measure => have := HK1.out; have := HK2.out; have := HJ84.out; have := HK4.out; omega
                 case rel => exact ⟨(x10_2), (wrap64 (x11_2 + 1)), (by first | rfl | (simp; done) | (simp [*]; done)), H', ⟨by have := HK1.out; have := HK2.out; have := HJ84.out; have := HK4.out; omega⟩, ⟨by (with_reducible repeat (first | apply Kd.N_alloc | apply Kd.N_drewN | apply Kd.N_drew)); exact HO_5.out⟩, ⟨by (with_reducible repeat (first | apply Kd.N_alloc | apply Kd.N_drewN | apply Kd.N_drew)); exact HO_10.out⟩, ⟨by (with_reducible repeat (first | apply Kd.V_alloc | apply Kd.V_drewN | apply Kd.V_drew)); exact HO_217005.out⟩, ⟨by (with_reducible repeat (first | refine blk_drewN ?_ _ | refine blk_drew ?_ | refine blk_alloc ?_ _)); exact BK216.out⟩, ⟨by (with_reducible repeat (first | refine blk_drewN ?_ _ | refine blk_drew ?_ | refine blk_alloc ?_ _)); exact BK217.out⟩, ⟨by repeat (first | (with_reducible first | exact HB.out | apply below_alloc | apply pw_below_drewN | apply below_drew1 | refine below_set ?_ GE216.out | refine below_set ?_ GE217.out) | exact HB.out)⟩⟩
                ·
                 replace c129 := Bool.eq_false_iff.mpr c129
                 subst c129
                 have H1 : (if 0 ≤ x11_2 then (if x11_2 < (t240.length : Int) then (if x10_2.length < 1759218604441 then (ostinatoref04_Simple.l1 k4 t240 (x10_2 ++ [(⟨(rd_T27 t240 x11_2).f0, (⟨(rd_T27 t240 x11_2).f1.f0, (rd_T27 t240 x11_2).f1.f1, (rd_T27 t240 x11_2).f1.f2, (rd_T27 t240 x11_2).f1.f3⟩ : S24), (rd_T27 t240 x11_2).f2, (rd_T27 t240 x11_2).f3, (rd_T27 t240 x11_2).f4⟩ : S27)]) (wrap64 (x11_2 + 1)) a0_0 a0_1 a0_2 a0_3 a0_4 l0_5 a0_6 a0_7) else (none)) else (none)) else (none)) = some (r1, r2, r3, r4, r5, r6, r7, r8) := by rw [if_neg (show ¬ (false = true) by decide)] at H; exact H
                 clear H
                 have H := H1
                 clear H1
                 by_cases c131 : 0 ≤ x11_2
                 ·
                  rw [if_pos c131] at H
                  have c131b0 : decide (0 ≤ x11_2) = true := decide_eq_true c131
                  clear c131
                  by_cases c132 : x11_2 < (t240.length : Int)
                  ·
                   rw [if_pos c132] at H
                   have c132b0 : decide (x11_2 < (t240.length : Int)) = true := decide_eq_true c132
                   clear c132
                   by_cases c133 : x10_2.length < 1759218604441
                   ·
                    rw [if_pos c133] at H
                    have LMc133 := Aside0.mk c133
                    clear c133
                    obtain ⟨y255, hy255⟩ : ∃ y_ : List (S27), y_ = (x10_2 ++ [(⟨(rd_T27 t240 x11_2).f0, (⟨(rd_T27 t240 x11_2).f1.f0, (rd_T27 t240 x11_2).f1.f1, (rd_T27 t240 x11_2).f1.f2, (rd_T27 t240 x11_2).f1.f3⟩ : S24), (rd_T27 t240 x11_2).f2, (rd_T27 t240 x11_2).f3, (rd_T27 t240 x11_2).f4⟩ : S27)]) := ⟨_, rfl⟩
                    replace H : (ostinatoref04_Simple.l1 k4 t240 y255 (wrap64 (x11_2 + 1)) a0_0 a0_1 a0_2 a0_3 a0_4 l0_5 a0_6 a0_7) = some (r1, r2, r3, r4, r5, r6, r7, r8) := by first | (rw [hy255]; with_reducible exact H) | (have H2_ := (Option.bind_some _ _).symm.trans H; rw [hy255]; with_reducible exact H2_) | (have H2_ := (Option.bind_some _ _).symm.trans H; with_reducible exact H2_) | with_reducible exact H | (rw [hy255]; exact H) | exact H
                    have Ny255 := Aside0.mk hy255
                    clear hy255
                    have H' := Aside0.mk H
                    clear H
                    obtain ⟨Ao134, co134, eo134⟩ := Kd.N_slice HO_10.out
                    subst eo134
                    have p254 : 0 ≤ (x11_2 : Int) := of_decide_eq_true (by first | (with_reducible assumption) | assumption)
                    have q254 : x11_2 < (t240.length : Int) := of_decide_eq_true (by first | (with_reducible assumption) | assumption)
                    obtain ⟨ad254, A254_5, c254_5, e254, hx254_0, hx254_1, hx254_2, hx254_3, hx254_4, hx254_5, hx254_6, hx254_7, hl254_5, hi254_5⟩ := at_T27 (Kd.N_reads' HO_5.out).2.2 x11_2 p254 q254
                    obtain rfl : ad243 = ad254 := (by injection e254)
                    obtain ⟨ce254, hce254, hMe254, hcc254⟩ := Kd.N_get HO_5.out z27 x11_2 p254 (by first | exact q254 | exact of_decide_eq_true (by first | (with_reducible assumption) | assumption) | (have e_ := (Kd.N_reads' HO_5.out).1; omega))
                    obtain ⟨ua254_5, uc254_5, rfl, ul254_5, ge254_5⟩ := k27_openF hMe254
                    have hv254_5 := hcc254 5 _ rfl
                    rw [add_field _ _ 5 (by omega)] at hv254_5
                    replace hv254_5 := Option.some.inj (hv254_5.symm.trans hx254_5)
                    injection hv254_5 with hva_ hvn_ hvc_
                    rw [hva_] at ge254_5
                    rw [hvc_] at ul254_5
                    have HL254_5 := Aside0.mk (show Kd.V k27 27 _ w.heap.size _ _ ((rd_T27 t240 x11_2).f2) from Kd.V_mk ul254_5 ge254_5)
                    clear hva_ hvn_ hvc_ ge254_5 ul254_5
                    clear hcc254 hce254
                    have HR254_5 := Aside0.mk hi254_5
                    have HC254_5 := Aside0.mk hl254_5
                    clear hi254_5 hl254_5
                    replace p254 := eq_true p254
                    replace q254 := eq_true q254
                    go_wp2_with (first | ((with_reducible refine gate_builtin (b := .append) (xs := #[.tmp 149, .tmp 154]) rfl ?_); at_builtin; refine Kd.N_append k27 (w0 := w) w.heap.size rfl (.tmp 149) (.tmp 154) 25 27 (.agg #[(.int .i64 0), (.int .u64 0), (.int .u64 0), (.int .u64 0), (.int .u64 0), (.slice none 0 0), (.int .i64 0), (.int .i64 0)]) 80 rfl Try.underlying25 info27 rfl (by decide) (by omega) (.slice Ao134 x10_2.length co134) x10_2 (⟨(rd_T27 t240 x11_2).f0, (⟨(rd_T27 t240 x11_2).f1.f0, (rd_T27 t240 x11_2).f1.f1, (rd_T27 t240 x11_2).f1.f2, (rd_T27 t240 x11_2).f1.f3⟩ : S24), (rd_T27 t240 x11_2).f2, (rd_T27 t240 x11_2).f3, (rd_T27 t240 x11_2).f4⟩ : S27) [.int .i64 ((rd_T27 t240 x11_2).f0), .int .u64 ((rd_T27 t240 x11_2).f1.f0), .int .u64 ((rd_T27 t240 x11_2).f1.f1), .int .u64 ((rd_T27 t240 x11_2).f1.f2), .int .u64 ((rd_T27 t240 x11_2).f1.f3), .slice A254_5 ((rd_T27 t240 x11_2).f2).length c254_5, .int .i64 ((rd_T27 t240 x11_2).f3), .int .i64 ((rd_T27 t240 x11_2).f4)] (fun k_ => (P0_5_ k_ ∨ w.heap.size ≤ k_) ∧ some k_ ≠ (.slice (some ad243) t240.length co86 : Value).ownBlock ∧ k_ ≠ gb216 ∧ k_ ≠ gb217) (fun k_ => ((fun k_ => (P0_5_ k_ ∨ w.heap.size ≤ k_) ∧ some k_ ≠ (.slice (some ad243) t240.length co86 : Value).ownBlock ∧ k_ ≠ gb216 ∧ k_ ≠ gb217)) k_ ∧ some k_ ≠ (.slice Ao134 x10_2.length co134 : Value).ownBlock) rfl rfl ?aP (fun _ hk => hk) ?aF ?aO ?aB ?aS ?aL ?_; (case aP => exact (k27_mkF _ _ (⟨(rd_T27 t240 x11_2).f0, (⟨(rd_T27 t240 x11_2).f1.f0, (rd_T27 t240 x11_2).f1.f1, (rd_T27 t240 x11_2).f1.f2, (rd_T27 t240 x11_2).f1.f3⟩ : S24), (rd_T27 t240 x11_2).f2, (rd_T27 t240 x11_2).f3, (rd_T27 t240 x11_2).f4⟩ : S27) (Kd.V_reads' (Kd.V_mono (ok' := (fun k_ => ((fun k_ => (P0_5_ k_ ∨ w.heap.size ≤ k_) ∧ some k_ ≠ (.slice (some ad243) t240.length co86 : Value).ownBlock ∧ k_ ≠ gb216 ∧ k_ ≠ gb217)) k_ ∧ some k_ ≠ (.slice Ao134 x10_2.length co134 : Value).ownBlock)) (HL254_5.out) (fun k_ hk => ⟨⟨hk.1.1, ⟨hk.2, ⟨hk.1.2.2.1, hk.1.2.2.2⟩⟩⟩, hk.1.2.1⟩))).2.1 (Kd.V_F (Kd.V_mono (ok' := (fun k_ => ((fun k_ => (P0_5_ k_ ∨ w.heap.size ≤ k_) ∧ some k_ ≠ (.slice (some ad243) t240.length co86 : Value).ownBlock ∧ k_ ≠ gb216 ∧ k_ ≠ gb217)) k_ ∧ some k_ ≠ (.slice Ao134 x10_2.length co134 : Value).ownBlock)) (HL254_5.out) (fun k_ hk => ⟨⟨hk.1.1, ⟨hk.2, ⟨hk.1.2.2.1, hk.1.2.2.2⟩⟩⟩, hk.1.2.1⟩))))); (case aB => exact (by repeat (first | (with_reducible first | exact HB.out | apply below_alloc | apply pw_below_drewN | apply below_drew1 | refine below_set ?_ GE216.out | refine below_set ?_ GE217.out) | exact HB.out))); (case aF => exact (fun k_ hk => ⟨(.inr (Nat.le_trans (below_size (by repeat (first | (with_reducible first | exact HB.out | apply below_alloc | apply pw_below_drewN | apply below_drew1 | refine below_set ?_ GE216.out | refine below_set ?_ GE217.out) | exact HB.out))) hk)), Kd.fresh' (Kd.N_lt (by (with_reducible repeat (first | apply Kd.N_alloc | apply Kd.N_drewN | apply Kd.N_drew)); exact HO_5.out)) k_ hk, Kd.freshB (g := gb216) (o := .cells #[.int .i64 a0_0, .int .u64 a0_1, .int .u64 a0_2, .int .u64 a0_3, .int .u64 a0_4, .slice A0_5 l0_5.length c0_5, .int .i64 a0_6, .int .i64 a0_7] 27 (0, 0)) (by (with_reducible repeat (first | refine blk_drewN ?_ _ | refine blk_drew ?_ | refine blk_alloc ?_ _)); exact BK216.out) k_ hk, Kd.freshB (g := gb217) (o := .cells #[.int .i64 0, .int .u64 0, .int .u64 0, .int .u64 0, .int .u64 0, .slice none 0 0, .int .i64 0, .int .i64 0] 27 (0, 0)) (by (with_reducible repeat (first | refine blk_drewN ?_ _ | refine blk_drew ?_ | refine blk_alloc ?_ _)); exact BK217.out) k_ hk⟩)); (case aO => exact (by (with_reducible repeat (first | apply Kd.N_alloc | apply Kd.N_drewN | apply Kd.N_drew)); exact HO_10.out)); (case aS => exact (below_size (by repeat (first | (with_reducible first | exact HB.out | apply below_alloc | apply pw_below_drewN | apply below_drew1 | refine below_set ?_ GE216.out | refine below_set ?_ GE217.out) | exact HB.out)))); (case aL => have := LMc133.out; omega); intro v256 w135 ho hb hg hat; rw [← Ny255.out] at ho; have n0_ := Aside0.mk (Kd.N_afterv (ok := (fun k_ => (P0_5_ k_ ∨ w.heap.size ≤ k_) ∧ k_ ≠ gb216 ∧ k_ ≠ gb217)) (by (with_reducible repeat (first | apply Kd.N_alloc | apply Kd.N_drewN | apply Kd.N_drew)); exact Kd.N_mono HO_5.out (fun _ hk => ⟨⟨hk.1, ⟨hk.2.2.1, hk.2.2.2⟩⟩, hk.2.1⟩)) hg hat); have n1_ := Aside0.mk (Kd.V_afterv (ok := (fun k_ => (P0_5_ k_ ∨ w.heap.size ≤ k_) ∧ some k_ ≠ (.slice (some ad243) t240.length co86 : Value).ownBlock ∧ k_ ≠ gb216 ∧ k_ ≠ gb217)) (by (with_reducible repeat (first | apply Kd.V_alloc | apply Kd.V_drewN | apply Kd.V_drew)); exact Kd.V_mono HO_217005.out (fun _ hk => ⟨⟨hk.1, ⟨hk.2.1, ⟨hk.2.2.2.1, hk.2.2.2.2⟩⟩⟩, hk.2.2.1⟩)) hg hat); have n2_ := Aside0.mk (blk_grown (g := gb216) (o := .cells #[.int .i64 a0_0, .int .u64 a0_1, .int .u64 a0_2, .int .u64 a0_3, .int .u64 a0_4, .slice A0_5 l0_5.length c0_5, .int .i64 a0_6, .int .i64 a0_7] 27 (0, 0)) (by (with_reducible repeat (first | refine blk_drewN ?_ _ | refine blk_drew ?_ | refine blk_alloc ?_ _)); exact BK216.out) hg (Kd.N_away HO_10.out (fun _ hk => hk.2.2.1))); have n3_ := Aside0.mk (blk_grown (g := gb217) (o := .cells #[.int .i64 0, .int .u64 0, .int .u64 0, .int .u64 0, .int .u64 0, .slice none 0 0, .int .i64 0, .int .i64 0] 27 (0, 0)) (by (with_reducible repeat (first | refine blk_drewN ?_ _ | refine blk_drew ?_ | refine blk_alloc ?_ _)); exact BK217.out) hg (Kd.N_away HO_10.out (fun _ hk => hk.2.2.2))); have n4_ := Aside0.mk (Kd.V_afterv (ok := (fun k_ => (P0_5_ k_ ∨ w.heap.size ≤ k_) ∧ some k_ ≠ (.slice (some ad243) t240.length co86 : Value).ownBlock ∧ k_ ≠ gb216 ∧ k_ ≠ gb217)) (by (with_reducible repeat (first | apply Kd.V_alloc | apply Kd.V_drewN | apply Kd.V_drew)); exact Kd.V_mono HL254_5.out (fun _ hk => ⟨⟨hk.1.1, ⟨hk.2, ⟨hk.1.2.2.1, hk.1.2.2.2⟩⟩⟩, hk.1.2.1⟩)) hg hat); have n5_ := Aside0.mk (hb); have n6_ := Aside0.mk (ho); clear HO_5; clear HO_217005; clear BK216; clear BK217; clear HL254_5; clear HB; clear HO_10; have HO_5 := n0_; have HO_217005 := n1_; have BK216 := n2_; have BK217 := n3_; have HL254_5 := n4_; have HB := n5_; have HO257 := n6_; clear n0_ n1_ n2_ n3_ n4_ n5_ n6_; clear ho hb hg hat))
                    go_roundg k4
                    case measure => have := HK1.out; have := HK2.out; have := HJ84.out; have := HK4.out; omega
                    case rel => exact ⟨(y255), (wrap64 (x11_2 + 1)), (by first | rfl | (simp; done) | (simp [*]; done)), H', ⟨by have := HK1.out; have := HK2.out; have := HJ84.out; have := HK4.out; omega⟩, ⟨by (with_reducible repeat (first | apply Kd.N_alloc | apply Kd.N_drewN | apply Kd.N_drew)); exact Kd.N_mono HO_5.out (fun _ hk => ⟨hk.1.1, ⟨hk.2, ⟨hk.1.2.1, hk.1.2.2⟩⟩⟩)⟩, ⟨by (with_reducible repeat (first | apply Kd.N_alloc | apply Kd.N_drewN | apply Kd.N_drew)); exact HO257.out⟩, ⟨by (with_reducible repeat (first | apply Kd.V_alloc | apply Kd.V_drewN | apply Kd.V_drew)); exact Kd.V_mono HO_217005.out (fun _ hk => ⟨hk.1.1, ⟨hk.1.2.1, ⟨hk.2, ⟨hk.1.2.2.1, hk.1.2.2.2⟩⟩⟩⟩)⟩, ⟨by (with_reducible repeat (first | refine blk_drewN ?_ _ | refine blk_drew ?_ | refine blk_alloc ?_ _)); exact BK216.out⟩, ⟨by (with_reducible repeat (first | refine blk_drewN ?_ _ | refine blk_drew ?_ | refine blk_alloc ?_ _)); exact BK217.out⟩, ⟨by repeat (first | (with_reducible first | exact HB.out | apply below_alloc | apply pw_below_drewN | apply below_drew1 | refine below_set ?_ GE216.out | refine below_set ?_ GE217.out) | exact HB.out)⟩⟩
                   ·
                    rw [if_neg c133] at H
                    exact absurd H (by simp)
                  ·
                   rw [if_neg c132] at H
                   exact absurd H (by simp)
                 ·
                  rw [if_neg c131] at H
                  exact absurd H (by simp)
          ·
           rw [if_neg c83] at H
           exact absurd H (by simp)
         ·
          rw [if_neg c82] at H
          have c82b0 : decide (x11_2 < (t240.length : Int)) = false := decide_eq_false c82
          clear c82
          by_cases c136 : (x10_2.length : Int) = 0
          ·
           rw [if_pos c136] at H
           have c136b0 : ((x10_2.length : Int) == 0) = true := beq_iff_eq.mpr c136
           have c136b1 : ((x10_2.length : Int) != 0) = false := bne_eq_false_iff_eq.mpr c136
           clear c136
           simp only [Option.some.injEq, Prod.mk.injEq] at H
           obtain ⟨rfl, rfl, rfl, rfl, rfl, rfl, rfl, rfl⟩ := H
           obtain ⟨Ao137, co137, eo137⟩ := Kd.N_slice HO_5.out
           subst eo137
           obtain ⟨Ao138, co138, eo138⟩ := Kd.N_slice HO_10.out
           subst eo138
           have hnb139 := NB217_216.out
           have hnc139 := NB216_217.out
           obtain ⟨hcz140_0, hcz140_1, hcz140_2, hcz140_3, hcz140_4, hcz140_5, hcz140_6, hcz140_7, hfz140_0, hfz140_1, hfz140_2, hfz140_3, hfz140_4, hfz140_5, hfz140_6, hfz140_7⟩ := blk8 BK217.out
           go_wp2
           refine bodyPost_ret (results_cell_row rfl _ _ gb217 27 #[.int .i64 0, .int .u64 0, .int .u64 0, .int .u64 0, .int .u64 0, .slice none 0 0, .int .i64 0, .int .i64 0] (0, 0) _ rfl (by (with_reducible repeat (first | refine blk_drewN ?_ _ | refine blk_drew ?_ | refine blk_alloc ?_ _)); refine blk_put (cs := #[.int .i64 0, .int .u64 0, .int .u64 0, .int .u64 0, .int .u64 0, .slice none 0 0, .int .i64 0, .int .i64 0]) ?_ 7 _ rfl; (with_reducible repeat (first | refine blk_drewN ?_ _ | refine blk_drew ?_ | refine blk_alloc ?_ _)); refine blk_put (cs := #[.int .i64 0, .int .u64 0, .int .u64 0, .int .u64 0, .int .u64 0, .slice none 0 0, .int .i64 0, .int .i64 0]) ?_ 6 _ rfl; (with_reducible repeat (first | refine blk_drewN ?_ _ | refine blk_drew ?_ | refine blk_alloc ?_ _)); refine blk_put (cs := #[.int .i64 0, .int .u64 0, .int .u64 0, .int .u64 0, .int .u64 0, .slice none 0 0, .int .i64 0, .int .i64 0]) ?_ 5 _ rfl; (with_reducible repeat (first | refine blk_drewN ?_ _ | refine blk_drew ?_ | refine blk_alloc ?_ _)); refine blk_put (cs := #[.int .i64 0, .int .u64 0, .int .u64 0, .int .u64 0, .int .u64 0, .slice none 0 0, .int .i64 0, .int .i64 0]) ?_ 4 _ rfl; (with_reducible repeat (first | refine blk_drewN ?_ _ | refine blk_drew ?_ | refine blk_alloc ?_ _)); refine blk_put (cs := #[.int .i64 0, .int .u64 0, .int .u64 0, .int .u64 0, .int .u64 0, .slice none 0 0, .int .i64 0, .int .i64 0]) ?_ 3 _ rfl; (with_reducible repeat (first | refine blk_drewN ?_ _ | refine blk_drew ?_ | refine blk_alloc ?_ _)); refine blk_put (cs := #[.int .i64 0, .int .u64 0, .int .u64 0, .int .u64 0, .int .u64 0, .slice none 0 0, .int .i64 0, .int .i64 0]) ?_ 2 _ rfl; (with_reducible repeat (first | refine blk_drewN ?_ _ | refine blk_drew ?_ | refine blk_alloc ?_ _)); refine blk_put (cs := #[.int .i64 0, .int .u64 0, .int .u64 0, .int .u64 0, .int .u64 0, .slice none 0 0, .int .i64 0, .int .i64 0]) ?_ 1 _ rfl; (with_reducible repeat (first | refine blk_drewN ?_ _ | refine blk_drew ?_ | refine blk_alloc ?_ _)); refine blk_put (cs := #[.int .i64 0, .int .u64 0, .int .u64 0, .int .u64 0, .int .u64 0, .slice none 0 0, .int .i64 0, .int .i64 0]) ?_ 0 _ rfl; (with_reducible repeat (first | refine blk_drewN ?_ _ | refine blk_drew ?_ | refine blk_alloc ?_ _)); exact BK217.out) Try.underlying27 rfl (by kernel_rfl)) rfl ?_
           exact ⟨_, by first | rfl | (simp [errW_none, errW_some] <;> rfl) | (simp [*, errW_none, errW_some] <;> rfl), Kd.V_nil _ _ _ _ _, by repeat (first | (with_reducible first | exact HB.out | apply below_alloc | apply pw_below_drewN | apply below_drew1 | refine below_set ?_ GE216.out | refine below_set ?_ GE217.out) | exact HB.out)⟩
          ·
           rw [if_neg c136] at H
           have c136b0 : ((x10_2.length : Int) == 0) = false := beq_eq_false_iff_ne.mpr c136
           have c136b1 : ((x10_2.length : Int) != 0) = true := bne_iff_ne.mpr c136
           have c136b2 : ¬ (x10_2 = []) := fun h_ => c136 (by rw [h_]; rfl)
           by_cases c141 : (x10_2.length : Int) = 1
           ·
            rw [if_pos c141] at H
            have c141b0 : ((x10_2.length : Int) == 1) = true := beq_iff_eq.mpr c141
            have c141b1 : ((x10_2.length : Int) != 1) = false := bne_eq_false_iff_eq.mpr c141
            clear c141
            by_cases c142 : 0 < (x10_2.length : Int)
            ·
             rw [if_pos c142] at H
             have c142b0 : decide (0 < (x10_2.length : Int)) = true := decide_eq_true c142
             have c142b1 : decide (0 < x10_2.length) = true := decide_eq_true (by omega)
             clear c142
             simp only [Option.some.injEq, Prod.mk.injEq] at H
             obtain ⟨rfl, rfl, rfl, rfl, rfl, rfl, rfl, rfl⟩ := H
             obtain ⟨Ao143, co143, eo143⟩ := Kd.N_slice HO_5.out
             subst eo143
             obtain ⟨Ao144, co144, eo144⟩ := Kd.N_slice HO_10.out
             subst eo144
             have p258 : 0 ≤ (0 : Int) := (by omega)
             have q258 : 0 < (x10_2.length : Int) := of_decide_eq_true (by first | (with_reducible assumption) | assumption)
             obtain ⟨ad258, A258_5, c258_5, e258, hx258_0, hx258_1, hx258_2, hx258_3, hx258_4, hx258_5, hx258_6, hx258_7, hl258_5, hi258_5⟩ := at_T27 (Kd.N_reads' HO_10.out).2.2 0 p258 q258
             cases e258
             obtain ⟨ce258, hce258, hMe258, hcc258⟩ := Kd.N_get HO_10.out z27 0 p258 (by first | exact q258 | exact of_decide_eq_true (by first | (with_reducible assumption) | assumption) | (have e_ := (Kd.N_reads' HO_10.out).1; omega))
             obtain ⟨ua258_5, uc258_5, rfl, ul258_5, ge258_5⟩ := k27_openF hMe258
             have hv258_5 := hcc258 5 _ rfl
             rw [add_field _ _ 5 (by omega)] at hv258_5
             replace hv258_5 := Option.some.inj (hv258_5.symm.trans hx258_5)
             injection hv258_5 with hva_ hvn_ hvc_
             rw [hva_] at ge258_5
             rw [hvc_] at ul258_5
             have HL258_5 := Aside0.mk (show Kd.V k27 27 _ w.heap.size _ _ ((rd_T27 x10_2 0).f2) from Kd.V_mk ul258_5 ge258_5)
             clear hva_ hvn_ hvc_ ge258_5 ul258_5
             clear hcc258 hce258
             have qi258 : (0 < x10_2.length) = True := eq_true (by omega)
             (try rw [show ((0 : Int)).toNat = 0 from rfl] at hx258_0)
             (try rw [show 0 * 8 = 0 from rfl] at hx258_0)
             (try rw [Addr.add_zero'] at hx258_0)
             (try rw [show ((0 : Int)).toNat = 0 from rfl] at hx258_1)
             (try rw [show 0 * 8 = 0 from rfl] at hx258_1)
             (try rw [Addr.add_zero'] at hx258_1)
             (try rw [show ((0 : Int)).toNat = 0 from rfl] at hx258_2)
             (try rw [show 0 * 8 = 0 from rfl] at hx258_2)
             (try rw [Addr.add_zero'] at hx258_2)
             (try rw [show ((0 : Int)).toNat = 0 from rfl] at hx258_3)
             (try rw [show 0 * 8 = 0 from rfl] at hx258_3)
             (try rw [Addr.add_zero'] at hx258_3)
             (try rw [show ((0 : Int)).toNat = 0 from rfl] at hx258_4)
             (try rw [show 0 * 8 = 0 from rfl] at hx258_4)
             (try rw [Addr.add_zero'] at hx258_4)
             (try rw [show ((0 : Int)).toNat = 0 from rfl] at hx258_5)
             (try rw [show 0 * 8 = 0 from rfl] at hx258_5)
             (try rw [Addr.add_zero'] at hx258_5)
             (try rw [show ((0 : Int)).toNat = 0 from rfl] at hx258_6)
             (try rw [show 0 * 8 = 0 from rfl] at hx258_6)
             (try rw [Addr.add_zero'] at hx258_6)
             (try rw [show ((0 : Int)).toNat = 0 from rfl] at hx258_7)
             (try rw [show 0 * 8 = 0 from rfl] at hx258_7)
             (try rw [Addr.add_zero'] at hx258_7)
             have HR258_5 := Aside0.mk hi258_5
             have HC258_5 := Aside0.mk hl258_5
             clear hi258_5 hl258_5
             replace p258 := eq_true p258
             replace q258 := eq_true q258
             have hnb145 := NB217_216.out
             have hnc145 := NB216_217.out
             obtain ⟨hcz146_0, hcz146_1, hcz146_2, hcz146_3, hcz146_4, hcz146_5, hcz146_6, hcz146_7, hfz146_0, hfz146_1, hfz146_2, hfz146_3, hfz146_4, hfz146_5, hfz146_6, hfz146_7⟩ := blk8 BK217.out
             go_wp2
             refine bodyPost_ret (results_cell_row rfl _ _ gb217 27 #[.int .i64 ((rd_T27 x10_2 0).f0), .int .u64 ((rd_T27 x10_2 0).f1.f0), .int .u64 ((rd_T27 x10_2 0).f1.f1), .int .u64 ((rd_T27 x10_2 0).f1.f2), .int .u64 ((rd_T27 x10_2 0).f1.f3), .slice A258_5 ((rd_T27 x10_2 0).f2).length c258_5, .int .i64 ((rd_T27 x10_2 0).f3), .int .i64 ((rd_T27 x10_2 0).f4)] (0, 0) _ rfl (by (with_reducible repeat (first | refine blk_drewN ?_ _ | refine blk_drew ?_ | refine blk_alloc ?_ _)); refine blk_put (cs := #[.int .i64 ((rd_T27 x10_2 0).f0), .int .u64 ((rd_T27 x10_2 0).f1.f0), .int .u64 ((rd_T27 x10_2 0).f1.f1), .int .u64 ((rd_T27 x10_2 0).f1.f2), .int .u64 ((rd_T27 x10_2 0).f1.f3), .slice A258_5 ((rd_T27 x10_2 0).f2).length c258_5, .int .i64 ((rd_T27 x10_2 0).f3), .int .i64 0]) ?_ 7 _ rfl; (with_reducible repeat (first | refine blk_drewN ?_ _ | refine blk_drew ?_ | refine blk_alloc ?_ _)); refine blk_put (cs := #[.int .i64 ((rd_T27 x10_2 0).f0), .int .u64 ((rd_T27 x10_2 0).f1.f0), .int .u64 ((rd_T27 x10_2 0).f1.f1), .int .u64 ((rd_T27 x10_2 0).f1.f2), .int .u64 ((rd_T27 x10_2 0).f1.f3), .slice A258_5 ((rd_T27 x10_2 0).f2).length c258_5, .int .i64 0, .int .i64 0]) ?_ 6 _ rfl; (with_reducible repeat (first | refine blk_drewN ?_ _ | refine blk_drew ?_ | refine blk_alloc ?_ _)); refine blk_put (cs := #[.int .i64 ((rd_T27 x10_2 0).f0), .int .u64 ((rd_T27 x10_2 0).f1.f0), .int .u64 ((rd_T27 x10_2 0).f1.f1), .int .u64 ((rd_T27 x10_2 0).f1.f2), .int .u64 ((rd_T27 x10_2 0).f1.f3), .slice none 0 0, .int .i64 0, .int .i64 0]) ?_ 5 _ rfl; (with_reducible repeat (first | refine blk_drewN ?_ _ | refine blk_drew ?_ | refine blk_alloc ?_ _)); refine blk_put (cs := #[.int .i64 ((rd_T27 x10_2 0).f0), .int .u64 ((rd_T27 x10_2 0).f1.f0), .int .u64 ((rd_T27 x10_2 0).f1.f1), .int .u64 ((rd_T27 x10_2 0).f1.f2), .int .u64 0, .slice none 0 0, .int .i64 0, .int .i64 0]) ?_ 4 _ rfl; (with_reducible repeat (first | refine blk_drewN ?_ _ | refine blk_drew ?_ | refine blk_alloc ?_ _)); refine blk_put (cs := #[.int .i64 ((rd_T27 x10_2 0).f0), .int .u64 ((rd_T27 x10_2 0).f1.f0), .int .u64 ((rd_T27 x10_2 0).f1.f1), .int .u64 0, .int .u64 0, .slice none 0 0, .int .i64 0, .int .i64 0]) ?_ 3 _ rfl; (with_reducible repeat (first | refine blk_drewN ?_ _ | refine blk_drew ?_ | refine blk_alloc ?_ _)); refine blk_put (cs := #[.int .i64 ((rd_T27 x10_2 0).f0), .int .u64 ((rd_T27 x10_2 0).f1.f0), .int .u64 0, .int .u64 0, .int .u64 0, .slice none 0 0, .int .i64 0, .int .i64 0]) ?_ 2 _ rfl; (with_reducible repeat (first | refine blk_drewN ?_ _ | refine blk_drew ?_ | refine blk_alloc ?_ _)); refine blk_put (cs := #[.int .i64 ((rd_T27 x10_2 0).f0), .int .u64 0, .int .u64 0, .int .u64 0, .int .u64 0, .slice none 0 0, .int .i64 0, .int .i64 0]) ?_ 1 _ rfl; (with_reducible repeat (first | refine blk_drewN ?_ _ | refine blk_drew ?_ | refine blk_alloc ?_ _)); refine blk_put (cs := #[.int .i64 0, .int .u64 0, .int .u64 0, .int .u64 0, .int .u64 0, .slice none 0 0, .int .i64 0, .int .i64 0]) ?_ 0 _ rfl; (with_reducible repeat (first | refine blk_drewN ?_ _ | refine blk_drew ?_ | refine blk_alloc ?_ _)); exact BK217.out) Try.underlying27 rfl (by kernel_rfl)) rfl ?_
             exact ⟨_, by first | rfl | (simp [errW_none, errW_some] <;> rfl) | (simp [*, errW_none, errW_some] <;> rfl), by (with_reducible repeat (first | apply Kd.V_alloc | apply Kd.V_drewN | apply Kd.V_drew)); exact Kd.V_mono (Kd.V_far (p := ⟨gb217, 7, none⟩) (Kd.V_far (p := ⟨gb217, 6, none⟩) (Kd.V_far (p := ⟨gb217, 5, none⟩) (Kd.V_far (p := ⟨gb217, 4, none⟩) (Kd.V_far (p := ⟨gb217, 3, none⟩) (Kd.V_far (p := ⟨gb217, 2, none⟩) (Kd.V_far (p := ⟨gb217, 1, none⟩) (Kd.V_far (p := ⟨gb217, 0, none⟩) (Kd.V_mono HL258_5.out (fun k_ hk => (⟨hk, hk.1.2.2.2⟩ : _ ∧ k_ ≠ gb217))) (fun _ hk => hk.2) (.int .i64 ((rd_T27 x10_2 0).f0))) (fun _ hk => hk.2) (.int .u64 ((rd_T27 x10_2 0).f1.f0))) (fun _ hk => hk.2) (.int .u64 ((rd_T27 x10_2 0).f1.f1))) (fun _ hk => hk.2) (.int .u64 ((rd_T27 x10_2 0).f1.f2))) (fun _ hk => hk.2) (.int .u64 ((rd_T27 x10_2 0).f1.f3))) (fun _ hk => hk.2) (.slice A258_5 ((rd_T27 x10_2 0).f2).length c258_5)) (fun _ hk => hk.2) (.int .i64 ((rd_T27 x10_2 0).f3))) (fun _ hk => hk.2) (.int .i64 ((rd_T27 x10_2 0).f4))) (fun _ hk => hk.1.1.1), by repeat (first | (with_reducible first | exact HB.out | apply below_alloc | apply pw_below_drewN | apply below_drew1 | refine below_set ?_ GE216.out | refine below_set ?_ GE217.out) | exact HB.out)⟩
            ·
             rw [if_neg c142] at H
             exact absurd H (by simp)
           ·
            rw [if_neg c141] at H
            have c141b0 : ((x10_2.length : Int) == 1) = false := beq_eq_false_iff_ne.mpr c141
            have c141b1 : ((x10_2.length : Int) != 1) = true := bne_iff_ne.mpr c141
            simp only [Option.some.injEq, Prod.mk.injEq] at H
            obtain ⟨rfl, rfl, rfl, rfl, rfl, rfl, rfl, rfl⟩ := H
            obtain ⟨Ao147, co147, eo147⟩ := Kd.N_slice HO_5.out
            subst eo147
            obtain ⟨Ao148, co148, eo148⟩ := Kd.N_slice HO_10.out
            subst eo148
            have hnb149 := NB216_217.out
            have hnc149 := NB217_216.out
            obtain ⟨hcz150_0, hcz150_1, hcz150_2, hcz150_3, hcz150_4, hcz150_5, hcz150_6, hcz150_7, hfz150_0, hfz150_1, hfz150_2, hfz150_3, hfz150_4, hfz150_5, hfz150_6, hfz150_7⟩ := blk8 BK216.out
            obtain ⟨hcz151_0, hcz151_1, hcz151_2, hcz151_3, hcz151_4, hcz151_5, hcz151_6, hcz151_7, hfz151_0, hfz151_1, hfz151_2, hfz151_3, hfz151_4, hfz151_5, hfz151_6, hfz151_7⟩ := blk8 BK217.out
            go_wp2
            refine bodyPost_ret (results_cell_row rfl _ _ gb217 27 #[.int .i64 a0_0, .int .u64 0, .int .u64 0, .int .u64 0, .int .u64 0, .slice Ao148 x10_2.length co148, .int .i64 0, .int .i64 0] (0, 0) _ rfl (by (with_reducible repeat (first | refine blk_drewN ?_ _ | refine blk_drew ?_ | refine blk_alloc ?_ _)); refine blk_put (cs := #[.int .i64 a0_0, .int .u64 0, .int .u64 0, .int .u64 0, .int .u64 0, .slice Ao148 x10_2.length co148, .int .i64 0, .int .i64 0]) ?_ 7 _ rfl; (with_reducible repeat (first | refine blk_drewN ?_ _ | refine blk_drew ?_ | refine blk_alloc ?_ _)); refine blk_put (cs := #[.int .i64 a0_0, .int .u64 0, .int .u64 0, .int .u64 0, .int .u64 0, .slice Ao148 x10_2.length co148, .int .i64 0, .int .i64 0]) ?_ 6 _ rfl; (with_reducible repeat (first | refine blk_drewN ?_ _ | refine blk_drew ?_ | refine blk_alloc ?_ _)); refine blk_put (cs := #[.int .i64 a0_0, .int .u64 0, .int .u64 0, .int .u64 0, .int .u64 0, .slice none 0 0, .int .i64 0, .int .i64 0]) ?_ 5 _ rfl; (with_reducible repeat (first | refine blk_drewN ?_ _ | refine blk_drew ?_ | refine blk_alloc ?_ _)); refine blk_put (cs := #[.int .i64 a0_0, .int .u64 0, .int .u64 0, .int .u64 0, .int .u64 0, .slice none 0 0, .int .i64 0, .int .i64 0]) ?_ 4 _ rfl; (with_reducible repeat (first | refine blk_drewN ?_ _ | refine blk_drew ?_ | refine blk_alloc ?_ _)); refine blk_put (cs := #[.int .i64 a0_0, .int .u64 0, .int .u64 0, .int .u64 0, .int .u64 0, .slice none 0 0, .int .i64 0, .int .i64 0]) ?_ 3 _ rfl; (with_reducible repeat (first | refine blk_drewN ?_ _ | refine blk_drew ?_ | refine blk_alloc ?_ _)); refine blk_put (cs := #[.int .i64 a0_0, .int .u64 0, .int .u64 0, .int .u64 0, .int .u64 0, .slice none 0 0, .int .i64 0, .int .i64 0]) ?_ 2 _ rfl; (with_reducible repeat (first | refine blk_drewN ?_ _ | refine blk_drew ?_ | refine blk_alloc ?_ _)); refine blk_put (cs := #[.int .i64 a0_0, .int .u64 0, .int .u64 0, .int .u64 0, .int .u64 0, .slice none 0 0, .int .i64 0, .int .i64 0]) ?_ 1 _ rfl; (with_reducible repeat (first | refine blk_drewN ?_ _ | refine blk_drew ?_ | refine blk_alloc ?_ _)); refine blk_put (cs := #[.int .i64 0, .int .u64 0, .int .u64 0, .int .u64 0, .int .u64 0, .slice none 0 0, .int .i64 0, .int .i64 0]) ?_ 0 _ rfl; (with_reducible repeat (first | refine blk_drewN ?_ _ | refine blk_drew ?_ | refine blk_alloc ?_ _)); exact BK217.out) Try.underlying27 rfl (by kernel_rfl)) rfl ?_
            exact ⟨_, by first | rfl | (simp [errW_none, errW_some] <;> rfl) | (simp [*, errW_none, errW_some] <;> rfl), Kd.N_V (by (with_reducible repeat (first | apply Kd.N_alloc | apply Kd.N_drewN | apply Kd.N_drew)); exact Kd.N_mono (Kd.N_far (p := ⟨gb217, 7, none⟩) (Kd.N_far (p := ⟨gb217, 6, none⟩) (Kd.N_far (p := ⟨gb217, 5, none⟩) (Kd.N_far (p := ⟨gb217, 4, none⟩) (Kd.N_far (p := ⟨gb217, 3, none⟩) (Kd.N_far (p := ⟨gb217, 2, none⟩) (Kd.N_far (p := ⟨gb217, 1, none⟩) (Kd.N_far (p := ⟨gb217, 0, none⟩) (Kd.N_mono HO_10.out (fun k_ hk => (⟨hk, hk.2.2.2⟩ : _ ∧ k_ ≠ gb217))) (fun _ hk => hk.2) (.int .i64 a0_0)) (fun _ hk => hk.2) (.int .u64 0)) (fun _ hk => hk.2) (.int .u64 0)) (fun _ hk => hk.2) (.int .u64 0)) (fun _ hk => hk.2) (.int .u64 0)) (fun _ hk => hk.2) (.slice Ao148 x10_2.length co148)) (fun _ hk => hk.2) (.int .i64 0)) (fun _ hk => hk.2) (.int .i64 0)) (fun _ hk => hk.1.1)), by repeat (first | (with_reducible first | exact HB.out | apply below_alloc | apply pw_below_drewN | apply below_drew1 | refine below_set ?_ GE216.out | refine below_set ?_ GE217.out) | exact HB.out)⟩

end Go.Proofs.Ytgcgijmjlnhdnaa.P
