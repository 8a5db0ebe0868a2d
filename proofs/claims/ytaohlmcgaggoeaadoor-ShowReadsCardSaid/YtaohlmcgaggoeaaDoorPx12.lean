import Derived.Test.YtaohlmcgaggoeaaDoorPx0
-- Written by a program of this project (wip/xp over the words of the print), not by hand.
namespace Go.Proofs.YtaohlmcgaggoeaaDoor.P
open Go.RowKit Go.Proofs.YtaohlmcgaggoeaaDoorW.PrintWords Go.Proofs.YtaohlmcgaggoeaaDoorW.PrintLast Go.Proofs.YtaohlmcgaggoeaaDoorW.PrintMore
attribute [local go_sem] max2_int min2_int max_two min_two max_three min_three max_four min_four   -- for this text's walks alone
set_option linter.unusedVariables false
set_option linter.unusedSimpArgs false

-- NOT PRINTED: function 88 (stringslite_Index)

-- NOT PRINTED: function 82 (strings_Index)

-- NOT PRINTED: function 75 (strings_Contains)

-- NOT PRINTED: function 62 (syntax_reader_digit)

-- NOT PRINTED: function 46 (syntax_reader_escape)

-- NOT PRINTED: function 74 (syntax_reader_item)

-- NOT PRINTED: function 59 (syntax_reader_items)

-- NOT PRINTED: function 60 (class_Or)

-- NOT PRINTED: function 61 (class_Not)

-- NOT PRINTED: function 44 (syntax_reader_set)

-- NOT PRINTED: function 45 (class_Of)

-- NOT PRINTED: function 23 (syntax_reader_step)

/-! ### syntax_Depth: function 28 -/
mutual
def syntax_Depth.l0 : Nat → Int → List (S27) → Int → Int → Option (Int)
  | 0, _, _, _, _ => none
  | k + 1, x3, x7, x8, x9 => if x9 < x8 then (if 0 ≤ x9 then (if x9 < (x7.length : Int) then ((syntax_Depth.f k ((rd_T27 x7 x9).f0) ((rd_T27 x7 x9).f1.f0) ((rd_T27 x7 x9).f1.f1) ((rd_T27 x7 x9).f1.f2) ((rd_T27 x7 x9).f1.f3) ((rd_T27 x7 x9).f2) ((rd_T27 x7 x9).f3) ((rd_T27 x7 x9).f4)).bind fun t219 => (syntax_Depth.l0 k (mx x3 t219) x7 x8 (wrap64 (x9 + 1)))) else (none)) else (none)) else (some (wrap64 (x3 + 1)))
def syntax_Depth.f : Nat → Int → Int → Int → Int → Int → List (S27) → Int → Int → Option (Int)
  | 0, _, _, _, _, _, _, _, _ => none
  | k + 1, a0_0, a0_1, a0_2, a0_3, a0_4, l0_5, a0_6, a0_7 => syntax_Depth.l0 k 0 l0_5 (l0_5.length : Int) 0
end
theorem syntax_Depth.mono_l : ∀ k, (∀ y0 y1 y2 y3 y4 y5 y6 y7, LeO (syntax_Depth.f k y0 y1 y2 y3 y4 y5 y6 y7) (syntax_Depth.f (k + 1) y0 y1 y2 y3 y4 y5 y6 y7)) ∧ (∀ y0 y1 y2 y3, LeO (syntax_Depth.l0 k y0 y1 y2 y3) (syntax_Depth.l0 (k + 1) y0 y1 y2 y3))
  | 0 => ⟨fun _ _ _ _ _ _ _ _ r h => by simp [syntax_Depth.f] at h, fun _ _ _ _ r h => by simp [syntax_Depth.l0] at h⟩
  | k + 1 => by
    obtain ⟨ih0, ih1⟩ := syntax_Depth.mono_l k
    refine ⟨?_, ?_⟩
    · intro y0 y1 y2 y3 y4 y5 y6 y7
      unfold syntax_Depth.f
      repeat' first
      | (with_reducible exact ih0 _ _ _ _ _ _ _ _)
      | (with_reducible exact ih1 _ _ _ _)
      | (with_reducible exact LeO.refl _)
      | (with_reducible exact LeO.none _)
      | (with_reducible refine LeO.ite ?_ ?_)
      | (with_reducible refine LeO.bind ?_ (fun _ => ?_))
      | exact ih0 _ _ _ _ _ _ _ _
      | exact ih1 _ _ _ _
      | exact LeO.none _
      | refine LeO.ite ?_ ?_
      | refine LeO.bind ?_ (fun _ => ?_)
    · intro y0 y1 y2 y3
      unfold syntax_Depth.l0
      repeat' first
      | (with_reducible exact ih0 _ _ _ _ _ _ _ _)
      | (with_reducible exact ih1 _ _ _ _)
      | (with_reducible exact LeO.refl _)
      | (with_reducible exact LeO.none _)
      | (with_reducible refine LeO.ite ?_ ?_)
      | (with_reducible refine LeO.bind ?_ (fun _ => ?_))
      | exact ih0 _ _ _ _ _ _ _ _
      | exact ih1 _ _ _ _
      | exact LeO.none _
      | refine LeO.ite ?_ ?_
      | refine LeO.bind ?_ (fun _ => ?_)
theorem syntax_Depth.mono : ∀ a0 a1 a2 a3 a4 a5 a6 a7 k, LeO (syntax_Depth.f k a0 a1 a2 a3 a4 a5 a6 a7) (syntax_Depth.f (k + 1) a0 a1 a2 a3 a4 a5 a6 a7) := by
  intro a0 a1 a2 a3 a4 a5 a6 a7 k
  obtain ⟨ih0, ih1⟩ := syntax_Depth.mono_l k
  exact ih0 a0 a1 a2 a3 a4 a5 a6 a7
set_option maxHeartbeats 8000000 in
set_option maxRecDepth 100000 in
theorem syntax_Depth.calls (k : Nat) : ∀ (a0_0 : Int) (a0_1 : Int) (a0_2 : Int) (a0_3 : Int) (a0_4 : Int) (A0_5 : Option Addr) (c0_5 : Nat) (l0_5 : List (S27)) (a0_6 : Int) (a0_7 : Int) (r : Int) (w : World) (hr0_5 : Kd.C k27 w A0_5 l0_5.length l0_5) (hc0_5 : l0_5.length ≤ c0_5) (h : syntax_Depth.f k a0_0 a0_1 a0_2 a0_3 a0_4 l0_5 a0_6 a0_7 = some r),
    Calls Tryd.prog 28 #[.agg #[.int .i64 a0_0, .int .u64 a0_1, .int .u64 a0_2, .int .u64 a0_3, .int .u64 a0_4, .slice A0_5 l0_5.length c0_5, .int .i64 a0_6, .int .i64 a0_7]] w fun e w' => e = .returned (.int .i64 r) ∧ Below w.heap.size w w' := by
  induction k using Nat.strongRecOn with
  | _ k ih =>
  intro a0_0 a0_1 a0_2 a0_3 a0_4 A0_5 c0_5 l0_5 a0_6 a0_7 r w hr0_5 hc0_5 h
  cases k with
  | zero => exact absurd h (by simp [syntax_Depth.f])
  | succ k =>
  simp only [syntax_Depth.f] at h
  have hu27 := Tryd.underlying27
  have HR0_5 := Aside0.mk hr0_5
  have HC0_5 := Aside0.mk hc0_5
  clear hr0_5 hc0_5
  have HB := Aside0.mk (Below.refl w.heap.size w)
  have H : (syntax_Depth.l0 k 0 l0_5 (l0_5.length : Int) 0) = some r := h
  clear h
  have H' := Aside0.mk H
  clear H
  go_enter Tryd.func28, Tryd.ntmps28
  go_wp2_with (first | ((with_reducible refine gate_dst (N := 1) rfl ?_); refine box_event ?hg (N := 1) ?hd (cs := #[.int .i64 a0_0, .int .u64 a0_1, .int .u64 a0_2, .int .u64 a0_3, .int .u64 a0_4, .slice A0_5 l0_5.length c0_5, .int .i64 a0_6, .int .i64 a0_7]) (t := 27) ?hr ?_; (case hd => rfl); (case hg => rfl); (case hr => first | (go_simp; done) | (go_simp; rfl)); intro gb216 hg w2 hbox hb; have n0_ := Aside0.mk (below_step (by repeat (first | (with_reducible first | exact HB.out | apply below_alloc | apply pw_below_drewN | apply below_drew1) | exact HB.out)) hb); have n1_ := Aside0.mk (hbox); have n2_ := Aside0.mk ((by rw [hg]; exact (below_size (by repeat (first | (with_reducible first | exact HB.out | apply below_alloc | apply pw_below_drewN | apply below_drew1) | exact HB.out))) : w.heap.size ≤ gb216)); have n3_ := Aside0.mk ((by rw [hg]; exact (below_size (by repeat (first | (with_reducible first | exact HB.out | apply below_alloc | apply pw_below_drewN | apply below_drew1) | exact HB.out))) : w.heap.size ≤ gb216)); clear HB; have HB := n0_; have BK216 := n1_; have GW216 := n2_; have GE216 := n3_; clear n0_ n1_ n2_ n3_; clear hb hbox hg; have hcz3_0 : w2.cell? ⟨gb216, 0, none⟩ = some (.int .i64 a0_0) := (blk_cell BK216.out 0).trans rfl; have hcz3_1 : w2.cell? ⟨gb216, 1, none⟩ = some (.int .u64 a0_1) := (blk_cell BK216.out 1).trans rfl; have hcz3_2 : w2.cell? ⟨gb216, 2, none⟩ = some (.int .u64 a0_2) := (blk_cell BK216.out 2).trans rfl; have hcz3_3 : w2.cell? ⟨gb216, 3, none⟩ = some (.int .u64 a0_3) := (blk_cell BK216.out 3).trans rfl; have hcz3_4 : w2.cell? ⟨gb216, 4, none⟩ = some (.int .u64 a0_4) := (blk_cell BK216.out 4).trans rfl; have hcz3_5 : w2.cell? ⟨gb216, 5, none⟩ = some (.slice A0_5 l0_5.length c0_5) := (blk_cell BK216.out 5).trans rfl; have hcz3_6 : w2.cell? ⟨gb216, 6, none⟩ = some (.int .i64 a0_6) := (blk_cell BK216.out 6).trans rfl; have hcz3_7 : w2.cell? ⟨gb216, 7, none⟩ = some (.int .i64 a0_7) := (blk_cell BK216.out 7).trans rfl; have hfz3_0 := blk_frozen BK216.out 0; have hfz3_1 := blk_frozen BK216.out 1; have hfz3_2 := blk_frozen BK216.out 2; have hfz3_3 := blk_frozen BK216.out 3; have hfz3_4 := blk_frozen BK216.out 4; have hfz3_5 := blk_frozen BK216.out 5; have hfz3_6 := blk_frozen BK216.out 6; have hfz3_7 := blk_frozen BK216.out 7))
  go_loopg [3, 9] k (fun kq v3 v9 w' => ∃ (x3_1 : Int) (x9_1 : Int), v3 = .int .i64 x3_1 ∧ v9 = .int .i64 x9_1 ∧ Aside0 (syntax_Depth.l0 kq x3_1 l0_5 (l0_5.length : Int) x9_1 = some r) ∧ Aside0 (kq ≤ k) ∧ Aside0 (w'.heap[gb216]? = some (.cells #[.int .i64 a0_0, .int .u64 a0_1, .int .u64 a0_2, .int .u64 a0_3, .int .u64 a0_4, (.slice A0_5 l0_5.length c0_5), .int .i64 a0_6, .int .i64 a0_7] 27 (0, 0))) ∧ Aside0 (Below w.heap.size w w'))
  case atStart => exact ⟨(0), (0), (by first | rfl | (simp; done) | (simp [*]; done)), (by first | rfl | (simp; done) | (simp [*]; done)), H', ⟨Nat.le_refl _⟩, ⟨by (with_reducible repeat (first | refine blk_drewN ?_ _ | refine blk_drew ?_ | refine blk_alloc ?_ _)); exact BK216.out⟩, ⟨by repeat (first | (with_reducible first | exact HB.out | apply below_alloc | apply pw_below_drewN | apply below_drew1 | refine below_set ?_ GE216.out) | exact HB.out)⟩⟩
  case round =>
    clear H'
    try clear c2
    try clear p2
    try clear hcz3_0
    try clear hcz3_1
    try clear hcz3_2
    try clear hcz3_3
    try clear hcz3_4
    try clear hcz3_5
    try clear hcz3_6
    try clear hcz3_7
    try clear hfz3_0
    try clear hfz3_1
    try clear hfz3_2
    try clear hfz3_3
    try clear hfz3_4
    try clear hfz3_5
    try clear hfz3_6
    try clear hfz3_7
    obtain ⟨x3_1, x9_1, rfl, rfl, HA, HK1, BK216, HB⟩ := hrel
    cases gk with
    | zero => exact absurd HA.out (by simp [syntax_Depth.l0])
    | succ k1 =>
      have H := HA.out
      clear HA
      simp only [syntax_Depth.l0] at H
      by_cases c4 : x9_1 < (l0_5.length : Int)
      · rw [if_pos c4] at H
        have c4b0 : decide (x9_1 < (l0_5.length : Int)) = true := decide_eq_true c4
        clear c4
        by_cases c5 : 0 ≤ x9_1
        · rw [if_pos c5] at H
          have c5b0 : decide (0 ≤ x9_1) = true := decide_eq_true c5
          clear c5
          by_cases c6 : x9_1 < (l0_5.length : Int)
          · rw [if_pos c6] at H
            have c6b0 : decide (x9_1 < (l0_5.length : Int)) = true := decide_eq_true c6
            clear c6
            replace H := Option.bind_eq_some_iff.mp H
            obtain ⟨t219, A70, H⟩ := H
            replace H : (syntax_Depth.l0 k1 (mx x3_1 t219) l0_5 (l0_5.length : Int) (wrap64 (x9_1 + 1))) = some r := H
            have A7 := Aside0.mk A70
            clear A70
            obtain ⟨ji8, hji8⟩ : ∃ j_ : Int, (mx x3_1 t219) = j_ := ⟨_, rfl⟩
            replace H : (syntax_Depth.l0 k1 ji8 l0_5 (l0_5.length : Int) (wrap64 (x9_1 + 1))) = some r := by first | (rw [hji8] at H; exact H) | (simp only [hji8] at H ⊢; exact H)
            (try rw [hji8] at A7)
            have hji8_ : (if x3_1 < t219 then t219 else x3_1) = ji8 := hji8
            have H' := Aside0.mk H
            clear H
            have p217 : 0 ≤ (x9_1 : Int) := of_decide_eq_true (by first | (with_reducible assumption) | assumption)
            have q217 : x9_1 < (l0_5.length : Int) := of_decide_eq_true (by first | (with_reducible assumption) | assumption)
            obtain ⟨ad217, A217_5, c217_5, e217, hx217_0, hx217_1, hx217_2, hx217_3, hx217_4, hx217_5, hx217_6, hx217_7, hl217_5, hi217_5⟩ := at_T27 HR0_5.out x9_1 p217 q217
            cases e217
            replace hx217_0 := (HB.out.cell (World.block_lt_of_cell? w _ hx217_0)).trans hx217_0
            replace hx217_1 := (HB.out.cell (World.block_lt_of_cell? w _ hx217_1)).trans hx217_1
            replace hx217_2 := (HB.out.cell (World.block_lt_of_cell? w _ hx217_2)).trans hx217_2
            replace hx217_3 := (HB.out.cell (World.block_lt_of_cell? w _ hx217_3)).trans hx217_3
            replace hx217_4 := (HB.out.cell (World.block_lt_of_cell? w _ hx217_4)).trans hx217_4
            replace hx217_5 := (HB.out.cell (World.block_lt_of_cell? w _ hx217_5)).trans hx217_5
            replace hx217_6 := (HB.out.cell (World.block_lt_of_cell? w _ hx217_6)).trans hx217_6
            replace hx217_7 := (HB.out.cell (World.block_lt_of_cell? w _ hx217_7)).trans hx217_7
            have HR217_5 := Aside0.mk hi217_5
            have HC217_5 := Aside0.mk hl217_5
            clear hi217_5 hl217_5
            replace p217 := eq_true p217
            replace q217 := eq_true q217
            go_wp2_with (first | ((with_reducible refine gate_dst (N := 5) rfl ?_); refine box_event ?hg (N := 5) ?hd (cs := #[.int .i64 0, .int .u64 0, .int .u64 0, .int .u64 0, .int .u64 0, .slice none 0 0, .int .i64 0, .int .i64 0]) (t := 27) ?hr ?_; (case hd => rfl); (case hg => rfl); (case hr => first | (go_simp; done) | (go_simp; rfl)); intro gb218 hg w9 hbox hb; have n0_ := Aside0.mk (blk_below (g := gb216) (o := .cells #[.int .i64 a0_0, .int .u64 a0_1, .int .u64 a0_2, .int .u64 a0_3, .int .u64 a0_4, .slice (some ad217) l0_5.length c0_5, .int .i64 a0_6, .int .i64 a0_7] 27 (0, 0)) (by (with_reducible repeat (first | refine blk_drewN ?_ _ | refine blk_drew ?_ | refine blk_alloc ?_ _)); exact BK216.out) hb); have n1_ := Aside0.mk (below_step (by repeat (first | (with_reducible first | exact HB.out | apply below_alloc | apply pw_below_drewN | apply below_drew1 | refine below_set ?_ GE216.out) | exact HB.out)) hb); have n2_ := Aside0.mk (hbox); have n3_ := Aside0.mk ((by rw [hg]; exact (below_size (by repeat (first | (with_reducible first | exact HB.out | apply below_alloc | apply pw_below_drewN | apply below_drew1 | refine below_set ?_ GE216.out) | exact HB.out))) : w.heap.size ≤ gb218)); have n4_ := Aside0.mk ((by rw [hg]; exact (below_size (by repeat (first | (with_reducible first | exact HB.out | apply below_alloc | apply pw_below_drewN | apply below_drew1 | refine below_set ?_ GE216.out) | exact HB.out))) : w.heap.size ≤ gb218)); have n5_ := Aside0.mk ((by rw [hg]; exact Nat.ne_of_lt (blk_lt (g := gb216) (o := .cells #[.int .i64 a0_0, .int .u64 a0_1, .int .u64 a0_2, .int .u64 a0_3, .int .u64 a0_4, .slice (some ad217) l0_5.length c0_5, .int .i64 a0_6, .int .i64 a0_7] 27 (0, 0)) (by (with_reducible repeat (first | refine blk_drewN ?_ _ | refine blk_drew ?_ | refine blk_alloc ?_ _)); exact BK216.out)) : gb216 ≠ gb218)); have n6_ := Aside0.mk ((by rw [hg]; exact Nat.ne_of_gt (blk_lt (g := gb216) (o := .cells #[.int .i64 a0_0, .int .u64 a0_1, .int .u64 a0_2, .int .u64 a0_3, .int .u64 a0_4, .slice (some ad217) l0_5.length c0_5, .int .i64 a0_6, .int .i64 a0_7] 27 (0, 0)) (by (with_reducible repeat (first | refine blk_drewN ?_ _ | refine blk_drew ?_ | refine blk_alloc ?_ _)); exact BK216.out)) : gb218 ≠ gb216)); clear BK216; clear HB; have BK216 := n0_; have HB := n1_; have BK218 := n2_; have GW218 := n3_; have GE218 := n4_; have NB216_218 := n5_; have NB218_216 := n6_; clear n0_ n1_ n2_ n3_ n4_ n5_ n6_; clear hb hbox hg; have hnb10 := NB218_216.out; have hnc10 := NB216_218.out; have hcz11_0 : w9.cell? ⟨gb218, 0, none⟩ = some (.int .i64 0) := (blk_cell BK218.out 0).trans rfl; have hcz11_1 : w9.cell? ⟨gb218, 1, none⟩ = some (.int .u64 0) := (blk_cell BK218.out 1).trans rfl; have hcz11_2 : w9.cell? ⟨gb218, 2, none⟩ = some (.int .u64 0) := (blk_cell BK218.out 2).trans rfl; have hcz11_3 : w9.cell? ⟨gb218, 3, none⟩ = some (.int .u64 0) := (blk_cell BK218.out 3).trans rfl; have hcz11_4 : w9.cell? ⟨gb218, 4, none⟩ = some (.int .u64 0) := (blk_cell BK218.out 4).trans rfl; have hcz11_5 : w9.cell? ⟨gb218, 5, none⟩ = some (.slice none 0 0) := (blk_cell BK218.out 5).trans rfl; have hcz11_6 : w9.cell? ⟨gb218, 6, none⟩ = some (.int .i64 0) := (blk_cell BK218.out 6).trans rfl; have hcz11_7 : w9.cell? ⟨gb218, 7, none⟩ = some (.int .i64 0) := (blk_cell BK218.out 7).trans rfl; have hfz11_0 := blk_frozen BK218.out 0; have hfz11_1 := blk_frozen BK218.out 1; have hfz11_2 := blk_frozen BK218.out 2; have hfz11_3 := blk_frozen BK218.out 3; have hfz11_4 := blk_frozen BK218.out 4; have hfz11_5 := blk_frozen BK218.out 5; have hfz11_6 := blk_frozen BK218.out 6; have hfz11_7 := blk_frozen BK218.out 7) | ((with_reducible refine gate_callee (f := 28) rfl ?_); refine goesL_ (some 15) rfl rfl Tryd.func28 (by kernel_rfl) rfl #[.agg #[.int .i64 ((rd_T27 l0_5 x9_1).f0), .int .u64 ((rd_T27 l0_5 x9_1).f1.f0), .int .u64 ((rd_T27 l0_5 x9_1).f1.f1), .int .u64 ((rd_T27 l0_5 x9_1).f1.f2), .int .u64 ((rd_T27 l0_5 x9_1).f1.f3), .slice A217_5 ((rd_T27 l0_5 x9_1).f2).length c217_5, .int .i64 ((rd_T27 l0_5 x9_1).f3), .int .i64 ((rd_T27 l0_5 x9_1).f4)]] rfl (by (try simp only [List.map_toArray, List.map_cons, List.map_nil]); first | done | rfl | (simp only [List.length_drop, List.length_take]; rfl)) ?_; (with_reducible refine (ih k1 (by have := HK1.out; omega) ((rd_T27 l0_5 x9_1).f0) ((rd_T27 l0_5 x9_1).f1.f0) ((rd_T27 l0_5 x9_1).f1.f1) ((rd_T27 l0_5 x9_1).f1.f2) ((rd_T27 l0_5 x9_1).f1.f3) _ _ ((rd_T27 l0_5 x9_1).f2) ((rd_T27 l0_5 x9_1).f3) ((rd_T27 l0_5 x9_1).f4) t219 _ ?side1 ?side2 A7.out).mono ?_); (case side1 => exact Kd.C_below HR217_5.out (by repeat (first | (with_reducible first | exact HB.out | apply below_alloc | apply pw_below_drewN | apply below_drew1 | refine below_set ?_ GE216.out | refine below_set ?_ GE218.out) | exact HB.out))); (case side2 => exact HC217_5.out); rintro e w12 ⟨rfl, hb⟩; refine ⟨_, rfl, ?_⟩; have n0_ := Aside0.mk (blk_below (g := gb216) (o := .cells #[.int .i64 a0_0, .int .u64 a0_1, .int .u64 a0_2, .int .u64 a0_3, .int .u64 a0_4, .slice (some ad217) l0_5.length c0_5, .int .i64 a0_6, .int .i64 a0_7] 27 (0, 0)) (by (with_reducible repeat (first | refine blk_drewN ?_ _ | refine blk_drew ?_ | refine blk_alloc ?_ _)); refine blk_far ?_ NB216_218.out _; (with_reducible repeat (first | refine blk_drewN ?_ _ | refine blk_drew ?_ | refine blk_alloc ?_ _)); refine blk_far ?_ NB216_218.out _; (with_reducible repeat (first | refine blk_drewN ?_ _ | refine blk_drew ?_ | refine blk_alloc ?_ _)); refine blk_far ?_ NB216_218.out _; (with_reducible repeat (first | refine blk_drewN ?_ _ | refine blk_drew ?_ | refine blk_alloc ?_ _)); refine blk_far ?_ NB216_218.out _; (with_reducible repeat (first | refine blk_drewN ?_ _ | refine blk_drew ?_ | refine blk_alloc ?_ _)); refine blk_far ?_ NB216_218.out _; (with_reducible repeat (first | refine blk_drewN ?_ _ | refine blk_drew ?_ | refine blk_alloc ?_ _)); refine blk_far ?_ NB216_218.out _; (with_reducible repeat (first | refine blk_drewN ?_ _ | refine blk_drew ?_ | refine blk_alloc ?_ _)); refine blk_far ?_ NB216_218.out _; (with_reducible repeat (first | refine blk_drewN ?_ _ | refine blk_drew ?_ | refine blk_alloc ?_ _)); refine blk_far ?_ NB216_218.out _; (with_reducible repeat (first | refine blk_drewN ?_ _ | refine blk_drew ?_ | refine blk_alloc ?_ _)); exact BK216.out) hb); have n1_ := Aside0.mk (blk_below (g := gb218) (o := .cells #[.int .i64 ((rd_T27 l0_5 x9_1).f0), .int .u64 ((rd_T27 l0_5 x9_1).f1.f0), .int .u64 ((rd_T27 l0_5 x9_1).f1.f1), .int .u64 ((rd_T27 l0_5 x9_1).f1.f2), .int .u64 ((rd_T27 l0_5 x9_1).f1.f3), .slice A217_5 ((rd_T27 l0_5 x9_1).f2).length c217_5, .int .i64 ((rd_T27 l0_5 x9_1).f3), .int .i64 ((rd_T27 l0_5 x9_1).f4)] 27 (0, 0)) (by (with_reducible repeat (first | refine blk_drewN ?_ _ | refine blk_drew ?_ | refine blk_alloc ?_ _)); refine blk_put (cs := #[.int .i64 ((rd_T27 l0_5 x9_1).f0), .int .u64 ((rd_T27 l0_5 x9_1).f1.f0), .int .u64 ((rd_T27 l0_5 x9_1).f1.f1), .int .u64 ((rd_T27 l0_5 x9_1).f1.f2), .int .u64 ((rd_T27 l0_5 x9_1).f1.f3), .slice A217_5 ((rd_T27 l0_5 x9_1).f2).length c217_5, .int .i64 ((rd_T27 l0_5 x9_1).f3), .int .i64 0]) ?_ 7 _ rfl; (with_reducible repeat (first | refine blk_drewN ?_ _ | refine blk_drew ?_ | refine blk_alloc ?_ _)); refine blk_put (cs := #[.int .i64 ((rd_T27 l0_5 x9_1).f0), .int .u64 ((rd_T27 l0_5 x9_1).f1.f0), .int .u64 ((rd_T27 l0_5 x9_1).f1.f1), .int .u64 ((rd_T27 l0_5 x9_1).f1.f2), .int .u64 ((rd_T27 l0_5 x9_1).f1.f3), .slice A217_5 ((rd_T27 l0_5 x9_1).f2).length c217_5, .int .i64 0, .int .i64 0]) ?_ 6 _ rfl; (with_reducible repeat (first | refine blk_drewN ?_ _ | refine blk_drew ?_ | refine blk_alloc ?_ _)); refine blk_put (cs := #[.int .i64 ((rd_T27 l0_5 x9_1).f0), .int .u64 ((rd_T27 l0_5 x9_1).f1.f0), .int .u64 ((rd_T27 l0_5 x9_1).f1.f1), .int .u64 ((rd_T27 l0_5 x9_1).f1.f2), .int .u64 ((rd_T27 l0_5 x9_1).f1.f3), .slice none 0 0, .int .i64 0, .int .i64 0]) ?_ 5 _ rfl; (with_reducible repeat (first | refine blk_drewN ?_ _ | refine blk_drew ?_ | refine blk_alloc ?_ _)); refine blk_put (cs := #[.int .i64 ((rd_T27 l0_5 x9_1).f0), .int .u64 ((rd_T27 l0_5 x9_1).f1.f0), .int .u64 ((rd_T27 l0_5 x9_1).f1.f1), .int .u64 ((rd_T27 l0_5 x9_1).f1.f2), .int .u64 0, .slice none 0 0, .int .i64 0, .int .i64 0]) ?_ 4 _ rfl; (with_reducible repeat (first | refine blk_drewN ?_ _ | refine blk_drew ?_ | refine blk_alloc ?_ _)); refine blk_put (cs := #[.int .i64 ((rd_T27 l0_5 x9_1).f0), .int .u64 ((rd_T27 l0_5 x9_1).f1.f0), .int .u64 ((rd_T27 l0_5 x9_1).f1.f1), .int .u64 0, .int .u64 0, .slice none 0 0, .int .i64 0, .int .i64 0]) ?_ 3 _ rfl; (with_reducible repeat (first | refine blk_drewN ?_ _ | refine blk_drew ?_ | refine blk_alloc ?_ _)); refine blk_put (cs := #[.int .i64 ((rd_T27 l0_5 x9_1).f0), .int .u64 ((rd_T27 l0_5 x9_1).f1.f0), .int .u64 0, .int .u64 0, .int .u64 0, .slice none 0 0, .int .i64 0, .int .i64 0]) ?_ 2 _ rfl; (with_reducible repeat (first | refine blk_drewN ?_ _ | refine blk_drew ?_ | refine blk_alloc ?_ _)); refine blk_put (cs := #[.int .i64 ((rd_T27 l0_5 x9_1).f0), .int .u64 0, .int .u64 0, .int .u64 0, .int .u64 0, .slice none 0 0, .int .i64 0, .int .i64 0]) ?_ 1 _ rfl; (with_reducible repeat (first | refine blk_drewN ?_ _ | refine blk_drew ?_ | refine blk_alloc ?_ _)); refine blk_put (cs := #[.int .i64 0, .int .u64 0, .int .u64 0, .int .u64 0, .int .u64 0, .slice none 0 0, .int .i64 0, .int .i64 0]) ?_ 0 _ rfl; (with_reducible repeat (first | refine blk_drewN ?_ _ | refine blk_drew ?_ | refine blk_alloc ?_ _)); exact BK218.out) hb); have n2_ := Aside0.mk (below_step (by repeat (first | (with_reducible first | exact HB.out | apply below_alloc | apply pw_below_drewN | apply below_drew1 | refine below_set ?_ GE216.out | refine below_set ?_ GE218.out) | exact HB.out)) hb); clear BK216; clear BK218; clear HB; have BK216 := n0_; have BK218 := n1_; have HB := n2_; clear n0_ n1_ n2_; (try clear hb); (try clear hb2); (try clear hk); (try clear hi)))
            go_roundg k1
            case measure => have := HK1.out; omega
            case rel => exact ⟨(ji8), (wrap64 (x9_1 + 1)), (by first | rfl | (simp; done) | (simp only [← hji8] <;> (first | rfl | simp)) | (simp [*]; done)), (by first | rfl | (simp; done) | (simp [*]; done)), H', ⟨by have := HK1.out; omega⟩, ⟨by (with_reducible repeat (first | refine blk_drewN ?_ _ | refine blk_drew ?_ | refine blk_alloc ?_ _)); exact BK216.out⟩, ⟨by repeat (first | (with_reducible first | exact HB.out | apply below_alloc | apply pw_below_drewN | apply below_drew1 | refine below_set ?_ GE216.out | refine below_set ?_ GE218.out) | exact HB.out)⟩⟩
          · rw [if_neg c6] at H
            exact absurd H (by simp)
        · rw [if_neg c5] at H
          exact absurd H (by simp)
      · rw [if_neg c4] at H
        have c4b0 : decide (x9_1 < (l0_5.length : Int)) = false := decide_eq_false c4
        clear c4
        obtain rfl := Option.some.inj H
        go_wp2
        go_ret
        exact ⟨by first | rfl | (simp [errW_none, errW_some] <;> rfl) | (simp [*, errW_none, errW_some] <;> rfl), by repeat (first | (with_reducible first | exact HB.out | apply below_alloc | apply pw_below_drewN | apply below_drew1 | refine below_set ?_ GE216.out) | exact HB.out)⟩

end Go.Proofs.YtaohlmcgaggoeaaDoor.P
