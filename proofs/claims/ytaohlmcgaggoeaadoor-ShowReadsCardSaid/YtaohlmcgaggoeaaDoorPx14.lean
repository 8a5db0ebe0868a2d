import Derived.Test.YtaohlmcgaggoeaaDoorPx0
-- Written by a program of this project (wip/xp over the words of the print), not by hand.
namespace Go.Proofs.YtaohlmcgaggoeaaDoor.P
open Go.RowKit Go.Proofs.YtaohlmcgaggoeaaDoorW.PrintWords Go.Proofs.YtaohlmcgaggoeaaDoorW.PrintLast Go.Proofs.YtaohlmcgaggoeaaDoorW.PrintMore
attribute [local go_sem] max2_int min2_int max_two min_two max_three min_three max_four min_four   -- for this text's walks alone
set_option linter.unusedVariables false
set_option linter.unusedSimpArgs false

/-! ### ostinatoref02_Depth: function 13 -/
mutual
def ostinatoref02_Depth.l0 : Nat → Int → Int → Int → Int → Int → Int → Int → List (S27) → Int → Int → Option (Int)
  | 0, _, _, _, _, _, _, _, _, _, _ => none
  | k + 1, x3, x4, x235000, x235001, x235002, x235003, x235004, x235005, x235006, x235007 => if x4 < (x235005.length : Int) then (if 0 ≤ x4 then ((ostinatoref02_Depth.f k ((rd_T27 x235005 x4).f0) ((rd_T27 x235005 x4).f1.f0) ((rd_T27 x235005 x4).f1.f1) ((rd_T27 x235005 x4).f1.f2) ((rd_T27 x235005 x4).f1.f3) ((rd_T27 x235005 x4).f2) ((rd_T27 x235005 x4).f3) ((rd_T27 x235005 x4).f4)).bind fun t236 => (ostinatoref02_Depth.l0 k (mx x3 t236) (wrap64 (x4 + 1)) x235000 x235001 x235002 x235003 x235004 x235005 x235006 x235007)) else (none)) else (some (wrap64 (x3 + 1)))
def ostinatoref02_Depth.f : Nat → Int → Int → Int → Int → Int → List (S27) → Int → Int → Option (Int)
  | 0, _, _, _, _, _, _, _, _ => none
  | k + 1, a0_0, a0_1, a0_2, a0_3, a0_4, l0_5, a0_6, a0_7 => ostinatoref02_Depth.l0 k 0 0 a0_0 a0_1 a0_2 a0_3 a0_4 l0_5 a0_6 a0_7
end
theorem ostinatoref02_Depth.mono_l : ∀ k, (∀ y0 y1 y2 y3 y4 y5 y6 y7, LeO (ostinatoref02_Depth.f k y0 y1 y2 y3 y4 y5 y6 y7) (ostinatoref02_Depth.f (k + 1) y0 y1 y2 y3 y4 y5 y6 y7)) ∧ (∀ y0 y1 y2 y3 y4 y5 y6 y7 y8 y9, LeO (ostinatoref02_Depth.l0 k y0 y1 y2 y3 y4 y5 y6 y7 y8 y9) (ostinatoref02_Depth.l0 (k + 1) y0 y1 y2 y3 y4 y5 y6 y7 y8 y9))
  | 0 => ⟨fun _ _ _ _ _ _ _ _ r h => by simp [ostinatoref02_Depth.f] at h, fun _ _ _ _ _ _ _ _ _ _ r h => by simp [ostinatoref02_Depth.l0] at h⟩
  | k + 1 => by
    obtain ⟨ih0, ih1⟩ := ostinatoref02_Depth.mono_l k
    refine ⟨?_, ?_⟩
    · intro y0 y1 y2 y3 y4 y5 y6 y7
      unfold ostinatoref02_Depth.f
      repeat' first
      | (with_reducible exact ih0 _ _ _ _ _ _ _ _)
      | (with_reducible exact ih1 _ _ _ _ _ _ _ _ _ _)
      | (with_reducible exact LeO.refl _)
      | (with_reducible exact LeO.none _)
      | (with_reducible refine LeO.ite ?_ ?_)
      | (with_reducible refine LeO.bind ?_ (fun _ => ?_))
      | exact ih0 _ _ _ _ _ _ _ _
      | exact ih1 _ _ _ _ _ _ _ _ _ _
      | exact LeO.none _
      | refine LeO.ite ?_ ?_
      | refine LeO.bind ?_ (fun _ => ?_)
    · intro y0 y1 y2 y3 y4 y5 y6 y7 y8 y9
      unfold ostinatoref02_Depth.l0
      repeat' first
      | (with_reducible exact ih0 _ _ _ _ _ _ _ _)
      | (with_reducible exact ih1 _ _ _ _ _ _ _ _ _ _)
      | (with_reducible exact LeO.refl _)
      | (with_reducible exact LeO.none _)
      | (with_reducible refine LeO.ite ?_ ?_)
      | (with_reducible refine LeO.bind ?_ (fun _ => ?_))
      | exact ih0 _ _ _ _ _ _ _ _
      | exact ih1 _ _ _ _ _ _ _ _ _ _
      | exact LeO.none _
      | refine LeO.ite ?_ ?_
      | refine LeO.bind ?_ (fun _ => ?_)
theorem ostinatoref02_Depth.mono : ∀ a0 a1 a2 a3 a4 a5 a6 a7 k, LeO (ostinatoref02_Depth.f k a0 a1 a2 a3 a4 a5 a6 a7) (ostinatoref02_Depth.f (k + 1) a0 a1 a2 a3 a4 a5 a6 a7) := by
  intro a0 a1 a2 a3 a4 a5 a6 a7 k
  obtain ⟨ih0, ih1⟩ := ostinatoref02_Depth.mono_l k
  exact ih0 a0 a1 a2 a3 a4 a5 a6 a7
set_option maxHeartbeats 8000000 in
set_option maxRecDepth 100000 in
theorem ostinatoref02_Depth.calls (k : Nat) : ∀ (a0_0 : Int) (a0_1 : Int) (a0_2 : Int) (a0_3 : Int) (a0_4 : Int) (A0_5 : Option Addr) (c0_5 : Nat) (l0_5 : List (S27)) (a0_6 : Int) (a0_7 : Int) (r : Int) (w : World) (hr0_5 : Kd.C k27 w A0_5 l0_5.length l0_5) (hc0_5 : l0_5.length ≤ c0_5) (h : ostinatoref02_Depth.f k a0_0 a0_1 a0_2 a0_3 a0_4 l0_5 a0_6 a0_7 = some r),
    Calls Tryd.prog 13 #[.agg #[.int .i64 a0_0, .int .u64 a0_1, .int .u64 a0_2, .int .u64 a0_3, .int .u64 a0_4, .slice A0_5 l0_5.length c0_5, .int .i64 a0_6, .int .i64 a0_7]] w fun e w' => e = .returned (.int .i64 r) ∧ Below w.heap.size w w' := by
  induction k using Nat.strongRecOn with
  | _ k ih =>
  intro a0_0 a0_1 a0_2 a0_3 a0_4 A0_5 c0_5 l0_5 a0_6 a0_7 r w hr0_5 hc0_5 h
  cases k with
  | zero => exact absurd h (by simp [ostinatoref02_Depth.f])
  | succ k =>
  simp only [ostinatoref02_Depth.f] at h
  have hu27 := Tryd.underlying27
  have HR0_5 := Aside0.mk hr0_5
  have HC0_5 := Aside0.mk hc0_5
  clear hr0_5 hc0_5
  have HB := Aside0.mk (Below.refl w.heap.size w)
  have H : (ostinatoref02_Depth.l0 k 0 0 a0_0 a0_1 a0_2 a0_3 a0_4 l0_5 a0_6 a0_7) = some r := h
  clear h
  have H' := Aside0.mk H
  clear H
  go_enter Tryd.func13, Tryd.ntmps13
  go_wp2_with (first | ((with_reducible refine gate_dst (N := 1) rfl ?_); refine box_event ?hg (N := 1) ?hd (cs := #[.int .i64 a0_0, .int .u64 a0_1, .int .u64 a0_2, .int .u64 a0_3, .int .u64 a0_4, .slice A0_5 l0_5.length c0_5, .int .i64 a0_6, .int .i64 a0_7]) (t := 27) ?hr ?_; (case hd => rfl); (case hg => rfl); (case hr => first | (go_simp; done) | (go_simp; rfl)); intro gb234 hg w2 hbox hb; have n0_ := Aside0.mk (below_step (by repeat (first | (with_reducible first | exact HB.out | apply below_alloc | apply pw_below_drewN | apply below_drew1) | exact HB.out)) hb); have n1_ := Aside0.mk (hbox); have n2_ := Aside0.mk ((by rw [hg]; exact (below_size (by repeat (first | (with_reducible first | exact HB.out | apply below_alloc | apply pw_below_drewN | apply below_drew1) | exact HB.out))) : w.heap.size ≤ gb234)); have n3_ := Aside0.mk ((by rw [hg]; exact (below_size (by repeat (first | (with_reducible first | exact HB.out | apply below_alloc | apply pw_below_drewN | apply below_drew1) | exact HB.out))) : w.heap.size ≤ gb234)); clear HB; have HB := n0_; have BK234 := n1_; have GW234 := n2_; have GE234 := n3_; clear n0_ n1_ n2_ n3_; clear hb hbox hg))
  go_loopg [3, 4] k (fun kq v3 v4 w' => ∃ (x3_1 : Int) (x4_1 : Int), v3 = .int .i64 x3_1 ∧ v4 = .int .i64 x4_1 ∧ Aside0 (ostinatoref02_Depth.l0 kq x3_1 x4_1 a0_0 a0_1 a0_2 a0_3 a0_4 l0_5 a0_6 a0_7 = some r) ∧ Aside0 (kq ≤ k) ∧ Aside0 (w'.heap[gb234]? = some (.cells #[.int .i64 a0_0, .int .u64 a0_1, .int .u64 a0_2, .int .u64 a0_3, .int .u64 a0_4, (.slice A0_5 l0_5.length c0_5), .int .i64 a0_6, .int .i64 a0_7] 27 (0, 0))) ∧ Aside0 (Below w.heap.size w w'))
  case atStart => exact ⟨(0), (0), (by first | rfl | (simp; done) | (simp [*]; done)), (by first | rfl | (simp; done) | (simp [*]; done)), H', ⟨Nat.le_refl _⟩, ⟨by (with_reducible repeat (first | refine blk_drewN ?_ _ | refine blk_drew ?_ | refine blk_alloc ?_ _)); exact BK234.out⟩, ⟨by repeat (first | (with_reducible first | exact HB.out | apply below_alloc | apply pw_below_drewN | apply below_drew1 | refine below_set ?_ GE234.out) | exact HB.out)⟩⟩
  case round =>
    clear H'
    try clear c1
    try clear p2
    obtain ⟨x3_1, x4_1, rfl, rfl, HA, HK1, BK234, HB⟩ := hrel
    cases gk with
    | zero => exact absurd HA.out (by simp [ostinatoref02_Depth.l0])
    | succ k1 =>
      have H := HA.out
      clear HA
      simp only [ostinatoref02_Depth.l0] at H
      by_cases c3 : x4_1 < (l0_5.length : Int)
      · rw [if_pos c3] at H
        have c3b0 : decide (x4_1 < (l0_5.length : Int)) = true := decide_eq_true c3
        clear c3
        by_cases c4 : 0 ≤ x4_1
        · rw [if_pos c4] at H
          have c4b0 : decide (0 ≤ x4_1) = true := decide_eq_true c4
          clear c4
          replace H := Option.bind_eq_some_iff.mp H
          obtain ⟨t236, A50, H⟩ := H
          replace H : (ostinatoref02_Depth.l0 k1 (mx x3_1 t236) (wrap64 (x4_1 + 1)) a0_0 a0_1 a0_2 a0_3 a0_4 l0_5 a0_6 a0_7) = some r := H
          have A5 := Aside0.mk A50
          clear A50
          obtain ⟨ji6, hji6⟩ : ∃ j_ : Int, (mx x3_1 t236) = j_ := ⟨_, rfl⟩
          replace H : (ostinatoref02_Depth.l0 k1 ji6 (wrap64 (x4_1 + 1)) a0_0 a0_1 a0_2 a0_3 a0_4 l0_5 a0_6 a0_7) = some r := by first | (rw [hji6] at H; exact H) | (simp only [hji6] at H ⊢; exact H)
          (try rw [hji6] at A5)
          have hji6_ : (if x3_1 < t236 then t236 else x3_1) = ji6 := hji6
          have H' := Aside0.mk H
          clear H
          have hcz7_0 : wr.cell? ⟨gb234, 0, none⟩ = some (.int .i64 a0_0) := (blk_cell BK234.out 0).trans rfl
          have hcz7_1 : wr.cell? ⟨gb234, 1, none⟩ = some (.int .u64 a0_1) := (blk_cell BK234.out 1).trans rfl
          have hcz7_2 : wr.cell? ⟨gb234, 2, none⟩ = some (.int .u64 a0_2) := (blk_cell BK234.out 2).trans rfl
          have hcz7_3 : wr.cell? ⟨gb234, 3, none⟩ = some (.int .u64 a0_3) := (blk_cell BK234.out 3).trans rfl
          have hcz7_4 : wr.cell? ⟨gb234, 4, none⟩ = some (.int .u64 a0_4) := (blk_cell BK234.out 4).trans rfl
          have hcz7_5 : wr.cell? ⟨gb234, 5, none⟩ = some (.slice A0_5 l0_5.length c0_5) := (blk_cell BK234.out 5).trans rfl
          have hcz7_6 : wr.cell? ⟨gb234, 6, none⟩ = some (.int .i64 a0_6) := (blk_cell BK234.out 6).trans rfl
          have hcz7_7 : wr.cell? ⟨gb234, 7, none⟩ = some (.int .i64 a0_7) := (blk_cell BK234.out 7).trans rfl
          have hfz7_0 := blk_frozen BK234.out 0
          have hfz7_1 := blk_frozen BK234.out 1
          have hfz7_2 := blk_frozen BK234.out 2
          have hfz7_3 := blk_frozen BK234.out 3
          have hfz7_4 := blk_frozen BK234.out 4
          have hfz7_5 := blk_frozen BK234.out 5
          have hfz7_6 := blk_frozen BK234.out 6
          have hfz7_7 := blk_frozen BK234.out 7
          have p235 : 0 ≤ (x4_1 : Int) := of_decide_eq_true (by first | (with_reducible assumption) | assumption)
          have q235 : x4_1 < (l0_5.length : Int) := of_decide_eq_true (by first | (with_reducible assumption) | assumption)
          obtain ⟨ad235, A235_5, c235_5, e235, hx235_0, hx235_1, hx235_2, hx235_3, hx235_4, hx235_5, hx235_6, hx235_7, hl235_5, hi235_5⟩ := at_T27 HR0_5.out x4_1 p235 q235
          cases e235
          replace hx235_0 := (HB.out.cell (World.block_lt_of_cell? w _ hx235_0)).trans hx235_0
          replace hx235_1 := (HB.out.cell (World.block_lt_of_cell? w _ hx235_1)).trans hx235_1
          replace hx235_2 := (HB.out.cell (World.block_lt_of_cell? w _ hx235_2)).trans hx235_2
          replace hx235_3 := (HB.out.cell (World.block_lt_of_cell? w _ hx235_3)).trans hx235_3
          replace hx235_4 := (HB.out.cell (World.block_lt_of_cell? w _ hx235_4)).trans hx235_4
          replace hx235_5 := (HB.out.cell (World.block_lt_of_cell? w _ hx235_5)).trans hx235_5
          replace hx235_6 := (HB.out.cell (World.block_lt_of_cell? w _ hx235_6)).trans hx235_6
          replace hx235_7 := (HB.out.cell (World.block_lt_of_cell? w _ hx235_7)).trans hx235_7
          have HR235_5 := Aside0.mk hi235_5
          have HC235_5 := Aside0.mk hl235_5
          clear hi235_5 hl235_5
          replace p235 := eq_true p235
          replace q235 := eq_true q235
          go_wp2_with (first | ((with_reducible refine gate_callee (f := 13) rfl ?_); refine goesL_ (some 18) rfl rfl Tryd.func13 (by kernel_rfl) rfl #[.agg #[.int .i64 ((rd_T27 l0_5 x4_1).f0), .int .u64 ((rd_T27 l0_5 x4_1).f1.f0), .int .u64 ((rd_T27 l0_5 x4_1).f1.f1), .int .u64 ((rd_T27 l0_5 x4_1).f1.f2), .int .u64 ((rd_T27 l0_5 x4_1).f1.f3), .slice A235_5 ((rd_T27 l0_5 x4_1).f2).length c235_5, .int .i64 ((rd_T27 l0_5 x4_1).f3), .int .i64 ((rd_T27 l0_5 x4_1).f4)]] rfl (by (try simp only [List.map_toArray, List.map_cons, List.map_nil]); first | done | rfl | (simp only [List.length_drop, List.length_take]; rfl)) ?_; (with_reducible refine (ih k1 (by have := HK1.out; omega) ((rd_T27 l0_5 x4_1).f0) ((rd_T27 l0_5 x4_1).f1.f0) ((rd_T27 l0_5 x4_1).f1.f1) ((rd_T27 l0_5 x4_1).f1.f2) ((rd_T27 l0_5 x4_1).f1.f3) _ _ ((rd_T27 l0_5 x4_1).f2) ((rd_T27 l0_5 x4_1).f3) ((rd_T27 l0_5 x4_1).f4) t236 _ ?side1 ?side2 A5.out).mono ?_); (case side1 => repeat (first | exact (Kd.C_below HR235_5.out HB.out) | (with_reducible refine Kd.C_alloc ?_ _) | (with_reducible refine Kd.C_drewN ?_ _) | (with_reducible refine Kd.C_drew ?_))); (case side2 => exact HC235_5.out); rintro e w8 ⟨rfl, hb⟩; refine ⟨_, rfl, ?_⟩; have n0_ := Aside0.mk (blk_below (g := gb234) (o := .cells #[.int .i64 a0_0, .int .u64 a0_1, .int .u64 a0_2, .int .u64 a0_3, .int .u64 a0_4, .slice (some ad235) l0_5.length c0_5, .int .i64 a0_6, .int .i64 a0_7] 27 (0, 0)) (by (with_reducible repeat (first | refine blk_drewN ?_ _ | refine blk_drew ?_ | refine blk_alloc ?_ _)); exact BK234.out) hb); have n1_ := Aside0.mk (below_step (by repeat (first | (with_reducible first | exact HB.out | apply below_alloc | apply pw_below_drewN | apply below_drew1 | refine below_set ?_ GE234.out) | exact HB.out)) hb); clear BK234; clear HB; have BK234 := n0_; have HB := n1_; clear n0_ n1_; (try clear hb); (try clear hb2); (try clear hk); (try clear hi)))
          go_roundg k1
          case measure => have := HK1.out; omega
          case rel => exact ⟨(ji6), (wrap64 (x4_1 + 1)), (by first | rfl | (simp; done) | (simp only [← hji6] <;> (first | rfl | simp)) | (simp [*]; done)), (by first | rfl | (simp; done) | (simp [*]; done)), H', ⟨by have := HK1.out; omega⟩, ⟨by (with_reducible repeat (first | refine blk_drewN ?_ _ | refine blk_drew ?_ | refine blk_alloc ?_ _)); exact BK234.out⟩, ⟨by repeat (first | (with_reducible first | exact HB.out | apply below_alloc | apply pw_below_drewN | apply below_drew1 | refine below_set ?_ GE234.out) | exact HB.out)⟩⟩
        · rw [if_neg c4] at H
          exact absurd H (by simp)
      · rw [if_neg c3] at H
        have c3b0 : decide (x4_1 < (l0_5.length : Int)) = false := decide_eq_false c3
        clear c3
        obtain rfl := Option.some.inj H
        have hcz9_0 : wr.cell? ⟨gb234, 0, none⟩ = some (.int .i64 a0_0) := (blk_cell BK234.out 0).trans rfl
        have hcz9_1 : wr.cell? ⟨gb234, 1, none⟩ = some (.int .u64 a0_1) := (blk_cell BK234.out 1).trans rfl
        have hcz9_2 : wr.cell? ⟨gb234, 2, none⟩ = some (.int .u64 a0_2) := (blk_cell BK234.out 2).trans rfl
        have hcz9_3 : wr.cell? ⟨gb234, 3, none⟩ = some (.int .u64 a0_3) := (blk_cell BK234.out 3).trans rfl
        have hcz9_4 : wr.cell? ⟨gb234, 4, none⟩ = some (.int .u64 a0_4) := (blk_cell BK234.out 4).trans rfl
        have hcz9_5 : wr.cell? ⟨gb234, 5, none⟩ = some (.slice A0_5 l0_5.length c0_5) := (blk_cell BK234.out 5).trans rfl
        have hcz9_6 : wr.cell? ⟨gb234, 6, none⟩ = some (.int .i64 a0_6) := (blk_cell BK234.out 6).trans rfl
        have hcz9_7 : wr.cell? ⟨gb234, 7, none⟩ = some (.int .i64 a0_7) := (blk_cell BK234.out 7).trans rfl
        have hfz9_0 := blk_frozen BK234.out 0
        have hfz9_1 := blk_frozen BK234.out 1
        have hfz9_2 := blk_frozen BK234.out 2
        have hfz9_3 := blk_frozen BK234.out 3
        have hfz9_4 := blk_frozen BK234.out 4
        have hfz9_5 := blk_frozen BK234.out 5
        have hfz9_6 := blk_frozen BK234.out 6
        have hfz9_7 := blk_frozen BK234.out 7
        go_wp2
        go_ret
        exact ⟨by first | rfl | (simp [errW_none, errW_some] <;> rfl) | (simp [*, errW_none, errW_some] <;> rfl), by repeat (first | (with_reducible first | exact HB.out | apply below_alloc | apply pw_below_drewN | apply below_drew1 | refine below_set ?_ GE234.out) | exact HB.out)⟩

end Go.Proofs.YtaohlmcgaggoeaaDoor.P
