import Derived.Test.YtaohlmcgaggoeaaDoorPx0
-- Written by a program of this project (wip/xp over the words of the print), not by hand.
namespace Go.Proofs.YtaohlmcgaggoeaaDoor.P
open Go.RowKit Go.Proofs.YtaohlmcgaggoeaaDoorW.PrintWords Go.Proofs.YtaohlmcgaggoeaaDoorW.PrintLast Go.Proofs.YtaohlmcgaggoeaaDoorW.PrintMore
attribute [local go_sem] max2_int min2_int max_two min_two max_three min_three max_four min_four   -- for this text's walks alone
set_option linter.unusedVariables false
set_option linter.unusedSimpArgs false

/-! ### ostinatoref02_Places: function 14 -/
mutual
def ostinatoref02_Places.j0 : Nat → Int → Int → Int → Int → Int → Int → List (S27) → Int → Int → Option (Int)
  | 0, _, _, _, _, _, _, _, _, _ => none
  | k + 1, x3, x238000, x238001, x238002, x238003, x238004, x238005, x238006, x238007 => ostinatoref02_Places.l0 k x3 0 x238000 x238001 x238002 x238003 x238004 x238005 x238006 x238007
def ostinatoref02_Places.l0 : Nat → Int → Int → Int → Int → Int → Int → Int → List (S27) → Int → Int → Option (Int)
  | 0, _, _, _, _, _, _, _, _, _, _ => none
  | k + 1, x3, x4, x238000, x238001, x238002, x238003, x238004, x238005, x238006, x238007 => if x4 < (x238005.length : Int) then (if 0 ≤ x4 then ((ostinatoref02_Places.f k ((rd_T27 x238005 x4).f0) ((rd_T27 x238005 x4).f1.f0) ((rd_T27 x238005 x4).f1.f1) ((rd_T27 x238005 x4).f1.f2) ((rd_T27 x238005 x4).f1.f3) ((rd_T27 x238005 x4).f2) ((rd_T27 x238005 x4).f3) ((rd_T27 x238005 x4).f4)).bind fun t239 => (ostinatoref02_Places.l0 k (wrap64 (x3 + t239)) (wrap64 (x4 + 1)) x238000 x238001 x238002 x238003 x238004 x238005 x238006 x238007)) else (none)) else (some x3)
def ostinatoref02_Places.f : Nat → Int → Int → Int → Int → Int → List (S27) → Int → Int → Option (Int)
  | 0, _, _, _, _, _, _, _, _ => none
  | k + 1, a0_0, a0_1, a0_2, a0_3, a0_4, l0_5, a0_6, a0_7 => if a0_0 = 1 then (ostinatoref02_Places.j0 k 1 a0_0 a0_1 a0_2 a0_3 a0_4 l0_5 a0_6 a0_7) else (ostinatoref02_Places.j0 k 0 a0_0 a0_1 a0_2 a0_3 a0_4 l0_5 a0_6 a0_7)
end
theorem ostinatoref02_Places.mono_l : ∀ k, (∀ y0 y1 y2 y3 y4 y5 y6 y7, LeO (ostinatoref02_Places.f k y0 y1 y2 y3 y4 y5 y6 y7) (ostinatoref02_Places.f (k + 1) y0 y1 y2 y3 y4 y5 y6 y7)) ∧ (∀ y0 y1 y2 y3 y4 y5 y6 y7 y8, LeO (ostinatoref02_Places.j0 k y0 y1 y2 y3 y4 y5 y6 y7 y8) (ostinatoref02_Places.j0 (k + 1) y0 y1 y2 y3 y4 y5 y6 y7 y8)) ∧ (∀ y0 y1 y2 y3 y4 y5 y6 y7 y8 y9, LeO (ostinatoref02_Places.l0 k y0 y1 y2 y3 y4 y5 y6 y7 y8 y9) (ostinatoref02_Places.l0 (k + 1) y0 y1 y2 y3 y4 y5 y6 y7 y8 y9))
  | 0 => ⟨fun _ _ _ _ _ _ _ _ r h => by simp [ostinatoref02_Places.f] at h, fun _ _ _ _ _ _ _ _ _ r h => by simp [ostinatoref02_Places.j0] at h, fun _ _ _ _ _ _ _ _ _ _ r h => by simp [ostinatoref02_Places.l0] at h⟩
  | k + 1 => by
    obtain ⟨ih0, ih1, ih2⟩ := ostinatoref02_Places.mono_l k
    refine ⟨?_, ?_, ?_⟩
    · intro y0 y1 y2 y3 y4 y5 y6 y7
      unfold ostinatoref02_Places.f
      repeat' first
      | (with_reducible exact ih0 _ _ _ _ _ _ _ _)
      | (with_reducible exact ih1 _ _ _ _ _ _ _ _ _)
      | (with_reducible exact ih2 _ _ _ _ _ _ _ _ _ _)
      | (with_reducible exact LeO.refl _)
      | (with_reducible exact LeO.none _)
      | (with_reducible refine LeO.ite ?_ ?_)
      | (with_reducible refine LeO.bind ?_ (fun _ => ?_))
      | exact ih0 _ _ _ _ _ _ _ _
      | exact ih1 _ _ _ _ _ _ _ _ _
      | exact ih2 _ _ _ _ _ _ _ _ _ _
      | exact LeO.none _
      | refine LeO.ite ?_ ?_
      | refine LeO.bind ?_ (fun _ => ?_)
    · intro y0 y1 y2 y3 y4 y5 y6 y7 y8
      unfold ostinatoref02_Places.j0
      repeat' first
      | (with_reducible exact ih0 _ _ _ _ _ _ _ _)
      | (with_reducible exact ih1 _ _ _ _ _ _ _ _ _)
      | (with_reducible exact ih2 _ _ _ _ _ _ _ _ _ _)
      | (with_reducible exact LeO.refl _)
      | (with_reducible exact LeO.none _)
      | (with_reducible refine LeO.ite ?_ ?_)
      | (with_reducible refine LeO.bind ?_ (fun _ => ?_))
      | exact ih0 _ _ _ _ _ _ _ _
      | exact ih1 _ _ _ _ _ _ _ _ _
      | exact ih2 _ _ _ _ _ _ _ _ _ _
      | exact LeO.none _
      | refine LeO.ite ?_ ?_
      | refine LeO.bind ?_ (fun _ => ?_)
    · intro y0 y1 y2 y3 y4 y5 y6 y7 y8 y9
      unfold ostinatoref02_Places.l0
      repeat' first
      | (with_reducible exact ih0 _ _ _ _ _ _ _ _)
      | (with_reducible exact ih1 _ _ _ _ _ _ _ _ _)
      | (with_reducible exact ih2 _ _ _ _ _ _ _ _ _ _)
      | (with_reducible exact LeO.refl _)
      | (with_reducible exact LeO.none _)
      | (with_reducible refine LeO.ite ?_ ?_)
      | (with_reducible refine LeO.bind ?_ (fun _ => ?_))
      | exact ih0 _ _ _ _ _ _ _ _
      | exact ih1 _ _ _ _ _ _ _ _ _
      | exact ih2 _ _ _ _ _ _ _ _ _ _
      | exact LeO.none _
      | refine LeO.ite ?_ ?_
      | refine LeO.bind ?_ (fun _ => ?_)
theorem ostinatoref02_Places.mono : ∀ a0 a1 a2 a3 a4 a5 a6 a7 k, LeO (ostinatoref02_Places.f k a0 a1 a2 a3 a4 a5 a6 a7) (ostinatoref02_Places.f (k + 1) a0 a1 a2 a3 a4 a5 a6 a7) := by
  intro a0 a1 a2 a3 a4 a5 a6 a7 k
  obtain ⟨ih0, ih1, ih2⟩ := ostinatoref02_Places.mono_l k
  exact ih0 a0 a1 a2 a3 a4 a5 a6 a7
set_option maxHeartbeats 8000000 in
set_option maxRecDepth 100000 in
theorem ostinatoref02_Places.calls (k : Nat) : ∀ (a0_0 : Int) (a0_1 : Int) (a0_2 : Int) (a0_3 : Int) (a0_4 : Int) (A0_5 : Option Addr) (c0_5 : Nat) (l0_5 : List (S27)) (a0_6 : Int) (a0_7 : Int) (r : Int) (w : World) (hr0_5 : Kd.C k27 w A0_5 l0_5.length l0_5) (hc0_5 : l0_5.length ≤ c0_5) (h : ostinatoref02_Places.f k a0_0 a0_1 a0_2 a0_3 a0_4 l0_5 a0_6 a0_7 = some r),
    Calls Tryd.prog 14 #[.agg #[.int .i64 a0_0, .int .u64 a0_1, .int .u64 a0_2, .int .u64 a0_3, .int .u64 a0_4, .slice A0_5 l0_5.length c0_5, .int .i64 a0_6, .int .i64 a0_7]] w fun e w' => e = .returned (.int .i64 r) ∧ Below w.heap.size w w' := by
  induction k using Nat.strongRecOn with
  | _ k ih =>
  intro a0_0 a0_1 a0_2 a0_3 a0_4 A0_5 c0_5 l0_5 a0_6 a0_7 r w hr0_5 hc0_5 h
  cases k with
  | zero => exact absurd h (by simp [ostinatoref02_Places.f])
  | succ k =>
  simp only [ostinatoref02_Places.f] at h
  have hu27 := Tryd.underlying27
  have HR0_5 := Aside0.mk hr0_5
  have HC0_5 := Aside0.mk hc0_5
  clear hr0_5 hc0_5
  have HB := Aside0.mk (Below.refl w.heap.size w)
  have H : (if a0_0 = 1 then (ostinatoref02_Places.j0 k 1 a0_0 a0_1 a0_2 a0_3 a0_4 l0_5 a0_6 a0_7) else (ostinatoref02_Places.j0 k 0 a0_0 a0_1 a0_2 a0_3 a0_4 l0_5 a0_6 a0_7)) = some r := h
  clear h
  have HC2 := Aside0.mk H
  clear H
  go_enter Tryd.func14, Tryd.ntmps14
  go_upto_if 7 with (first | ((with_reducible refine gate_dst (N := 1) rfl ?_); refine box_event ?hg (N := 1) ?hd (cs := #[.int .i64 a0_0, .int .u64 a0_1, .int .u64 a0_2, .int .u64 a0_3, .int .u64 a0_4, .slice A0_5 l0_5.length c0_5, .int .i64 a0_6, .int .i64 a0_7]) (t := 27) ?hr ?_; (case hd => rfl); (case hg => rfl); (case hr => first | (go_simp; done) | (go_simp; rfl)); intro gb237 hg w3 hbox hb; have n0_ := Aside0.mk (below_step (by repeat (first | (with_reducible first | exact HB.out | apply below_alloc | apply pw_below_drewN | apply below_drew1) | exact HB.out)) hb); have n1_ := Aside0.mk (hbox); have n2_ := Aside0.mk ((by rw [hg]; exact (below_size (by repeat (first | (with_reducible first | exact HB.out | apply below_alloc | apply pw_below_drewN | apply below_drew1) | exact HB.out))) : w.heap.size ≤ gb237)); have n3_ := Aside0.mk ((by rw [hg]; exact (below_size (by repeat (first | (with_reducible first | exact HB.out | apply below_alloc | apply pw_below_drewN | apply below_drew1) | exact HB.out))) : w.heap.size ≤ gb237)); clear HB; have HB := n0_; have BK237 := n1_; have GW237 := n2_; have GE237 := n3_; clear n0_ n1_ n2_ n3_; clear hb hbox hg; have hcz4_0 : w3.cell? ⟨gb237, 0, none⟩ = some (.int .i64 a0_0) := (blk_cell BK237.out 0).trans rfl; have hcz4_1 : w3.cell? ⟨gb237, 1, none⟩ = some (.int .u64 a0_1) := (blk_cell BK237.out 1).trans rfl; have hcz4_2 : w3.cell? ⟨gb237, 2, none⟩ = some (.int .u64 a0_2) := (blk_cell BK237.out 2).trans rfl; have hcz4_3 : w3.cell? ⟨gb237, 3, none⟩ = some (.int .u64 a0_3) := (blk_cell BK237.out 3).trans rfl; have hcz4_4 : w3.cell? ⟨gb237, 4, none⟩ = some (.int .u64 a0_4) := (blk_cell BK237.out 4).trans rfl; have hcz4_5 : w3.cell? ⟨gb237, 5, none⟩ = some (.slice A0_5 l0_5.length c0_5) := (blk_cell BK237.out 5).trans rfl; have hcz4_6 : w3.cell? ⟨gb237, 6, none⟩ = some (.int .i64 a0_6) := (blk_cell BK237.out 6).trans rfl; have hcz4_7 : w3.cell? ⟨gb237, 7, none⟩ = some (.int .i64 a0_7) := (blk_cell BK237.out 7).trans rfl; have hfz4_0 := blk_frozen BK237.out 0; have hfz4_1 := blk_frozen BK237.out 1; have hfz4_2 := blk_frozen BK237.out 2; have hfz4_3 := blk_frozen BK237.out 3; have hfz4_4 := blk_frozen BK237.out 4; have hfz4_5 := blk_frozen BK237.out 5; have hfz4_6 := blk_frozen BK237.out 6; have hfz4_7 := blk_frozen BK237.out 7))
  (try simp only [Act.put, List.setIfInBounds_toArray, List.set_cons_zero, List.set_cons_succ])
  go_cut [3] (fun v3 wc => ∃ (kq : Nat) (x3_1 : Int), v3 = .int .i64 x3_1 ∧ Aside0 (ostinatoref02_Places.j0 kq x3_1 a0_0 a0_1 a0_2 a0_3 a0_4 l0_5 a0_6 a0_7 = some r) ∧ Aside0 (kq ≤ k) ∧ Aside0 (wc.heap[gb237]? = some (.cells #[.int .i64 a0_0, .int .u64 a0_1, .int .u64 a0_2, .int .u64 a0_3, .int .u64 a0_4, (.slice A0_5 l0_5.length c0_5), .int .i64 a0_6, .int .i64 a0_7] 27 (0, 0))) ∧ Aside0 (Below w.heap.size w wc))
  case first =>
    have H := HC2.out
    clear HC2
    by_cases c5 : a0_0 = 1
    · rw [if_pos c5] at H
      have c5b0 : (a0_0 == 1) = true := beq_iff_eq.mpr c5
      have c5b1 : (a0_0 != 1) = false := bne_eq_false_iff_eq.mpr c5
      clear c5
      (first | rw [c5b0] | (simp only [i64_w, i32_w]; rw [c5b0]) | skip)
      have H' := Aside0.mk H
      clear H
      go_wp2
      go_meet
      case rel => exact ⟨_, (1), (by first | rfl | (simp; done) | (simp [*]; done)), H', ⟨by first | omega | exact Nat.le_refl _⟩, ⟨by (with_reducible repeat (first | refine blk_drewN ?_ _ | refine blk_drew ?_ | refine blk_alloc ?_ _)); exact BK237.out⟩, ⟨by repeat (first | (with_reducible first | exact HB.out | apply below_alloc | apply pw_below_drewN | apply below_drew1 | refine below_set ?_ GE237.out) | exact HB.out)⟩⟩
    · rw [if_neg c5] at H
      have c5b0 : (a0_0 == 1) = false := beq_eq_false_iff_ne.mpr c5
      have c5b1 : (a0_0 != 1) = true := bne_iff_ne.mpr c5
      (first | rw [c5b0] | (simp only [i64_w, i32_w]; rw [c5b0]) | skip)
      have H' := Aside0.mk H
      clear H
      go_wp2
      go_meet
      case rel => exact ⟨_, (0), (by first | rfl | (simp; done) | (simp [*]; done)), H', ⟨by first | omega | exact Nat.le_refl _⟩, ⟨by (with_reducible repeat (first | refine blk_drewN ?_ _ | refine blk_drew ?_ | refine blk_alloc ?_ _)); exact BK237.out⟩, ⟨by repeat (first | (with_reducible first | exact HB.out | apply below_alloc | apply pw_below_drewN | apply below_drew1 | refine below_set ?_ GE237.out) | exact HB.out)⟩⟩
  case rest =>
    clear HC2
    try clear c1
    try clear p2
    try clear c5
    try clear c5b0
    try clear c5b1
    try clear hcz4_0
    try clear hcz4_1
    try clear hcz4_2
    try clear hcz4_3
    try clear hcz4_4
    try clear hcz4_5
    try clear hcz4_6
    try clear hcz4_7
    try clear hfz4_0
    try clear hfz4_1
    try clear hfz4_2
    try clear hfz4_3
    try clear hfz4_4
    try clear hfz4_5
    try clear hfz4_6
    try clear hfz4_7
    obtain ⟨kq, x3_1, rfl, HA, HJ1, BK237, HB⟩ := hcut
    cases kq with
    | zero => exact absurd HA.out (by simp [ostinatoref02_Places.j0])
    | succ kj1 =>
      have H := HA.out
      clear HA
      simp only [ostinatoref02_Places.j0] at H
      have H' := Aside0.mk H
      clear H
      go_wp2
      go_loopg [3, 4] kj1 (fun kq v3 v4 w' => ∃ (x3_2 : Int) (x4_2 : Int), v3 = .int .i64 x3_2 ∧ v4 = .int .i64 x4_2 ∧ Aside0 (ostinatoref02_Places.l0 kq x3_2 x4_2 a0_0 a0_1 a0_2 a0_3 a0_4 l0_5 a0_6 a0_7 = some r) ∧ Aside0 (kq ≤ kj1) ∧ Aside0 (w'.heap[gb237]? = some (.cells #[.int .i64 a0_0, .int .u64 a0_1, .int .u64 a0_2, .int .u64 a0_3, .int .u64 a0_4, (.slice A0_5 l0_5.length c0_5), .int .i64 a0_6, .int .i64 a0_7] 27 (0, 0))) ∧ Aside0 (Below w.heap.size w w'))
      case atStart => exact ⟨(x3_1), (0), (by first | rfl | (simp; done) | (simp [*]; done)), (by first | rfl | (simp; done) | (simp [*]; done)), H', ⟨Nat.le_refl _⟩, ⟨by (with_reducible repeat (first | refine blk_drewN ?_ _ | refine blk_drew ?_ | refine blk_alloc ?_ _)); exact BK237.out⟩, ⟨by repeat (first | (with_reducible first | exact HB.out | apply below_alloc | apply pw_below_drewN | apply below_drew1 | refine below_set ?_ GE237.out) | exact HB.out)⟩⟩
      case round =>
        clear H'
        try clear c1
        try clear p2
        try clear c5
        try clear c5b0
        try clear c5b1
        try clear hcz4_0
        try clear hcz4_1
        try clear hcz4_2
        try clear hcz4_3
        try clear hcz4_4
        try clear hcz4_5
        try clear hcz4_6
        try clear hcz4_7
        try clear hfz4_0
        try clear hfz4_1
        try clear hfz4_2
        try clear hfz4_3
        try clear hfz4_4
        try clear hfz4_5
        try clear hfz4_6
        try clear hfz4_7
        try clear p2
        obtain ⟨x3_2, x4_2, rfl, rfl, HA, HK2, BK237, HB⟩ := hrel
        cases gk with
        | zero => exact absurd HA.out (by simp [ostinatoref02_Places.l0])
        | succ k2 =>
          have H := HA.out
          clear HA
          simp only [ostinatoref02_Places.l0] at H
          by_cases c6 : x4_2 < (l0_5.length : Int)
          · rw [if_pos c6] at H
            have c6b0 : decide (x4_2 < (l0_5.length : Int)) = true := decide_eq_true c6
            clear c6
            by_cases c7 : 0 ≤ x4_2
            · rw [if_pos c7] at H
              have c7b0 : decide (0 ≤ x4_2) = true := decide_eq_true c7
              clear c7
              replace H := Option.bind_eq_some_iff.mp H
              obtain ⟨t239, A80, H⟩ := H
              replace H : (ostinatoref02_Places.l0 k2 (wrap64 (x3_2 + t239)) (wrap64 (x4_2 + 1)) a0_0 a0_1 a0_2 a0_3 a0_4 l0_5 a0_6 a0_7) = some r := H
              have A8 := Aside0.mk A80
              clear A80
              have H' := Aside0.mk H
              clear H
              have hcz9_0 : wr.cell? ⟨gb237, 0, none⟩ = some (.int .i64 a0_0) := (blk_cell BK237.out 0).trans rfl
              have hcz9_1 : wr.cell? ⟨gb237, 1, none⟩ = some (.int .u64 a0_1) := (blk_cell BK237.out 1).trans rfl
              have hcz9_2 : wr.cell? ⟨gb237, 2, none⟩ = some (.int .u64 a0_2) := (blk_cell BK237.out 2).trans rfl
              have hcz9_3 : wr.cell? ⟨gb237, 3, none⟩ = some (.int .u64 a0_3) := (blk_cell BK237.out 3).trans rfl
              have hcz9_4 : wr.cell? ⟨gb237, 4, none⟩ = some (.int .u64 a0_4) := (blk_cell BK237.out 4).trans rfl
              have hcz9_5 : wr.cell? ⟨gb237, 5, none⟩ = some (.slice A0_5 l0_5.length c0_5) := (blk_cell BK237.out 5).trans rfl
              have hcz9_6 : wr.cell? ⟨gb237, 6, none⟩ = some (.int .i64 a0_6) := (blk_cell BK237.out 6).trans rfl
              have hcz9_7 : wr.cell? ⟨gb237, 7, none⟩ = some (.int .i64 a0_7) := (blk_cell BK237.out 7).trans rfl
              have hfz9_0 := blk_frozen BK237.out 0
              have hfz9_1 := blk_frozen BK237.out 1
              have hfz9_2 := blk_frozen BK237.out 2
              have hfz9_3 := blk_frozen BK237.out 3
              have hfz9_4 := blk_frozen BK237.out 4
              have hfz9_5 := blk_frozen BK237.out 5
              have hfz9_6 := blk_frozen BK237.out 6
              have hfz9_7 := blk_frozen BK237.out 7
              have p238 : 0 ≤ (x4_2 : Int) := of_decide_eq_true (by first | (with_reducible assumption) | assumption)
              have q238 : x4_2 < (l0_5.length : Int) := of_decide_eq_true (by first | (with_reducible assumption) | assumption)
              obtain ⟨ad238, A238_5, c238_5, e238, hx238_0, hx238_1, hx238_2, hx238_3, hx238_4, hx238_5, hx238_6, hx238_7, hl238_5, hi238_5⟩ := at_T27 HR0_5.out x4_2 p238 q238
              cases e238
              replace hx238_0 := (HB.out.cell (World.block_lt_of_cell? w _ hx238_0)).trans hx238_0
              replace hx238_1 := (HB.out.cell (World.block_lt_of_cell? w _ hx238_1)).trans hx238_1
              replace hx238_2 := (HB.out.cell (World.block_lt_of_cell? w _ hx238_2)).trans hx238_2
              replace hx238_3 := (HB.out.cell (World.block_lt_of_cell? w _ hx238_3)).trans hx238_3
              replace hx238_4 := (HB.out.cell (World.block_lt_of_cell? w _ hx238_4)).trans hx238_4
              replace hx238_5 := (HB.out.cell (World.block_lt_of_cell? w _ hx238_5)).trans hx238_5
              replace hx238_6 := (HB.out.cell (World.block_lt_of_cell? w _ hx238_6)).trans hx238_6
              replace hx238_7 := (HB.out.cell (World.block_lt_of_cell? w _ hx238_7)).trans hx238_7
              have HR238_5 := Aside0.mk hi238_5
              have HC238_5 := Aside0.mk hl238_5
              clear hi238_5 hl238_5
              replace p238 := eq_true p238
              replace q238 := eq_true q238
              go_wp2_with (first | ((with_reducible refine gate_callee (f := 14) rfl ?_); refine goesL_ (some 21) rfl rfl Tryd.func14 (by kernel_rfl) rfl #[.agg #[.int .i64 ((rd_T27 l0_5 x4_2).f0), .int .u64 ((rd_T27 l0_5 x4_2).f1.f0), .int .u64 ((rd_T27 l0_5 x4_2).f1.f1), .int .u64 ((rd_T27 l0_5 x4_2).f1.f2), .int .u64 ((rd_T27 l0_5 x4_2).f1.f3), .slice A238_5 ((rd_T27 l0_5 x4_2).f2).length c238_5, .int .i64 ((rd_T27 l0_5 x4_2).f3), .int .i64 ((rd_T27 l0_5 x4_2).f4)]] rfl (by (try simp only [List.map_toArray, List.map_cons, List.map_nil]); first | done | rfl | (simp only [List.length_drop, List.length_take]; rfl)) ?_; (with_reducible refine (ih k2 (by have := HJ1.out; have := HK2.out; omega) ((rd_T27 l0_5 x4_2).f0) ((rd_T27 l0_5 x4_2).f1.f0) ((rd_T27 l0_5 x4_2).f1.f1) ((rd_T27 l0_5 x4_2).f1.f2) ((rd_T27 l0_5 x4_2).f1.f3) _ _ ((rd_T27 l0_5 x4_2).f2) ((rd_T27 l0_5 x4_2).f3) ((rd_T27 l0_5 x4_2).f4) t239 _ ?side1 ?side2 A8.out).mono ?_); (case side1 => repeat (first | exact (Kd.C_below HR238_5.out HB.out) | (with_reducible refine Kd.C_alloc ?_ _) | (with_reducible refine Kd.C_drewN ?_ _) | (with_reducible refine Kd.C_drew ?_))); (case side2 => exact HC238_5.out); rintro e w10 ⟨rfl, hb⟩; refine ⟨_, rfl, ?_⟩; have n0_ := Aside0.mk (blk_below (g := gb237) (o := .cells #[.int .i64 a0_0, .int .u64 a0_1, .int .u64 a0_2, .int .u64 a0_3, .int .u64 a0_4, .slice (some ad238) l0_5.length c0_5, .int .i64 a0_6, .int .i64 a0_7] 27 (0, 0)) (by (with_reducible repeat (first | refine blk_drewN ?_ _ | refine blk_drew ?_ | refine blk_alloc ?_ _)); exact BK237.out) hb); have n1_ := Aside0.mk (below_step (by repeat (first | (with_reducible first | exact HB.out | apply below_alloc | apply pw_below_drewN | apply below_drew1 | refine below_set ?_ GE237.out) | exact HB.out)) hb); clear BK237; clear HB; have BK237 := n0_; have HB := n1_; clear n0_ n1_; (try clear hb); (try clear hb2); (try clear hk); (try clear hi)))
              go_roundg k2
              case measure => have := HJ1.out; have := HK2.out; omega
              case rel => exact ⟨(wrap64 (x3_2 + t239)), (wrap64 (x4_2 + 1)), (by first | rfl | (simp; done) | (simp [*]; done)), (by first | rfl | (simp; done) | (simp [*]; done)), H', ⟨by have := HJ1.out; have := HK2.out; omega⟩, ⟨by (with_reducible repeat (first | refine blk_drewN ?_ _ | refine blk_drew ?_ | refine blk_alloc ?_ _)); exact BK237.out⟩, ⟨by repeat (first | (with_reducible first | exact HB.out | apply below_alloc | apply pw_below_drewN | apply below_drew1 | refine below_set ?_ GE237.out) | exact HB.out)⟩⟩
            · rw [if_neg c7] at H
              exact absurd H (by simp)
          · rw [if_neg c6] at H
            have c6b0 : decide (x4_2 < (l0_5.length : Int)) = false := decide_eq_false c6
            clear c6
            obtain rfl := Option.some.inj H
            have hcz11_0 : wr.cell? ⟨gb237, 0, none⟩ = some (.int .i64 a0_0) := (blk_cell BK237.out 0).trans rfl
            have hcz11_1 : wr.cell? ⟨gb237, 1, none⟩ = some (.int .u64 a0_1) := (blk_cell BK237.out 1).trans rfl
            have hcz11_2 : wr.cell? ⟨gb237, 2, none⟩ = some (.int .u64 a0_2) := (blk_cell BK237.out 2).trans rfl
            have hcz11_3 : wr.cell? ⟨gb237, 3, none⟩ = some (.int .u64 a0_3) := (blk_cell BK237.out 3).trans rfl
            have hcz11_4 : wr.cell? ⟨gb237, 4, none⟩ = some (.int .u64 a0_4) := (blk_cell BK237.out 4).trans rfl
            have hcz11_5 : wr.cell? ⟨gb237, 5, none⟩ = some (.slice A0_5 l0_5.length c0_5) := (blk_cell BK237.out 5).trans rfl
            have hcz11_6 : wr.cell? ⟨gb237, 6, none⟩ = some (.int .i64 a0_6) := (blk_cell BK237.out 6).trans rfl
            have hcz11_7 : wr.cell? ⟨gb237, 7, none⟩ = some (.int .i64 a0_7) := (blk_cell BK237.out 7).trans rfl
            have hfz11_0 := blk_frozen BK237.out 0
            have hfz11_1 := blk_frozen BK237.out 1
            have hfz11_2 := blk_frozen BK237.out 2
            have hfz11_3 := blk_frozen BK237.out 3
            have hfz11_4 := blk_frozen BK237.out 4
            have hfz11_5 := blk_frozen BK237.out 5
            have hfz11_6 := blk_frozen BK237.out 6
            have hfz11_7 := blk_frozen BK237.out 7
            go_wp2
            go_ret
            exact ⟨by first | rfl | (simp [errW_none, errW_some] <;> rfl) | (simp [*, errW_none, errW_some] <;> rfl), by repeat (first | (with_reducible first | exact HB.out | apply below_alloc | apply pw_below_drewN | apply below_drew1 | refine below_set ?_ GE237.out) | exact HB.out)⟩

end Go.Proofs.YtaohlmcgaggoeaaDoor.P
