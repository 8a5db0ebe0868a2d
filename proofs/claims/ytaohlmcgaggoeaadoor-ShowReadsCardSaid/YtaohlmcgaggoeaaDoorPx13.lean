import Derived.Test.YtaohlmcgaggoeaaDoorPx0
-- Written by a program of this project (wip/xp over the words of the print), not by hand.
namespace Go.Proofs.YtaohlmcgaggoeaaDoor.P
open Go.RowKit Go.Proofs.YtaohlmcgaggoeaaDoorW.PrintWords Go.Proofs.YtaohlmcgaggoeaaDoorW.PrintLast Go.Proofs.YtaohlmcgaggoeaaDoorW.PrintMore
attribute [local go_sem] max2_int min2_int max_two min_two max_three min_three max_four min_four   -- for this text's walks alone
set_option linter.unusedVariables false
set_option linter.unusedSimpArgs false

/-! ### syntax_Places: function 29 -/
mutual
def syntax_Places.j0 : Nat → Int → Int → Int → Int → Int → Int → List (S27) → Int → Int → Option (Int)
  | 0, _, _, _, _, _, _, _, _, _ => none
  | k + 1, x3, x221000, x221001, x221002, x221003, x221004, x221005, x221006, x221007 => syntax_Places.l0 k x3 x221005 (x221005.length : Int) 0
def syntax_Places.l0 : Nat → Int → List (S27) → Int → Int → Option (Int)
  | 0, _, _, _, _ => none
  | k + 1, x3, x10, x11, x12 => if x12 < x11 then (if 0 ≤ x12 then (if x12 < (x10.length : Int) then ((syntax_Places.f k ((rd_T27 x10 x12).f0) ((rd_T27 x10 x12).f1.f0) ((rd_T27 x10 x12).f1.f1) ((rd_T27 x10 x12).f1.f2) ((rd_T27 x10 x12).f1.f3) ((rd_T27 x10 x12).f2) ((rd_T27 x10 x12).f3) ((rd_T27 x10 x12).f4)).bind fun t223 => (syntax_Places.l0 k (wrap64 (x3 + t223)) x10 x11 (wrap64 (x12 + 1)))) else (none)) else (none)) else (some x3)
def syntax_Places.f : Nat → Int → Int → Int → Int → Int → List (S27) → Int → Int → Option (Int)
  | 0, _, _, _, _, _, _, _, _ => none
  | k + 1, a0_0, a0_1, a0_2, a0_3, a0_4, l0_5, a0_6, a0_7 => if a0_0 = 1 then (syntax_Places.j0 k 1 a0_0 a0_1 a0_2 a0_3 a0_4 l0_5 a0_6 a0_7) else (syntax_Places.j0 k 0 a0_0 a0_1 a0_2 a0_3 a0_4 l0_5 a0_6 a0_7)
end
theorem syntax_Places.mono_l : ∀ k, (∀ y0 y1 y2 y3 y4 y5 y6 y7, LeO (syntax_Places.f k y0 y1 y2 y3 y4 y5 y6 y7) (syntax_Places.f (k + 1) y0 y1 y2 y3 y4 y5 y6 y7)) ∧ (∀ y0 y1 y2 y3 y4 y5 y6 y7 y8, LeO (syntax_Places.j0 k y0 y1 y2 y3 y4 y5 y6 y7 y8) (syntax_Places.j0 (k + 1) y0 y1 y2 y3 y4 y5 y6 y7 y8)) ∧ (∀ y0 y1 y2 y3, LeO (syntax_Places.l0 k y0 y1 y2 y3) (syntax_Places.l0 (k + 1) y0 y1 y2 y3))
  | 0 => ⟨fun _ _ _ _ _ _ _ _ r h => by simp [syntax_Places.f] at h, fun _ _ _ _ _ _ _ _ _ r h => by simp [syntax_Places.j0] at h, fun _ _ _ _ r h => by simp [syntax_Places.l0] at h⟩
  | k + 1 => by
    obtain ⟨ih0, ih1, ih2⟩ := syntax_Places.mono_l k
    refine ⟨?_, ?_, ?_⟩
    · intro y0 y1 y2 y3 y4 y5 y6 y7
      unfold syntax_Places.f
      repeat' first
      | (with_reducible exact ih0 _ _ _ _ _ _ _ _)
      | (with_reducible exact ih1 _ _ _ _ _ _ _ _ _)
      | (with_reducible exact ih2 _ _ _ _)
      | (with_reducible exact LeO.refl _)
      | (with_reducible exact LeO.none _)
      | (with_reducible refine LeO.ite ?_ ?_)
      | (with_reducible refine LeO.bind ?_ (fun _ => ?_))
      | exact ih0 _ _ _ _ _ _ _ _
      | exact ih1 _ _ _ _ _ _ _ _ _
      | exact ih2 _ _ _ _
      | exact LeO.none _
      | refine LeO.ite ?_ ?_
      | refine LeO.bind ?_ (fun _ => ?_)
    · intro y0 y1 y2 y3 y4 y5 y6 y7 y8
      unfold syntax_Places.j0
      repeat' first
      | (with_reducible exact ih0 _ _ _ _ _ _ _ _)
      | (with_reducible exact ih1 _ _ _ _ _ _ _ _ _)
      | (with_reducible exact ih2 _ _ _ _)
      | (with_reducible exact LeO.refl _)
      | (with_reducible exact LeO.none _)
      | (with_reducible refine LeO.ite ?_ ?_)
      | (with_reducible refine LeO.bind ?_ (fun _ => ?_))
      | exact ih0 _ _ _ _ _ _ _ _
      | exact ih1 _ _ _ _ _ _ _ _ _
      | exact ih2 _ _ _ _
      | exact LeO.none _
      | refine LeO.ite ?_ ?_
      | refine LeO.bind ?_ (fun _ => ?_)
    · intro y0 y1 y2 y3
      unfold syntax_Places.l0
      repeat' first
      | (with_reducible exact ih0 _ _ _ _ _ _ _ _)
      | (with_reducible exact ih1 _ _ _ _ _ _ _ _ _)
      | (with_reducible exact ih2 _ _ _ _)
      | (with_reducible exact LeO.refl _)
      | (with_reducible exact LeO.none _)
      | (with_reducible refine LeO.ite ?_ ?_)
      | (with_reducible refine LeO.bind ?_ (fun _ => ?_))
      | exact ih0 _ _ _ _ _ _ _ _
      | exact ih1 _ _ _ _ _ _ _ _ _
      | exact ih2 _ _ _ _
      | exact LeO.none _
      | refine LeO.ite ?_ ?_
      | refine LeO.bind ?_ (fun _ => ?_)
theorem syntax_Places.mono : ∀ a0 a1 a2 a3 a4 a5 a6 a7 k, LeO (syntax_Places.f k a0 a1 a2 a3 a4 a5 a6 a7) (syntax_Places.f (k + 1) a0 a1 a2 a3 a4 a5 a6 a7) := by
  intro a0 a1 a2 a3 a4 a5 a6 a7 k
  obtain ⟨ih0, ih1, ih2⟩ := syntax_Places.mono_l k
  exact ih0 a0 a1 a2 a3 a4 a5 a6 a7
set_option maxHeartbeats 8000000 in
set_option maxRecDepth 100000 in
theorem syntax_Places.calls (k : Nat) : ∀ (a0_0 : Int) (a0_1 : Int) (a0_2 : Int) (a0_3 : Int) (a0_4 : Int) (A0_5 : Option Addr) (c0_5 : Nat) (l0_5 : List (S27)) (a0_6 : Int) (a0_7 : Int) (r : Int) (w : World) (hr0_5 : Kd.C k27 w A0_5 l0_5.length l0_5) (hc0_5 : l0_5.length ≤ c0_5) (h : syntax_Places.f k a0_0 a0_1 a0_2 a0_3 a0_4 l0_5 a0_6 a0_7 = some r),
    Calls Tryd.prog 29 #[.agg #[.int .i64 a0_0, .int .u64 a0_1, .int .u64 a0_2, .int .u64 a0_3, .int .u64 a0_4, .slice A0_5 l0_5.length c0_5, .int .i64 a0_6, .int .i64 a0_7]] w fun e w' => e = .returned (.int .i64 r) ∧ Below w.heap.size w w' := by
  induction k using Nat.strongRecOn with
  | _ k ih =>
  intro a0_0 a0_1 a0_2 a0_3 a0_4 A0_5 c0_5 l0_5 a0_6 a0_7 r w hr0_5 hc0_5 h
  cases k with
  | zero => exact absurd h (by simp [syntax_Places.f])
  | succ k =>
  simp only [syntax_Places.f] at h
  have hu27 := Tryd.underlying27
  have HR0_5 := Aside0.mk hr0_5
  have HC0_5 := Aside0.mk hc0_5
  clear hr0_5 hc0_5
  have HB := Aside0.mk (Below.refl w.heap.size w)
  have H : (if a0_0 = 1 then (syntax_Places.j0 k 1 a0_0 a0_1 a0_2 a0_3 a0_4 l0_5 a0_6 a0_7) else (syntax_Places.j0 k 0 a0_0 a0_1 a0_2 a0_3 a0_4 l0_5 a0_6 a0_7)) = some r := h
  clear h
  have HC2 := Aside0.mk H
  clear H
  go_enter Tryd.func29, Tryd.ntmps29
  go_upto_if 8 with (first | ((with_reducible refine gate_dst (N := 1) rfl ?_); refine box_event ?hg (N := 1) ?hd (cs := #[.int .i64 a0_0, .int .u64 a0_1, .int .u64 a0_2, .int .u64 a0_3, .int .u64 a0_4, .slice A0_5 l0_5.length c0_5, .int .i64 a0_6, .int .i64 a0_7]) (t := 27) ?hr ?_; (case hd => rfl); (case hg => rfl); (case hr => first | (go_simp; done) | (go_simp; rfl)); intro gb220 hg w3 hbox hb; have n0_ := Aside0.mk (below_step (by repeat (first | (with_reducible first | exact HB.out | apply below_alloc | apply pw_below_drewN | apply below_drew1) | exact HB.out)) hb); have n1_ := Aside0.mk (hbox); have n2_ := Aside0.mk ((by rw [hg]; exact (below_size (by repeat (first | (with_reducible first | exact HB.out | apply below_alloc | apply pw_below_drewN | apply below_drew1) | exact HB.out))) : w.heap.size ≤ gb220)); have n3_ := Aside0.mk ((by rw [hg]; exact (below_size (by repeat (first | (with_reducible first | exact HB.out | apply below_alloc | apply pw_below_drewN | apply below_drew1) | exact HB.out))) : w.heap.size ≤ gb220)); clear HB; have HB := n0_; have BK220 := n1_; have GW220 := n2_; have GE220 := n3_; clear n0_ n1_ n2_ n3_; clear hb hbox hg; have hcz4_0 : w3.cell? ⟨gb220, 0, none⟩ = some (.int .i64 a0_0) := (blk_cell BK220.out 0).trans rfl; have hcz4_1 : w3.cell? ⟨gb220, 1, none⟩ = some (.int .u64 a0_1) := (blk_cell BK220.out 1).trans rfl; have hcz4_2 : w3.cell? ⟨gb220, 2, none⟩ = some (.int .u64 a0_2) := (blk_cell BK220.out 2).trans rfl; have hcz4_3 : w3.cell? ⟨gb220, 3, none⟩ = some (.int .u64 a0_3) := (blk_cell BK220.out 3).trans rfl; have hcz4_4 : w3.cell? ⟨gb220, 4, none⟩ = some (.int .u64 a0_4) := (blk_cell BK220.out 4).trans rfl; have hcz4_5 : w3.cell? ⟨gb220, 5, none⟩ = some (.slice A0_5 l0_5.length c0_5) := (blk_cell BK220.out 5).trans rfl; have hcz4_6 : w3.cell? ⟨gb220, 6, none⟩ = some (.int .i64 a0_6) := (blk_cell BK220.out 6).trans rfl; have hcz4_7 : w3.cell? ⟨gb220, 7, none⟩ = some (.int .i64 a0_7) := (blk_cell BK220.out 7).trans rfl; have hfz4_0 := blk_frozen BK220.out 0; have hfz4_1 := blk_frozen BK220.out 1; have hfz4_2 := blk_frozen BK220.out 2; have hfz4_3 := blk_frozen BK220.out 3; have hfz4_4 := blk_frozen BK220.out 4; have hfz4_5 := blk_frozen BK220.out 5; have hfz4_6 := blk_frozen BK220.out 6; have hfz4_7 := blk_frozen BK220.out 7))
  (try simp only [Act.put, List.setIfInBounds_toArray, List.set_cons_zero, List.set_cons_succ])
  go_cut [3] (fun v3 wc => ∃ (kq : Nat) (x3_1 : Int), v3 = .int .i64 x3_1 ∧ Aside0 (syntax_Places.j0 kq x3_1 a0_0 a0_1 a0_2 a0_3 a0_4 l0_5 a0_6 a0_7 = some r) ∧ Aside0 (kq ≤ k) ∧ Aside0 (wc.heap[gb220]? = some (.cells #[.int .i64 a0_0, .int .u64 a0_1, .int .u64 a0_2, .int .u64 a0_3, .int .u64 a0_4, (.slice A0_5 l0_5.length c0_5), .int .i64 a0_6, .int .i64 a0_7] 27 (0, 0))) ∧ Aside0 (Below w.heap.size w wc))
  case first =>
    have H := HC2.out
    clear HC2
    by_cases c5 : a0_0 = 1
    · rw [if_pos c5] at H
      have c5b0 : (a0_0 == 1) = true := beq_iff_eq.mpr c5
      have c5b1 : (a0_0 != 1) = false := bne_eq_false_iff_eq.mpr c5
      clear c5
      (first | rw [c5b0] | (simp only [i64_w, i32_w]; rw [c5b0]) | skip)
      have H' := Aside0.mk H
      clear H
      go_wp2
      go_meet
      case rel => exact ⟨_, (1), (by first | rfl | (simp; done) | (simp [*]; done)), H', ⟨by first | omega | exact Nat.le_refl _⟩, ⟨by (with_reducible repeat (first | refine blk_drewN ?_ _ | refine blk_drew ?_ | refine blk_alloc ?_ _)); exact BK220.out⟩, ⟨by repeat (first | (with_reducible first | exact HB.out | apply below_alloc | apply pw_below_drewN | apply below_drew1 | refine below_set ?_ GE220.out) | exact HB.out)⟩⟩
    · rw [if_neg c5] at H
      have c5b0 : (a0_0 == 1) = false := beq_eq_false_iff_ne.mpr c5
      have c5b1 : (a0_0 != 1) = true := bne_iff_ne.mpr c5
      (first | rw [c5b0] | (simp only [i64_w, i32_w]; rw [c5b0]) | skip)
      have H' := Aside0.mk H
      clear H
      go_wp2
      go_meet
      case rel => exact ⟨_, (0), (by first | rfl | (simp; done) | (simp [*]; done)), H', ⟨by first | omega | exact Nat.le_refl _⟩, ⟨by (with_reducible repeat (first | refine blk_drewN ?_ _ | refine blk_drew ?_ | refine blk_alloc ?_ _)); exact BK220.out⟩, ⟨by repeat (first | (with_reducible first | exact HB.out | apply below_alloc | apply pw_below_drewN | apply below_drew1 | refine below_set ?_ GE220.out) | exact HB.out)⟩⟩
  case rest =>
    clear HC2
    try clear c2
    try clear p2
    try clear c5
    try clear c5b0
    try clear c5b1
    try clear hcz4_0
    try clear hcz4_1
    try clear hcz4_2
    try clear hcz4_3
    try clear hcz4_4
    try clear hcz4_5
    try clear hcz4_6
    try clear hcz4_7
    try clear hfz4_0
    try clear hfz4_1
    try clear hfz4_2
    try clear hfz4_3
    try clear hfz4_4
    try clear hfz4_5
    try clear hfz4_6
    try clear hfz4_7
    obtain ⟨kq, x3_1, rfl, HA, HJ1, BK220, HB⟩ := hcut
    cases kq with
    | zero => exact absurd HA.out (by simp [syntax_Places.j0])
    | succ kj1 =>
      have H := HA.out
      clear HA
      simp only [syntax_Places.j0] at H
      have H' := Aside0.mk H
      clear H
      have hcz6_0 : wc.cell? ⟨gb220, 0, none⟩ = some (.int .i64 a0_0) := (blk_cell BK220.out 0).trans rfl
      have hcz6_1 : wc.cell? ⟨gb220, 1, none⟩ = some (.int .u64 a0_1) := (blk_cell BK220.out 1).trans rfl
      have hcz6_2 : wc.cell? ⟨gb220, 2, none⟩ = some (.int .u64 a0_2) := (blk_cell BK220.out 2).trans rfl
      have hcz6_3 : wc.cell? ⟨gb220, 3, none⟩ = some (.int .u64 a0_3) := (blk_cell BK220.out 3).trans rfl
      have hcz6_4 : wc.cell? ⟨gb220, 4, none⟩ = some (.int .u64 a0_4) := (blk_cell BK220.out 4).trans rfl
      have hcz6_5 : wc.cell? ⟨gb220, 5, none⟩ = some (.slice A0_5 l0_5.length c0_5) := (blk_cell BK220.out 5).trans rfl
      have hcz6_6 : wc.cell? ⟨gb220, 6, none⟩ = some (.int .i64 a0_6) := (blk_cell BK220.out 6).trans rfl
      have hcz6_7 : wc.cell? ⟨gb220, 7, none⟩ = some (.int .i64 a0_7) := (blk_cell BK220.out 7).trans rfl
      have hfz6_0 := blk_frozen BK220.out 0
      have hfz6_1 := blk_frozen BK220.out 1
      have hfz6_2 := blk_frozen BK220.out 2
      have hfz6_3 := blk_frozen BK220.out 3
      have hfz6_4 := blk_frozen BK220.out 4
      have hfz6_5 := blk_frozen BK220.out 5
      have hfz6_6 := blk_frozen BK220.out 6
      have hfz6_7 := blk_frozen BK220.out 7
      go_wp2
      go_loopg [3, 12] kj1 (fun kq v3 v12 w' => ∃ (x3_2 : Int) (x12_2 : Int), v3 = .int .i64 x3_2 ∧ v12 = .int .i64 x12_2 ∧ Aside0 (syntax_Places.l0 kq x3_2 l0_5 (l0_5.length : Int) x12_2 = some r) ∧ Aside0 (kq ≤ kj1) ∧ Aside0 (w'.heap[gb220]? = some (.cells #[.int .i64 a0_0, .int .u64 a0_1, .int .u64 a0_2, .int .u64 a0_3, .int .u64 a0_4, (.slice A0_5 l0_5.length c0_5), .int .i64 a0_6, .int .i64 a0_7] 27 (0, 0))) ∧ Aside0 (Below w.heap.size w w'))
      case atStart => exact ⟨(x3_1), (0), (by first | rfl | (simp; done) | (simp [*]; done)), (by first | rfl | (simp; done) | (simp [*]; done)), H', ⟨Nat.le_refl _⟩, ⟨by (with_reducible repeat (first | refine blk_drewN ?_ _ | refine blk_drew ?_ | refine blk_alloc ?_ _)); exact BK220.out⟩, ⟨by repeat (first | (with_reducible first | exact HB.out | apply below_alloc | apply pw_below_drewN | apply below_drew1 | refine below_set ?_ GE220.out) | exact HB.out)⟩⟩
      case round =>
        clear H'
        try clear c2
        try clear p2
        try clear c5
        try clear c5b0
        try clear c5b1
        try clear hcz4_0
        try clear hcz4_1
        try clear hcz4_2
        try clear hcz4_3
        try clear hcz4_4
        try clear hcz4_5
        try clear hcz4_6
        try clear hcz4_7
        try clear hcz6_0
        try clear hcz6_1
        try clear hcz6_2
        try clear hcz6_3
        try clear hcz6_4
        try clear hcz6_5
        try clear hcz6_6
        try clear hcz6_7
        try clear hfz4_0
        try clear hfz4_1
        try clear hfz4_2
        try clear hfz4_3
        try clear hfz4_4
        try clear hfz4_5
        try clear hfz4_6
        try clear hfz4_7
        try clear hfz6_0
        try clear hfz6_1
        try clear hfz6_2
        try clear hfz6_3
        try clear hfz6_4
        try clear hfz6_5
        try clear hfz6_6
        try clear hfz6_7
        try clear p2
        obtain ⟨x3_2, x12_2, rfl, rfl, HA, HK2, BK220, HB⟩ := hrel
        cases gk with
        | zero => exact absurd HA.out (by simp [syntax_Places.l0])
        | succ k2 =>
          have H := HA.out
          clear HA
          simp only [syntax_Places.l0] at H
          by_cases c7 : x12_2 < (l0_5.length : Int)
          · rw [if_pos c7] at H
            have c7b0 : decide (x12_2 < (l0_5.length : Int)) = true := decide_eq_true c7
            clear c7
            by_cases c8 : 0 ≤ x12_2
            · rw [if_pos c8] at H
              have c8b0 : decide (0 ≤ x12_2) = true := decide_eq_true c8
              clear c8
              by_cases c9 : x12_2 < (l0_5.length : Int)
              · rw [if_pos c9] at H
                have c9b0 : decide (x12_2 < (l0_5.length : Int)) = true := decide_eq_true c9
                clear c9
                replace H := Option.bind_eq_some_iff.mp H
                obtain ⟨t223, A100, H⟩ := H
                replace H : (syntax_Places.l0 k2 (wrap64 (x3_2 + t223)) l0_5 (l0_5.length : Int) (wrap64 (x12_2 + 1))) = some r := H
                have A10 := Aside0.mk A100
                clear A100
                have H' := Aside0.mk H
                clear H
                have p221 : 0 ≤ (x12_2 : Int) := of_decide_eq_true (by first | (with_reducible assumption) | assumption)
                have q221 : x12_2 < (l0_5.length : Int) := of_decide_eq_true (by first | (with_reducible assumption) | assumption)
                obtain ⟨ad221, A221_5, c221_5, e221, hx221_0, hx221_1, hx221_2, hx221_3, hx221_4, hx221_5, hx221_6, hx221_7, hl221_5, hi221_5⟩ := at_T27 HR0_5.out x12_2 p221 q221
                cases e221
                replace hx221_0 := (HB.out.cell (World.block_lt_of_cell? w _ hx221_0)).trans hx221_0
                replace hx221_1 := (HB.out.cell (World.block_lt_of_cell? w _ hx221_1)).trans hx221_1
                replace hx221_2 := (HB.out.cell (World.block_lt_of_cell? w _ hx221_2)).trans hx221_2
                replace hx221_3 := (HB.out.cell (World.block_lt_of_cell? w _ hx221_3)).trans hx221_3
                replace hx221_4 := (HB.out.cell (World.block_lt_of_cell? w _ hx221_4)).trans hx221_4
                replace hx221_5 := (HB.out.cell (World.block_lt_of_cell? w _ hx221_5)).trans hx221_5
                replace hx221_6 := (HB.out.cell (World.block_lt_of_cell? w _ hx221_6)).trans hx221_6
                replace hx221_7 := (HB.out.cell (World.block_lt_of_cell? w _ hx221_7)).trans hx221_7
                have HR221_5 := Aside0.mk hi221_5
                have HC221_5 := Aside0.mk hl221_5
                clear hi221_5 hl221_5
                replace p221 := eq_true p221
                replace q221 := eq_true q221
                go_wp2_with (first | ((with_reducible refine gate_dst (N := 5) rfl ?_); refine box_event ?hg (N := 5) ?hd (cs := #[.int .i64 0, .int .u64 0, .int .u64 0, .int .u64 0, .int .u64 0, .slice none 0 0, .int .i64 0, .int .i64 0]) (t := 27) ?hr ?_; (case hd => rfl); (case hg => rfl); (case hr => first | (go_simp; done) | (go_simp; rfl)); intro gb222 hg w11 hbox hb; have n0_ := Aside0.mk (blk_below (g := gb220) (o := .cells #[.int .i64 a0_0, .int .u64 a0_1, .int .u64 a0_2, .int .u64 a0_3, .int .u64 a0_4, .slice (some ad221) l0_5.length c0_5, .int .i64 a0_6, .int .i64 a0_7] 27 (0, 0)) (by (with_reducible repeat (first | refine blk_drewN ?_ _ | refine blk_drew ?_ | refine blk_alloc ?_ _)); exact BK220.out) hb); have n1_ := Aside0.mk (below_step (by repeat (first | (with_reducible first | exact HB.out | apply below_alloc | apply pw_below_drewN | apply below_drew1 | refine below_set ?_ GE220.out) | exact HB.out)) hb); have n2_ := Aside0.mk (hbox); have n3_ := Aside0.mk ((by rw [hg]; exact (below_size (by repeat (first | (with_reducible first | exact HB.out | apply below_alloc | apply pw_below_drewN | apply below_drew1 | refine below_set ?_ GE220.out) | exact HB.out))) : w.heap.size ≤ gb222)); have n4_ := Aside0.mk ((by rw [hg]; exact (below_size (by repeat (first | (with_reducible first | exact HB.out | apply below_alloc | apply pw_below_drewN | apply below_drew1 | refine below_set ?_ GE220.out) | exact HB.out))) : w.heap.size ≤ gb222)); have n5_ := Aside0.mk ((by rw [hg]; exact Nat.ne_of_lt (blk_lt (g := gb220) (o := .cells #[.int .i64 a0_0, .int .u64 a0_1, .int .u64 a0_2, .int .u64 a0_3, .int .u64 a0_4, .slice (some ad221) l0_5.length c0_5, .int .i64 a0_6, .int .i64 a0_7] 27 (0, 0)) (by (with_reducible repeat (first | refine blk_drewN ?_ _ | refine blk_drew ?_ | refine blk_alloc ?_ _)); exact BK220.out)) : gb220 ≠ gb222)); have n6_ := Aside0.mk ((by rw [hg]; exact Nat.ne_of_gt (blk_lt (g := gb220) (o := .cells #[.int .i64 a0_0, .int .u64 a0_1, .int .u64 a0_2, .int .u64 a0_3, .int .u64 a0_4, .slice (some ad221) l0_5.length c0_5, .int .i64 a0_6, .int .i64 a0_7] 27 (0, 0)) (by (with_reducible repeat (first | refine blk_drewN ?_ _ | refine blk_drew ?_ | refine blk_alloc ?_ _)); exact BK220.out)) : gb222 ≠ gb220)); clear BK220; clear HB; have BK220 := n0_; have HB := n1_; have BK222 := n2_; have GW222 := n3_; have GE222 := n4_; have NB220_222 := n5_; have NB222_220 := n6_; clear n0_ n1_ n2_ n3_ n4_ n5_ n6_; clear hb hbox hg; have hnb12 := NB222_220.out; have hnc12 := NB220_222.out; have hcz13_0 : w11.cell? ⟨gb222, 0, none⟩ = some (.int .i64 0) := (blk_cell BK222.out 0).trans rfl; have hcz13_1 : w11.cell? ⟨gb222, 1, none⟩ = some (.int .u64 0) := (blk_cell BK222.out 1).trans rfl; have hcz13_2 : w11.cell? ⟨gb222, 2, none⟩ = some (.int .u64 0) := (blk_cell BK222.out 2).trans rfl; have hcz13_3 : w11.cell? ⟨gb222, 3, none⟩ = some (.int .u64 0) := (blk_cell BK222.out 3).trans rfl; have hcz13_4 : w11.cell? ⟨gb222, 4, none⟩ = some (.int .u64 0) := (blk_cell BK222.out 4).trans rfl; have hcz13_5 : w11.cell? ⟨gb222, 5, none⟩ = some (.slice none 0 0) := (blk_cell BK222.out 5).trans rfl; have hcz13_6 : w11.cell? ⟨gb222, 6, none⟩ = some (.int .i64 0) := (blk_cell BK222.out 6).trans rfl; have hcz13_7 : w11.cell? ⟨gb222, 7, none⟩ = some (.int .i64 0) := (blk_cell BK222.out 7).trans rfl; have hfz13_0 := blk_frozen BK222.out 0; have hfz13_1 := blk_frozen BK222.out 1; have hfz13_2 := blk_frozen BK222.out 2; have hfz13_3 := blk_frozen BK222.out 3; have hfz13_4 := blk_frozen BK222.out 4; have hfz13_5 := blk_frozen BK222.out 5; have hfz13_6 := blk_frozen BK222.out 6; have hfz13_7 := blk_frozen BK222.out 7) | ((with_reducible refine gate_callee (f := 29) rfl ?_); refine goesL_ (some 18) rfl rfl Tryd.func29 (by kernel_rfl) rfl #[.agg #[.int .i64 ((rd_T27 l0_5 x12_2).f0), .int .u64 ((rd_T27 l0_5 x12_2).f1.f0), .int .u64 ((rd_T27 l0_5 x12_2).f1.f1), .int .u64 ((rd_T27 l0_5 x12_2).f1.f2), .int .u64 ((rd_T27 l0_5 x12_2).f1.f3), .slice A221_5 ((rd_T27 l0_5 x12_2).f2).length c221_5, .int .i64 ((rd_T27 l0_5 x12_2).f3), .int .i64 ((rd_T27 l0_5 x12_2).f4)]] rfl (by (try simp only [List.map_toArray, List.map_cons, List.map_nil]); first | done | rfl | (simp only [List.length_drop, List.length_take]; rfl)) ?_; (with_reducible refine (ih k2 (by have := HJ1.out; have := HK2.out; omega) ((rd_T27 l0_5 x12_2).f0) ((rd_T27 l0_5 x12_2).f1.f0) ((rd_T27 l0_5 x12_2).f1.f1) ((rd_T27 l0_5 x12_2).f1.f2) ((rd_T27 l0_5 x12_2).f1.f3) _ _ ((rd_T27 l0_5 x12_2).f2) ((rd_T27 l0_5 x12_2).f3) ((rd_T27 l0_5 x12_2).f4) t223 _ ?side1 ?side2 A10.out).mono ?_); (case side1 => exact Kd.C_below HR221_5.out (by repeat (first | (with_reducible first | exact HB.out | apply below_alloc | apply pw_below_drewN | apply below_drew1 | refine below_set ?_ GE220.out | refine below_set ?_ GE222.out) | exact HB.out))); (case side2 => exact HC221_5.out); rintro e w14 ⟨rfl, hb⟩; refine ⟨_, rfl, ?_⟩; have n0_ := Aside0.mk (blk_below (g := gb220) (o := .cells #[.int .i64 a0_0, .int .u64 a0_1, .int .u64 a0_2, .int .u64 a0_3, .int .u64 a0_4, .slice (some ad221) l0_5.length c0_5, .int .i64 a0_6, .int .i64 a0_7] 27 (0, 0)) (by (with_reducible repeat (first | refine blk_drewN ?_ _ | refine blk_drew ?_ | refine blk_alloc ?_ _)); refine blk_far ?_ NB220_222.out _; (with_reducible repeat (first | refine blk_drewN ?_ _ | refine blk_drew ?_ | refine blk_alloc ?_ _)); refine blk_far ?_ NB220_222.out _; (with_reducible repeat (first | refine blk_drewN ?_ _ | refine blk_drew ?_ | refine blk_alloc ?_ _)); refine blk_far ?_ NB220_222.out _; (with_reducible repeat (first | refine blk_drewN ?_ _ | refine blk_drew ?_ | refine blk_alloc ?_ _)); refine blk_far ?_ NB220_222.out _; (with_reducible repeat (first | refine blk_drewN ?_ _ | refine blk_drew ?_ | refine blk_alloc ?_ _)); refine blk_far ?_ NB220_222.out _; (with_reducible repeat (first | refine blk_drewN ?_ _ | refine blk_drew ?_ | refine blk_alloc ?_ _)); refine blk_far ?_ NB220_222.out _; (with_reducible repeat (first | refine blk_drewN ?_ _ | refine blk_drew ?_ | refine blk_alloc ?_ _)); refine blk_far ?_ NB220_222.out _; (with_reducible repeat (first | refine blk_drewN ?_ _ | refine blk_drew ?_ | refine blk_alloc ?_ _)); refine blk_far ?_ NB220_222.out _; (with_reducible repeat (first | refine blk_drewN ?_ _ | refine blk_drew ?_ | refine blk_alloc ?_ _)); exact BK220.out) hb); have n1_ := Aside0.mk (blk_below (g := gb222) (o := .cells #[.int .i64 ((rd_T27 l0_5 x12_2).f0), .int .u64 ((rd_T27 l0_5 x12_2).f1.f0), .int .u64 ((rd_T27 l0_5 x12_2).f1.f1), .int .u64 ((rd_T27 l0_5 x12_2).f1.f2), .int .u64 ((rd_T27 l0_5 x12_2).f1.f3), .slice A221_5 ((rd_T27 l0_5 x12_2).f2).length c221_5, .int .i64 ((rd_T27 l0_5 x12_2).f3), .int .i64 ((rd_T27 l0_5 x12_2).f4)] 27 (0, 0)) (by (with_reducible repeat (first | refine blk_drewN ?_ _ | refine blk_drew ?_ | refine blk_alloc ?_ _)); refine blk_put (cs := #[.int .i64 ((rd_T27 l0_5 x12_2).f0), .int .u64 ((rd_T27 l0_5 x12_2).f1.f0), .int .u64 ((rd_T27 l0_5 x12_2).f1.f1), .int .u64 ((rd_T27 l0_5 x12_2).f1.f2), .int .u64 ((rd_T27 l0_5 x12_2).f1.f3), .slice A221_5 ((rd_T27 l0_5 x12_2).f2).length c221_5, .int .i64 ((rd_T27 l0_5 x12_2).f3), .int .i64 0]) ?_ 7 _ rfl; (with_reducible repeat (first | refine blk_drewN ?_ _ | refine blk_drew ?_ | refine blk_alloc ?_ _)); refine blk_put (cs := #[.int .i64 ((rd_T27 l0_5 x12_2).f0), .int .u64 ((rd_T27 l0_5 x12_2).f1.f0), .int .u64 ((rd_T27 l0_5 x12_2).f1.f1), .int .u64 ((rd_T27 l0_5 x12_2).f1.f2), .int .u64 ((rd_T27 l0_5 x12_2).f1.f3), .slice A221_5 ((rd_T27 l0_5 x12_2).f2).length c221_5, .int .i64 0, .int .i64 0]) ?_ 6 _ rfl; (with_reducible repeat (first | refine blk_drewN ?_ _ | refine blk_drew ?_ | refine blk_alloc ?_ _)); refine blk_put (cs := #[.int .i64 ((rd_T27 l0_5 x12_2).f0), .int .u64 ((rd_T27 l0_5 x12_2).f1.f0), .int .u64 ((rd_T27 l0_5 x12_2).f1.f1), .int .u64 ((rd_T27 l0_5 x12_2).f1.f2), .int .u64 ((rd_T27 l0_5 x12_2).f1.f3), .slice none 0 0, .int .i64 0, .int .i64 0]) ?_ 5 _ rfl; (with_reducible repeat (first | refine blk_drewN ?_ _ | refine blk_drew ?_ | refine blk_alloc ?_ _)); refine blk_put (cs := #[.int .i64 ((rd_T27 l0_5 x12_2).f0), .int .u64 ((rd_T27 l0_5 x12_2).f1.f0), .int .u64 ((rd_T27 l0_5 x12_2).f1.f1), .int .u64 ((rd_T27 l0_5 x12_2).f1.f2), .int .u64 0, .slice none 0 0, .int .i64 0, .int .i64 0]) ?_ 4 _ rfl; (with_reducible repeat (first | refine blk_drewN ?_ _ | refine blk_drew ?_ | refine blk_alloc ?_ _)); refine blk_put (cs := #[.int .i64 ((rd_T27 l0_5 x12_2).f0), .int .u64 ((rd_T27 l0_5 x12_2).f1.f0), .int .u64 ((rd_T27 l0_5 x12_2).f1.f1), .int .u64 0, .int .u64 0, .slice none 0 0, .int .i64 0, .int .i64 0]) ?_ 3 _ rfl; (with_reducible repeat (first | refine blk_drewN ?_ _ | refine blk_drew ?_ | refine blk_alloc ?_ _)); refine blk_put (cs := #[.int .i64 ((rd_T27 l0_5 x12_2).f0), .int .u64 ((rd_T27 l0_5 x12_2).f1.f0), .int .u64 0, .int .u64 0, .int .u64 0, .slice none 0 0, .int .i64 0, .int .i64 0]) ?_ 2 _ rfl; (with_reducible repeat (first | refine blk_drewN ?_ _ | refine blk_drew ?_ | refine blk_alloc ?_ _)); refine blk_put (cs := #[.int .i64 ((rd_T27 l0_5 x12_2).f0), .int .u64 0, .int .u64 0, .int .u64 0, .int .u64 0, .slice none 0 0, .int .i64 0, .int .i64 0]) ?_ 1 _ rfl; (with_reducible repeat (first | refine blk_drewN ?_ _ | refine blk_drew ?_ | refine blk_alloc ?_ _)); refine blk_put (cs := #[.int .i64 0, .int .u64 0, .int .u64 0, .int .u64 0, .int .u64 0, .slice none 0 0, .int .i64 0, .int .i64 0]) ?_ 0 _ rfl; (with_reducible repeat (first | refine blk_drewN ?_ _ | refine blk_drew ?_ | refine blk_alloc ?_ _)); exact BK222.out) hb); have n2_ := Aside0.mk (below_step (by repeat (first | (with_reducible first | exact HB.out | apply below_alloc | apply pw_below_drewN | apply below_drew1 | refine below_set ?_ GE220.out | refine below_set ?_ GE222.out) | exact HB.out)) hb); clear BK220; clear BK222; clear HB; have BK220 := n0_; have BK222 := n1_; have HB := n2_; clear n0_ n1_ n2_; (try clear hb); (try clear hb2); (try clear hk); (try clear hi)))
                go_roundg k2
                case measure => have := HJ1.out; have := HK2.out; omega
                case rel => exact ⟨(wrap64 (x3_2 + t223)), (wrap64 (x12_2 + 1)), (by first | rfl | (simp; done) | (simp [*]; done)), (by first | rfl | (simp; done) | (simp [*]; done)), H', ⟨by have := HJ1.out; have := HK2.out; omega⟩, ⟨by (with_reducible repeat (first | refine blk_drewN ?_ _ | refine blk_drew ?_ | refine blk_alloc ?_ _)); exact BK220.out⟩, ⟨by repeat (first | (with_reducible first | exact HB.out | apply below_alloc | apply pw_below_drewN | apply below_drew1 | refine below_set ?_ GE220.out | refine below_set ?_ GE222.out) | exact HB.out)⟩⟩
              · rw [if_neg c9] at H
                exact absurd H (by simp)
            · rw [if_neg c8] at H
              exact absurd H (by simp)
          · rw [if_neg c7] at H
            have c7b0 : decide (x12_2 < (l0_5.length : Int)) = false := decide_eq_false c7
            clear c7
            obtain rfl := Option.some.inj H
            go_wp2
            go_ret
            exact ⟨by first | rfl | (simp [errW_none, errW_some] <;> rfl) | (simp [*, errW_none, errW_some] <;> rfl), by repeat (first | (with_reducible first | exact HB.out | apply below_alloc | apply pw_below_drewN | apply below_drew1 | refine below_set ?_ GE220.out) | exact HB.out)⟩

-- NOT PRINTED: function 12 (syntax_Parse)

end Go.Proofs.YtaohlmcgaggoeaaDoor.P
