import Derived.Test.YtlnhiogpjdhhbaaPx0
-- Written by wip/xp.
namespace Go.Proofs.Ytlnhiogpjdhhbaa.P
open Go.RowKit Go.Proofs.YtlnhiogpjdhhbaaW.PrintWords Go.Proofs.YtlnhiogpjdhhbaaW.PrintLast Go.Proofs.YtlnhiogpjdhhbaaW.PrintMore
open Go.Proofs.YtlnhiogpjdhhbaaW.PrintWords renaming blk_frozen → zA, blk_cell → zB, pw_below_drewN → zC, below_drew1 → zD, below_alloc → zE
open Go.Proofs.YtlnhiogpjdhhbaaW.PrintWords.Aside0 renaming mk → zF
open Go.World renaming block_lt_of_cell? → zG
attribute [local go_sem] max2_int min2_int max_two min_two max_three min_three max_four min_four   -- for this text's walks alone
set_option linter.unusedVariables false
set_option linter.unusedSimpArgs false

mutual
def ostinatoref02_Size.l0 : Nat → Int → Int → Int → Int → Int → Int → Int → Int → List (S27) → Int → Int → Option (Int)
  | 0, _, _, _, _, _, _, _, _, _, _, _ => none
  | k + 1, x1, x5, x6, x211000, x211001, x211002, x211003, x211004, x211005, x211006, x211007 => if x6 < (x211005.length : Int) then (if x5 ≤ x1 then (if 0 ≤ x6 then ((ostinatoref02_Size.f k ((rd_T27 x211005 x6).f0) ((rd_T27 x211005 x6).f1.f0) ((rd_T27 x211005 x6).f1.f1) ((rd_T27 x211005 x6).f1.f2) ((rd_T27 x211005 x6).f1.f3) ((rd_T27 x211005 x6).f2) ((rd_T27 x211005 x6).f3) ((rd_T27 x211005 x6).f4) (wrap64 (x1 - x5))).bind fun t212 => (ostinatoref02_Size.l0 k x1 (wrap64 (x5 + t212)) (wrap64 (x6 + 1)) x211000 x211001 x211002 x211003 x211004 x211005 x211006 x211007)) else (none)) else (some x5)) else (some x5)
def ostinatoref02_Size.f : Nat → Int → Int → Int → Int → Int → List (S27) → Int → Int → Int → Option (Int)
  | 0, _, _, _, _, _, _, _, _, _ => none
  | k + 1, a0_0, a0_1, a0_2, a0_3, a0_4, l0_5, a0_6, a0_7, a1 => ostinatoref02_Size.l0 k a1 1 0 a0_0 a0_1 a0_2 a0_3 a0_4 l0_5 a0_6 a0_7
end
theorem ostinatoref02_Size.mono_l : ∀ k, (∀ y0 y1 y2 y3 y4 y5 y6 y7 y8, LeO (ostinatoref02_Size.f k y0 y1 y2 y3 y4 y5 y6 y7 y8) (ostinatoref02_Size.f (k + 1) y0 y1 y2 y3 y4 y5 y6 y7 y8)) ∧ (∀ y0 y1 y2 y3 y4 y5 y6 y7 y8 y9 y10, LeO (ostinatoref02_Size.l0 k y0 y1 y2 y3 y4 y5 y6 y7 y8 y9 y10) (ostinatoref02_Size.l0 (k + 1) y0 y1 y2 y3 y4 y5 y6 y7 y8 y9 y10))
  | 0 => ⟨fun _ _ _ _ _ _ _ _ _ r h => by simp [ostinatoref02_Size.f] at h, fun _ _ _ _ _ _ _ _ _ _ _ r h => by simp [ostinatoref02_Size.l0] at h⟩
  | k + 1 => by
    obtain ⟨ih0, ih1⟩ := ostinatoref02_Size.mono_l k
    refine ⟨?_, ?_⟩
    · intro y0 y1 y2 y3 y4 y5 y6 y7 y8
      unfold ostinatoref02_Size.f
      repeat' first
      | (with_reducible exact ih0 _ _ _ _ _ _ _ _ _)
      | (with_reducible exact ih1 _ _ _ _ _ _ _ _ _ _ _)
      | (with_reducible exact LeO.refl _)
      | (with_reducible exact LeO.none _)
      | (with_reducible refine LeO.ite ?_ ?_)
      | (with_reducible refine LeO.bind ?_ (fun _ => ?_))
      | exact ih0 _ _ _ _ _ _ _ _ _
      | exact ih1 _ _ _ _ _ _ _ _ _ _ _
      | exact LeO.none _
      | refine LeO.ite ?_ ?_
      | refine LeO.bind ?_ (fun _ => ?_)
    · intro y0 y1 y2 y3 y4 y5 y6 y7 y8 y9 y10
      unfold ostinatoref02_Size.l0
      repeat' first
      | (with_reducible exact ih0 _ _ _ _ _ _ _ _ _)
      | (with_reducible exact ih1 _ _ _ _ _ _ _ _ _ _ _)
      | (with_reducible exact LeO.refl _)
      | (with_reducible exact LeO.none _)
      | (with_reducible refine LeO.ite ?_ ?_)
      | (with_reducible refine LeO.bind ?_ (fun _ => ?_))
      | exact ih0 _ _ _ _ _ _ _ _ _
      | exact ih1 _ _ _ _ _ _ _ _ _ _ _
      | exact LeO.none _
      | refine LeO.ite ?_ ?_
      | refine LeO.bind ?_ (fun _ => ?_)
theorem ostinatoref02_Size.mono : ∀ a0 a1 a2 a3 a4 a5 a6 a7 a8 k, LeO (ostinatoref02_Size.f k a0 a1 a2 a3 a4 a5 a6 a7 a8) (ostinatoref02_Size.f (k + 1) a0 a1 a2 a3 a4 a5 a6 a7 a8) := by
  intro a0 a1 a2 a3 a4 a5 a6 a7 a8 k
  obtain ⟨ih0, ih1⟩ := ostinatoref02_Size.mono_l k
  exact ih0 a0 a1 a2 a3 a4 a5 a6 a7 a8
set_option maxHeartbeats 8000000 in
set_option maxRecDepth 100000 in
theorem ostinatoref02_Size.calls (k : Nat) : ∀ (a0_0 : Int) (a0_1 : Int) (a0_2 : Int) (a0_3 : Int) (a0_4 : Int) (A0_5 : Option Addr) (c0_5 : Nat) (l0_5 : List (S27)) (a0_6 : Int) (a0_7 : Int) (a1 : Int) (r : Int) (w : World) (hr0_5 : Kd.C k27 w A0_5 l0_5.length l0_5) (hc0_5 : l0_5.length ≤ c0_5) (h : ostinatoref02_Size.f k a0_0 a0_1 a0_2 a0_3 a0_4 l0_5 a0_6 a0_7 a1 = some r),
    Calls Try.prog 8 #[.agg #[.int .i64 a0_0, .int .u64 a0_1, .int .u64 a0_2, .int .u64 a0_3, .int .u64 a0_4, .slice A0_5 l0_5.length c0_5, .int .i64 a0_6, .int .i64 a0_7], .int .i64 a1] w fun e w' => e = .returned (.int .i64 r) ∧ Below w.heap.size w w' := by
  induction k using Nat.strongRecOn with
  | _ k ih =>
  intro a0_0 a0_1 a0_2 a0_3 a0_4 A0_5 c0_5 l0_5 a0_6 a0_7 a1 r w hr0_5 hc0_5 h
  cases k with
  | zero => exact absurd h (by simp [ostinatoref02_Size.f])
  | succ k =>
  simp only [ostinatoref02_Size.f] at h
  have hu27 := Try.underlying27
  have HR0_5 := zF hr0_5
  have HC0_5 := zF hc0_5
  clear hr0_5 hc0_5
  have HB := zF (Below.refl w.heap.size w)
  have H : (ostinatoref02_Size.l0 k a1 1 0 a0_0 a0_1 a0_2 a0_3 a0_4 l0_5 a0_6 a0_7) = some r := h
  clear h
  have H' := zF H
  clear H
  go_enter Try.func8, Try.ntmps8
  go_wp2_with (first | ((with_reducible refine gate_dst (N := 2) rfl ?_); refine box_event ?hg (N := 2) ?hd (cs := #[.int .i64 a0_0, .int .u64 a0_1, .int .u64 a0_2, .int .u64 a0_3, .int .u64 a0_4, .slice A0_5 l0_5.length c0_5, .int .i64 a0_6, .int .i64 a0_7]) (t := 27) ?hr ?_; (case hd => rfl); (case hg => rfl); (case hr => first | (go_simp; done) | (go_simp; rfl)); intro gb210 hg w3 hbox hb; have n0_ := zF (below_step (by repeat (first | (with_reducible first | exact HB.out | apply zE | apply zC | apply zD) | exact HB.out)) hb); have n1_ := zF (hbox); have n2_ := zF ((by rw [hg]; exact (below_size (by repeat (first | (with_reducible first | exact HB.out | apply zE | apply zC | apply zD) | exact HB.out))) : w.heap.size ≤ gb210)); have n3_ := zF ((by rw [hg]; exact (below_size (by repeat (first | (with_reducible first | exact HB.out | apply zE | apply zC | apply zD) | exact HB.out))) : w.heap.size ≤ gb210)); clear HB; have HB := n0_; have BK210 := n1_; have GW210 := n2_; have GE210 := n3_; clear n0_ n1_ n2_ n3_; clear hb hbox hg))
  go_loopg [5, 6] k (fun kq v5 v6 w' => ∃ (x5_1 : Int) (x6_1 : Int), v5 = .int .i64 x5_1 ∧ v6 = .int .i64 x6_1 ∧ Aside0 (ostinatoref02_Size.l0 kq a1 x5_1 x6_1 a0_0 a0_1 a0_2 a0_3 a0_4 l0_5 a0_6 a0_7 = some r) ∧ Aside0 (kq ≤ k) ∧ Aside0 (w'.heap[gb210]? = some (.cells #[.int .i64 a0_0, .int .u64 a0_1, .int .u64 a0_2, .int .u64 a0_3, .int .u64 a0_4, (.slice A0_5 l0_5.length c0_5), .int .i64 a0_6, .int .i64 a0_7] 27 (0, 0))) ∧ Aside0 (Below w.heap.size w w'))
  case atStart => exact ⟨(1), (0), (by first | rfl | (simp; done) | (simp [*]; done)), (by first | rfl | (simp; done) | (simp [*]; done)), H', ⟨Nat.le_refl _⟩, ⟨by (with_reducible repeat (first | refine blk_drewN ?_ _ | refine blk_drew ?_ | refine blk_alloc ?_ _)); exact BK210.out⟩, ⟨by repeat (first | (with_reducible first | exact HB.out | apply zE | apply zC | apply zD | refine below_set ?_ GE210.out) | exact HB.out)⟩⟩
  case round =>
    clear H'
    try clear p2
    obtain ⟨x5_1, x6_1, rfl, rfl, HA, HK1, BK210, HB⟩ := hrel
    cases gk with
    | zero => exact absurd HA.out (by simp [ostinatoref02_Size.l0])
    | succ k1 =>
      have H := HA.out
      clear HA
      simp only [ostinatoref02_Size.l0] at H
      by_cases c4 : x6_1 < (l0_5.length : Int)
      · rw [if_pos c4] at H
        have c4b0 : decide (x6_1 < (l0_5.length : Int)) = true := decide_eq_true c4
        clear c4
        by_cases c5 : x5_1 ≤ a1
        · rw [if_pos c5] at H
          have c5b0 : decide (x5_1 ≤ a1) = true := decide_eq_true c5
          clear c5
          by_cases c6 : 0 ≤ x6_1
          · rw [if_pos c6] at H
            have c6b0 : decide (0 ≤ x6_1) = true := decide_eq_true c6
            clear c6
            replace H := Option.bind_eq_some_iff.mp H
            obtain ⟨t212, A70, H⟩ := H
            replace H : (ostinatoref02_Size.l0 k1 a1 (wrap64 (x5_1 + t212)) (wrap64 (x6_1 + 1)) a0_0 a0_1 a0_2 a0_3 a0_4 l0_5 a0_6 a0_7) = some r := H
            have A7 := zF A70
            clear A70
            have H' := zF H
            clear H
            have hcz8_0 : wr.cell? ⟨gb210, 0, none⟩ = some (.int .i64 a0_0) := (zB BK210.out 0).trans rfl
            have hcz8_1 : wr.cell? ⟨gb210, 1, none⟩ = some (.int .u64 a0_1) := (zB BK210.out 1).trans rfl
            have hcz8_2 : wr.cell? ⟨gb210, 2, none⟩ = some (.int .u64 a0_2) := (zB BK210.out 2).trans rfl
            have hcz8_3 : wr.cell? ⟨gb210, 3, none⟩ = some (.int .u64 a0_3) := (zB BK210.out 3).trans rfl
            have hcz8_4 : wr.cell? ⟨gb210, 4, none⟩ = some (.int .u64 a0_4) := (zB BK210.out 4).trans rfl
            have hcz8_5 : wr.cell? ⟨gb210, 5, none⟩ = some (.slice A0_5 l0_5.length c0_5) := (zB BK210.out 5).trans rfl
            have hcz8_6 : wr.cell? ⟨gb210, 6, none⟩ = some (.int .i64 a0_6) := (zB BK210.out 6).trans rfl
            have hcz8_7 : wr.cell? ⟨gb210, 7, none⟩ = some (.int .i64 a0_7) := (zB BK210.out 7).trans rfl
            have hfz8_0 := zA BK210.out 0
            have hfz8_1 := zA BK210.out 1
            have hfz8_2 := zA BK210.out 2
            have hfz8_3 := zA BK210.out 3
            have hfz8_4 := zA BK210.out 4
            have hfz8_5 := zA BK210.out 5
            have hfz8_6 := zA BK210.out 6
            have hfz8_7 := zA BK210.out 7
            have p211 : 0 ≤ (x6_1 : Int) := of_decide_eq_true (by first | (with_reducible assumption) | assumption)
            have q211 : x6_1 < (l0_5.length : Int) := of_decide_eq_true (by first | (with_reducible assumption) | assumption)
            obtain ⟨ad211, A211_5, c211_5, e211, hx211_0, hx211_1, hx211_2, hx211_3, hx211_4, hx211_5, hx211_6, hx211_7, hl211_5, hi211_5⟩ := at_T27 HR0_5.out x6_1 p211 q211
            cases e211
            replace hx211_0 := (HB.out.cell (zG w _ hx211_0)).trans hx211_0
            replace hx211_1 := (HB.out.cell (zG w _ hx211_1)).trans hx211_1
            replace hx211_2 := (HB.out.cell (zG w _ hx211_2)).trans hx211_2
            replace hx211_3 := (HB.out.cell (zG w _ hx211_3)).trans hx211_3
            replace hx211_4 := (HB.out.cell (zG w _ hx211_4)).trans hx211_4
            replace hx211_5 := (HB.out.cell (zG w _ hx211_5)).trans hx211_5
            replace hx211_6 := (HB.out.cell (zG w _ hx211_6)).trans hx211_6
            replace hx211_7 := (HB.out.cell (zG w _ hx211_7)).trans hx211_7
            have HR211_5 := zF hi211_5
            have HC211_5 := zF hl211_5
            clear hi211_5 hl211_5
            replace p211 := eq_true p211
            replace q211 := eq_true q211
            go_wp2_with (first | ((with_reducible refine gate_callee (f := 8) rfl ?_); refine goesL_ (some 28) rfl rfl Try.func8 (by kernel_rfl) rfl #[.agg #[.int .i64 ((rd_T27 l0_5 x6_1).f0), .int .u64 ((rd_T27 l0_5 x6_1).f1.f0), .int .u64 ((rd_T27 l0_5 x6_1).f1.f1), .int .u64 ((rd_T27 l0_5 x6_1).f1.f2), .int .u64 ((rd_T27 l0_5 x6_1).f1.f3), .slice A211_5 ((rd_T27 l0_5 x6_1).f2).length c211_5, .int .i64 ((rd_T27 l0_5 x6_1).f3), .int .i64 ((rd_T27 l0_5 x6_1).f4)], .int .i64 (wrap64 (a1 - x5_1))] rfl (by (try simp only [List.map_toArray, List.map_cons, List.map_nil]); first | done | rfl | (simp only [List.length_drop, List.length_take]; rfl)) ?_; (with_reducible refine (ih k1 (by have := HK1.out; omega) ((rd_T27 l0_5 x6_1).f0) ((rd_T27 l0_5 x6_1).f1.f0) ((rd_T27 l0_5 x6_1).f1.f1) ((rd_T27 l0_5 x6_1).f1.f2) ((rd_T27 l0_5 x6_1).f1.f3) _ _ ((rd_T27 l0_5 x6_1).f2) ((rd_T27 l0_5 x6_1).f3) ((rd_T27 l0_5 x6_1).f4) (wrap64 (a1 - x5_1)) t212 _ ?side1 ?side2 A7.out).mono ?_); (case side1 => repeat (first | exact (Kd.C_below HR211_5.out HB.out) | (with_reducible refine Kd.C_alloc ?_ _) | (with_reducible refine Kd.C_drewN ?_ _) | (with_reducible refine Kd.C_drew ?_))); (case side2 => exact HC211_5.out); rintro e w9 ⟨rfl, hb⟩; refine ⟨_, rfl, ?_⟩; have n0_ := zF (blk_below (g := gb210) (o := .cells #[.int .i64 a0_0, .int .u64 a0_1, .int .u64 a0_2, .int .u64 a0_3, .int .u64 a0_4, .slice (some ad211) l0_5.length c0_5, .int .i64 a0_6, .int .i64 a0_7] 27 (0, 0)) (by (with_reducible repeat (first | refine blk_drewN ?_ _ | refine blk_drew ?_ | refine blk_alloc ?_ _)); exact BK210.out) hb); have n1_ := zF (below_step (by repeat (first | (with_reducible first | exact HB.out | apply zE | apply zC | apply zD | refine below_set ?_ GE210.out) | exact HB.out)) hb); clear BK210; clear HB; have BK210 := n0_; have HB := n1_; clear n0_ n1_; (try clear hb); (try clear hb2); (try clear hk); (try clear hi)))
            go_roundg k1
            case measure => have := HK1.out; omega
            case rel => exact ⟨(wrap64 (x5_1 + t212)), (wrap64 (x6_1 + 1)), (by first | rfl | (simp; done) | (simp [*]; done)), (by first | rfl | (simp; done) | (simp [*]; done)), H', ⟨by have := HK1.out; omega⟩, ⟨by (with_reducible repeat (first | refine blk_drewN ?_ _ | refine blk_drew ?_ | refine blk_alloc ?_ _)); exact BK210.out⟩, ⟨by repeat (first | (with_reducible first | exact HB.out | apply zE | apply zC | apply zD | refine below_set ?_ GE210.out) | exact HB.out)⟩⟩
          · rw [if_neg c6] at H
            exact absurd H (by simp)
        · rw [if_neg c5] at H
          have c5b0 : decide (x5_1 ≤ a1) = false := decide_eq_false c5
          clear c5
          obtain rfl := Option.some.inj H
          have hcz10_0 : wr.cell? ⟨gb210, 0, none⟩ = some (.int .i64 a0_0) := (zB BK210.out 0).trans rfl
          have hcz10_1 : wr.cell? ⟨gb210, 1, none⟩ = some (.int .u64 a0_1) := (zB BK210.out 1).trans rfl
          have hcz10_2 : wr.cell? ⟨gb210, 2, none⟩ = some (.int .u64 a0_2) := (zB BK210.out 2).trans rfl
          have hcz10_3 : wr.cell? ⟨gb210, 3, none⟩ = some (.int .u64 a0_3) := (zB BK210.out 3).trans rfl
          have hcz10_4 : wr.cell? ⟨gb210, 4, none⟩ = some (.int .u64 a0_4) := (zB BK210.out 4).trans rfl
          have hcz10_5 : wr.cell? ⟨gb210, 5, none⟩ = some (.slice A0_5 l0_5.length c0_5) := (zB BK210.out 5).trans rfl
          have hcz10_6 : wr.cell? ⟨gb210, 6, none⟩ = some (.int .i64 a0_6) := (zB BK210.out 6).trans rfl
          have hcz10_7 : wr.cell? ⟨gb210, 7, none⟩ = some (.int .i64 a0_7) := (zB BK210.out 7).trans rfl
          have hfz10_0 := zA BK210.out 0
          have hfz10_1 := zA BK210.out 1
          have hfz10_2 := zA BK210.out 2
          have hfz10_3 := zA BK210.out 3
          have hfz10_4 := zA BK210.out 4
          have hfz10_5 := zA BK210.out 5
          have hfz10_6 := zA BK210.out 6
          have hfz10_7 := zA BK210.out 7
          go_wp2
          go_ret
          exact ⟨by first | rfl | (simp [errW_none, errW_some] <;> rfl) | (simp [*, errW_none, errW_some] <;> rfl), by repeat (first | (with_reducible first | exact HB.out | apply zE | apply zC | apply zD | refine below_set ?_ GE210.out) | exact HB.out)⟩
      · rw [if_neg c4] at H
        have c4b0 : decide (x6_1 < (l0_5.length : Int)) = false := decide_eq_false c4
        clear c4
        obtain rfl := Option.some.inj H
        have hcz11_0 : wr.cell? ⟨gb210, 0, none⟩ = some (.int .i64 a0_0) := (zB BK210.out 0).trans rfl
        have hcz11_1 : wr.cell? ⟨gb210, 1, none⟩ = some (.int .u64 a0_1) := (zB BK210.out 1).trans rfl
        have hcz11_2 : wr.cell? ⟨gb210, 2, none⟩ = some (.int .u64 a0_2) := (zB BK210.out 2).trans rfl
        have hcz11_3 : wr.cell? ⟨gb210, 3, none⟩ = some (.int .u64 a0_3) := (zB BK210.out 3).trans rfl
        have hcz11_4 : wr.cell? ⟨gb210, 4, none⟩ = some (.int .u64 a0_4) := (zB BK210.out 4).trans rfl
        have hcz11_5 : wr.cell? ⟨gb210, 5, none⟩ = some (.slice A0_5 l0_5.length c0_5) := (zB BK210.out 5).trans rfl
        have hcz11_6 : wr.cell? ⟨gb210, 6, none⟩ = some (.int .i64 a0_6) := (zB BK210.out 6).trans rfl
        have hcz11_7 : wr.cell? ⟨gb210, 7, none⟩ = some (.int .i64 a0_7) := (zB BK210.out 7).trans rfl
        have hfz11_0 := zA BK210.out 0
        have hfz11_1 := zA BK210.out 1
        have hfz11_2 := zA BK210.out 2
        have hfz11_3 := zA BK210.out 3
        have hfz11_4 := zA BK210.out 4
        have hfz11_5 := zA BK210.out 5
        have hfz11_6 := zA BK210.out 6
        have hfz11_7 := zA BK210.out 7
        go_wp2
        go_ret
        exact ⟨by first | rfl | (simp [errW_none, errW_some] <;> rfl) | (simp [*, errW_none, errW_some] <;> rfl), by repeat (first | (with_reducible first | exact HB.out | apply zE | apply zC | apply zD | refine below_set ?_ GE210.out) | exact HB.out)⟩

end Go.Proofs.Ytlnhiogpjdhhbaa.P
