-- Written by a program of this project (wip/xp over the words of the print), not by hand.
import Derived.Test.YtgcgijmjlnhdnaaPx0
namespace Go.Proofs.Ytgcgijmjlnhdnaa.P
open Go.RowKit Go.Proofs.YtgcgijmjlnhdnaaW.PrintWords Go.Proofs.YtgcgijmjlnhdnaaW.PrintLast Go.Proofs.YtgcgijmjlnhdnaaW.PrintMore
attribute [local go_sem] max2_int min2_int max_two min_two max_three min_three max_four min_four   -- for this text's walks alone
set_option linter.unusedVariables false
set_option linter.unusedSimpArgs false

/-! ### ostinatoref04_spread: function 22 -/
def ostinatoref04_spread.l0 : Nat → Int → List (S27) → List (S27) → Int → Option ((List (S27)))
  | 0, _, _, _, _ => none
  | k + 1, x0, x1, x5, x6 => if x6 < (x1.length : Int) then (if 0 ≤ x6 then (if ((rd_T27 x1 x6).f0) = x0 then (if x5.length + ((rd_T27 x1 x6).f2).length < 1759218604441 then (ostinatoref04_spread.l0 k x0 x1 (x5 ++ ((rd_T27 x1 x6).f2)) (wrap64 (x6 + 1))) else (none)) else (if x5.length < 1759218604441 then (ostinatoref04_spread.l0 k x0 x1 (x5 ++ [(⟨(rd_T27 x1 x6).f0, (⟨(rd_T27 x1 x6).f1.f0, (rd_T27 x1 x6).f1.f1, (rd_T27 x1 x6).f1.f2, (rd_T27 x1 x6).f1.f3⟩ : S24), (rd_T27 x1 x6).f2, (rd_T27 x1 x6).f3, (rd_T27 x1 x6).f4⟩ : S27)]) (wrap64 (x6 + 1))) else (none))) else (none)) else (some x5)
def ostinatoref04_spread.f (k : Nat) (a0 : Int) (l1 : List (S27)) : Option ((List (S27))) := ostinatoref04_spread.l0 k a0 l1 ([] : List (S27)) 0
theorem ostinatoref04_spread.mono_l : ∀ k, (∀ y0 y1 y2 y3, LeO (ostinatoref04_spread.l0 k y0 y1 y2 y3) (ostinatoref04_spread.l0 (k + 1) y0 y1 y2 y3))
  | 0 => fun _ _ _ _ r h => by simp [ostinatoref04_spread.l0] at h
  | k + 1 => by
    have ih0 := ostinatoref04_spread.mono_l k
    · intro y0 y1 y2 y3
      unfold ostinatoref04_spread.l0
      repeat' first
      | (with_reducible exact ih0 _ _ _ _)
      | (with_reducible exact LeO.refl _)
      | (with_reducible exact LeO.none _)
      | (with_reducible refine LeO.ite ?_ ?_)
      | (with_reducible refine LeO.bind ?_ (fun _ => ?_))
      | exact ih0 _ _ _ _
      | exact LeO.none _
      | refine LeO.ite ?_ ?_
      | refine LeO.bind ?_ (fun _ => ?_)
theorem ostinatoref04_spread.mono : ∀ a0 a1 k, LeO (ostinatoref04_spread.f k a0 a1) (ostinatoref04_spread.f (k + 1) a0 a1) := by
  intro a0 a1 k
  have ih0 := ostinatoref04_spread.mono_l k
  unfold ostinatoref04_spread.f
  repeat' first
      | (with_reducible exact ih0 _ _ _ _)
      | (with_reducible exact LeO.refl _)
      | (with_reducible exact LeO.none _)
      | (with_reducible refine LeO.ite ?_ ?_)
      | (with_reducible refine LeO.bind ?_ (fun _ => ?_))
      | exact ih0 _ _ _ _
      | exact LeO.none _
      | refine LeO.ite ?_ ?_
      | refine LeO.bind ?_ (fun _ => ?_)
set_option maxHeartbeats 8000000 in
set_option maxRecDepth 100000 in
theorem ostinatoref04_spread.calls (k : Nat) (a0 : Int) (P1_ : Nat → Prop) (A1 : Option Addr) (c1 : Nat) (l1 : List (S27)) (r : List (S27)) (w : World) (hs1 : Kd.V k27 27 w w.heap.size (fun k_ => P1_ k_) (.slice A1 l1.length c1) l1) (h : ostinatoref04_spread.f k a0 l1 = some r) :
    Calls Try.prog 22 #[.int .i64 a0, .slice A1 l1.length c1] w fun e w' => ∃ v0_ : Value, e = .returned (v0_) ∧ Kd.N k27 27 w' w.heap.size (fun k_ => (P1_ k_ ∨ w.heap.size ≤ k_)) v0_ r ∧ Below w.heap.size w w' := by
  have hu27 := Try.underlying27
  have HO1 := Aside0.mk (show Kd.V k27 27 w w.heap.size (fun k_ => (P1_ k_ ∨ w.heap.size ≤ k_)) (.slice A1 l1.length c1) l1 from Kd.V_mono hs1 (fun k_ hk => .inl hk))
  have HB := Aside0.mk (Below.refl w.heap.size w)
  have H : (ostinatoref04_spread.l0 k a0 l1 ([] : List (S27)) 0) = some r := h
  clear h
  have H' := Aside0.mk H
  clear H
  go_enter Try.func22, Try.ntmps22
  go_wp2
  go_loopg [5, 6] k (fun kq v5 v6 w' => ∃ (x5_1 : List (S27)) (x6_1 : Int), v6 = .int .i64 x6_1 ∧ Aside0 (ostinatoref04_spread.l0 kq a0 l1 x5_1 x6_1 = some r) ∧ Aside0 (kq ≤ k) ∧ Aside0 (Kd.V k27 27 w' w.heap.size (fun k_ => (P1_ k_ ∨ w.heap.size ≤ k_) ∧ some k_ ≠ (v5 : Value).ownBlock) (.slice A1 l1.length c1) l1) ∧ Aside0 (Kd.N k27 27 w' w.heap.size (fun k_ => (P1_ k_ ∨ w.heap.size ≤ k_)) v5 x5_1) ∧ Aside0 (Below w.heap.size w w'))
  case atStart => exact ⟨(([] : List (S27))), (0), (by first | rfl | (simp; done) | (simp [*]; done)), H', ⟨Nat.le_refl _⟩, ⟨by (with_reducible repeat (first | apply Kd.V_alloc | apply Kd.V_drewN | apply Kd.V_drew)); exact Kd.V_mono HO1.out (fun _ hk => ⟨hk, (by simp [Value.ownBlock])⟩)⟩, ⟨by first | exact Kd.R_nil _ _ _ _ _ | exact Kd.N_nil _ _ _ _ _ | exact Kd.V_nil _ _ _ _ _ | exact Kd.Q_nil _ _ _ _ _ | exact Kd.S_nil _ _ _ _ _⟩, ⟨by repeat (first | (with_reducible first | exact HB.out | apply below_alloc | apply pw_below_drewN | apply below_drew1) | exact HB.out)⟩⟩
  case round =>
    clear H'
    try clear c1
    try clear c2
    try clear p2
    obtain ⟨x5_1, x6_1, rfl, HA, HK1, HO_1, HO_5, HB⟩ := hrel
    cases gk with
    | zero => exact absurd HA.out (by simp [ostinatoref04_spread.l0])
    | succ k1 =>
      have H := HA.out
      clear HA
      simp only [ostinatoref04_spread.l0] at H
      by_cases c3 : x6_1 < (l1.length : Int)
      · rw [if_pos c3] at H
        have c3b0 : decide (x6_1 < (l1.length : Int)) = true := decide_eq_true c3
        clear c3
        by_cases c4 : 0 ≤ x6_1
        · rw [if_pos c4] at H
          have c4b0 : decide (0 ≤ x6_1) = true := decide_eq_true c4
          clear c4
          by_cases c5 : ((rd_T27 l1 x6_1).f0) = a0
          · rw [if_pos c5] at H
            have c5b0 : (((rd_T27 l1 x6_1).f0) == a0) = true := beq_iff_eq.mpr c5
            have c5b1 : (((rd_T27 l1 x6_1).f0) != a0) = false := bne_eq_false_iff_eq.mpr c5
            clear c5
            by_cases c6 : x5_1.length + ((rd_T27 l1 x6_1).f2).length < 1759218604441
            · rw [if_pos c6] at H
              have LMc6 := Aside0.mk c6
              clear c6
              obtain ⟨y209, hy209⟩ : ∃ y_ : List (S27), y_ = (x5_1 ++ ((rd_T27 l1 x6_1).f2)) := ⟨_, rfl⟩
              replace H : (ostinatoref04_spread.l0 k1 a0 l1 y209 (wrap64 (x6_1 + 1))) = some r := by first | (rw [hy209]; with_reducible exact H) | (have H2_ := (Option.bind_some _ _).symm.trans H; rw [hy209]; with_reducible exact H2_) | (have H2_ := (Option.bind_some _ _).symm.trans H; with_reducible exact H2_) | with_reducible exact H | (rw [hy209]; exact H) | exact H
              have Ny209 := Aside0.mk hy209
              clear hy209
              have H' := Aside0.mk H
              clear H
              have p207 : 0 ≤ (x6_1 : Int) := of_decide_eq_true (by first | (with_reducible assumption) | assumption)
              have q207 : x6_1 < (l1.length : Int) := of_decide_eq_true (by first | (with_reducible assumption) | assumption)
              obtain ⟨ad207, A207_5, c207_5, e207, hx207_0, hx207_1, hx207_2, hx207_3, hx207_4, hx207_5, hx207_6, hx207_7, hl207_5, hi207_5⟩ := at_T27 (Kd.V_reads' HO_1.out).2.2 x6_1 p207 q207
              cases e207
              obtain ⟨ce207, hce207, hMe207, hcc207⟩ := Kd.V_get HO_1.out z27 x6_1 p207 (by first | exact q207 | exact of_decide_eq_true (by first | (with_reducible assumption) | assumption) | (have e_ := (Kd.V_reads' HO_1.out).1; omega))
              obtain ⟨ua207_5, uc207_5, rfl, ul207_5, ge207_5⟩ := k27_openF hMe207
              have hv207_5 := hcc207 5 _ rfl
              rw [add_field _ _ 5 (by omega)] at hv207_5
              replace hv207_5 := Option.some.inj (hv207_5.symm.trans hx207_5)
              injection hv207_5 with hva_ hvn_ hvc_
              rw [hva_] at ge207_5
              rw [hvc_] at ul207_5
              have HL207_5 := Aside0.mk (show Kd.V k27 27 _ w.heap.size _ _ ((rd_T27 l1 x6_1).f2) from Kd.V_mk ul207_5 ge207_5)
              clear hva_ hvn_ hvc_ ge207_5 ul207_5
              clear hcc207 hce207
              have HR207_5 := Aside0.mk hi207_5
              have HC207_5 := Aside0.mk hl207_5
              clear hi207_5 hl207_5
              replace p207 := eq_true p207
              replace q207 := eq_true q207
              have p208 : 0 ≤ (x6_1 : Int) := of_decide_eq_true (by first | (with_reducible assumption) | assumption)
              have q208 : x6_1 < (l1.length : Int) := of_decide_eq_true (by first | (with_reducible assumption) | assumption)
              obtain ⟨ad208, A208_5, c208_5, e208, hx208_0, hx208_1, hx208_2, hx208_3, hx208_4, hx208_5, hx208_6, hx208_7, hl208_5, hi208_5⟩ := at_T27 (Kd.V_reads' HO_1.out).2.2 x6_1 p208 q208
              obtain rfl : ad207 = ad208 := (by injection e208)
              obtain ⟨ce208, hce208, hMe208, hcc208⟩ := Kd.V_get HO_1.out z27 x6_1 p208 (by first | exact q208 | exact of_decide_eq_true (by first | (with_reducible assumption) | assumption) | (have e_ := (Kd.V_reads' HO_1.out).1; omega))
              obtain ⟨ua208_5, uc208_5, rfl, ul208_5, ge208_5⟩ := k27_openF hMe208
              have hv208_5 := hcc208 5 _ rfl
              rw [add_field _ _ 5 (by omega)] at hv208_5
              replace hv208_5 := Option.some.inj (hv208_5.symm.trans hx208_5)
              injection hv208_5 with hva_ hvn_ hvc_
              rw [hva_] at ge208_5
              rw [hvc_] at ul208_5
              have HL208_5 := Aside0.mk (show Kd.V k27 27 _ w.heap.size _ _ ((rd_T27 l1 x6_1).f2) from Kd.V_mk ul208_5 ge208_5)
              clear hva_ hvn_ hvc_ ge208_5 ul208_5
              clear hcc208 hce208
              have HR208_5 := Aside0.mk hi208_5
              have HC208_5 := Aside0.mk hl208_5
              clear hi208_5 hl208_5
              replace p208 := eq_true p208
              replace q208 := eq_true q208
              have ea_ := Option.some.inj (hx207_5.symm.trans hx208_5)
              injection ea_ with ea_ en_ ec_
              subst ea_
              subst ec_
              clear en_
              go_wp2_with (first | ((with_reducible refine gate_builtin (b := .append) (xs := #[.tmp 20, .tmp 25]) rfl ?_); at_builtin; refine Kd.N_append_rows k27 (w0 := w) w.heap.size rfl (.tmp 20) (.tmp 25) 25 27 (.agg #[(.int .i64 0), (.int .u64 0), (.int .u64 0), (.int .u64 0), (.int .u64 0), (.slice none 0 0), (.int .i64 0), (.int .i64 0)]) 80 rfl Try.underlying25 info27 rfl (by decide) (by omega) u5 x5_1 ((rd_T27 l1 x6_1).f2) _ _ _ (fun k_ => (P1_ k_ ∨ w.heap.size ≤ k_)) (fun k_ => ((fun k_ => (P1_ k_ ∨ w.heap.size ≤ k_))) k_ ∧ some k_ ≠ (u5 : Value).ownBlock) rfl rfl ?aO ?aR (fun _ hk => hk) ?aF ?aB ?aS ?aL ?_; (case aR => exact (by skip; exact Kd.V_F (Kd.V_mono (ok' := (fun k_ => ((fun k_ => (P1_ k_ ∨ w.heap.size ≤ k_))) k_ ∧ some k_ ≠ (u5 : Value).ownBlock)) (HL208_5.out) (fun k_ hk => ⟨hk.1, hk.2⟩)))); (case aB => exact (by repeat (first | (with_reducible first | exact HB.out | apply below_alloc | apply pw_below_drewN | apply below_drew1) | exact HB.out))); (case aF => exact (fun k_ hk => (.inr (Nat.le_trans (below_size (by repeat (first | (with_reducible first | exact HB.out | apply below_alloc | apply pw_below_drewN | apply below_drew1) | exact HB.out))) hk)))); (case aO => exact (by (with_reducible repeat (first | apply Kd.N_alloc | apply Kd.N_drewN | apply Kd.N_drew)); exact HO_5.out)); (case aS => exact (below_size (by repeat (first | (with_reducible first | exact HB.out | apply below_alloc | apply pw_below_drewN | apply below_drew1) | exact HB.out)))); (case aL => have := LMc6.out; omega); intro v210 w7 ho hb hg hat; rw [← Ny209.out] at ho; have n0_ := Aside0.mk (Kd.V_afterv (ok := (fun k_ => (P1_ k_ ∨ w.heap.size ≤ k_))) (by (with_reducible repeat (first | apply Kd.V_alloc | apply Kd.V_drewN | apply Kd.V_drew)); exact HO_1.out) hg hat); have n1_ := Aside0.mk (Kd.V_afterv (ok := (fun k_ => (P1_ k_ ∨ w.heap.size ≤ k_))) (by (with_reducible repeat (first | apply Kd.V_alloc | apply Kd.V_drewN | apply Kd.V_drew)); exact HL207_5.out) hg hat); have n2_ := Aside0.mk (Kd.V_afterv (ok := (fun k_ => (P1_ k_ ∨ w.heap.size ≤ k_))) (by (with_reducible repeat (first | apply Kd.V_alloc | apply Kd.V_drewN | apply Kd.V_drew)); exact HL208_5.out) hg hat); have n3_ := Aside0.mk (hb); have n4_ := Aside0.mk (ho); clear HO_1; clear HL207_5; clear HL208_5; clear HB; clear HO_5; have HO_1 := n0_; have HL207_5 := n1_; have HL208_5 := n2_; have HB := n3_; have HO211 := n4_; clear n0_ n1_ n2_ n3_ n4_; clear ho hb hg hat))
              go_roundg k1
              case measure => have := HK1.out; omega
              case rel => exact ⟨(y209), (wrap64 (x6_1 + 1)), (by first | rfl | (simp; done) | (simp [*]; done)), H', ⟨by have := HK1.out; omega⟩, ⟨by (with_reducible repeat (first | apply Kd.V_alloc | apply Kd.V_drewN | apply Kd.V_drew)); exact HO_1.out⟩, ⟨by (with_reducible repeat (first | apply Kd.N_alloc | apply Kd.N_drewN | apply Kd.N_drew)); exact HO211.out⟩, ⟨by repeat (first | (with_reducible first | exact HB.out | apply below_alloc | apply pw_below_drewN | apply below_drew1) | exact HB.out)⟩⟩
            · rw [if_neg c6] at H
              exact absurd H (by simp)
          · rw [if_neg c5] at H
            have c5b0 : (((rd_T27 l1 x6_1).f0) == a0) = false := beq_eq_false_iff_ne.mpr c5
            have c5b1 : (((rd_T27 l1 x6_1).f0) != a0) = true := bne_iff_ne.mpr c5
            by_cases c8 : x5_1.length < 1759218604441
            · rw [if_pos c8] at H
              have LMc8 := Aside0.mk c8
              clear c8
              obtain ⟨y213, hy213⟩ : ∃ y_ : List (S27), y_ = (x5_1 ++ [(⟨(rd_T27 l1 x6_1).f0, (⟨(rd_T27 l1 x6_1).f1.f0, (rd_T27 l1 x6_1).f1.f1, (rd_T27 l1 x6_1).f1.f2, (rd_T27 l1 x6_1).f1.f3⟩ : S24), (rd_T27 l1 x6_1).f2, (rd_T27 l1 x6_1).f3, (rd_T27 l1 x6_1).f4⟩ : S27)]) := ⟨_, rfl⟩
              replace H : (ostinatoref04_spread.l0 k1 a0 l1 y213 (wrap64 (x6_1 + 1))) = some r := by first | (rw [hy213]; with_reducible exact H) | (have H2_ := (Option.bind_some _ _).symm.trans H; rw [hy213]; with_reducible exact H2_) | (have H2_ := (Option.bind_some _ _).symm.trans H; with_reducible exact H2_) | with_reducible exact H | (rw [hy213]; exact H) | exact H
              have Ny213 := Aside0.mk hy213
              clear hy213
              have H' := Aside0.mk H
              clear H
              have p207 : 0 ≤ (x6_1 : Int) := of_decide_eq_true (by first | (with_reducible assumption) | assumption)
              have q207 : x6_1 < (l1.length : Int) := of_decide_eq_true (by first | (with_reducible assumption) | assumption)
              obtain ⟨ad207, A207_5, c207_5, e207, hx207_0, hx207_1, hx207_2, hx207_3, hx207_4, hx207_5, hx207_6, hx207_7, hl207_5, hi207_5⟩ := at_T27 (Kd.V_reads' HO_1.out).2.2 x6_1 p207 q207
              cases e207
              obtain ⟨ce207, hce207, hMe207, hcc207⟩ := Kd.V_get HO_1.out z27 x6_1 p207 (by first | exact q207 | exact of_decide_eq_true (by first | (with_reducible assumption) | assumption) | (have e_ := (Kd.V_reads' HO_1.out).1; omega))
              obtain ⟨ua207_5, uc207_5, rfl, ul207_5, ge207_5⟩ := k27_openF hMe207
              have hv207_5 := hcc207 5 _ rfl
              rw [add_field _ _ 5 (by omega)] at hv207_5
              replace hv207_5 := Option.some.inj (hv207_5.symm.trans hx207_5)
              injection hv207_5 with hva_ hvn_ hvc_
              rw [hva_] at ge207_5
              rw [hvc_] at ul207_5
              have HL207_5 := Aside0.mk (show Kd.V k27 27 _ w.heap.size _ _ ((rd_T27 l1 x6_1).f2) from Kd.V_mk ul207_5 ge207_5)
              clear hva_ hvn_ hvc_ ge207_5 ul207_5
              clear hcc207 hce207
              have HR207_5 := Aside0.mk hi207_5
              have HC207_5 := Aside0.mk hl207_5
              clear hi207_5 hl207_5
              replace p207 := eq_true p207
              replace q207 := eq_true q207
              have p212 : 0 ≤ (x6_1 : Int) := of_decide_eq_true (by first | (with_reducible assumption) | assumption)
              have q212 : x6_1 < (l1.length : Int) := of_decide_eq_true (by first | (with_reducible assumption) | assumption)
              obtain ⟨ad212, A212_5, c212_5, e212, hx212_0, hx212_1, hx212_2, hx212_3, hx212_4, hx212_5, hx212_6, hx212_7, hl212_5, hi212_5⟩ := at_T27 (Kd.V_reads' HO_1.out).2.2 x6_1 p212 q212
              obtain rfl : ad207 = ad212 := (by injection e212)
              obtain ⟨ce212, hce212, hMe212, hcc212⟩ := Kd.V_get HO_1.out z27 x6_1 p212 (by first | exact q212 | exact of_decide_eq_true (by first | (with_reducible assumption) | assumption) | (have e_ := (Kd.V_reads' HO_1.out).1; omega))
              obtain ⟨ua212_5, uc212_5, rfl, ul212_5, ge212_5⟩ := k27_openF hMe212
              have hv212_5 := hcc212 5 _ rfl
              rw [add_field _ _ 5 (by omega)] at hv212_5
              replace hv212_5 := Option.some.inj (hv212_5.symm.trans hx212_5)
              injection hv212_5 with hva_ hvn_ hvc_
              rw [hva_] at ge212_5
              rw [hvc_] at ul212_5
              have HL212_5 := Aside0.mk (show Kd.V k27 27 _ w.heap.size _ _ ((rd_T27 l1 x6_1).f2) from Kd.V_mk ul212_5 ge212_5)
              clear hva_ hvn_ hvc_ ge212_5 ul212_5
              clear hcc212 hce212
              have HR212_5 := Aside0.mk hi212_5
              have HC212_5 := Aside0.mk hl212_5
              clear hi212_5 hl212_5
              replace p212 := eq_true p212
              replace q212 := eq_true q212
              have ea_ := Option.some.inj (hx207_5.symm.trans hx212_5)
              injection ea_ with ea_ en_ ec_
              subst ea_
              subst ec_
              clear en_
              go_wp2_with (first | ((with_reducible refine gate_builtin (b := .append) (xs := #[.tmp 27, .tmp 32]) rfl ?_); at_builtin; refine Kd.N_append k27 (w0 := w) w.heap.size rfl (.tmp 27) (.tmp 32) 25 27 (.agg #[(.int .i64 0), (.int .u64 0), (.int .u64 0), (.int .u64 0), (.int .u64 0), (.slice none 0 0), (.int .i64 0), (.int .i64 0)]) 80 rfl Try.underlying25 info27 rfl (by decide) (by omega) u5 x5_1 (⟨(rd_T27 l1 x6_1).f0, (⟨(rd_T27 l1 x6_1).f1.f0, (rd_T27 l1 x6_1).f1.f1, (rd_T27 l1 x6_1).f1.f2, (rd_T27 l1 x6_1).f1.f3⟩ : S24), (rd_T27 l1 x6_1).f2, (rd_T27 l1 x6_1).f3, (rd_T27 l1 x6_1).f4⟩ : S27) [.int .i64 ((rd_T27 l1 x6_1).f0), .int .u64 ((rd_T27 l1 x6_1).f1.f0), .int .u64 ((rd_T27 l1 x6_1).f1.f1), .int .u64 ((rd_T27 l1 x6_1).f1.f2), .int .u64 ((rd_T27 l1 x6_1).f1.f3), .slice A207_5 ((rd_T27 l1 x6_1).f2).length c207_5, .int .i64 ((rd_T27 l1 x6_1).f3), .int .i64 ((rd_T27 l1 x6_1).f4)] (fun k_ => (P1_ k_ ∨ w.heap.size ≤ k_)) (fun k_ => ((fun k_ => (P1_ k_ ∨ w.heap.size ≤ k_))) k_ ∧ some k_ ≠ (u5 : Value).ownBlock) rfl rfl ?aP (fun _ hk => hk) ?aF ?aO ?aB ?aS ?aL ?_; (case aP => exact (k27_mkF _ _ (⟨(rd_T27 l1 x6_1).f0, (⟨(rd_T27 l1 x6_1).f1.f0, (rd_T27 l1 x6_1).f1.f1, (rd_T27 l1 x6_1).f1.f2, (rd_T27 l1 x6_1).f1.f3⟩ : S24), (rd_T27 l1 x6_1).f2, (rd_T27 l1 x6_1).f3, (rd_T27 l1 x6_1).f4⟩ : S27) (Kd.V_reads' (Kd.V_mono (ok' := (fun k_ => ((fun k_ => (P1_ k_ ∨ w.heap.size ≤ k_))) k_ ∧ some k_ ≠ (u5 : Value).ownBlock)) (HL212_5.out) (fun k_ hk => ⟨hk.1, hk.2⟩))).2.1 (Kd.V_F (Kd.V_mono (ok' := (fun k_ => ((fun k_ => (P1_ k_ ∨ w.heap.size ≤ k_))) k_ ∧ some k_ ≠ (u5 : Value).ownBlock)) (HL212_5.out) (fun k_ hk => ⟨hk.1, hk.2⟩))))); (case aB => exact (by repeat (first | (with_reducible first | exact HB.out | apply below_alloc | apply pw_below_drewN | apply below_drew1) | exact HB.out))); (case aF => exact (fun k_ hk => (.inr (Nat.le_trans (below_size (by repeat (first | (with_reducible first | exact HB.out | apply below_alloc | apply pw_below_drewN | apply below_drew1) | exact HB.out))) hk)))); (case aO => exact (by (with_reducible repeat (first | apply Kd.N_alloc | apply Kd.N_drewN | apply Kd.N_drew)); exact HO_5.out)); (case aS => exact (below_size (by repeat (first | (with_reducible first | exact HB.out | apply below_alloc | apply pw_below_drewN | apply below_drew1) | exact HB.out)))); (case aL => have := LMc8.out; omega); intro v214 w9 ho hb hg hat; rw [← Ny213.out] at ho; have n0_ := Aside0.mk (Kd.V_afterv (ok := (fun k_ => (P1_ k_ ∨ w.heap.size ≤ k_))) (by (with_reducible repeat (first | apply Kd.V_alloc | apply Kd.V_drewN | apply Kd.V_drew)); exact HO_1.out) hg hat); have n1_ := Aside0.mk (Kd.V_afterv (ok := (fun k_ => (P1_ k_ ∨ w.heap.size ≤ k_))) (by (with_reducible repeat (first | apply Kd.V_alloc | apply Kd.V_drewN | apply Kd.V_drew)); exact HL207_5.out) hg hat); have n2_ := Aside0.mk (Kd.V_afterv (ok := (fun k_ => (P1_ k_ ∨ w.heap.size ≤ k_))) (by (with_reducible repeat (first | apply Kd.V_alloc | apply Kd.V_drewN | apply Kd.V_drew)); exact HL212_5.out) hg hat); have n3_ := Aside0.mk (hb); have n4_ := Aside0.mk (ho); clear HO_1; clear HL207_5; clear HL212_5; clear HB; clear HO_5; have HO_1 := n0_; have HL207_5 := n1_; have HL212_5 := n2_; have HB := n3_; have HO215 := n4_; clear n0_ n1_ n2_ n3_ n4_; clear ho hb hg hat))
              go_roundg k1
              case measure => have := HK1.out; omega
              case rel => exact ⟨(y213), (wrap64 (x6_1 + 1)), (by first | rfl | (simp; done) | (simp [*]; done)), H', ⟨by have := HK1.out; omega⟩, ⟨by (with_reducible repeat (first | apply Kd.V_alloc | apply Kd.V_drewN | apply Kd.V_drew)); exact HO_1.out⟩, ⟨by (with_reducible repeat (first | apply Kd.N_alloc | apply Kd.N_drewN | apply Kd.N_drew)); exact HO215.out⟩, ⟨by repeat (first | (with_reducible first | exact HB.out | apply below_alloc | apply pw_below_drewN | apply below_drew1) | exact HB.out)⟩⟩
            · rw [if_neg c8] at H
              exact absurd H (by simp)
        · rw [if_neg c4] at H
          exact absurd H (by simp)
      · rw [if_neg c3] at H
        have c3b0 : decide (x6_1 < (l1.length : Int)) = false := decide_eq_false c3
        clear c3
        obtain rfl := Option.some.inj H
        go_wp2
        go_ret
        exact ⟨_, by first | rfl | (simp [errW_none, errW_some] <;> rfl) | (simp [*, errW_none, errW_some] <;> rfl), by (with_reducible repeat (first | apply Kd.N_alloc | apply Kd.N_drewN | apply Kd.N_drew)); exact HO_5.out, by repeat (first | (with_reducible first | exact HB.out | apply below_alloc | apply pw_below_drewN | apply below_drew1) | exact HB.out)⟩

end Go.Proofs.Ytgcgijmjlnhdnaa.P
