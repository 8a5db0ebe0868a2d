import Derived.Test.YtlnhiogpjdhhbaaPx0
-- Written by wip/xp.
namespace Go.Proofs.Ytlnhiogpjdhhbaa.P
open Go.RowKit Go.Proofs.YtlnhiogpjdhhbaaW.PrintWords Go.Proofs.YtlnhiogpjdhhbaaW.PrintLast Go.Proofs.YtlnhiogpjdhhbaaW.PrintMore
open Go.Proofs.YtlnhiogpjdhhbaaW.PrintWords renaming pw_below_drewN → zA, below_drew1 → zB, below_alloc → zC
open Go.Proofs.YtlnhiogpjdhhbaaW.PrintWords.Aside0 renaming mk → zD
attribute [local go_sem] max2_int min2_int max_two min_two max_three min_three max_four min_four   -- for this text's walks alone
set_option linter.unusedVariables false
set_option linter.unusedSimpArgs false

def ostinatoref04_spread.l0 : Nat → Int → List (S27) → List (S27) → Int → Option ((List (S27)))
  | 0, _, _, _, _ => none
  | k + 1, x0, x1, x5, x6 => if x6 < (x1.length : Int) then (if 0 ≤ x6 then (if ((rd_T27 x1 x6).f0) = x0 then (if x5.length + ((rd_T27 x1 x6).f2).length < 1759218604441 then (ostinatoref04_spread.l0 k x0 x1 (x5 ++ ((rd_T27 x1 x6).f2)) (wrap64 (x6 + 1))) else (none)) else (if x5.length < 1759218604441 then (ostinatoref04_spread.l0 k x0 x1 (x5 ++ [(⟨(rd_T27 x1 x6).f0, (⟨(rd_T27 x1 x6).f1.f0, (rd_T27 x1 x6).f1.f1, (rd_T27 x1 x6).f1.f2, (rd_T27 x1 x6).f1.f3⟩ : S24), (rd_T27 x1 x6).f2, (rd_T27 x1 x6).f3, (rd_T27 x1 x6).f4⟩ : S27)]) (wrap64 (x6 + 1))) else (none))) else (none)) else (some x5)
def ostinatoref04_spread.f (k : Nat) (a0 : Int) (l1 : List (S27)) : Option ((List (S27))) := ostinatoref04_spread.l0 k a0 l1 ([] : List (S27)) 0
theorem ostinatoref04_spread.mono_l : ∀ k, (∀ y0 y1 y2 y3, LeO (ostinatoref04_spread.l0 k y0 y1 y2 y3) (ostinatoref04_spread.l0 (k + 1) y0 y1 y2 y3))
  | 0 => fun _ _ _ _ r h => by simp [ostinatoref04_spread.l0] at h
  | k + 1 => by
    have ih0 := ostinatoref04_spread.mono_l k
    · intro y0 y1 y2 y3
      unfold ostinatoref04_spread.l0
      repeat' first
      | (with_reducible exact ih0 _ _ _ _)
      | (with_reducible exact LeO.refl _)
      | (with_reducible exact LeO.none _)
      | (with_reducible refine LeO.ite ?_ ?_)
      | (with_reducible refine LeO.bind ?_ (fun _ => ?_))
      | exact ih0 _ _ _ _
      | exact LeO.none _
      | refine LeO.ite ?_ ?_
      | refine LeO.bind ?_ (fun _ => ?_)
theorem ostinatoref04_spread.mono : ∀ a0 a1 k, LeO (ostinatoref04_spread.f k a0 a1) (ostinatoref04_spread.f (k + 1) a0 a1) := by
  intro a0 a1 k
  have ih0 := ostinatoref04_spread.mono_l k
  unfold ostinatoref04_spread.f
  repeat' first
      | (with_reducible exact ih0 _ _ _ _)
      | (with_reducible exact LeO.refl _)
      | (with_reducible exact LeO.none _)
      | (with_reducible refine LeO.ite ?_ ?_)
      | (with_reducible refine LeO.bind ?_ (fun _ => ?_))
      | exact ih0 _ _ _ _
      | exact LeO.none _
      | refine LeO.ite ?_ ?_
      | refine LeO.bind ?_ (fun _ => ?_)
set_option maxHeartbeats 8000000 in
set_option maxRecDepth 100000 in
theorem ostinatoref04_spread.calls (k : Nat) (a0 : Int) (P1_ : Nat → Prop) (A1 : Option Addr) (c1 : Nat) (l1 : List (S27)) (r : List (S27)) (w : World) (hs1 : Kd.V k27 27 w w.heap.size (fun k_ => P1_ k_) (.slice A1 l1.length c1) l1) (h : ostinatoref04_spread.f k a0 l1 = some r) :
    Calls Try.prog 37 #[.int .i64 a0, .slice A1 l1.length c1] w fun e w' => ∃ v0_ : Value, e = .returned (v0_) ∧ Kd.N k27 27 w' w.heap.size (fun k_ => (P1_ k_ ∨ w.heap.size ≤ k_)) v0_ r ∧ Below w.heap.size w w' := by
  have hu27 := Try.underlying27
  have HO1 := zD (show Kd.V k27 27 w w.heap.size (fun k_ => (P1_ k_ ∨ w.heap.size ≤ k_)) (.slice A1 l1.length c1) l1 from Kd.V_mono hs1 (fun k_ hk => .inl hk))
  have HB := zD (Below.refl w.heap.size w)
  have H : (ostinatoref04_spread.l0 k a0 l1 ([] : List (S27)) 0) = some r := h
  clear h
  have H' := zD H
  clear H
  go_enter Try.func37, Try.ntmps37
  go_wp2
  go_loopg [5, 6] k (fun kq v5 v6 w' => ∃ (x5_1 : List (S27)) (x6_1 : Int), v6 = .int .i64 x6_1 ∧ Aside0 (ostinatoref04_spread.l0 kq a0 l1 x5_1 x6_1 = some r) ∧ Aside0 (kq ≤ k) ∧ Aside0 (Kd.V k27 27 w' w.heap.size (fun k_ => (P1_ k_ ∨ w.heap.size ≤ k_) ∧ some k_ ≠ (v5 : Value).ownBlock) (.slice A1 l1.length c1) l1) ∧ Aside0 (Kd.N k27 27 w' w.heap.size (fun k_ => (P1_ k_ ∨ w.heap.size ≤ k_)) v5 x5_1) ∧ Aside0 (Below w.heap.size w w'))
  case atStart => exact ⟨(([] : List (S27))), (0), (by first | rfl | (simp; done) | (simp [*]; done)), H', ⟨Nat.le_refl _⟩, ⟨by (with_reducible repeat (first | apply Kd.V_alloc | apply Kd.V_drewN | apply Kd.V_drew)); exact Kd.V_mono HO1.out (fun _ hk => ⟨hk, (by simp [Value.ownBlock])⟩)⟩, ⟨by first | exact Kd.R_nil _ _ _ _ _ | exact Kd.N_nil _ _ _ _ _ | exact Kd.V_nil _ _ _ _ _ | exact Kd.Q_nil _ _ _ _ _ | exact Kd.S_nil _ _ _ _ _⟩, ⟨by repeat (first | (with_reducible first | exact HB.out | apply zC | apply zA | apply zB) | exact HB.out)⟩⟩
  case round =>
    clear H'
    try clear c1
    try clear p2
    obtain ⟨x5_1, x6_1, rfl, HA, HK1, HO_1, HO_5, HB⟩ := hrel
    cases gk with
    | zero => exact absurd HA.out (by simp [ostinatoref04_spread.l0])
    | succ k1 =>
      have H := HA.out
      clear HA
      simp only [ostinatoref04_spread.l0] at H
      by_cases c3 : x6_1 < (l1.length : Int)
      · rw [if_pos c3] at H
        have c3b0 : decide (x6_1 < (l1.length : Int)) = true := decide_eq_true c3
        clear c3
        by_cases c4 : 0 ≤ x6_1
        · rw [if_pos c4] at H
          have c4b0 : decide (0 ≤ x6_1) = true := decide_eq_true c4
          clear c4
          by_cases c5 : ((rd_T27 l1 x6_1).f0) = a0
          · rw [if_pos c5] at H
            have c5b0 : (((rd_T27 l1 x6_1).f0) == a0) = true := beq_iff_eq.mpr c5
            have c5b1 : (((rd_T27 l1 x6_1).f0) != a0) = false := bne_eq_false_iff_eq.mpr c5
            clear c5
            by_cases c6 : x5_1.length + ((rd_T27 l1 x6_1).f2).length < 1759218604441
            · rw [if_pos c6] at H
              have LMc6 := zD c6
              clear c6
              obtain ⟨y227, hy227⟩ : ∃ y_ : List (S27), y_ = (x5_1 ++ ((rd_T27 l1 x6_1).f2)) := ⟨_, rfl⟩
              replace H : (ostinatoref04_spread.l0 k1 a0 l1 y227 (wrap64 (x6_1 + 1))) = some r := by first | (rw [hy227]; with_reducible exact H) | (have H2_ := (Option.bind_some _ _).symm.trans H; rw [hy227]; with_reducible exact H2_) | (have H2_ := (Option.bind_some _ _).symm.trans H; with_reducible exact H2_) | with_reducible exact H | (rw [hy227]; exact H) | exact H
              have Ny227 := zD hy227
              clear hy227
              have H' := zD H
              clear H
              have p225 : 0 ≤ (x6_1 : Int) := of_decide_eq_true (by first | (with_reducible assumption) | assumption)
              have q225 : x6_1 < (l1.length : Int) := of_decide_eq_true (by first | (with_reducible assumption) | assumption)
              obtain ⟨ad225, A225_5, c225_5, e225, hx225_0, hx225_1, hx225_2, hx225_3, hx225_4, hx225_5, hx225_6, hx225_7, hl225_5, hi225_5⟩ := at_T27 (Kd.V_reads' HO_1.out).2.2 x6_1 p225 q225
              cases e225
              obtain ⟨ce225, hce225, hMe225, hcc225⟩ := Kd.V_get HO_1.out z27 x6_1 p225 (by first | exact q225 | exact of_decide_eq_true (by first | (with_reducible assumption) | assumption) | (have e_ := (Kd.V_reads' HO_1.out).1; omega))
              obtain ⟨ua225_5, uc225_5, rfl, ul225_5, ge225_5⟩ := k27_openF hMe225
              have hv225_5 := hcc225 5 _ rfl
              rw [add_field _ _ 5 (by omega)] at hv225_5
              replace hv225_5 := Option.some.inj (hv225_5.symm.trans hx225_5)
              injection hv225_5 with hva_ hvn_ hvc_
              rw [hva_] at ge225_5
              rw [hvc_] at ul225_5
              have HL225_5 := zD (show Kd.V k27 27 _ w.heap.size _ _ ((rd_T27 l1 x6_1).f2) from Kd.V_mk ul225_5 ge225_5)
              clear hva_ hvn_ hvc_ ge225_5 ul225_5 hcc225 hce225
              have HR225_5 := zD hi225_5
              have HC225_5 := zD hl225_5
              clear hi225_5 hl225_5
              replace p225 := eq_true p225
              replace q225 := eq_true q225
              have p226 : 0 ≤ (x6_1 : Int) := of_decide_eq_true (by first | (with_reducible assumption) | assumption)
              have q226 : x6_1 < (l1.length : Int) := of_decide_eq_true (by first | (with_reducible assumption) | assumption)
              obtain ⟨ad226, A226_5, c226_5, e226, hx226_0, hx226_1, hx226_2, hx226_3, hx226_4, hx226_5, hx226_6, hx226_7, hl226_5, hi226_5⟩ := at_T27 (Kd.V_reads' HO_1.out).2.2 x6_1 p226 q226
              obtain rfl : ad225 = ad226 := (by injection e226)
              obtain ⟨ce226, hce226, hMe226, hcc226⟩ := Kd.V_get HO_1.out z27 x6_1 p226 (by first | exact q226 | exact of_decide_eq_true (by first | (with_reducible assumption) | assumption) | (have e_ := (Kd.V_reads' HO_1.out).1; omega))
              obtain ⟨ua226_5, uc226_5, rfl, ul226_5, ge226_5⟩ := k27_openF hMe226
              have hv226_5 := hcc226 5 _ rfl
              rw [add_field _ _ 5 (by omega)] at hv226_5
              replace hv226_5 := Option.some.inj (hv226_5.symm.trans hx226_5)
              injection hv226_5 with hva_ hvn_ hvc_
              rw [hva_] at ge226_5
              rw [hvc_] at ul226_5
              have HL226_5 := zD (show Kd.V k27 27 _ w.heap.size _ _ ((rd_T27 l1 x6_1).f2) from Kd.V_mk ul226_5 ge226_5)
              clear hva_ hvn_ hvc_ ge226_5 ul226_5 hcc226 hce226
              have HR226_5 := zD hi226_5
              have HC226_5 := zD hl226_5
              clear hi226_5 hl226_5
              replace p226 := eq_true p226
              replace q226 := eq_true q226
              have ea_ := Option.some.inj (hx225_5.symm.trans hx226_5)
              injection ea_ with ea_ en_ ec_
              subst ea_
              subst ec_
              clear en_
              go_wp2_with (first | ((with_reducible refine gate_builtin (b := .append) (xs := #[.tmp 20, .tmp 25]) rfl ?_); at_builtin; refine Kd.N_append_rows k27 (w0 := w) w.heap.size rfl (.tmp 20) (.tmp 25) 25 27 (.agg #[(.int .i64 0), (.int .u64 0), (.int .u64 0), (.int .u64 0), (.int .u64 0), (.slice none 0 0), (.int .i64 0), (.int .i64 0)]) 80 rfl Try.underlying25 info27 rfl (by decide) (by omega) u5 x5_1 ((rd_T27 l1 x6_1).f2) _ _ _ (fun k_ => (P1_ k_ ∨ w.heap.size ≤ k_)) (fun k_ => ((fun k_ => (P1_ k_ ∨ w.heap.size ≤ k_))) k_ ∧ some k_ ≠ (u5 : Value).ownBlock) rfl rfl ?aO ?aR (fun _ hk => hk) ?aF ?aB ?aS ?aL ?_; (case aR => exact (by skip; exact Kd.V_F (Kd.V_mono (ok' := (fun k_ => ((fun k_ => (P1_ k_ ∨ w.heap.size ≤ k_))) k_ ∧ some k_ ≠ (u5 : Value).ownBlock)) (HL226_5.out) (fun k_ hk => ⟨hk.1, hk.2⟩)))); (case aB => exact (by repeat (first | (with_reducible first | exact HB.out | apply zC | apply zA | apply zB) | exact HB.out))); (case aF => exact (fun k_ hk => (.inr (Nat.le_trans (below_size (by repeat (first | (with_reducible first | exact HB.out | apply zC | apply zA | apply zB) | exact HB.out))) hk)))); (case aO => exact (by (with_reducible repeat (first | apply Kd.N_alloc | apply Kd.N_drewN | apply Kd.N_drew)); exact HO_5.out)); (case aS => exact (below_size (by repeat (first | (with_reducible first | exact HB.out | apply zC | apply zA | apply zB) | exact HB.out)))); (case aL => have := LMc6.out; omega); intro v228 w7 ho hb hg hat; rw [← Ny227.out] at ho; have n0_ := zD (Kd.V_afterv (ok := (fun k_ => (P1_ k_ ∨ w.heap.size ≤ k_))) (by (with_reducible repeat (first | apply Kd.V_alloc | apply Kd.V_drewN | apply Kd.V_drew)); exact HO_1.out) hg hat); have n1_ := zD (Kd.V_afterv (ok := (fun k_ => (P1_ k_ ∨ w.heap.size ≤ k_))) (by (with_reducible repeat (first | apply Kd.V_alloc | apply Kd.V_drewN | apply Kd.V_drew)); exact HL225_5.out) hg hat); have n2_ := zD (Kd.V_afterv (ok := (fun k_ => (P1_ k_ ∨ w.heap.size ≤ k_))) (by (with_reducible repeat (first | apply Kd.V_alloc | apply Kd.V_drewN | apply Kd.V_drew)); exact HL226_5.out) hg hat); have n3_ := zD (hb); have n4_ := zD (ho); clear HO_1; clear HL225_5; clear HL226_5; clear HB; clear HO_5; have HO_1 := n0_; have HL225_5 := n1_; have HL226_5 := n2_; have HB := n3_; have HO229 := n4_; clear n0_ n1_ n2_ n3_ n4_; clear ho hb hg hat))
              go_roundg k1
              case measure => have := HK1.out; omega
              case rel => exact ⟨(y227), (wrap64 (x6_1 + 1)), (by first | rfl | (simp; done) | (simp [*]; done)), H', ⟨by have := HK1.out; omega⟩, ⟨by (with_reducible repeat (first | apply Kd.V_alloc | apply Kd.V_drewN | apply Kd.V_drew)); exact HO_1.out⟩, ⟨by (with_reducible repeat (first | apply Kd.N_alloc | apply Kd.N_drewN | apply Kd.N_drew)); exact HO229.out⟩, ⟨by repeat (first | (with_reducible first | exact HB.out | apply zC | apply zA | apply zB) | exact HB.out)⟩⟩
            · rw [if_neg c6] at H
              exact absurd H (by simp)
          · rw [if_neg c5] at H
            have c5b0 : (((rd_T27 l1 x6_1).f0) == a0) = false := beq_eq_false_iff_ne.mpr c5
            have c5b1 : (((rd_T27 l1 x6_1).f0) != a0) = true := bne_iff_ne.mpr c5
            by_cases c8 : x5_1.length < 1759218604441
            · rw [if_pos c8] at H
              have LMc8 := zD c8
              clear c8
              obtain ⟨y231, hy231⟩ : ∃ y_ : List (S27), y_ = (x5_1 ++ [(⟨(rd_T27 l1 x6_1).f0, (⟨(rd_T27 l1 x6_1).f1.f0, (rd_T27 l1 x6_1).f1.f1, (rd_T27 l1 x6_1).f1.f2, (rd_T27 l1 x6_1).f1.f3⟩ : S24), (rd_T27 l1 x6_1).f2, (rd_T27 l1 x6_1).f3, (rd_T27 l1 x6_1).f4⟩ : S27)]) := ⟨_, rfl⟩
              replace H : (ostinatoref04_spread.l0 k1 a0 l1 y231 (wrap64 (x6_1 + 1))) = some r := by first | (rw [hy231]; with_reducible exact H) | (have H2_ := (Option.bind_some _ _).symm.trans H; rw [hy231]; with_reducible exact H2_) | (have H2_ := (Option.bind_some _ _).symm.trans H; with_reducible exact H2_) | with_reducible exact H | (rw [hy231]; exact H) | exact H
              have Ny231 := zD hy231
              clear hy231
              have H' := zD H
              clear H
              have p225 : 0 ≤ (x6_1 : Int) := of_decide_eq_true (by first | (with_reducible assumption) | assumption)
              have q225 : x6_1 < (l1.length : Int) := of_decide_eq_true (by first | (with_reducible assumption) | assumption)
              obtain ⟨ad225, A225_5, c225_5, e225, hx225_0, hx225_1, hx225_2, hx225_3, hx225_4, hx225_5, hx225_6, hx225_7, hl225_5, hi225_5⟩ := at_T27 (Kd.V_reads' HO_1.out).2.2 x6_1 p225 q225
              cases e225
              obtain ⟨ce225, hce225, hMe225, hcc225⟩ := Kd.V_get HO_1.out z27 x6_1 p225 (by first | exact q225 | exact of_decide_eq_true (by first | (with_reducible assumption) | assumption) | (have e_ := (Kd.V_reads' HO_1.out).1; omega))
              obtain ⟨ua225_5, uc225_5, rfl, ul225_5, ge225_5⟩ := k27_openF hMe225
              have hv225_5 := hcc225 5 _ rfl
              rw [add_field _ _ 5 (by omega)] at hv225_5
              replace hv225_5 := Option.some.inj (hv225_5.symm.trans hx225_5)
              injection hv225_5 with hva_ hvn_ hvc_
              rw [hva_] at ge225_5
              rw [hvc_] at ul225_5
              have HL225_5 := zD (show Kd.V k27 27 _ w.heap.size _ _ ((rd_T27 l1 x6_1).f2) from Kd.V_mk ul225_5 ge225_5)
              clear hva_ hvn_ hvc_ ge225_5 ul225_5 hcc225 hce225
              have HR225_5 := zD hi225_5
              have HC225_5 := zD hl225_5
              clear hi225_5 hl225_5
              replace p225 := eq_true p225
              replace q225 := eq_true q225
              have p230 : 0 ≤ (x6_1 : Int) := of_decide_eq_true (by first | (with_reducible assumption) | assumption)
              have q230 : x6_1 < (l1.length : Int) := of_decide_eq_true (by first | (with_reducible assumption) | assumption)
              obtain ⟨ad230, A230_5, c230_5, e230, hx230_0, hx230_1, hx230_2, hx230_3, hx230_4, hx230_5, hx230_6, hx230_7, hl230_5, hi230_5⟩ := at_T27 (Kd.V_reads' HO_1.out).2.2 x6_1 p230 q230
              obtain rfl : ad225 = ad230 := (by injection e230)
              obtain ⟨ce230, hce230, hMe230, hcc230⟩ := Kd.V_get HO_1.out z27 x6_1 p230 (by first | exact q230 | exact of_decide_eq_true (by first | (with_reducible assumption) | assumption) | (have e_ := (Kd.V_reads' HO_1.out).1; omega))
              obtain ⟨ua230_5, uc230_5, rfl, ul230_5, ge230_5⟩ := k27_openF hMe230
              have hv230_5 := hcc230 5 _ rfl
              rw [add_field _ _ 5 (by omega)] at hv230_5
              replace hv230_5 := Option.some.inj (hv230_5.symm.trans hx230_5)
              injection hv230_5 with hva_ hvn_ hvc_
              rw [hva_] at ge230_5
              rw [hvc_] at ul230_5
              have HL230_5 := zD (show Kd.V k27 27 _ w.heap.size _ _ ((rd_T27 l1 x6_1).f2) from Kd.V_mk ul230_5 ge230_5)
              clear hva_ hvn_ hvc_ ge230_5 ul230_5 hcc230 hce230
              have HR230_5 := zD hi230_5
              have HC230_5 := zD hl230_5
              clear hi230_5 hl230_5
              replace p230 := eq_true p230
              replace q230 := eq_true q230
              have ea_ := Option.some.inj (hx225_5.symm.trans hx230_5)
              injection ea_ with ea_ en_ ec_
              subst ea_
              subst ec_
              clear en_
              go_wp2_with (first | ((with_reducible refine gate_builtin (b := .append) (xs := #[.tmp 27, .tmp 32]) rfl ?_); at_builtin; refine Kd.N_append k27 (w0 := w) w.heap.size rfl (.tmp 27) (.tmp 32) 25 27 (.agg #[(.int .i64 0), (.int .u64 0), (.int .u64 0), (.int .u64 0), (.int .u64 0), (.slice none 0 0), (.int .i64 0), (.int .i64 0)]) 80 rfl Try.underlying25 info27 rfl (by decide) (by omega) u5 x5_1 (⟨(rd_T27 l1 x6_1).f0, (⟨(rd_T27 l1 x6_1).f1.f0, (rd_T27 l1 x6_1).f1.f1, (rd_T27 l1 x6_1).f1.f2, (rd_T27 l1 x6_1).f1.f3⟩ : S24), (rd_T27 l1 x6_1).f2, (rd_T27 l1 x6_1).f3, (rd_T27 l1 x6_1).f4⟩ : S27) [.int .i64 ((rd_T27 l1 x6_1).f0), .int .u64 ((rd_T27 l1 x6_1).f1.f0), .int .u64 ((rd_T27 l1 x6_1).f1.f1), .int .u64 ((rd_T27 l1 x6_1).f1.f2), .int .u64 ((rd_T27 l1 x6_1).f1.f3), .slice A225_5 ((rd_T27 l1 x6_1).f2).length c225_5, .int .i64 ((rd_T27 l1 x6_1).f3), .int .i64 ((rd_T27 l1 x6_1).f4)] (fun k_ => (P1_ k_ ∨ w.heap.size ≤ k_)) (fun k_ => ((fun k_ => (P1_ k_ ∨ w.heap.size ≤ k_))) k_ ∧ some k_ ≠ (u5 : Value).ownBlock) rfl rfl ?aP (fun _ hk => hk) ?aF ?aO ?aB ?aS ?aL ?_; (case aP => exact (k27_mkF _ _ (⟨(rd_T27 l1 x6_1).f0, (⟨(rd_T27 l1 x6_1).f1.f0, (rd_T27 l1 x6_1).f1.f1, (rd_T27 l1 x6_1).f1.f2, (rd_T27 l1 x6_1).f1.f3⟩ : S24), (rd_T27 l1 x6_1).f2, (rd_T27 l1 x6_1).f3, (rd_T27 l1 x6_1).f4⟩ : S27) (Kd.V_reads' (Kd.V_mono (ok' := (fun k_ => ((fun k_ => (P1_ k_ ∨ w.heap.size ≤ k_))) k_ ∧ some k_ ≠ (u5 : Value).ownBlock)) (HL230_5.out) (fun k_ hk => ⟨hk.1, hk.2⟩))).2.1 (Kd.V_F (Kd.V_mono (ok' := (fun k_ => ((fun k_ => (P1_ k_ ∨ w.heap.size ≤ k_))) k_ ∧ some k_ ≠ (u5 : Value).ownBlock)) (HL230_5.out) (fun k_ hk => ⟨hk.1, hk.2⟩))))); (case aB => exact (by repeat (first | (with_reducible first | exact HB.out | apply zC | apply zA | apply zB) | exact HB.out))); (case aF => exact (fun k_ hk => (.inr (Nat.le_trans (below_size (by repeat (first | (with_reducible first | exact HB.out | apply zC | apply zA | apply zB) | exact HB.out))) hk)))); (case aO => exact (by (with_reducible repeat (first | apply Kd.N_alloc | apply Kd.N_drewN | apply Kd.N_drew)); exact HO_5.out)); (case aS => exact (below_size (by repeat (first | (with_reducible first | exact HB.out | apply zC | apply zA | apply zB) | exact HB.out)))); (case aL => have := LMc8.out; omega); intro v232 w9 ho hb hg hat; rw [← Ny231.out] at ho; have n0_ := zD (Kd.V_afterv (ok := (fun k_ => (P1_ k_ ∨ w.heap.size ≤ k_))) (by (with_reducible repeat (first | apply Kd.V_alloc | apply Kd.V_drewN | apply Kd.V_drew)); exact HO_1.out) hg hat); have n1_ := zD (Kd.V_afterv (ok := (fun k_ => (P1_ k_ ∨ w.heap.size ≤ k_))) (by (with_reducible repeat (first | apply Kd.V_alloc | apply Kd.V_drewN | apply Kd.V_drew)); exact HL225_5.out) hg hat); have n2_ := zD (Kd.V_afterv (ok := (fun k_ => (P1_ k_ ∨ w.heap.size ≤ k_))) (by (with_reducible repeat (first | apply Kd.V_alloc | apply Kd.V_drewN | apply Kd.V_drew)); exact HL230_5.out) hg hat); have n3_ := zD (hb); have n4_ := zD (ho); clear HO_1; clear HL225_5; clear HL230_5; clear HB; clear HO_5; have HO_1 := n0_; have HL225_5 := n1_; have HL230_5 := n2_; have HB := n3_; have HO233 := n4_; clear n0_ n1_ n2_ n3_ n4_; clear ho hb hg hat))
              go_roundg k1
              case measure => have := HK1.out; omega
              case rel => exact ⟨(y231), (wrap64 (x6_1 + 1)), (by first | rfl | (simp; done) | (simp [*]; done)), H', ⟨by have := HK1.out; omega⟩, ⟨by (with_reducible repeat (first | apply Kd.V_alloc | apply Kd.V_drewN | apply Kd.V_drew)); exact HO_1.out⟩, ⟨by (with_reducible repeat (first | apply Kd.N_alloc | apply Kd.N_drewN | apply Kd.N_drew)); exact HO233.out⟩, ⟨by repeat (first | (with_reducible first | exact HB.out | apply zC | apply zA | apply zB) | exact HB.out)⟩⟩
            · rw [if_neg c8] at H
              exact absurd H (by simp)
        · rw [if_neg c4] at H
          exact absurd H (by simp)
      · rw [if_neg c3] at H
        have c3b0 : decide (x6_1 < (l1.length : Int)) = false := decide_eq_false c3
        clear c3
        obtain rfl := Option.some.inj H
        go_wp2
        go_ret
        exact ⟨_, by first | rfl | (simp [errW_none, errW_some] <;> rfl) | (simp [*, errW_none, errW_some] <;> rfl), by (with_reducible repeat (first | apply Kd.N_alloc | apply Kd.N_drewN | apply Kd.N_drew)); exact HO_5.out, by repeat (first | (with_reducible first | exact HB.out | apply zC | apply zA | apply zB) | exact HB.out)⟩

end Go.Proofs.Ytlnhiogpjdhhbaa.P
