import Derived.Test.YtlnhiogpjdhhbaaPx0
import Derived.Test.YtlnhiogpjdhhbaaPx1
-- Written by wip/xp.
namespace Go.Proofs.Ytlnhiogpjdhhbaa.P
open Go.RowKit Go.Proofs.YtlnhiogpjdhhbaaW.PrintWords Go.Proofs.YtlnhiogpjdhhbaaW.PrintLast Go.Proofs.YtlnhiogpjdhhbaaW.PrintMore
open Go.Proofs.YtlnhiogpjdhhbaaW.PrintWords renaming blk_frozen → zA, blk_cell → zB, pw_below_drewN → zC, below_drew1 → zD, below_alloc → zE, below_set → zF, blk_alloc → zG, blk_drewN → zH, blk_drew → zI, below_step → zJ, below_size → zK, blk_below → zL
open Go.Proofs.YtlnhiogpjdhhbaaW.PrintWords.Aside0 renaming mk → zM
open Go.World renaming block_lt_of_cell? → zN
attribute [local go_sem] max2_int min2_int max_two min_two max_three min_three max_four min_four   -- for this text's walks alone
set_option linter.unusedVariables false
set_option linter.unusedSimpArgs false

attribute [local go_sem high] eqA24
mutual
def ostinatoref04_Told.l0 : Nat → Int → Int → Int → Int → Int → Int → Int → Int → List (S27) → Int → Int → Option (Bool × Bool)
  | 0, _, _, _, _, _, _, _, _, _, _, _ => none
  | k + 1, x4, x5, x6, x222000, x222001, x222002, x222003, x222004, x222005, x222006, x222007 => if x6 < (x222005.length : Int) then (if 0 ≤ x6 then ((ostinatoref04_Told.f k ((rd_T27 x222005 x6).f0) ((rd_T27 x222005 x6).f1.f0) ((rd_T27 x222005 x6).f1.f1) ((rd_T27 x222005 x6).f1.f2) ((rd_T27 x222005 x6).f1.f3) ((rd_T27 x222005 x6).f2) ((rd_T27 x222005 x6).f3) ((rd_T27 x222005 x6).f4)).bind fun bt223 => (if bt223.1 = true then (if bt223.2 = true then (ostinatoref04_Told.l0 k (wrap64 (x4 + 1)) (wrap64 (x5 + 1)) (wrap64 (x6 + 1)) x222000 x222001 x222002 x222003 x222004 x222005 x222006 x222007) else (ostinatoref04_Told.l0 k (wrap64 (x4 + 1)) x5 (wrap64 (x6 + 1)) x222000 x222001 x222002 x222003 x222004 x222005 x222006 x222007)) else (if bt223.2 = true then (ostinatoref04_Told.l0 k x4 (wrap64 (x5 + 1)) (wrap64 (x6 + 1)) x222000 x222001 x222002 x222003 x222004 x222005 x222006 x222007) else (ostinatoref04_Told.l0 k x4 x5 (wrap64 (x6 + 1)) x222000 x222001 x222002 x222003 x222004 x222005 x222006 x222007)))) else (none)) else (if x222000 = 0 then (some (false, true)) else (if x222000 = 1 then (some ((x222001 == 0 && (x222002 == 0 && (x222003 == 0 && (x222004 == 0)))), false)) else (if x222000 = 2 then (some (decide (x4 > 0), (x5 == (x222005.length : Int)))) else (if x222000 = 3 then (some ((x4 == (x222005.length : Int)), decide (x5 > 0))) else (if x4 > 0 then (if x222006 = 0 then (some (decide (x222006 > 0), true)) else (some (decide (x222006 > 0), decide (x5 > 0)))) else (if x222006 = 0 then (some (false, true)) else (some (false, decide (x5 > 0)))))))))
def ostinatoref04_Told.f : Nat → Int → Int → Int → Int → Int → List (S27) → Int → Int → Option (Bool × Bool)
  | 0, _, _, _, _, _, _, _, _ => none
  | k + 1, a0_0, a0_1, a0_2, a0_3, a0_4, l0_5, a0_6, a0_7 => ostinatoref04_Told.l0 k 0 0 0 a0_0 a0_1 a0_2 a0_3 a0_4 l0_5 a0_6 a0_7
end
theorem ostinatoref04_Told.mono_l : ∀ k, (∀ y0 y1 y2 y3 y4 y5 y6 y7, LeO (ostinatoref04_Told.f k y0 y1 y2 y3 y4 y5 y6 y7) (ostinatoref04_Told.f (k + 1) y0 y1 y2 y3 y4 y5 y6 y7)) ∧ (∀ y0 y1 y2 y3 y4 y5 y6 y7 y8 y9 y10, LeO (ostinatoref04_Told.l0 k y0 y1 y2 y3 y4 y5 y6 y7 y8 y9 y10) (ostinatoref04_Told.l0 (k + 1) y0 y1 y2 y3 y4 y5 y6 y7 y8 y9 y10))
  | 0 => ⟨fun _ _ _ _ _ _ _ _ r h => by simp [ostinatoref04_Told.f] at h, fun _ _ _ _ _ _ _ _ _ _ _ r h => by simp [ostinatoref04_Told.l0] at h⟩
  | k + 1 => by
    obtain ⟨ih0, ih1⟩ := ostinatoref04_Told.mono_l k
    refine ⟨?_, ?_⟩
    · intro y0 y1 y2 y3 y4 y5 y6 y7
      unfold ostinatoref04_Told.f
      repeat' first
      | (with_reducible exact ih0 _ _ _ _ _ _ _ _)
      | (with_reducible exact ih1 _ _ _ _ _ _ _ _ _ _ _)
      | (with_reducible exact LeO.refl _)
      | (with_reducible exact LeO.none _)
      | (with_reducible refine LeO.ite ?_ ?_)
      | (with_reducible refine LeO.bind ?_ (fun _ => ?_))
      | exact ih0 _ _ _ _ _ _ _ _
      | exact ih1 _ _ _ _ _ _ _ _ _ _ _
      | exact LeO.none _
      | refine LeO.ite ?_ ?_
      | refine LeO.bind ?_ (fun _ => ?_)
    · intro y0 y1 y2 y3 y4 y5 y6 y7 y8 y9 y10
      unfold ostinatoref04_Told.l0
      repeat' first
      | (with_reducible exact ih0 _ _ _ _ _ _ _ _)
      | (with_reducible exact ih1 _ _ _ _ _ _ _ _ _ _ _)
      | (with_reducible exact LeO.refl _)
      | (with_reducible exact LeO.none _)
      | (with_reducible refine LeO.ite ?_ ?_)
      | (with_reducible refine LeO.bind ?_ (fun _ => ?_))
      | exact ih0 _ _ _ _ _ _ _ _
      | exact ih1 _ _ _ _ _ _ _ _ _ _ _
      | exact LeO.none _
      | refine LeO.ite ?_ ?_
      | refine LeO.bind ?_ (fun _ => ?_)
theorem ostinatoref04_Told.mono : ∀ a0 a1 a2 a3 a4 a5 a6 a7 k, LeO (ostinatoref04_Told.f k a0 a1 a2 a3 a4 a5 a6 a7) (ostinatoref04_Told.f (k + 1) a0 a1 a2 a3 a4 a5 a6 a7) := by
  intro a0 a1 a2 a3 a4 a5 a6 a7 k
  obtain ⟨ih0, ih1⟩ := ostinatoref04_Told.mono_l k
  exact ih0 a0 a1 a2 a3 a4 a5 a6 a7
set_option maxHeartbeats 8000000 in
set_option maxRecDepth 100000 in
theorem ostinatoref04_Told.calls (k : Nat) : ∀ (a0_0 : Int) (a0_1 : Int) (a0_2 : Int) (a0_3 : Int) (a0_4 : Int) (A0_5 : Option Addr) (c0_5 : Nat) (l0_5 : List (S27)) (a0_6 : Int) (a0_7 : Int) (r1 : Bool) (r2 : Bool) (w : World) (hr0_5 : Kd.C k27 w A0_5 l0_5.length l0_5) (hc0_5 : l0_5.length ≤ c0_5) (h : ostinatoref04_Told.f k a0_0 a0_1 a0_2 a0_3 a0_4 l0_5 a0_6 a0_7 = some (r1, r2)),
  Calls Try.prog 36 #[.agg #[.int .i64 a0_0, .int .u64 a0_1, .int .u64 a0_2, .int .u64 a0_3, .int .u64 a0_4, .slice A0_5 l0_5.length c0_5, .int .i64 a0_6, .int .i64 a0_7]] w fun e w' => e = .returned (.tuple #[.bool r1, .bool r2]) ∧ Below w.heap.size w w' := by
 induction k using Nat.strongRecOn with
 | _ k ih =>
 intro a0_0 a0_1 a0_2 a0_3 a0_4 A0_5 c0_5 l0_5 a0_6 a0_7 r1 r2 w hr0_5 hc0_5 h
 cases k with
 | zero => exact absurd h (by simp [ostinatoref04_Told.f])
 | succ k =>
 simp only [ostinatoref04_Told.f] at h
 have hu27 := Try.underlying27
 have hu24 := Try.underlying24
 have HR0_5 := zM hr0_5
 have HC0_5 := zM hc0_5
 clear hr0_5 hc0_5
 have HB := zM (Below.refl w.heap.size w)
 have H : (ostinatoref04_Told.l0 k 0 0 0 a0_0 a0_1 a0_2 a0_3 a0_4 l0_5 a0_6 a0_7) = some (r1, r2) := h
 clear h
 have H' := zM H
 clear H
 go_enter Try.func36, Try.ntmps36
 go_wp2_with (first | ((with_reducible refine gate_dst (N := 1) rfl ?_); refine box_event ?hg (N := 1) ?hd (cs := #[.int .i64 a0_0, .int .u64 a0_1, .int .u64 a0_2, .int .u64 a0_3, .int .u64 a0_4, .slice A0_5 l0_5.length c0_5, .int .i64 a0_6, .int .i64 a0_7]) (t := 27) ?hr ?_; (case hd => rfl); (case hg => rfl); (case hr => first | (go_simp; done) | (go_simp; rfl)); intro gb221 hg w2 hbox hb; have n0_ := zM (zJ (by repeat (first | (with_reducible first | exact HB.out | apply zE | apply zC | apply zD) | exact HB.out)) hb); have n1_ := zM (hbox); have n2_ := zM ((by rw [hg]; exact (zK (by repeat (first | (with_reducible first | exact HB.out | apply zE | apply zC | apply zD) | exact HB.out))) : w.heap.size ≤ gb221)); have n3_ := zM ((by rw [hg]; exact (zK (by repeat (first | (with_reducible first | exact HB.out | apply zE | apply zC | apply zD) | exact HB.out))) : w.heap.size ≤ gb221)); clear HB; have HB := n0_; have BK221 := n1_; have GW221 := n2_; have GE221 := n3_; clear n0_ n1_ n2_ n3_; clear hb hbox hg))
 repeat (go_quiet (first | ((with_reducible refine gate_dst (N := 1) rfl ?_); refine box_event ?hg (N := 1) ?hd (cs := #[.int .i64 a0_0, .int .u64 a0_1, .int .u64 a0_2, .int .u64 a0_3, .int .u64 a0_4, .slice A0_5 l0_5.length c0_5, .int .i64 a0_6, .int .i64 a0_7]) (t := 27) ?hr ?_; (case hd => rfl); (case hg => rfl); (case hr => first | (go_simp; done) | (go_simp; rfl)); intro gb221 hg w2 hbox hb; have n0_ := zM (zJ (by repeat (first | (with_reducible first | exact HB.out | apply zE | apply zC | apply zD) | exact HB.out)) hb); have n1_ := zM (hbox); have n2_ := zM ((by rw [hg]; exact (zK (by repeat (first | (with_reducible first | exact HB.out | apply zE | apply zC | apply zD) | exact HB.out))) : w.heap.size ≤ gb221)); have n3_ := zM ((by rw [hg]; exact (zK (by repeat (first | (with_reducible first | exact HB.out | apply zE | apply zC | apply zD) | exact HB.out))) : w.heap.size ≤ gb221)); clear HB; have HB := n0_; have BK221 := n1_; have GW221 := n2_; have GE221 := n3_; clear n0_ n1_ n2_ n3_; clear hb hbox hg)); try go_wp2_with (first | ((with_reducible refine gate_dst (N := 1) rfl ?_); refine box_event ?hg (N := 1) ?hd (cs := #[.int .i64 a0_0, .int .u64 a0_1, .int .u64 a0_2, .int .u64 a0_3, .int .u64 a0_4, .slice A0_5 l0_5.length c0_5, .int .i64 a0_6, .int .i64 a0_7]) (t := 27) ?hr ?_; (case hd => rfl); (case hg => rfl); (case hr => first | (go_simp; done) | (go_simp; rfl)); intro gb221 hg w2 hbox hb; have n0_ := zM (zJ (by repeat (first | (with_reducible first | exact HB.out | apply zE | apply zC | apply zD) | exact HB.out)) hb); have n1_ := zM (hbox); have n2_ := zM ((by rw [hg]; exact (zK (by repeat (first | (with_reducible first | exact HB.out | apply zE | apply zC | apply zD) | exact HB.out))) : w.heap.size ≤ gb221)); have n3_ := zM ((by rw [hg]; exact (zK (by repeat (first | (with_reducible first | exact HB.out | apply zE | apply zC | apply zD) | exact HB.out))) : w.heap.size ≤ gb221)); clear HB; have HB := n0_; have BK221 := n1_; have GW221 := n2_; have GE221 := n3_; clear n0_ n1_ n2_ n3_; clear hb hbox hg)))
 go_loopg [4, 5, 6] k (fun kq v4 v5 v6 w' => ∃ (x4_1 : Int) (x5_1 : Int) (x6_1 : Int), v4 = .int .i64 x4_1 ∧ v5 = .int .i64 x5_1 ∧ v6 = .int .i64 x6_1 ∧ Aside0 (ostinatoref04_Told.l0 kq x4_1 x5_1 x6_1 a0_0 a0_1 a0_2 a0_3 a0_4 l0_5 a0_6 a0_7 = some (r1, r2)) ∧ Aside0 (kq ≤ k) ∧ Aside0 (w'.heap[gb221]? = some (.cells #[.int .i64 a0_0, .int .u64 a0_1, .int .u64 a0_2, .int .u64 a0_3, .int .u64 a0_4, (.slice A0_5 l0_5.length c0_5), .int .i64 a0_6, .int .i64 a0_7] 27 (0, 0))) ∧ Aside0 (Below w.heap.size w w'))
 case atStart => exact ⟨(0), (0), (0), (by first | rfl | (simp; done) | (simp [*]; done)), (by first | rfl | (simp; done) | (simp [*]; done)), (by first | rfl | (simp; done) | (simp [*]; done)), H', ⟨Nat.le_refl _⟩, ⟨by (with_reducible repeat (first | refine zH ?_ _ | refine zI ?_ | refine zG ?_ _)); exact BK221.out⟩, ⟨by repeat (first | (with_reducible first | exact HB.out | apply zE | apply zC | apply zD | refine zF ?_ GE221.out) | exact HB.out)⟩⟩
 case round =>
  clear H'
  (try clear p2)
  obtain ⟨x4_1, x5_1, x6_1, rfl, rfl, rfl, HA, HK1, BK221, HB⟩ := hrel
  cases gk with
  | zero => exact absurd HA.out (by simp [ostinatoref04_Told.l0])
  | succ k1 =>
   have H := HA.out
   clear HA
   simp only [ostinatoref04_Told.l0] at H
   by_cases c3 : x6_1 < (l0_5.length : Int)
   ·
    rw [if_pos c3] at H
    have c3b0 : decide (x6_1 < (l0_5.length : Int)) = true := decide_eq_true c3
    clear c3
    by_cases c4 : 0 ≤ x6_1
    ·
     rw [if_pos c4] at H
     have c4b0 : decide (0 ≤ x6_1) = true := decide_eq_true c4
     clear c4
     replace H := Option.bind_eq_some_iff.mp H
     obtain ⟨⟨t223, t224⟩, A50, H⟩ := H
     replace H : (if t223 = true then (if t224 = true then (ostinatoref04_Told.l0 k1 (wrap64 (x4_1 + 1)) (wrap64 (x5_1 + 1)) (wrap64 (x6_1 + 1)) a0_0 a0_1 a0_2 a0_3 a0_4 l0_5 a0_6 a0_7) else (ostinatoref04_Told.l0 k1 (wrap64 (x4_1 + 1)) x5_1 (wrap64 (x6_1 + 1)) a0_0 a0_1 a0_2 a0_3 a0_4 l0_5 a0_6 a0_7)) else (if t224 = true then (ostinatoref04_Told.l0 k1 x4_1 (wrap64 (x5_1 + 1)) (wrap64 (x6_1 + 1)) a0_0 a0_1 a0_2 a0_3 a0_4 l0_5 a0_6 a0_7) else (ostinatoref04_Told.l0 k1 x4_1 x5_1 (wrap64 (x6_1 + 1)) a0_0 a0_1 a0_2 a0_3 a0_4 l0_5 a0_6 a0_7))) = some (r1, r2) := H
     have A5 := zM A50
     clear A50
     by_cases c6 : t223 = true
     ·
      subst c6
      have H1 : (if t224 = true then (ostinatoref04_Told.l0 k1 (wrap64 (x4_1 + 1)) (wrap64 (x5_1 + 1)) (wrap64 (x6_1 + 1)) a0_0 a0_1 a0_2 a0_3 a0_4 l0_5 a0_6 a0_7) else (ostinatoref04_Told.l0 k1 (wrap64 (x4_1 + 1)) x5_1 (wrap64 (x6_1 + 1)) a0_0 a0_1 a0_2 a0_3 a0_4 l0_5 a0_6 a0_7)) = some (r1, r2) := by rw [if_pos rfl] at H; exact H
      clear H
      have H := H1
      clear H1
      by_cases c7 : t224 = true
      ·
       subst c7
       have H1 : (ostinatoref04_Told.l0 k1 (wrap64 (x4_1 + 1)) (wrap64 (x5_1 + 1)) (wrap64 (x6_1 + 1)) a0_0 a0_1 a0_2 a0_3 a0_4 l0_5 a0_6 a0_7) = some (r1, r2) := by rw [if_pos rfl] at H; exact H
       clear H
       have H := H1
       clear H1
       have H' := zM H
       clear H
       have hcz8_0 : wr.cell? ⟨gb221, 0, none⟩ = some (.int .i64 a0_0) := (zB BK221.out 0).trans rfl
       have hcz8_1 : wr.cell? ⟨gb221, 1, none⟩ = some (.int .u64 a0_1) := (zB BK221.out 1).trans rfl
       have hcz8_2 : wr.cell? ⟨gb221, 2, none⟩ = some (.int .u64 a0_2) := (zB BK221.out 2).trans rfl
       have hcz8_3 : wr.cell? ⟨gb221, 3, none⟩ = some (.int .u64 a0_3) := (zB BK221.out 3).trans rfl
       have hcz8_4 : wr.cell? ⟨gb221, 4, none⟩ = some (.int .u64 a0_4) := (zB BK221.out 4).trans rfl
       have hcz8_5 : wr.cell? ⟨gb221, 5, none⟩ = some (.slice A0_5 l0_5.length c0_5) := (zB BK221.out 5).trans rfl
       have hcz8_6 : wr.cell? ⟨gb221, 6, none⟩ = some (.int .i64 a0_6) := (zB BK221.out 6).trans rfl
       have hcz8_7 : wr.cell? ⟨gb221, 7, none⟩ = some (.int .i64 a0_7) := (zB BK221.out 7).trans rfl
       have hfz8_0 := zA BK221.out 0
       have hfz8_1 := zA BK221.out 1
       have hfz8_2 := zA BK221.out 2
       have hfz8_3 := zA BK221.out 3
       have hfz8_4 := zA BK221.out 4
       have hfz8_5 := zA BK221.out 5
       have hfz8_6 := zA BK221.out 6
       have hfz8_7 := zA BK221.out 7
       have p222 : 0 ≤ (x6_1 : Int) := of_decide_eq_true (by first | (with_reducible assumption) | assumption)
       have q222 : x6_1 < (l0_5.length : Int) := of_decide_eq_true (by first | (with_reducible assumption) | assumption)
       obtain ⟨ad222, A222_5, c222_5, e222, hx222_0, hx222_1, hx222_2, hx222_3, hx222_4, hx222_5, hx222_6, hx222_7, hl222_5, hi222_5⟩ := at_T27 HR0_5.out x6_1 p222 q222
       cases e222
       replace hx222_0 := (HB.out.cell (zN w _ hx222_0)).trans hx222_0
       replace hx222_1 := (HB.out.cell (zN w _ hx222_1)).trans hx222_1
       replace hx222_2 := (HB.out.cell (zN w _ hx222_2)).trans hx222_2
       replace hx222_3 := (HB.out.cell (zN w _ hx222_3)).trans hx222_3
       replace hx222_4 := (HB.out.cell (zN w _ hx222_4)).trans hx222_4
       replace hx222_5 := (HB.out.cell (zN w _ hx222_5)).trans hx222_5
       replace hx222_6 := (HB.out.cell (zN w _ hx222_6)).trans hx222_6
       replace hx222_7 := (HB.out.cell (zN w _ hx222_7)).trans hx222_7
       have HR222_5 := zM hi222_5
       have HC222_5 := zM hl222_5
       clear hi222_5 hl222_5
       replace p222 := eq_true p222
       replace q222 := eq_true q222
       go_wp2_with (first | (go_at_call 36; (with_reducible refine (ih k1 (by have := HK1.out; omega) ((rd_T27 l0_5 x6_1).f0) ((rd_T27 l0_5 x6_1).f1.f0) ((rd_T27 l0_5 x6_1).f1.f1) ((rd_T27 l0_5 x6_1).f1.f2) ((rd_T27 l0_5 x6_1).f1.f3) _ _ ((rd_T27 l0_5 x6_1).f2) ((rd_T27 l0_5 x6_1).f3) ((rd_T27 l0_5 x6_1).f4) true true _ ?side1 ?side2 A5.out).mono ?_); (case side1 => repeat (first | exact (Kd.C_below HR222_5.out HB.out) | (with_reducible refine Kd.C_alloc ?_ _) | (with_reducible refine Kd.C_drewN ?_ _) | (with_reducible refine Kd.C_drew ?_))); (case side2 => exact HC222_5.out); rintro e w9 ⟨rfl, hb⟩; have n0_ := zM (zL (g := gb221) (o := .cells #[.int .i64 a0_0, .int .u64 a0_1, .int .u64 a0_2, .int .u64 a0_3, .int .u64 a0_4, .slice (some ad222) l0_5.length c0_5, .int .i64 a0_6, .int .i64 a0_7] 27 (0, 0)) (by (with_reducible repeat (first | refine zH ?_ _ | refine zI ?_ | refine zG ?_ _)); exact BK221.out) hb); have n1_ := zM (zJ (by repeat (first | (with_reducible first | exact HB.out | apply zE | apply zC | apply zD | refine zF ?_ GE221.out) | exact HB.out)) hb); clear BK221; clear HB; have BK221 := n0_; have HB := n1_; clear n0_ n1_; (try clear hb); (try clear hb2); (try clear hk); (try clear hi)))
       repeat (go_quiet (first | (go_at_call 36; (with_reducible refine (ih k1 (by have := HK1.out; omega) ((rd_T27 l0_5 x6_1).f0) ((rd_T27 l0_5 x6_1).f1.f0) ((rd_T27 l0_5 x6_1).f1.f1) ((rd_T27 l0_5 x6_1).f1.f2) ((rd_T27 l0_5 x6_1).f1.f3) _ _ ((rd_T27 l0_5 x6_1).f2) ((rd_T27 l0_5 x6_1).f3) ((rd_T27 l0_5 x6_1).f4) true true _ ?side1 ?side2 A5.out).mono ?_); (case side1 => repeat (first | exact (Kd.C_below HR222_5.out HB.out) | (with_reducible refine Kd.C_alloc ?_ _) | (with_reducible refine Kd.C_drewN ?_ _) | (with_reducible refine Kd.C_drew ?_))); (case side2 => exact HC222_5.out); rintro e w9 ⟨rfl, hb⟩; have n0_ := zM (zL (g := gb221) (o := .cells #[.int .i64 a0_0, .int .u64 a0_1, .int .u64 a0_2, .int .u64 a0_3, .int .u64 a0_4, .slice (some ad222) l0_5.length c0_5, .int .i64 a0_6, .int .i64 a0_7] 27 (0, 0)) (by (with_reducible repeat (first | refine zH ?_ _ | refine zI ?_ | refine zG ?_ _)); exact BK221.out) hb); have n1_ := zM (zJ (by repeat (first | (with_reducible first | exact HB.out | apply zE | apply zC | apply zD | refine zF ?_ GE221.out) | exact HB.out)) hb); clear BK221; clear HB; have BK221 := n0_; have HB := n1_; clear n0_ n1_; (try clear hb); (try clear hb2); (try clear hk); (try clear hi))); try go_wp2_with (first | (go_at_call 36; (with_reducible refine (ih k1 (by have := HK1.out; omega) ((rd_T27 l0_5 x6_1).f0) ((rd_T27 l0_5 x6_1).f1.f0) ((rd_T27 l0_5 x6_1).f1.f1) ((rd_T27 l0_5 x6_1).f1.f2) ((rd_T27 l0_5 x6_1).f1.f3) _ _ ((rd_T27 l0_5 x6_1).f2) ((rd_T27 l0_5 x6_1).f3) ((rd_T27 l0_5 x6_1).f4) true true _ ?side1 ?side2 A5.out).mono ?_); (case side1 => repeat (first | exact (Kd.C_below HR222_5.out HB.out) | (with_reducible refine Kd.C_alloc ?_ _) | (with_reducible refine Kd.C_drewN ?_ _) | (with_reducible refine Kd.C_drew ?_))); (case side2 => exact HC222_5.out); rintro e w9 ⟨rfl, hb⟩; have n0_ := zM (zL (g := gb221) (o := .cells #[.int .i64 a0_0, .int .u64 a0_1, .int .u64 a0_2, .int .u64 a0_3, .int .u64 a0_4, .slice (some ad222) l0_5.length c0_5, .int .i64 a0_6, .int .i64 a0_7] 27 (0, 0)) (by (with_reducible repeat (first | refine zH ?_ _ | refine zI ?_ | refine zG ?_ _)); exact BK221.out) hb); have n1_ := zM (zJ (by repeat (first | (with_reducible first | exact HB.out | apply zE | apply zC | apply zD | refine zF ?_ GE221.out) | exact HB.out)) hb); clear BK221; clear HB; have BK221 := n0_; have HB := n1_; clear n0_ n1_; (try clear hb); (try clear hb2); (try clear hk); (try clear hi))))
       go_roundg k1
       case measure => have := HK1.out; omega
       case rel => exact ⟨(wrap64 (x4_1 + 1)), (wrap64 (x5_1 + 1)), (wrap64 (x6_1 + 1)), (by first | rfl | (simp; done) | (simp [*]; done)), (by first | rfl | (simp; done) | (simp [*]; done)), (by first | rfl | (simp; done) | (simp [*]; done)), H', ⟨by have := HK1.out; omega⟩, ⟨by (with_reducible repeat (first | refine zH ?_ _ | refine zI ?_ | refine zG ?_ _)); exact BK221.out⟩, ⟨by repeat (first | (with_reducible first | exact HB.out | apply zE | apply zC | apply zD | refine zF ?_ GE221.out) | exact HB.out)⟩⟩
      ·
       replace c7 := Bool.eq_false_iff.mpr c7
       subst c7
       have H1 : (ostinatoref04_Told.l0 k1 (wrap64 (x4_1 + 1)) x5_1 (wrap64 (x6_1 + 1)) a0_0 a0_1 a0_2 a0_3 a0_4 l0_5 a0_6 a0_7) = some (r1, r2) := by rw [if_neg (show ¬ (false = true) by decide)] at H; exact H
       clear H
       have H := H1
       clear H1
       have H' := zM H
       clear H
       have hcz10_0 : wr.cell? ⟨gb221, 0, none⟩ = some (.int .i64 a0_0) := (zB BK221.out 0).trans rfl
       have hcz10_1 : wr.cell? ⟨gb221, 1, none⟩ = some (.int .u64 a0_1) := (zB BK221.out 1).trans rfl
       have hcz10_2 : wr.cell? ⟨gb221, 2, none⟩ = some (.int .u64 a0_2) := (zB BK221.out 2).trans rfl
       have hcz10_3 : wr.cell? ⟨gb221, 3, none⟩ = some (.int .u64 a0_3) := (zB BK221.out 3).trans rfl
       have hcz10_4 : wr.cell? ⟨gb221, 4, none⟩ = some (.int .u64 a0_4) := (zB BK221.out 4).trans rfl
       have hcz10_5 : wr.cell? ⟨gb221, 5, none⟩ = some (.slice A0_5 l0_5.length c0_5) := (zB BK221.out 5).trans rfl
       have hcz10_6 : wr.cell? ⟨gb221, 6, none⟩ = some (.int .i64 a0_6) := (zB BK221.out 6).trans rfl
       have hcz10_7 : wr.cell? ⟨gb221, 7, none⟩ = some (.int .i64 a0_7) := (zB BK221.out 7).trans rfl
       have hfz10_0 := zA BK221.out 0
       have hfz10_1 := zA BK221.out 1
       have hfz10_2 := zA BK221.out 2
       have hfz10_3 := zA BK221.out 3
       have hfz10_4 := zA BK221.out 4
       have hfz10_5 := zA BK221.out 5
       have hfz10_6 := zA BK221.out 6
       have hfz10_7 := zA BK221.out 7
       have p222 : 0 ≤ (x6_1 : Int) := of_decide_eq_true (by first | (with_reducible assumption) | assumption)
       have q222 : x6_1 < (l0_5.length : Int) := of_decide_eq_true (by first | (with_reducible assumption) | assumption)
       obtain ⟨ad222, A222_5, c222_5, e222, hx222_0, hx222_1, hx222_2, hx222_3, hx222_4, hx222_5, hx222_6, hx222_7, hl222_5, hi222_5⟩ := at_T27 HR0_5.out x6_1 p222 q222
       cases e222
       replace hx222_0 := (HB.out.cell (zN w _ hx222_0)).trans hx222_0
       replace hx222_1 := (HB.out.cell (zN w _ hx222_1)).trans hx222_1
       replace hx222_2 := (HB.out.cell (zN w _ hx222_2)).trans hx222_2
       replace hx222_3 := (HB.out.cell (zN w _ hx222_3)).trans hx222_3
       replace hx222_4 := (HB.out.cell (zN w _ hx222_4)).trans hx222_4
       replace hx222_5 := (HB.out.cell (zN w _ hx222_5)).trans hx222_5
       replace hx222_6 := (HB.out.cell (zN w _ hx222_6)).trans hx222_6
       replace hx222_7 := (HB.out.cell (zN w _ hx222_7)).trans hx222_7
       have HR222_5 := zM hi222_5
       have HC222_5 := zM hl222_5
       clear hi222_5 hl222_5
       replace p222 := eq_true p222
       replace q222 := eq_true q222
       go_wp2_with (first | (go_at_call 36; (with_reducible refine (ih k1 (by have := HK1.out; omega) ((rd_T27 l0_5 x6_1).f0) ((rd_T27 l0_5 x6_1).f1.f0) ((rd_T27 l0_5 x6_1).f1.f1) ((rd_T27 l0_5 x6_1).f1.f2) ((rd_T27 l0_5 x6_1).f1.f3) _ _ ((rd_T27 l0_5 x6_1).f2) ((rd_T27 l0_5 x6_1).f3) ((rd_T27 l0_5 x6_1).f4) true false _ ?side1 ?side2 A5.out).mono ?_); (case side1 => repeat (first | exact (Kd.C_below HR222_5.out HB.out) | (with_reducible refine Kd.C_alloc ?_ _) | (with_reducible refine Kd.C_drewN ?_ _) | (with_reducible refine Kd.C_drew ?_))); (case side2 => exact HC222_5.out); rintro e w11 ⟨rfl, hb⟩; have n0_ := zM (zL (g := gb221) (o := .cells #[.int .i64 a0_0, .int .u64 a0_1, .int .u64 a0_2, .int .u64 a0_3, .int .u64 a0_4, .slice (some ad222) l0_5.length c0_5, .int .i64 a0_6, .int .i64 a0_7] 27 (0, 0)) (by (with_reducible repeat (first | refine zH ?_ _ | refine zI ?_ | refine zG ?_ _)); exact BK221.out) hb); have n1_ := zM (zJ (by repeat (first | (with_reducible first | exact HB.out | apply zE | apply zC | apply zD | refine zF ?_ GE221.out) | exact HB.out)) hb); clear BK221; clear HB; have BK221 := n0_; have HB := n1_; clear n0_ n1_; (try clear hb); (try clear hb2); (try clear hk); (try clear hi)))
       repeat (go_quiet (first | (go_at_call 36; (with_reducible refine (ih k1 (by have := HK1.out; omega) ((rd_T27 l0_5 x6_1).f0) ((rd_T27 l0_5 x6_1).f1.f0) ((rd_T27 l0_5 x6_1).f1.f1) ((rd_T27 l0_5 x6_1).f1.f2) ((rd_T27 l0_5 x6_1).f1.f3) _ _ ((rd_T27 l0_5 x6_1).f2) ((rd_T27 l0_5 x6_1).f3) ((rd_T27 l0_5 x6_1).f4) true false _ ?side1 ?side2 A5.out).mono ?_); (case side1 => repeat (first | exact (Kd.C_below HR222_5.out HB.out) | (with_reducible refine Kd.C_alloc ?_ _) | (with_reducible refine Kd.C_drewN ?_ _) | (with_reducible refine Kd.C_drew ?_))); (case side2 => exact HC222_5.out); rintro e w11 ⟨rfl, hb⟩; have n0_ := zM (zL (g := gb221) (o := .cells #[.int .i64 a0_0, .int .u64 a0_1, .int .u64 a0_2, .int .u64 a0_3, .int .u64 a0_4, .slice (some ad222) l0_5.length c0_5, .int .i64 a0_6, .int .i64 a0_7] 27 (0, 0)) (by (with_reducible repeat (first | refine zH ?_ _ | refine zI ?_ | refine zG ?_ _)); exact BK221.out) hb); have n1_ := zM (zJ (by repeat (first | (with_reducible first | exact HB.out | apply zE | apply zC | apply zD | refine zF ?_ GE221.out) | exact HB.out)) hb); clear BK221; clear HB; have BK221 := n0_; have HB := n1_; clear n0_ n1_; (try clear hb); (try clear hb2); (try clear hk); (try clear hi))); try go_wp2_with (first | (go_at_call 36; (with_reducible refine (ih k1 (by have := HK1.out; omega) ((rd_T27 l0_5 x6_1).f0) ((rd_T27 l0_5 x6_1).f1.f0) ((rd_T27 l0_5 x6_1).f1.f1) ((rd_T27 l0_5 x6_1).f1.f2) ((rd_T27 l0_5 x6_1).f1.f3) _ _ ((rd_T27 l0_5 x6_1).f2) ((rd_T27 l0_5 x6_1).f3) ((rd_T27 l0_5 x6_1).f4) true false _ ?side1 ?side2 A5.out).mono ?_); (case side1 => repeat (first | exact (Kd.C_below HR222_5.out HB.out) | (with_reducible refine Kd.C_alloc ?_ _) | (with_reducible refine Kd.C_drewN ?_ _) | (with_reducible refine Kd.C_drew ?_))); (case side2 => exact HC222_5.out); rintro e w11 ⟨rfl, hb⟩; have n0_ := zM (zL (g := gb221) (o := .cells #[.int .i64 a0_0, .int .u64 a0_1, .int .u64 a0_2, .int .u64 a0_3, .int .u64 a0_4, .slice (some ad222) l0_5.length c0_5, .int .i64 a0_6, .int .i64 a0_7] 27 (0, 0)) (by (with_reducible repeat (first | refine zH ?_ _ | refine zI ?_ | refine zG ?_ _)); exact BK221.out) hb); have n1_ := zM (zJ (by repeat (first | (with_reducible first | exact HB.out | apply zE | apply zC | apply zD | refine zF ?_ GE221.out) | exact HB.out)) hb); clear BK221; clear HB; have BK221 := n0_; have HB := n1_; clear n0_ n1_; (try clear hb); (try clear hb2); (try clear hk); (try clear hi))))
       go_roundg k1
       case measure => have := HK1.out; omega
       case rel => exact ⟨(wrap64 (x4_1 + 1)), (x5_1), (wrap64 (x6_1 + 1)), (by first | rfl | (simp; done) | (simp [*]; done)), (by first | rfl | (simp; done) | (simp [*]; done)), (by first | rfl | (simp; done) | (simp [*]; done)), H', ⟨by have := HK1.out; omega⟩, ⟨by (with_reducible repeat (first | refine zH ?_ _ | refine zI ?_ | refine zG ?_ _)); exact BK221.out⟩, ⟨by repeat (first | (with_reducible first | exact HB.out | apply zE | apply zC | apply zD | refine zF ?_ GE221.out) | exact HB.out)⟩⟩
     ·
      replace c6 := Bool.eq_false_iff.mpr c6
      subst c6
      have H1 : (if t224 = true then (ostinatoref04_Told.l0 k1 x4_1 (wrap64 (x5_1 + 1)) (wrap64 (x6_1 + 1)) a0_0 a0_1 a0_2 a0_3 a0_4 l0_5 a0_6 a0_7) else (ostinatoref04_Told.l0 k1 x4_1 x5_1 (wrap64 (x6_1 + 1)) a0_0 a0_1 a0_2 a0_3 a0_4 l0_5 a0_6 a0_7)) = some (r1, r2) := by rw [if_neg (show ¬ (false = true) by decide)] at H; exact H
      clear H
      have H := H1
      clear H1
      by_cases c12 : t224 = true
      ·
       subst c12
       have H1 : (ostinatoref04_Told.l0 k1 x4_1 (wrap64 (x5_1 + 1)) (wrap64 (x6_1 + 1)) a0_0 a0_1 a0_2 a0_3 a0_4 l0_5 a0_6 a0_7) = some (r1, r2) := by rw [if_pos rfl] at H; exact H
       clear H
       have H := H1
       clear H1
       have H' := zM H
       clear H
       have hcz13_0 : wr.cell? ⟨gb221, 0, none⟩ = some (.int .i64 a0_0) := (zB BK221.out 0).trans rfl
       have hcz13_1 : wr.cell? ⟨gb221, 1, none⟩ = some (.int .u64 a0_1) := (zB BK221.out 1).trans rfl
       have hcz13_2 : wr.cell? ⟨gb221, 2, none⟩ = some (.int .u64 a0_2) := (zB BK221.out 2).trans rfl
       have hcz13_3 : wr.cell? ⟨gb221, 3, none⟩ = some (.int .u64 a0_3) := (zB BK221.out 3).trans rfl
       have hcz13_4 : wr.cell? ⟨gb221, 4, none⟩ = some (.int .u64 a0_4) := (zB BK221.out 4).trans rfl
       have hcz13_5 : wr.cell? ⟨gb221, 5, none⟩ = some (.slice A0_5 l0_5.length c0_5) := (zB BK221.out 5).trans rfl
       have hcz13_6 : wr.cell? ⟨gb221, 6, none⟩ = some (.int .i64 a0_6) := (zB BK221.out 6).trans rfl
       have hcz13_7 : wr.cell? ⟨gb221, 7, none⟩ = some (.int .i64 a0_7) := (zB BK221.out 7).trans rfl
       have hfz13_0 := zA BK221.out 0
       have hfz13_1 := zA BK221.out 1
       have hfz13_2 := zA BK221.out 2
       have hfz13_3 := zA BK221.out 3
       have hfz13_4 := zA BK221.out 4
       have hfz13_5 := zA BK221.out 5
       have hfz13_6 := zA BK221.out 6
       have hfz13_7 := zA BK221.out 7
       have p222 : 0 ≤ (x6_1 : Int) := of_decide_eq_true (by first | (with_reducible assumption) | assumption)
       have q222 : x6_1 < (l0_5.length : Int) := of_decide_eq_true (by first | (with_reducible assumption) | assumption)
       obtain ⟨ad222, A222_5, c222_5, e222, hx222_0, hx222_1, hx222_2, hx222_3, hx222_4, hx222_5, hx222_6, hx222_7, hl222_5, hi222_5⟩ := at_T27 HR0_5.out x6_1 p222 q222
       cases e222
       replace hx222_0 := (HB.out.cell (zN w _ hx222_0)).trans hx222_0
       replace hx222_1 := (HB.out.cell (zN w _ hx222_1)).trans hx222_1
       replace hx222_2 := (HB.out.cell (zN w _ hx222_2)).trans hx222_2
       replace hx222_3 := (HB.out.cell (zN w _ hx222_3)).trans hx222_3
       replace hx222_4 := (HB.out.cell (zN w _ hx222_4)).trans hx222_4
       replace hx222_5 := (HB.out.cell (zN w _ hx222_5)).trans hx222_5
       replace hx222_6 := (HB.out.cell (zN w _ hx222_6)).trans hx222_6
       replace hx222_7 := (HB.out.cell (zN w _ hx222_7)).trans hx222_7
       have HR222_5 := zM hi222_5
       have HC222_5 := zM hl222_5
       clear hi222_5 hl222_5
       replace p222 := eq_true p222
       replace q222 := eq_true q222
       go_wp2_with (first | (go_at_call 36; (with_reducible refine (ih k1 (by have := HK1.out; omega) ((rd_T27 l0_5 x6_1).f0) ((rd_T27 l0_5 x6_1).f1.f0) ((rd_T27 l0_5 x6_1).f1.f1) ((rd_T27 l0_5 x6_1).f1.f2) ((rd_T27 l0_5 x6_1).f1.f3) _ _ ((rd_T27 l0_5 x6_1).f2) ((rd_T27 l0_5 x6_1).f3) ((rd_T27 l0_5 x6_1).f4) false true _ ?side1 ?side2 A5.out).mono ?_); (case side1 => repeat (first | exact (Kd.C_below HR222_5.out HB.out) | (with_reducible refine Kd.C_alloc ?_ _) | (with_reducible refine Kd.C_drewN ?_ _) | (with_reducible refine Kd.C_drew ?_))); (case side2 => exact HC222_5.out); rintro e w14 ⟨rfl, hb⟩; have n0_ := zM (zL (g := gb221) (o := .cells #[.int .i64 a0_0, .int .u64 a0_1, .int .u64 a0_2, .int .u64 a0_3, .int .u64 a0_4, .slice (some ad222) l0_5.length c0_5, .int .i64 a0_6, .int .i64 a0_7] 27 (0, 0)) (by (with_reducible repeat (first | refine zH ?_ _ | refine zI ?_ | refine zG ?_ _)); exact BK221.out) hb); have n1_ := zM (zJ (by repeat (first | (with_reducible first | exact HB.out | apply zE | apply zC | apply zD | refine zF ?_ GE221.out) | exact HB.out)) hb); clear BK221; clear HB; have BK221 := n0_; have HB := n1_; clear n0_ n1_; (try clear hb); (try clear hb2); (try clear hk); (try clear hi)))
       repeat (go_quiet (first | (go_at_call 36; (with_reducible refine (ih k1 (by have := HK1.out; omega) ((rd_T27 l0_5 x6_1).f0) ((rd_T27 l0_5 x6_1).f1.f0) ((rd_T27 l0_5 x6_1).f1.f1) ((rd_T27 l0_5 x6_1).f1.f2) ((rd_T27 l0_5 x6_1).f1.f3) _ _ ((rd_T27 l0_5 x6_1).f2) ((rd_T27 l0_5 x6_1).f3) ((rd_T27 l0_5 x6_1).f4) false true _ ?side1 ?side2 A5.out).mono ?_); (case side1 => repeat (first | exact (Kd.C_below HR222_5.out HB.out) | (with_reducible refine Kd.C_alloc ?_ _) | (with_reducible refine Kd.C_drewN ?_ _) | (with_reducible refine Kd.C_drew ?_))); (case side2 => exact HC222_5.out); rintro e w14 ⟨rfl, hb⟩; have n0_ := zM (zL (g := gb221) (o := .cells #[.int .i64 a0_0, .int .u64 a0_1, .int .u64 a0_2, .int .u64 a0_3, .int .u64 a0_4, .slice (some ad222) l0_5.length c0_5, .int .i64 a0_6, .int .i64 a0_7] 27 (0, 0)) (by (with_reducible repeat (first | refine zH ?_ _ | refine zI ?_ | refine zG ?_ _)); exact BK221.out) hb); have n1_ := zM (zJ (by repeat (first | (with_reducible first | exact HB.out | apply zE | apply zC | apply zD | refine zF ?_ GE221.out) | exact HB.out)) hb); clear BK221; clear HB; have BK221 := n0_; have HB := n1_; clear n0_ n1_; (try clear hb); (try clear hb2); (try clear hk); (try clear hi))); try go_wp2_with (first | (go_at_call 36; (with_reducible refine (ih k1 (by have := HK1.out; omega) ((rd_T27 l0_5 x6_1).f0) ((rd_T27 l0_5 x6_1).f1.f0) ((rd_T27 l0_5 x6_1).f1.f1) ((rd_T27 l0_5 x6_1).f1.f2) ((rd_T27 l0_5 x6_1).f1.f3) _ _ ((rd_T27 l0_5 x6_1).f2) ((rd_T27 l0_5 x6_1).f3) ((rd_T27 l0_5 x6_1).f4) false true _ ?side1 ?side2 A5.out).mono ?_); (case side1 => repeat (first | exact (Kd.C_below HR222_5.out HB.out) | (with_reducible refine Kd.C_alloc ?_ _) | (with_reducible refine Kd.C_drewN ?_ _) | (with_reducible refine Kd.C_drew ?_))); (case side2 => exact HC222_5.out); rintro e w14 ⟨rfl, hb⟩; have n0_ := zM (zL (g := gb221) (o := .cells #[.int .i64 a0_0, .int .u64 a0_1, .int .u64 a0_2, .int .u64 a0_3, .int .u64 a0_4, .slice (some ad222) l0_5.length c0_5, .int .i64 a0_6, .int .i64 a0_7] 27 (0, 0)) (by (with_reducible repeat (first | refine zH ?_ _ | refine zI ?_ | refine zG ?_ _)); exact BK221.out) hb); have n1_ := zM (zJ (by repeat (first | (with_reducible first | exact HB.out | apply zE | apply zC | apply zD | refine zF ?_ GE221.out) | exact HB.out)) hb); clear BK221; clear HB; have BK221 := n0_; have HB := n1_; clear n0_ n1_; (try clear hb); (try clear hb2); (try clear hk); (try clear hi))))
       go_roundg k1
       case measure => have := HK1.out; omega
       case rel => exact ⟨(x4_1), (wrap64 (x5_1 + 1)), (wrap64 (x6_1 + 1)), (by first | rfl | (simp; done) | (simp [*]; done)), (by first | rfl | (simp; done) | (simp [*]; done)), (by first | rfl | (simp; done) | (simp [*]; done)), H', ⟨by have := HK1.out; omega⟩, ⟨by (with_reducible repeat (first | refine zH ?_ _ | refine zI ?_ | refine zG ?_ _)); exact BK221.out⟩, ⟨by repeat (first | (with_reducible first | exact HB.out | apply zE | apply zC | apply zD | refine zF ?_ GE221.out) | exact HB.out)⟩⟩
      ·
       replace c12 := Bool.eq_false_iff.mpr c12
       subst c12
       have H1 : (ostinatoref04_Told.l0 k1 x4_1 x5_1 (wrap64 (x6_1 + 1)) a0_0 a0_1 a0_2 a0_3 a0_4 l0_5 a0_6 a0_7) = some (r1, r2) := by rw [if_neg (show ¬ (false = true) by decide)] at H; exact H
       clear H
       have H := H1
       clear H1
       have H' := zM H
       clear H
       have hcz15_0 : wr.cell? ⟨gb221, 0, none⟩ = some (.int .i64 a0_0) := (zB BK221.out 0).trans rfl
       have hcz15_1 : wr.cell? ⟨gb221, 1, none⟩ = some (.int .u64 a0_1) := (zB BK221.out 1).trans rfl
       have hcz15_2 : wr.cell? ⟨gb221, 2, none⟩ = some (.int .u64 a0_2) := (zB BK221.out 2).trans rfl
       have hcz15_3 : wr.cell? ⟨gb221, 3, none⟩ = some (.int .u64 a0_3) := (zB BK221.out 3).trans rfl
       have hcz15_4 : wr.cell? ⟨gb221, 4, none⟩ = some (.int .u64 a0_4) := (zB BK221.out 4).trans rfl
       have hcz15_5 : wr.cell? ⟨gb221, 5, none⟩ = some (.slice A0_5 l0_5.length c0_5) := (zB BK221.out 5).trans rfl
       have hcz15_6 : wr.cell? ⟨gb221, 6, none⟩ = some (.int .i64 a0_6) := (zB BK221.out 6).trans rfl
       have hcz15_7 : wr.cell? ⟨gb221, 7, none⟩ = some (.int .i64 a0_7) := (zB BK221.out 7).trans rfl
       have hfz15_0 := zA BK221.out 0
       have hfz15_1 := zA BK221.out 1
       have hfz15_2 := zA BK221.out 2
       have hfz15_3 := zA BK221.out 3
       have hfz15_4 := zA BK221.out 4
       have hfz15_5 := zA BK221.out 5
       have hfz15_6 := zA BK221.out 6
       have hfz15_7 := zA BK221.out 7
       have p222 : 0 ≤ (x6_1 : Int) := of_decide_eq_true (by first | (with_reducible assumption) | assumption)
       have q222 : x6_1 < (l0_5.length : Int) := of_decide_eq_true (by first | (with_reducible assumption) | assumption)
       obtain ⟨ad222, A222_5, c222_5, e222, hx222_0, hx222_1, hx222_2, hx222_3, hx222_4, hx222_5, hx222_6, hx222_7, hl222_5, hi222_5⟩ := at_T27 HR0_5.out x6_1 p222 q222
       cases e222
       replace hx222_0 := (HB.out.cell (zN w _ hx222_0)).trans hx222_0
       replace hx222_1 := (HB.out.cell (zN w _ hx222_1)).trans hx222_1
       replace hx222_2 := (HB.out.cell (zN w _ hx222_2)).trans hx222_2
       replace hx222_3 := (HB.out.cell (zN w _ hx222_3)).trans hx222_3
       replace hx222_4 := (HB.out.cell (zN w _ hx222_4)).trans hx222_4
       replace hx222_5 := (HB.out.cell (zN w _ hx222_5)).trans hx222_5
       replace hx222_6 := (HB.out.cell (zN w _ hx222_6)).trans hx222_6
       replace hx222_7 := (HB.out.cell (zN w _ hx222_7)).trans hx222_7
       have HR222_5 := zM hi222_5
       have HC222_5 := zM hl222_5
       clear hi222_5 hl222_5
       replace p222 := eq_true p222
       replace q222 := eq_true q222
       go_wp2_with (first | (go_at_call 36; (with_reducible refine (ih k1 (by have := HK1.out; omega) ((rd_T27 l0_5 x6_1).f0) ((rd_T27 l0_5 x6_1).f1.f0) ((rd_T27 l0_5 x6_1).f1.f1) ((rd_T27 l0_5 x6_1).f1.f2) ((rd_T27 l0_5 x6_1).f1.f3) _ _ ((rd_T27 l0_5 x6_1).f2) ((rd_T27 l0_5 x6_1).f3) ((rd_T27 l0_5 x6_1).f4) false false _ ?side1 ?side2 A5.out).mono ?_); (case side1 => repeat (first | exact (Kd.C_below HR222_5.out HB.out) | (with_reducible refine Kd.C_alloc ?_ _) | (with_reducible refine Kd.C_drewN ?_ _) | (with_reducible refine Kd.C_drew ?_))); (case side2 => exact HC222_5.out); rintro e w16 ⟨rfl, hb⟩; have n0_ := zM (zL (g := gb221) (o := .cells #[.int .i64 a0_0, .int .u64 a0_1, .int .u64 a0_2, .int .u64 a0_3, .int .u64 a0_4, .slice (some ad222) l0_5.length c0_5, .int .i64 a0_6, .int .i64 a0_7] 27 (0, 0)) (by (with_reducible repeat (first | refine zH ?_ _ | refine zI ?_ | refine zG ?_ _)); exact BK221.out) hb); have n1_ := zM (zJ (by repeat (first | (with_reducible first | exact HB.out | apply zE | apply zC | apply zD | refine zF ?_ GE221.out) | exact HB.out)) hb); clear BK221; clear HB; have BK221 := n0_; have HB := n1_; clear n0_ n1_; (try clear hb); (try clear hb2); (try clear hk); (try clear hi)))
       repeat (go_quiet (first | (go_at_call 36; (with_reducible refine (ih k1 (by have := HK1.out; omega) ((rd_T27 l0_5 x6_1).f0) ((rd_T27 l0_5 x6_1).f1.f0) ((rd_T27 l0_5 x6_1).f1.f1) ((rd_T27 l0_5 x6_1).f1.f2) ((rd_T27 l0_5 x6_1).f1.f3) _ _ ((rd_T27 l0_5 x6_1).f2) ((rd_T27 l0_5 x6_1).f3) ((rd_T27 l0_5 x6_1).f4) false false _ ?side1 ?side2 A5.out).mono ?_); (case side1 => repeat (first | exact (Kd.C_below HR222_5.out HB.out) | (with_reducible refine Kd.C_alloc ?_ _) | (with_reducible refine Kd.C_drewN ?_ _) | (with_reducible refine Kd.C_drew ?_))); (case side2 => exact HC222_5.out); rintro e w16 ⟨rfl, hb⟩; have n0_ := zM (zL (g := gb221) (o := .cells #[.int .i64 a0_0, .int .u64 a0_1, .int .u64 a0_2, .int .u64 a0_3, .int .u64 a0_4, .slice (some ad222) l0_5.length c0_5, .int .i64 a0_6, .int .i64 a0_7] 27 (0, 0)) (by (with_reducible repeat (first | refine zH ?_ _ | refine zI ?_ | refine zG ?_ _)); exact BK221.out) hb); have n1_ := zM (zJ (by repeat (first | (with_reducible first | exact HB.out | apply zE | apply zC | apply zD | refine zF ?_ GE221.out) | exact HB.out)) hb); clear BK221; clear HB; have BK221 := n0_; have HB := n1_; clear n0_ n1_; (try clear hb); (try clear hb2); (try clear hk); (try clear hi))); try go_wp2_with (first | (go_at_call 36; (with_reducible refine (ih k1 (by have := HK1.out; omega) ((rd_T27 l0_5 x6_1).f0) ((rd_T27 l0_5 x6_1).f1.f0) ((rd_T27 l0_5 x6_1).f1.f1) ((rd_T27 l0_5 x6_1).f1.f2) ((rd_T27 l0_5 x6_1).f1.f3) _ _ ((rd_T27 l0_5 x6_1).f2) ((rd_T27 l0_5 x6_1).f3) ((rd_T27 l0_5 x6_1).f4) false false _ ?side1 ?side2 A5.out).mono ?_); (case side1 => repeat (first | exact (Kd.C_below HR222_5.out HB.out) | (with_reducible refine Kd.C_alloc ?_ _) | (with_reducible refine Kd.C_drewN ?_ _) | (with_reducible refine Kd.C_drew ?_))); (case side2 => exact HC222_5.out); rintro e w16 ⟨rfl, hb⟩; have n0_ := zM (zL (g := gb221) (o := .cells #[.int .i64 a0_0, .int .u64 a0_1, .int .u64 a0_2, .int .u64 a0_3, .int .u64 a0_4, .slice (some ad222) l0_5.length c0_5, .int .i64 a0_6, .int .i64 a0_7] 27 (0, 0)) (by (with_reducible repeat (first | refine zH ?_ _ | refine zI ?_ | refine zG ?_ _)); exact BK221.out) hb); have n1_ := zM (zJ (by repeat (first | (with_reducible first | exact HB.out | apply zE | apply zC | apply zD | refine zF ?_ GE221.out) | exact HB.out)) hb); clear BK221; clear HB; have BK221 := n0_; have HB := n1_; clear n0_ n1_; (try clear hb); (try clear hb2); (try clear hk); (try clear hi))))
       go_roundg k1
       case measure => have := HK1.out; omega
       case rel => exact ⟨(x4_1), (x5_1), (wrap64 (x6_1 + 1)), (by first | rfl | (simp; done) | (simp [*]; done)), (by first | rfl | (simp; done) | (simp [*]; done)), (by first | rfl | (simp; done) | (simp [*]; done)), H', ⟨by have := HK1.out; omega⟩, ⟨by (with_reducible repeat (first | refine zH ?_ _ | refine zI ?_ | refine zG ?_ _)); exact BK221.out⟩, ⟨by repeat (first | (with_reducible first | exact HB.out | apply zE | apply zC | apply zD | refine zF ?_ GE221.out) | exact HB.out)⟩⟩
    ·
     rw [if_neg c4] at H
     exact absurd H (by simp)
   ·
    rw [if_neg c3] at H
    have c3b0 : decide (x6_1 < (l0_5.length : Int)) = false := decide_eq_false c3
    clear c3
    by_cases c17 : a0_0 = 0
    ·
     rw [if_pos c17] at H
     have c17b0 : (a0_0 == 0) = true := beq_iff_eq.mpr c17
     have c17b1 : (a0_0 != 0) = false := bne_eq_false_iff_eq.mpr c17
     clear c17
     simp only [Option.some.injEq, Prod.mk.injEq] at H
     obtain ⟨rfl, rfl⟩ := H
     have hcz18_0 : wr.cell? ⟨gb221, 0, none⟩ = some (.int .i64 a0_0) := (zB BK221.out 0).trans rfl
     have hcz18_1 : wr.cell? ⟨gb221, 1, none⟩ = some (.int .u64 a0_1) := (zB BK221.out 1).trans rfl
     have hcz18_2 : wr.cell? ⟨gb221, 2, none⟩ = some (.int .u64 a0_2) := (zB BK221.out 2).trans rfl
     have hcz18_3 : wr.cell? ⟨gb221, 3, none⟩ = some (.int .u64 a0_3) := (zB BK221.out 3).trans rfl
     have hcz18_4 : wr.cell? ⟨gb221, 4, none⟩ = some (.int .u64 a0_4) := (zB BK221.out 4).trans rfl
     have hcz18_5 : wr.cell? ⟨gb221, 5, none⟩ = some (.slice A0_5 l0_5.length c0_5) := (zB BK221.out 5).trans rfl
     have hcz18_6 : wr.cell? ⟨gb221, 6, none⟩ = some (.int .i64 a0_6) := (zB BK221.out 6).trans rfl
     have hcz18_7 : wr.cell? ⟨gb221, 7, none⟩ = some (.int .i64 a0_7) := (zB BK221.out 7).trans rfl
     have hfz18_0 := zA BK221.out 0
     have hfz18_1 := zA BK221.out 1
     have hfz18_2 := zA BK221.out 2
     have hfz18_3 := zA BK221.out 3
     have hfz18_4 := zA BK221.out 4
     have hfz18_5 := zA BK221.out 5
     have hfz18_6 := zA BK221.out 6
     have hfz18_7 := zA BK221.out 7
     go_wp2
     repeat (go_quiet (fail); try go_wp2)
     go_ret2
     exact ⟨by first | rfl | (simp [errW_none, errW_some] <;> rfl) | (simp [*, errW_none, errW_some] <;> rfl), by repeat (first | (with_reducible first | exact HB.out | apply zE | apply zC | apply zD | refine zF ?_ GE221.out) | exact HB.out)⟩
    ·
     rw [if_neg c17] at H
     have c17b0 : (a0_0 == 0) = false := beq_eq_false_iff_ne.mpr c17
     have c17b1 : (a0_0 != 0) = true := bne_iff_ne.mpr c17
     by_cases c19 : a0_0 = 1
     ·
      rw [if_pos c19] at H
      have c19b0 : (a0_0 == 1) = true := beq_iff_eq.mpr c19
      have c19b1 : (a0_0 != 1) = false := bne_eq_false_iff_eq.mpr c19
      clear c19
      obtain ⟨bj20, hbj20⟩ : ∃ b_ : Bool, (a0_1 == 0 && (a0_2 == 0 && (a0_3 == 0 && (a0_4 == 0)))) = b_ := ⟨_, rfl⟩
      replace H : (some (bj20, false)) = some (r1, r2) := by (try rw [hbj20] at H); exact H
      simp only [Option.some.injEq, Prod.mk.injEq] at H
      obtain ⟨rfl, rfl⟩ := H
      have hcz21_0 : wr.cell? ⟨gb221, 0, none⟩ = some (.int .i64 a0_0) := (zB BK221.out 0).trans rfl
      have hcz21_1 : wr.cell? ⟨gb221, 1, none⟩ = some (.int .u64 a0_1) := (zB BK221.out 1).trans rfl
      have hcz21_2 : wr.cell? ⟨gb221, 2, none⟩ = some (.int .u64 a0_2) := (zB BK221.out 2).trans rfl
      have hcz21_3 : wr.cell? ⟨gb221, 3, none⟩ = some (.int .u64 a0_3) := (zB BK221.out 3).trans rfl
      have hcz21_4 : wr.cell? ⟨gb221, 4, none⟩ = some (.int .u64 a0_4) := (zB BK221.out 4).trans rfl
      have hcz21_5 : wr.cell? ⟨gb221, 5, none⟩ = some (.slice A0_5 l0_5.length c0_5) := (zB BK221.out 5).trans rfl
      have hcz21_6 : wr.cell? ⟨gb221, 6, none⟩ = some (.int .i64 a0_6) := (zB BK221.out 6).trans rfl
      have hcz21_7 : wr.cell? ⟨gb221, 7, none⟩ = some (.int .i64 a0_7) := (zB BK221.out 7).trans rfl
      have hfz21_0 := zA BK221.out 0
      have hfz21_1 := zA BK221.out 1
      have hfz21_2 := zA BK221.out 2
      have hfz21_3 := zA BK221.out 3
      have hfz21_4 := zA BK221.out 4
      have hfz21_5 := zA BK221.out 5
      have hfz21_6 := zA BK221.out 6
      have hfz21_7 := zA BK221.out 7
      go_wp2
      repeat (go_quiet (fail); try go_wp2)
      go_ret2
      exact ⟨by first | rfl | (simp [errW_none, errW_some] <;> rfl) | (simp [*, errW_none, errW_some] <;> rfl), by repeat (first | (with_reducible first | exact HB.out | apply zE | apply zC | apply zD | refine zF ?_ GE221.out) | exact HB.out)⟩
     ·
      rw [if_neg c19] at H
      have c19b0 : (a0_0 == 1) = false := beq_eq_false_iff_ne.mpr c19
      have c19b1 : (a0_0 != 1) = true := bne_iff_ne.mpr c19
      by_cases c22 : a0_0 = 2
      ·
       rw [if_pos c22] at H
       have c22b0 : (a0_0 == 2) = true := beq_iff_eq.mpr c22
       have c22b1 : (a0_0 != 2) = false := bne_eq_false_iff_eq.mpr c22
       clear c22
       simp only [Option.some.injEq, Prod.mk.injEq] at H
       obtain ⟨rfl, rfl⟩ := H
       have hcz23_0 : wr.cell? ⟨gb221, 0, none⟩ = some (.int .i64 a0_0) := (zB BK221.out 0).trans rfl
       have hcz23_1 : wr.cell? ⟨gb221, 1, none⟩ = some (.int .u64 a0_1) := (zB BK221.out 1).trans rfl
       have hcz23_2 : wr.cell? ⟨gb221, 2, none⟩ = some (.int .u64 a0_2) := (zB BK221.out 2).trans rfl
       have hcz23_3 : wr.cell? ⟨gb221, 3, none⟩ = some (.int .u64 a0_3) := (zB BK221.out 3).trans rfl
       have hcz23_4 : wr.cell? ⟨gb221, 4, none⟩ = some (.int .u64 a0_4) := (zB BK221.out 4).trans rfl
       have hcz23_5 : wr.cell? ⟨gb221, 5, none⟩ = some (.slice A0_5 l0_5.length c0_5) := (zB BK221.out 5).trans rfl
       have hcz23_6 : wr.cell? ⟨gb221, 6, none⟩ = some (.int .i64 a0_6) := (zB BK221.out 6).trans rfl
       have hcz23_7 : wr.cell? ⟨gb221, 7, none⟩ = some (.int .i64 a0_7) := (zB BK221.out 7).trans rfl
       have hfz23_0 := zA BK221.out 0
       have hfz23_1 := zA BK221.out 1
       have hfz23_2 := zA BK221.out 2
       have hfz23_3 := zA BK221.out 3
       have hfz23_4 := zA BK221.out 4
       have hfz23_5 := zA BK221.out 5
       have hfz23_6 := zA BK221.out 6
       have hfz23_7 := zA BK221.out 7
       go_wp2
       repeat (go_quiet (fail); try go_wp2)
       go_ret2
       exact ⟨by first | rfl | (simp [errW_none, errW_some] <;> rfl) | (simp [*, errW_none, errW_some] <;> rfl), by repeat (first | (with_reducible first | exact HB.out | apply zE | apply zC | apply zD | refine zF ?_ GE221.out) | exact HB.out)⟩
      ·
       rw [if_neg c22] at H
       have c22b0 : (a0_0 == 2) = false := beq_eq_false_iff_ne.mpr c22
       have c22b1 : (a0_0 != 2) = true := bne_iff_ne.mpr c22
       by_cases c24 : a0_0 = 3
       ·
        rw [if_pos c24] at H
        have c24b0 : (a0_0 == 3) = true := beq_iff_eq.mpr c24
        have c24b1 : (a0_0 != 3) = false := bne_eq_false_iff_eq.mpr c24
        clear c24
        simp only [Option.some.injEq, Prod.mk.injEq] at H
        obtain ⟨rfl, rfl⟩ := H
        have hcz25_0 : wr.cell? ⟨gb221, 0, none⟩ = some (.int .i64 a0_0) := (zB BK221.out 0).trans rfl
        have hcz25_1 : wr.cell? ⟨gb221, 1, none⟩ = some (.int .u64 a0_1) := (zB BK221.out 1).trans rfl
        have hcz25_2 : wr.cell? ⟨gb221, 2, none⟩ = some (.int .u64 a0_2) := (zB BK221.out 2).trans rfl
        have hcz25_3 : wr.cell? ⟨gb221, 3, none⟩ = some (.int .u64 a0_3) := (zB BK221.out 3).trans rfl
        have hcz25_4 : wr.cell? ⟨gb221, 4, none⟩ = some (.int .u64 a0_4) := (zB BK221.out 4).trans rfl
        have hcz25_5 : wr.cell? ⟨gb221, 5, none⟩ = some (.slice A0_5 l0_5.length c0_5) := (zB BK221.out 5).trans rfl
        have hcz25_6 : wr.cell? ⟨gb221, 6, none⟩ = some (.int .i64 a0_6) := (zB BK221.out 6).trans rfl
        have hcz25_7 : wr.cell? ⟨gb221, 7, none⟩ = some (.int .i64 a0_7) := (zB BK221.out 7).trans rfl
        have hfz25_0 := zA BK221.out 0
        have hfz25_1 := zA BK221.out 1
        have hfz25_2 := zA BK221.out 2
        have hfz25_3 := zA BK221.out 3
        have hfz25_4 := zA BK221.out 4
        have hfz25_5 := zA BK221.out 5
        have hfz25_6 := zA BK221.out 6
        have hfz25_7 := zA BK221.out 7
        go_wp2
        repeat (go_quiet (fail); try go_wp2)
        go_ret2
        exact ⟨by first | rfl | (simp [errW_none, errW_some] <;> rfl) | (simp [*, errW_none, errW_some] <;> rfl), by repeat (first | (with_reducible first | exact HB.out | apply zE | apply zC | apply zD | refine zF ?_ GE221.out) | exact HB.out)⟩
       ·
        rw [if_neg c24] at H
        have c24b0 : (a0_0 == 3) = false := beq_eq_false_iff_ne.mpr c24
        have c24b1 : (a0_0 != 3) = true := bne_iff_ne.mpr c24
        by_cases c26 : x4_1 > 0
        ·
         rw [if_pos c26] at H
         have c26b0 : decide (0 < x4_1) = true := decide_eq_true c26
         clear c26
         by_cases c27 : a0_6 = 0
         ·
          rw [if_pos c27] at H
          have c27b0 : (a0_6 == 0) = true := beq_iff_eq.mpr c27
          have c27b1 : (a0_6 != 0) = false := bne_eq_false_iff_eq.mpr c27
          clear c27
          simp only [Option.some.injEq, Prod.mk.injEq] at H
          obtain ⟨rfl, rfl⟩ := H
          have hcz28_0 : wr.cell? ⟨gb221, 0, none⟩ = some (.int .i64 a0_0) := (zB BK221.out 0).trans rfl
          have hcz28_1 : wr.cell? ⟨gb221, 1, none⟩ = some (.int .u64 a0_1) := (zB BK221.out 1).trans rfl
          have hcz28_2 : wr.cell? ⟨gb221, 2, none⟩ = some (.int .u64 a0_2) := (zB BK221.out 2).trans rfl
          have hcz28_3 : wr.cell? ⟨gb221, 3, none⟩ = some (.int .u64 a0_3) := (zB BK221.out 3).trans rfl
          have hcz28_4 : wr.cell? ⟨gb221, 4, none⟩ = some (.int .u64 a0_4) := (zB BK221.out 4).trans rfl
          have hcz28_5 : wr.cell? ⟨gb221, 5, none⟩ = some (.slice A0_5 l0_5.length c0_5) := (zB BK221.out 5).trans rfl
          have hcz28_6 : wr.cell? ⟨gb221, 6, none⟩ = some (.int .i64 a0_6) := (zB BK221.out 6).trans rfl
          have hcz28_7 : wr.cell? ⟨gb221, 7, none⟩ = some (.int .i64 a0_7) := (zB BK221.out 7).trans rfl
          have hfz28_0 := zA BK221.out 0
          have hfz28_1 := zA BK221.out 1
          have hfz28_2 := zA BK221.out 2
          have hfz28_3 := zA BK221.out 3
          have hfz28_4 := zA BK221.out 4
          have hfz28_5 := zA BK221.out 5
          have hfz28_6 := zA BK221.out 6
          have hfz28_7 := zA BK221.out 7
          go_wp2
          repeat (go_quiet (fail); try go_wp2)
          go_ret2
          exact ⟨by first | rfl | (simp [errW_none, errW_some] <;> rfl) | (simp [*, errW_none, errW_some] <;> rfl), by repeat (first | (with_reducible first | exact HB.out | apply zE | apply zC | apply zD | refine zF ?_ GE221.out) | exact HB.out)⟩
         ·
          rw [if_neg c27] at H
          have c27b0 : (a0_6 == 0) = false := beq_eq_false_iff_ne.mpr c27
          have c27b1 : (a0_6 != 0) = true := bne_iff_ne.mpr c27
          simp only [Option.some.injEq, Prod.mk.injEq] at H
          obtain ⟨rfl, rfl⟩ := H
          have hcz29_0 : wr.cell? ⟨gb221, 0, none⟩ = some (.int .i64 a0_0) := (zB BK221.out 0).trans rfl
          have hcz29_1 : wr.cell? ⟨gb221, 1, none⟩ = some (.int .u64 a0_1) := (zB BK221.out 1).trans rfl
          have hcz29_2 : wr.cell? ⟨gb221, 2, none⟩ = some (.int .u64 a0_2) := (zB BK221.out 2).trans rfl
          have hcz29_3 : wr.cell? ⟨gb221, 3, none⟩ = some (.int .u64 a0_3) := (zB BK221.out 3).trans rfl
          have hcz29_4 : wr.cell? ⟨gb221, 4, none⟩ = some (.int .u64 a0_4) := (zB BK221.out 4).trans rfl
          have hcz29_5 : wr.cell? ⟨gb221, 5, none⟩ = some (.slice A0_5 l0_5.length c0_5) := (zB BK221.out 5).trans rfl
          have hcz29_6 : wr.cell? ⟨gb221, 6, none⟩ = some (.int .i64 a0_6) := (zB BK221.out 6).trans rfl
          have hcz29_7 : wr.cell? ⟨gb221, 7, none⟩ = some (.int .i64 a0_7) := (zB BK221.out 7).trans rfl
          have hfz29_0 := zA BK221.out 0
          have hfz29_1 := zA BK221.out 1
          have hfz29_2 := zA BK221.out 2
          have hfz29_3 := zA BK221.out 3
          have hfz29_4 := zA BK221.out 4
          have hfz29_5 := zA BK221.out 5
          have hfz29_6 := zA BK221.out 6
          have hfz29_7 := zA BK221.out 7
          go_wp2
          repeat (go_quiet (fail); try go_wp2)
          go_ret2
          exact ⟨by first | rfl | (simp [errW_none, errW_some] <;> rfl) | (simp [*, errW_none, errW_some] <;> rfl), by repeat (first | (with_reducible first | exact HB.out | apply zE | apply zC | apply zD | refine zF ?_ GE221.out) | exact HB.out)⟩
        ·
         rw [if_neg c26] at H
         have c26b0 : decide (0 < x4_1) = false := decide_eq_false c26
         clear c26
         by_cases c30 : a0_6 = 0
         ·
          rw [if_pos c30] at H
          have c30b0 : (a0_6 == 0) = true := beq_iff_eq.mpr c30
          have c30b1 : (a0_6 != 0) = false := bne_eq_false_iff_eq.mpr c30
          clear c30
          simp only [Option.some.injEq, Prod.mk.injEq] at H
          obtain ⟨rfl, rfl⟩ := H
          have hcz31_0 : wr.cell? ⟨gb221, 0, none⟩ = some (.int .i64 a0_0) := (zB BK221.out 0).trans rfl
          have hcz31_1 : wr.cell? ⟨gb221, 1, none⟩ = some (.int .u64 a0_1) := (zB BK221.out 1).trans rfl
          have hcz31_2 : wr.cell? ⟨gb221, 2, none⟩ = some (.int .u64 a0_2) := (zB BK221.out 2).trans rfl
          have hcz31_3 : wr.cell? ⟨gb221, 3, none⟩ = some (.int .u64 a0_3) := (zB BK221.out 3).trans rfl
          have hcz31_4 : wr.cell? ⟨gb221, 4, none⟩ = some (.int .u64 a0_4) := (zB BK221.out 4).trans rfl
          have hcz31_5 : wr.cell? ⟨gb221, 5, none⟩ = some (.slice A0_5 l0_5.length c0_5) := (zB BK221.out 5).trans rfl
          have hcz31_6 : wr.cell? ⟨gb221, 6, none⟩ = some (.int .i64 a0_6) := (zB BK221.out 6).trans rfl
          have hcz31_7 : wr.cell? ⟨gb221, 7, none⟩ = some (.int .i64 a0_7) := (zB BK221.out 7).trans rfl
          have hfz31_0 := zA BK221.out 0
          have hfz31_1 := zA BK221.out 1
          have hfz31_2 := zA BK221.out 2
          have hfz31_3 := zA BK221.out 3
          have hfz31_4 := zA BK221.out 4
          have hfz31_5 := zA BK221.out 5
          have hfz31_6 := zA BK221.out 6
          have hfz31_7 := zA BK221.out 7
          go_wp2
          repeat (go_quiet (fail); try go_wp2)
          go_ret2
          exact ⟨by first | rfl | (simp [errW_none, errW_some] <;> rfl) | (simp [*, errW_none, errW_some] <;> rfl), by repeat (first | (with_reducible first | exact HB.out | apply zE | apply zC | apply zD | refine zF ?_ GE221.out) | exact HB.out)⟩
         ·
          rw [if_neg c30] at H
          have c30b0 : (a0_6 == 0) = false := beq_eq_false_iff_ne.mpr c30
          have c30b1 : (a0_6 != 0) = true := bne_iff_ne.mpr c30
          simp only [Option.some.injEq, Prod.mk.injEq] at H
          obtain ⟨rfl, rfl⟩ := H
          have hcz32_0 : wr.cell? ⟨gb221, 0, none⟩ = some (.int .i64 a0_0) := (zB BK221.out 0).trans rfl
          have hcz32_1 : wr.cell? ⟨gb221, 1, none⟩ = some (.int .u64 a0_1) := (zB BK221.out 1).trans rfl
          have hcz32_2 : wr.cell? ⟨gb221, 2, none⟩ = some (.int .u64 a0_2) := (zB BK221.out 2).trans rfl
          have hcz32_3 : wr.cell? ⟨gb221, 3, none⟩ = some (.int .u64 a0_3) := (zB BK221.out 3).trans rfl
          have hcz32_4 : wr.cell? ⟨gb221, 4, none⟩ = some (.int .u64 a0_4) := (zB BK221.out 4).trans rfl
          have hcz32_5 : wr.cell? ⟨gb221, 5, none⟩ = some (.slice A0_5 l0_5.length c0_5) := (zB BK221.out 5).trans rfl
          have hcz32_6 : wr.cell? ⟨gb221, 6, none⟩ = some (.int .i64 a0_6) := (zB BK221.out 6).trans rfl
          have hcz32_7 : wr.cell? ⟨gb221, 7, none⟩ = some (.int .i64 a0_7) := (zB BK221.out 7).trans rfl
          have hfz32_0 := zA BK221.out 0
          have hfz32_1 := zA BK221.out 1
          have hfz32_2 := zA BK221.out 2
          have hfz32_3 := zA BK221.out 3
          have hfz32_4 := zA BK221.out 4
          have hfz32_5 := zA BK221.out 5
          have hfz32_6 := zA BK221.out 6
          have hfz32_7 := zA BK221.out 7
          go_wp2
          repeat (go_quiet (fail); try go_wp2)
          go_ret2
          exact ⟨by first | rfl | (simp [errW_none, errW_some] <;> rfl) | (simp [*, errW_none, errW_some] <;> rfl), by repeat (first | (with_reducible first | exact HB.out | apply zE | apply zC | apply zD | refine zF ?_ GE221.out) | exact HB.out)⟩

end Go.Proofs.Ytlnhiogpjdhhbaa.P
