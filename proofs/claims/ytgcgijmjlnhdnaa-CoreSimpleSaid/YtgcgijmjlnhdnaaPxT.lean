-- Written by a program of this project (wip/xp over the words of the print), not by hand.
import Derived.Test.YtgcgijmjlnhdnaaPx0
import Derived.Test.YtgcgijmjlnhdnaaPx10
import Derived.Test.YtgcgijmjlnhdnaaPx11
import Derived.Test.YtgcgijmjlnhdnaaPx12
import Derived.Test.YtgcgijmjlnhdnaaPx13
import Derived.Test.YtgcgijmjlnhdnaaPx16
import Derived.Test.YtgcgijmjlnhdnaaPxS
namespace Go.Proofs.Ytgcgijmjlnhdnaa.P
open Go.RowKit Go.Proofs.YtgcgijmjlnhdnaaW.PrintWords Go.Proofs.YtgcgijmjlnhdnaaW.PrintLast Go.Proofs.YtgcgijmjlnhdnaaW.PrintMore
attribute [local go_sem] max2_int min2_int max_two min_two max_three min_three max_four min_four   -- for this text's walks alone
set_option linter.unusedVariables false
set_option linter.unusedSimpArgs false

/-! ### ostinatolaw04_CoreSimple: function 3 -/
def ostinatolaw04_CoreSimple.j0 : Nat → Bool → Int → Int → Int → Int → Int → List (S27) → Int → Int → Option (Bool)
  | 0, _, _, _, _, _, _, _, _, _ => none
  | k + 1, x11, x260000, x260001, x260002, x260003, x260004, x260005, x260006, x260007 => if x11 = true then ((ostinatolaw04_awake.f k).bind fun t262 => (some t262)) else ((core_Simple.f k x260000 x260001 x260002 x260003 x260004 x260005 x260006 x260007).bind fun bt263 => ((ostinatoref02_Formed.f k x260000 x260001 x260002 x260003 x260004 x260005 x260006 x260007).bind fun t275 => (if t275 = true then (if bt263.2.2.2.2.2.2.2.2 = 0 then ((ostinatoref04_Simple.f k x260000 x260001 x260002 x260003 x260004 x260005 x260006 x260007).bind fun bt276 => ((ostinatoref02_Same.f k bt263.1 bt263.2.1 bt263.2.2.1 bt263.2.2.2.1 bt263.2.2.2.2.1 bt263.2.2.2.2.2.1 bt263.2.2.2.2.2.2.1 bt263.2.2.2.2.2.2.2.1 bt276.1 bt276.2.1 bt276.2.2.1 bt276.2.2.2.1 bt276.2.2.2.2.1 bt276.2.2.2.2.2.1 bt276.2.2.2.2.2.2.1 bt276.2.2.2.2.2.2.2).bind fun t286 => (some t286))) else (some false)) else (if bt263.2.2.2.2.2.2.2.2 = 1 then ((ostinatoref02_Same.f k bt263.1 bt263.2.1 bt263.2.2.1 bt263.2.2.2.1 bt263.2.2.2.2.1 bt263.2.2.2.2.2.1 bt263.2.2.2.2.2.2.1 bt263.2.2.2.2.2.2.2.1 0 0 0 0 0 ([] : List (S27)) 0 0).bind fun t287 => (some t287)) else (some false)))))
def ostinatolaw04_CoreSimple.f (k : Nat) (a0_0 : Int) (a0_1 : Int) (a0_2 : Int) (a0_3 : Int) (a0_4 : Int) (l0_5 : List (S27)) (a0_6 : Int) (a0_7 : Int) : Option (Bool) := (ostinatolaw04_awake.f k).bind fun t260 => (if t260 = true then ((ostinatoref02_Size.f k a0_0 a0_1 a0_2 a0_3 a0_4 l0_5 a0_6 a0_7 100).bind fun t261 => (ostinatolaw04_CoreSimple.j0 k (decide (t261 > 100)) a0_0 a0_1 a0_2 a0_3 a0_4 l0_5 a0_6 a0_7)) else (ostinatolaw04_CoreSimple.j0 k true a0_0 a0_1 a0_2 a0_3 a0_4 l0_5 a0_6 a0_7))
theorem ostinatolaw04_CoreSimple.mono_l : ∀ k, (∀ y0 y1 y2 y3 y4 y5 y6 y7 y8, LeO (ostinatolaw04_CoreSimple.j0 k y0 y1 y2 y3 y4 y5 y6 y7 y8) (ostinatolaw04_CoreSimple.j0 (k + 1) y0 y1 y2 y3 y4 y5 y6 y7 y8))
  | 0 => fun _ _ _ _ _ _ _ _ _ r h => by simp [ostinatolaw04_CoreSimple.j0] at h
  | k + 1 => by
    have ih0 := ostinatolaw04_CoreSimple.mono_l k
    · intro y0 y1 y2 y3 y4 y5 y6 y7 y8
      unfold ostinatolaw04_CoreSimple.j0
      repeat' first
      | (with_reducible exact ih0 _ _ _ _ _ _ _ _ _)
      | (with_reducible exact core_Simple.mono _ _ _ _ _ _ _ _ _)
      | (with_reducible exact ostinatolaw04_awake.mono _)
      | (with_reducible exact ostinatoref02_Formed.mono _ _ _ _ _ _ _ _ _)
      | (with_reducible exact ostinatoref02_Same.mono _ _ _ _ _ _ _ _ _ _ _ _ _ _ _ _ _)
      | (with_reducible exact ostinatoref02_Size.mono _ _ _ _ _ _ _ _ _ _)
      | (with_reducible exact ostinatoref04_Simple.mono _ _ _ _ _ _ _ _ _)
      | (with_reducible exact LeO.refl _)
      | (with_reducible exact LeO.none _)
      | (with_reducible refine LeO.ite ?_ ?_)
      | (with_reducible refine LeO.bind ?_ (fun _ => ?_))
      | exact ih0 _ _ _ _ _ _ _ _ _
      | exact core_Simple.mono _ _ _ _ _ _ _ _ _
      | exact ostinatolaw04_awake.mono _
      | exact ostinatoref02_Formed.mono _ _ _ _ _ _ _ _ _
      | exact ostinatoref02_Same.mono _ _ _ _ _ _ _ _ _ _ _ _ _ _ _ _ _
      | exact ostinatoref02_Size.mono _ _ _ _ _ _ _ _ _ _
      | exact ostinatoref04_Simple.mono _ _ _ _ _ _ _ _ _
      | exact LeO.none _
      | refine LeO.ite ?_ ?_
      | refine LeO.bind ?_ (fun _ => ?_)
theorem ostinatolaw04_CoreSimple.mono : ∀ a0 a1 a2 a3 a4 a5 a6 a7 k, LeO (ostinatolaw04_CoreSimple.f k a0 a1 a2 a3 a4 a5 a6 a7) (ostinatolaw04_CoreSimple.f (k + 1) a0 a1 a2 a3 a4 a5 a6 a7) := by
  intro a0 a1 a2 a3 a4 a5 a6 a7 k
  have ih0 := ostinatolaw04_CoreSimple.mono_l k
  unfold ostinatolaw04_CoreSimple.f
  repeat' first
      | (with_reducible exact ih0 _ _ _ _ _ _ _ _ _)
      | (with_reducible exact core_Simple.mono _ _ _ _ _ _ _ _ _)
      | (with_reducible exact ostinatolaw04_awake.mono _)
      | (with_reducible exact ostinatoref02_Formed.mono _ _ _ _ _ _ _ _ _)
      | (with_reducible exact ostinatoref02_Same.mono _ _ _ _ _ _ _ _ _ _ _ _ _ _ _ _ _)
      | (with_reducible exact ostinatoref02_Size.mono _ _ _ _ _ _ _ _ _ _)
      | (with_reducible exact ostinatoref04_Simple.mono _ _ _ _ _ _ _ _ _)
      | (with_reducible exact LeO.refl _)
      | (with_reducible exact LeO.none _)
      | (with_reducible refine LeO.ite ?_ ?_)
      | (with_reducible refine LeO.bind ?_ (fun _ => ?_))
      | exact ih0 _ _ _ _ _ _ _ _ _
      | exact core_Simple.mono _ _ _ _ _ _ _ _ _
      | exact ostinatolaw04_awake.mono _
      | exact ostinatoref02_Formed.mono _ _ _ _ _ _ _ _ _
      | exact ostinatoref02_Same.mono _ _ _ _ _ _ _ _ _ _ _ _ _ _ _ _ _
      | exact ostinatoref02_Size.mono _ _ _ _ _ _ _ _ _ _
      | exact ostinatoref04_Simple.mono _ _ _ _ _ _ _ _ _
      | exact LeO.none _
      | refine LeO.ite ?_ ?_
      | refine LeO.bind ?_ (fun _ => ?_)
def ostinatolaw04_CoreSimple.T6 : Bool × List (List Nat × List Nat) := (true, [([], []), ([0], [0]), ([1], [1]), ([2], [2]), ([2], [2]), ([4, 2, 2], [2, 4]), ([3, 5, 5, 2], [2, 3, 5]), ([2, 6], [2, 6]), ([7, 6, 0, 1, 2, 3, 4, 5, 6, 7], [7])])
def ostinatolaw04_CoreSimple.B6 : List Nat := [0, 1, 3, 7, 7, 23, 63, 127, 255]
theorem ostinatolaw04_CoreSimple.tab6 : rtab .any (opsOf Try.f3 6) = ostinatolaw04_CoreSimple.T6 := by kernel_rfl
theorem ostinatolaw04_CoreSimple.bits6 : waitsOk ostinatolaw04_CoreSimple.T6.2 ostinatolaw04_CoreSimple.B6 = true := by kernel_rfl
set_option maxHeartbeats 8000000 in
set_option maxRecDepth 100000 in
theorem ostinatolaw04_CoreSimple.calls (k : Nat) (a0_0 : Int) (a0_1 : Int) (a0_2 : Int) (a0_3 : Int) (a0_4 : Int) (A0_5 : Option Addr) (c0_5 : Nat) (l0_5 : List (S27)) (a0_6 : Int) (a0_7 : Int) (r : Bool) (w : World) (hr0_5 : Kd.C k27 w A0_5 l0_5.length l0_5) (hc0_5 : l0_5.length ≤ c0_5) (h : ostinatolaw04_CoreSimple.f k a0_0 a0_1 a0_2 a0_3 a0_4 l0_5 a0_6 a0_7 = some r) :
  Calls Try.prog 3 #[.agg #[.int .i64 a0_0, .int .u64 a0_1, .int .u64 a0_2, .int .u64 a0_3, .int .u64 a0_4, .slice A0_5 l0_5.length c0_5, .int .i64 a0_6, .int .i64 a0_7]] w fun e w' => e = .returned (.bool r) ∧ Below w.heap.size w w' := by
 have hu27 := Try.underlying27
 have HR0_5 := Aside0.mk hr0_5
 have HC0_5 := Aside0.mk hc0_5
 clear hr0_5 hc0_5
 have HB := Aside0.mk (Below.refl w.heap.size w)
 have H : ((ostinatolaw04_awake.f k).bind fun t260 => (if t260 = true then ((ostinatoref02_Size.f k a0_0 a0_1 a0_2 a0_3 a0_4 l0_5 a0_6 a0_7 100).bind fun t261 => (ostinatolaw04_CoreSimple.j0 k (decide (t261 > 100)) a0_0 a0_1 a0_2 a0_3 a0_4 l0_5 a0_6 a0_7)) else (ostinatolaw04_CoreSimple.j0 k true a0_0 a0_1 a0_2 a0_3 a0_4 l0_5 a0_6 a0_7))) = some r := h
 clear h
 have HC2 := Aside0.mk H
 clear H
 go_enter Try.func3, Try.ntmps3
 go_upto_region 1 with (first | ((with_reducible refine gate_dst (N := 1) rfl ?_); refine box_event ?hg (N := 1) ?hd (cs := #[.int .i64 a0_0, .int .u64 a0_1, .int .u64 a0_2, .int .u64 a0_3, .int .u64 a0_4, .slice A0_5 l0_5.length c0_5, .int .i64 a0_6, .int .i64 a0_7]) (t := 27) ?hr ?_; (case hd => rfl); (case hg => rfl); (case hr => first | (go_simp; done) | (go_simp; rfl)); intro gb259 hg w3 hbox hb; have n0_ := Aside0.mk (below_step (by repeat (first | (with_reducible first | exact HB.out | apply below_alloc | apply pw_below_drewN | apply below_drew1) | exact HB.out)) hb); have n1_ := Aside0.mk (hbox); have n2_ := Aside0.mk ((by rw [hg]; exact (below_size (by repeat (first | (with_reducible first | exact HB.out | apply below_alloc | apply pw_below_drewN | apply below_drew1) | exact HB.out))) : w.heap.size ≤ gb259)); have n3_ := Aside0.mk ((by rw [hg]; exact (below_size (by repeat (first | (with_reducible first | exact HB.out | apply below_alloc | apply pw_below_drewN | apply below_drew1) | exact HB.out))) : w.heap.size ≤ gb259)); clear HB; have HB := n0_; have BK259 := n1_; have GW259 := n2_; have GE259 := n3_; clear n0_ n1_ n2_ n3_; clear hb hbox hg))
 (try simp only [Act.put, List.setIfInBounds_toArray, List.set_cons_zero, List.set_cons_succ])
 go_cut [11] (fun v11 wc => ∃ (kq : Nat) (x11_1 : Bool), v11 = .bool x11_1 ∧ Aside0 (ostinatolaw04_CoreSimple.j0 kq x11_1 a0_0 a0_1 a0_2 a0_3 a0_4 l0_5 a0_6 a0_7 = some r) ∧ Aside0 (kq ≤ k) ∧ Aside0 (wc.heap[gb259]? = some (.cells #[.int .i64 a0_0, .int .u64 a0_1, .int .u64 a0_2, .int .u64 a0_3, .int .u64 a0_4, (.slice A0_5 l0_5.length c0_5), .int .i64 a0_6, .int .i64 a0_7] 27 (0, 0))) ∧ Aside0 (Below w.heap.size w wc))
 case first =>
  have H := HC2.out
  clear HC2
  replace H := Option.bind_eq_some_iff.mp H
  obtain ⟨t260, A40, H⟩ := H
  replace H : (if t260 = true then ((ostinatoref02_Size.f k a0_0 a0_1 a0_2 a0_3 a0_4 l0_5 a0_6 a0_7 100).bind fun t261 => (ostinatolaw04_CoreSimple.j0 k (decide (t261 > 100)) a0_0 a0_1 a0_2 a0_3 a0_4 l0_5 a0_6 a0_7)) else (ostinatolaw04_CoreSimple.j0 k true a0_0 a0_1 a0_2 a0_3 a0_4 l0_5 a0_6 a0_7)) = some r := H
  have A4 := Aside0.mk A40
  clear A40
  by_cases c5 : t260 = true
  ·
   subst c5
   have H1 : ((ostinatoref02_Size.f k a0_0 a0_1 a0_2 a0_3 a0_4 l0_5 a0_6 a0_7 100).bind fun t261 => (ostinatolaw04_CoreSimple.j0 k (decide (t261 > 100)) a0_0 a0_1 a0_2 a0_3 a0_4 l0_5 a0_6 a0_7)) = some r := by rw [if_pos rfl] at H; exact H
   clear H
   have H := H1
   clear H1
   replace H := Option.bind_eq_some_iff.mp H
   obtain ⟨t261, A60, H⟩ := H
   replace H : (ostinatolaw04_CoreSimple.j0 k (decide (t261 > 100)) a0_0 a0_1 a0_2 a0_3 a0_4 l0_5 a0_6 a0_7) = some r := H
   have A6 := Aside0.mk A60
   clear A60
   have H' := Aside0.mk H
   clear H
   go_wp2_with (first | ((with_reducible refine gate_callee (f := 8) rfl ?_); refine goesL_ (some 5) rfl rfl Try.func8 (by kernel_rfl) rfl #[] rfl (by (try simp only [List.map_toArray, List.map_cons, List.map_nil]); first | done | rfl | (simp only [List.length_drop, List.length_take]; rfl)) ?_; (with_reducible refine (ostinatolaw04_awake.calls k  true _ A4.out).mono ?_); rintro e w7 ⟨rfl, hb⟩; refine ⟨_, rfl, ?_⟩; have n0_ := Aside0.mk (blk_below (g := gb259) (o := .cells #[.int .i64 a0_0, .int .u64 a0_1, .int .u64 a0_2, .int .u64 a0_3, .int .u64 a0_4, .slice A0_5 l0_5.length c0_5, .int .i64 a0_6, .int .i64 a0_7] 27 (0, 0)) (by (with_reducible repeat (first | refine blk_drewN ?_ _ | refine blk_drew ?_ | refine blk_alloc ?_ _)); exact BK259.out) hb); have n1_ := Aside0.mk (below_step (by repeat (first | (with_reducible first | exact HB.out | apply below_alloc | apply pw_below_drewN | apply below_drew1 | refine below_set ?_ GE259.out) | exact HB.out)) hb); clear BK259; clear HB; have BK259 := n0_; have HB := n1_; clear n0_ n1_; (try clear hb); (try clear hb2); (try clear hk); (try clear hi); have hcz8_0 : w7.cell? ⟨gb259, 0, none⟩ = some (.int .i64 a0_0) := (blk_cell BK259.out 0).trans rfl; have hcz8_1 : w7.cell? ⟨gb259, 1, none⟩ = some (.int .u64 a0_1) := (blk_cell BK259.out 1).trans rfl; have hcz8_2 : w7.cell? ⟨gb259, 2, none⟩ = some (.int .u64 a0_2) := (blk_cell BK259.out 2).trans rfl; have hcz8_3 : w7.cell? ⟨gb259, 3, none⟩ = some (.int .u64 a0_3) := (blk_cell BK259.out 3).trans rfl; have hcz8_4 : w7.cell? ⟨gb259, 4, none⟩ = some (.int .u64 a0_4) := (blk_cell BK259.out 4).trans rfl; have hcz8_5 : w7.cell? ⟨gb259, 5, none⟩ = some (.slice A0_5 l0_5.length c0_5) := (blk_cell BK259.out 5).trans rfl; have hcz8_6 : w7.cell? ⟨gb259, 6, none⟩ = some (.int .i64 a0_6) := (blk_cell BK259.out 6).trans rfl; have hcz8_7 : w7.cell? ⟨gb259, 7, none⟩ = some (.int .i64 a0_7) := (blk_cell BK259.out 7).trans rfl; have hfz8_0 := blk_frozen BK259.out 0; have hfz8_1 := blk_frozen BK259.out 1; have hfz8_2 := blk_frozen BK259.out 2; have hfz8_3 := blk_frozen BK259.out 3; have hfz8_4 := blk_frozen BK259.out 4; have hfz8_5 := blk_frozen BK259.out 5; have hfz8_6 := blk_frozen BK259.out 6; have hfz8_7 := blk_frozen BK259.out 7) | (go_at_call 9; (with_reducible refine (ostinatoref02_Size.calls k a0_0 a0_1 a0_2 a0_3 a0_4 _ _ l0_5 a0_6 a0_7 100 t261 _ ?side1 ?side2 A6.out).mono ?_); (case side1 => repeat (first | exact (Kd.C_below HR0_5.out HB.out) | (with_reducible refine Kd.C_alloc ?_ _) | (with_reducible refine Kd.C_drewN ?_ _) | (with_reducible refine Kd.C_drew ?_))); (case side2 => exact HC0_5.out); rintro e w9 ⟨rfl, hb⟩; have n0_ := Aside0.mk (blk_below (g := gb259) (o := .cells #[.int .i64 a0_0, .int .u64 a0_1, .int .u64 a0_2, .int .u64 a0_3, .int .u64 a0_4, .slice A0_5 l0_5.length c0_5, .int .i64 a0_6, .int .i64 a0_7] 27 (0, 0)) (by (with_reducible repeat (first | refine blk_drewN ?_ _ | refine blk_drew ?_ | refine blk_alloc ?_ _)); exact BK259.out) hb); have n1_ := Aside0.mk (below_step (by repeat (first | (with_reducible first | exact HB.out | apply below_alloc | apply pw_below_drewN | apply below_drew1 | refine below_set ?_ GE259.out) | exact HB.out)) hb); clear BK259; clear HB; have BK259 := n0_; have HB := n1_; clear n0_ n1_; (try clear hb); (try clear hb2); (try clear hk); (try clear hi)))
   go_meet
   case rel => exact ⟨_, (decide (t261 > 100)), (by first | rfl | (simp; done) | (simp [*]; done)), H', ⟨by first | omega | exact Nat.le_refl _⟩, ⟨by (with_reducible repeat (first | refine blk_drewN ?_ _ | refine blk_drew ?_ | refine blk_alloc ?_ _)); exact BK259.out⟩, ⟨by repeat (first | (with_reducible first | exact HB.out | apply below_alloc | apply pw_below_drewN | apply below_drew1 | refine below_set ?_ GE259.out) | exact HB.out)⟩⟩
  ·
   replace c5 := Bool.eq_false_iff.mpr c5
   subst c5
   have H1 : (ostinatolaw04_CoreSimple.j0 k true a0_0 a0_1 a0_2 a0_3 a0_4 l0_5 a0_6 a0_7) = some r := by rw [if_neg (show ¬ (false = true) by decide)] at H; exact H
   clear H
   have H := H1
   clear H1
   have H' := Aside0.mk H
   clear H
   go_wp2_with (first | ((with_reducible refine gate_callee (f := 8) rfl ?_); refine goesL_ (some 5) rfl rfl Try.func8 (by kernel_rfl) rfl #[] rfl (by (try simp only [List.map_toArray, List.map_cons, List.map_nil]); first | done | rfl | (simp only [List.length_drop, List.length_take]; rfl)) ?_; (with_reducible refine (ostinatolaw04_awake.calls k  false _ A4.out).mono ?_); rintro e w10 ⟨rfl, hb⟩; refine ⟨_, rfl, ?_⟩; have n0_ := Aside0.mk (blk_below (g := gb259) (o := .cells #[.int .i64 a0_0, .int .u64 a0_1, .int .u64 a0_2, .int .u64 a0_3, .int .u64 a0_4, .slice A0_5 l0_5.length c0_5, .int .i64 a0_6, .int .i64 a0_7] 27 (0, 0)) (by (with_reducible repeat (first | refine blk_drewN ?_ _ | refine blk_drew ?_ | refine blk_alloc ?_ _)); exact BK259.out) hb); have n1_ := Aside0.mk (below_step (by repeat (first | (with_reducible first | exact HB.out | apply below_alloc | apply pw_below_drewN | apply below_drew1 | refine below_set ?_ GE259.out) | exact HB.out)) hb); clear BK259; clear HB; have BK259 := n0_; have HB := n1_; clear n0_ n1_; (try clear hb); (try clear hb2); (try clear hk); (try clear hi)))
   go_meet
   case rel => exact ⟨_, (true), (by first | rfl | (simp; done) | (simp [*]; done)), H', ⟨by first | omega | exact Nat.le_refl _⟩, ⟨by (with_reducible repeat (first | refine blk_drewN ?_ _ | refine blk_drew ?_ | refine blk_alloc ?_ _)); exact BK259.out⟩, ⟨by repeat (first | (with_reducible first | exact HB.out | apply below_alloc | apply pw_below_drewN | apply below_drew1 | refine below_set ?_ GE259.out) | exact HB.out)⟩⟩
 case rest =>
  clear HC2
  (try clear p2); (try clear c3); (try clear c5); (try clear c8); (try clear hcz8_0 hcz8_1 hcz8_2 hcz8_3 hcz8_4 hcz8_5 hcz8_6 hcz8_7); (try clear hfz8_0 hfz8_1 hfz8_2 hfz8_3 hfz8_4 hfz8_5 hfz8_6 hfz8_7)
  obtain ⟨kq, x11_1, rfl, HA, HJ1, BK259, HB⟩ := hcut
  cases kq with
  | zero => exact absurd HA.out (by simp [ostinatolaw04_CoreSimple.j0])
  | succ kj1 =>
   have H := HA.out
   clear HA
   simp only [ostinatolaw04_CoreSimple.j0] at H
   by_cases c11 : x11_1 = true
   ·
    subst c11
    have H1 : ((ostinatolaw04_awake.f kj1).bind fun t262 => (some t262)) = some r := by rw [if_pos rfl] at H; exact H
    clear H
    have H := H1
    clear H1
    replace H := Option.bind_eq_some_iff.mp H
    obtain ⟨t262, A120, H⟩ := H
    replace H : (some t262) = some r := H
    have A12 := Aside0.mk A120
    clear A120
    obtain rfl := Option.some.inj H
    go_wp2_with (first | ((with_reducible refine gate_callee (f := 8) rfl ?_); refine goesL_ (some 12) rfl rfl Try.func8 (by kernel_rfl) rfl #[] rfl (by (try simp only [List.map_toArray, List.map_cons, List.map_nil]); first | done | rfl | (simp only [List.length_drop, List.length_take]; rfl)) ?_; (with_reducible refine (ostinatolaw04_awake.calls kj1  t262 _ A12.out).mono ?_); rintro e w13 ⟨rfl, hb⟩; refine ⟨_, rfl, ?_⟩; have n0_ := Aside0.mk (blk_below (g := gb259) (o := .cells #[.int .i64 a0_0, .int .u64 a0_1, .int .u64 a0_2, .int .u64 a0_3, .int .u64 a0_4, .slice A0_5 l0_5.length c0_5, .int .i64 a0_6, .int .i64 a0_7] 27 (0, 0)) (by (with_reducible repeat (first | refine blk_drewN ?_ _ | refine blk_drew ?_ | refine blk_alloc ?_ _)); exact BK259.out) hb); have n1_ := Aside0.mk (below_step (by repeat (first | (with_reducible first | exact HB.out | apply below_alloc | apply pw_below_drewN | apply below_drew1 | refine below_set ?_ GE259.out) | exact HB.out)) hb); clear BK259; clear HB; have BK259 := n0_; have HB := n1_; clear n0_ n1_; (try clear hb); (try clear hb2); (try clear hk); (try clear hi)))
    go_ret
    exact ⟨by first | rfl | (simp [errW_none, errW_some] <;> rfl) | (simp [*, errW_none, errW_some] <;> rfl), by repeat (first | (with_reducible first | exact HB.out | apply below_alloc | apply pw_below_drewN | apply below_drew1 | refine below_set ?_ GE259.out) | exact HB.out)⟩
   ·
    replace c11 := Bool.eq_false_iff.mpr c11
    subst c11
    have H1 : ((core_Simple.f kj1 a0_0 a0_1 a0_2 a0_3 a0_4 l0_5 a0_6 a0_7).bind fun bt263 => ((ostinatoref02_Formed.f kj1 a0_0 a0_1 a0_2 a0_3 a0_4 l0_5 a0_6 a0_7).bind fun t275 => (if t275 = true then (if bt263.2.2.2.2.2.2.2.2 = 0 then ((ostinatoref04_Simple.f kj1 a0_0 a0_1 a0_2 a0_3 a0_4 l0_5 a0_6 a0_7).bind fun bt276 => ((ostinatoref02_Same.f kj1 bt263.1 bt263.2.1 bt263.2.2.1 bt263.2.2.2.1 bt263.2.2.2.2.1 bt263.2.2.2.2.2.1 bt263.2.2.2.2.2.2.1 bt263.2.2.2.2.2.2.2.1 bt276.1 bt276.2.1 bt276.2.2.1 bt276.2.2.2.1 bt276.2.2.2.2.1 bt276.2.2.2.2.2.1 bt276.2.2.2.2.2.2.1 bt276.2.2.2.2.2.2.2).bind fun t286 => (some t286))) else (some false)) else (if bt263.2.2.2.2.2.2.2.2 = 1 then ((ostinatoref02_Same.f kj1 bt263.1 bt263.2.1 bt263.2.2.1 bt263.2.2.2.1 bt263.2.2.2.2.1 bt263.2.2.2.2.2.1 bt263.2.2.2.2.2.2.1 bt263.2.2.2.2.2.2.2.1 0 0 0 0 0 ([] : List (S27)) 0 0).bind fun t287 => (some t287)) else (some false))))) = some r := by rw [if_neg (show ¬ (false = true) by decide)] at H; exact H
    clear H
    have H := H1
    clear H1
    replace H := Option.bind_eq_some_iff.mp H
    obtain ⟨⟨t263, t264, t265, t266, t267, t268, t271, t272, t273⟩, A140, H⟩ := H
    replace H : ((ostinatoref02_Formed.f kj1 a0_0 a0_1 a0_2 a0_3 a0_4 l0_5 a0_6 a0_7).bind fun t275 => (if t275 = true then (if t273 = 0 then ((ostinatoref04_Simple.f kj1 a0_0 a0_1 a0_2 a0_3 a0_4 l0_5 a0_6 a0_7).bind fun bt276 => ((ostinatoref02_Same.f kj1 t263 t264 t265 t266 t267 t268 t271 t272 bt276.1 bt276.2.1 bt276.2.2.1 bt276.2.2.2.1 bt276.2.2.2.2.1 bt276.2.2.2.2.2.1 bt276.2.2.2.2.2.2.1 bt276.2.2.2.2.2.2.2).bind fun t286 => (some t286))) else (some false)) else (if t273 = 1 then ((ostinatoref02_Same.f kj1 t263 t264 t265 t266 t267 t268 t271 t272 0 0 0 0 0 ([] : List (S27)) 0 0).bind fun t287 => (some t287)) else (some false)))) = some r := H
    have A14 := Aside0.mk A140
    clear A140
    replace H := Option.bind_eq_some_iff.mp H
    obtain ⟨t275, A150, H⟩ := H
    replace H : (if t275 = true then (if t273 = 0 then ((ostinatoref04_Simple.f kj1 a0_0 a0_1 a0_2 a0_3 a0_4 l0_5 a0_6 a0_7).bind fun bt276 => ((ostinatoref02_Same.f kj1 t263 t264 t265 t266 t267 t268 t271 t272 bt276.1 bt276.2.1 bt276.2.2.1 bt276.2.2.2.1 bt276.2.2.2.2.1 bt276.2.2.2.2.2.1 bt276.2.2.2.2.2.2.1 bt276.2.2.2.2.2.2.2).bind fun t286 => (some t286))) else (some false)) else (if t273 = 1 then ((ostinatoref02_Same.f kj1 t263 t264 t265 t266 t267 t268 t271 t272 0 0 0 0 0 ([] : List (S27)) 0 0).bind fun t287 => (some t287)) else (some false))) = some r := H
    have A15 := Aside0.mk A150
    clear A150
    by_cases c16 : t275 = true
    ·
     subst c16
     have H1 : (if t273 = 0 then ((ostinatoref04_Simple.f kj1 a0_0 a0_1 a0_2 a0_3 a0_4 l0_5 a0_6 a0_7).bind fun bt276 => ((ostinatoref02_Same.f kj1 t263 t264 t265 t266 t267 t268 t271 t272 bt276.1 bt276.2.1 bt276.2.2.1 bt276.2.2.2.1 bt276.2.2.2.2.1 bt276.2.2.2.2.2.1 bt276.2.2.2.2.2.2.1 bt276.2.2.2.2.2.2.2).bind fun t286 => (some t286))) else (some false)) = some r := by rw [if_pos rfl] at H; exact H
     clear H
     have H := H1
     clear H1
     by_cases c17 : t273 = 0
     ·
      rw [if_pos c17] at H
      have c17b0 : (t273 == 0) = true := beq_iff_eq.mpr c17
      have c17b1 : (t273 != 0) = false := bne_eq_false_iff_eq.mpr c17
      clear c17
      replace H := Option.bind_eq_some_iff.mp H
      obtain ⟨⟨t276, t277, t278, t279, t280, t281, t284, t285⟩, A180, H⟩ := H
      replace H : ((ostinatoref02_Same.f kj1 t263 t264 t265 t266 t267 t268 t271 t272 t276 t277 t278 t279 t280 t281 t284 t285).bind fun t286 => (some t286)) = some r := H
      have A18 := Aside0.mk A180
      clear A180
      replace H := Option.bind_eq_some_iff.mp H
      obtain ⟨t286, A190, H⟩ := H
      replace H : (some t286) = some r := H
      have A19 := Aside0.mk A190
      clear A190
      obtain rfl := Option.some.inj H
      have hcz20_0 : wc.cell? ⟨gb259, 0, none⟩ = some (.int .i64 a0_0) := (blk_cell BK259.out 0).trans rfl
      have hcz20_1 : wc.cell? ⟨gb259, 1, none⟩ = some (.int .u64 a0_1) := (blk_cell BK259.out 1).trans rfl
      have hcz20_2 : wc.cell? ⟨gb259, 2, none⟩ = some (.int .u64 a0_2) := (blk_cell BK259.out 2).trans rfl
      have hcz20_3 : wc.cell? ⟨gb259, 3, none⟩ = some (.int .u64 a0_3) := (blk_cell BK259.out 3).trans rfl
      have hcz20_4 : wc.cell? ⟨gb259, 4, none⟩ = some (.int .u64 a0_4) := (blk_cell BK259.out 4).trans rfl
      have hcz20_5 : wc.cell? ⟨gb259, 5, none⟩ = some (.slice A0_5 l0_5.length c0_5) := (blk_cell BK259.out 5).trans rfl
      have hcz20_6 : wc.cell? ⟨gb259, 6, none⟩ = some (.int .i64 a0_6) := (blk_cell BK259.out 6).trans rfl
      have hcz20_7 : wc.cell? ⟨gb259, 7, none⟩ = some (.int .i64 a0_7) := (blk_cell BK259.out 7).trans rfl
      have hfz20_0 := blk_frozen BK259.out 0
      have hfz20_1 := blk_frozen BK259.out 1
      have hfz20_2 := blk_frozen BK259.out 2
      have hfz20_3 := blk_frozen BK259.out 3
      have hfz20_4 := blk_frozen BK259.out 4
      have hfz20_5 := blk_frozen BK259.out 5
      have hfz20_6 := blk_frozen BK259.out 6
      have hfz20_7 := blk_frozen BK259.out 7
      try go_wp2_with (first | ((with_reducible refine gate_callee (f := 10) rfl ?_); refine goesL_ (some 15) rfl rfl Try.func10 (by kernel_rfl) rfl #[.agg #[.int .i64 a0_0, .int .u64 a0_1, .int .u64 a0_2, .int .u64 a0_3, .int .u64 a0_4, .slice A0_5 l0_5.length c0_5, .int .i64 a0_6, .int .i64 a0_7]] rfl (by (try simp only [List.map_toArray, List.map_cons, List.map_nil]); first | done | rfl | (simp only [List.length_drop, List.length_take]; rfl)) ?_; (with_reducible refine (core_Simple.calls kj1 a0_0 a0_1 a0_2 a0_3 a0_4 (fun k_ => k_ < w.heap.size) _ _ l0_5 a0_6 a0_7 t263 t264 t265 t266 t267 t268 t271 t272 t273 _ ?side1 A14.out).mono ?_); (case side1 => exact Kd.V_mk HC0_5.out (Kd.F_below (Kd.C_F k27_heap HR0_5.out) (by repeat (first | (with_reducible first | exact HB.out | apply below_alloc | apply pw_below_drewN | apply below_drew1 | refine below_set ?_ GE259.out) | exact HB.out)))); rintro e w21 ⟨v269, rfl, ho0, hb⟩; refine ⟨_, rfl, ?_⟩; have n0_ := Aside0.mk (Kd.V_lower (Kd.V_mono (ok' := fun k_ => k_ ≠ gb259) ho0 (fun k_ hk_ => Or.elim hk_ (fun hs_ => fun e_ => Nat.not_le.2 hs_ (by rw [e_]; exact GW259.out)) (fun hn_ => (Kd.freshB (g := gb259) (o := .cells #[.int .i64 a0_0, .int .u64 a0_1, .int .u64 a0_2, .int .u64 a0_3, .int .u64 a0_4, .slice A0_5 l0_5.length c0_5, .int .i64 a0_6, .int .i64 a0_7] 27 (0, 0)) (by (with_reducible repeat (first | refine blk_drewN ?_ _ | refine blk_drew ?_ | refine blk_alloc ?_ _)); exact BK259.out) k_ hn_)))) (below_size (by repeat (first | (with_reducible first | exact HB.out | apply below_alloc | apply pw_below_drewN | apply below_drew1 | refine below_set ?_ GE259.out) | exact HB.out)))); have n1_ := Aside0.mk (blk_below (g := gb259) (o := .cells #[.int .i64 a0_0, .int .u64 a0_1, .int .u64 a0_2, .int .u64 a0_3, .int .u64 a0_4, .slice A0_5 l0_5.length c0_5, .int .i64 a0_6, .int .i64 a0_7] 27 (0, 0)) (by (with_reducible repeat (first | refine blk_drewN ?_ _ | refine blk_drew ?_ | refine blk_alloc ?_ _)); exact BK259.out) hb); have n2_ := Aside0.mk (below_step (by repeat (first | (with_reducible first | exact HB.out | apply below_alloc | apply pw_below_drewN | apply below_drew1 | refine below_set ?_ GE259.out) | exact HB.out)) hb); clear BK259; clear HB; have HO270 := n0_; have BK259 := n1_; have HB := n2_; clear n0_ n1_ n2_; (try clear hb); (try clear hb2); (try clear hk); (try clear hi); (try clear ho0)) | ((with_reducible refine gate_dst (N := 3) rfl ?_); refine box_event ?hg (N := 3) ?hd (cs := #[.int .i64 0, .int .u64 0, .int .u64 0, .int .u64 0, .int .u64 0, .slice none 0 0, .int .i64 0, .int .i64 0]) (t := 27) ?hr ?_; (case hd => rfl); (case hg => rfl); (case hr => first | (go_simp; done) | (go_simp; rfl)); intro gb274 hg w22 hbox hb; have n0_ := Aside0.mk (Kd.V_below (Kd.V_elderB (by (with_reducible repeat (first | apply Kd.V_alloc | apply Kd.V_drewN | apply Kd.V_drew)); exact HO270.out) gb274 (Nat.le_of_eq hg.symm)) hb); have n1_ := Aside0.mk (blk_below (g := gb259) (o := .cells #[.int .i64 a0_0, .int .u64 a0_1, .int .u64 a0_2, .int .u64 a0_3, .int .u64 a0_4, .slice A0_5 l0_5.length c0_5, .int .i64 a0_6, .int .i64 a0_7] 27 (0, 0)) (by (with_reducible repeat (first | refine blk_drewN ?_ _ | refine blk_drew ?_ | refine blk_alloc ?_ _)); exact BK259.out) hb); have n2_ := Aside0.mk (below_step (by repeat (first | (with_reducible first | exact HB.out | apply below_alloc | apply pw_below_drewN | apply below_drew1 | refine below_set ?_ GE259.out) | exact HB.out)) hb); have n3_ := Aside0.mk (hbox); have n4_ := Aside0.mk ((by rw [hg]; exact (below_size (by repeat (first | (with_reducible first | exact HB.out | apply below_alloc | apply pw_below_drewN | apply below_drew1 | refine below_set ?_ GE259.out) | exact HB.out))) : w.heap.size ≤ gb274)); have n5_ := Aside0.mk ((by rw [hg]; exact (below_size (by repeat (first | (with_reducible first | exact HB.out | apply below_alloc | apply pw_below_drewN | apply below_drew1 | refine below_set ?_ GE259.out) | exact HB.out))) : w.heap.size ≤ gb274)); have n6_ := Aside0.mk ((by rw [hg]; exact Nat.ne_of_lt (blk_lt (g := gb259) (o := .cells #[.int .i64 a0_0, .int .u64 a0_1, .int .u64 a0_2, .int .u64 a0_3, .int .u64 a0_4, .slice A0_5 l0_5.length c0_5, .int .i64 a0_6, .int .i64 a0_7] 27 (0, 0)) (by (with_reducible repeat (first | refine blk_drewN ?_ _ | refine blk_drew ?_ | refine blk_alloc ?_ _)); exact BK259.out)) : gb259 ≠ gb274)); have n7_ := Aside0.mk ((by rw [hg]; exact Nat.ne_of_gt (blk_lt (g := gb259) (o := .cells #[.int .i64 a0_0, .int .u64 a0_1, .int .u64 a0_2, .int .u64 a0_3, .int .u64 a0_4, .slice A0_5 l0_5.length c0_5, .int .i64 a0_6, .int .i64 a0_7] 27 (0, 0)) (by (with_reducible repeat (first | refine blk_drewN ?_ _ | refine blk_drew ?_ | refine blk_alloc ?_ _)); exact BK259.out)) : gb274 ≠ gb259)); clear HO270; clear BK259; clear HB; have HO270 := n0_; have BK259 := n1_; have HB := n2_; have BK274 := n3_; have GW274 := n4_; have GE274 := n5_; have NB259_274 := n6_; have NB274_259 := n7_; clear n0_ n1_ n2_ n3_ n4_ n5_ n6_ n7_; clear hb hbox hg; have hnb23 := NB274_259.out; have hnc23 := NB259_274.out; have hcz24_0 : w22.cell? ⟨gb274, 0, none⟩ = some (.int .i64 0) := (blk_cell BK274.out 0).trans rfl; have hcz24_1 : w22.cell? ⟨gb274, 1, none⟩ = some (.int .u64 0) := (blk_cell BK274.out 1).trans rfl; have hcz24_2 : w22.cell? ⟨gb274, 2, none⟩ = some (.int .u64 0) := (blk_cell BK274.out 2).trans rfl; have hcz24_3 : w22.cell? ⟨gb274, 3, none⟩ = some (.int .u64 0) := (blk_cell BK274.out 3).trans rfl; have hcz24_4 : w22.cell? ⟨gb274, 4, none⟩ = some (.int .u64 0) := (blk_cell BK274.out 4).trans rfl; have hcz24_5 : w22.cell? ⟨gb274, 5, none⟩ = some (.slice none 0 0) := (blk_cell BK274.out 5).trans rfl; have hcz24_6 : w22.cell? ⟨gb274, 6, none⟩ = some (.int .i64 0) := (blk_cell BK274.out 6).trans rfl; have hcz24_7 : w22.cell? ⟨gb274, 7, none⟩ = some (.int .i64 0) := (blk_cell BK274.out 7).trans rfl; have hfz24_0 := blk_frozen BK274.out 0; have hfz24_1 := blk_frozen BK274.out 1; have hfz24_2 := blk_frozen BK274.out 2; have hfz24_3 := blk_frozen BK274.out 3; have hfz24_4 := blk_frozen BK274.out 4; have hfz24_5 := blk_frozen BK274.out 5; have hfz24_6 := blk_frozen BK274.out 6; have hfz24_7 := blk_frozen BK274.out 7; obtain ⟨Ao25, co25, eo25⟩ := Kd.V_slice HO270.out; subst eo25; have hcz26_0 : w22.cell? ⟨gb259, 0, none⟩ = some (.int .i64 a0_0) := (blk_cell BK259.out 0).trans rfl; have hcz26_1 : w22.cell? ⟨gb259, 1, none⟩ = some (.int .u64 a0_1) := (blk_cell BK259.out 1).trans rfl; have hcz26_2 : w22.cell? ⟨gb259, 2, none⟩ = some (.int .u64 a0_2) := (blk_cell BK259.out 2).trans rfl; have hcz26_3 : w22.cell? ⟨gb259, 3, none⟩ = some (.int .u64 a0_3) := (blk_cell BK259.out 3).trans rfl; have hcz26_4 : w22.cell? ⟨gb259, 4, none⟩ = some (.int .u64 a0_4) := (blk_cell BK259.out 4).trans rfl; have hcz26_5 : w22.cell? ⟨gb259, 5, none⟩ = some (.slice A0_5 l0_5.length c0_5) := (blk_cell BK259.out 5).trans rfl; have hcz26_6 : w22.cell? ⟨gb259, 6, none⟩ = some (.int .i64 a0_6) := (blk_cell BK259.out 6).trans rfl; have hcz26_7 : w22.cell? ⟨gb259, 7, none⟩ = some (.int .i64 a0_7) := (blk_cell BK259.out 7).trans rfl; have hfz26_0 := blk_frozen BK259.out 0; have hfz26_1 := blk_frozen BK259.out 1; have hfz26_2 := blk_frozen BK259.out 2; have hfz26_3 := blk_frozen BK259.out 3; have hfz26_4 := blk_frozen BK259.out 4; have hfz26_5 := blk_frozen BK259.out 5; have hfz26_6 := blk_frozen BK259.out 6; have hfz26_7 := blk_frozen BK259.out 7) | ((with_reducible refine gate_callee (f := 11) rfl ?_); refine goesL_ (some 19) rfl rfl Try.func11 (by kernel_rfl) rfl #[.agg #[.int .i64 a0_0, .int .u64 a0_1, .int .u64 a0_2, .int .u64 a0_3, .int .u64 a0_4, .slice A0_5 l0_5.length c0_5, .int .i64 a0_6, .int .i64 a0_7]] rfl (by (try simp only [List.map_toArray, List.map_cons, List.map_nil]); first | done | rfl | (simp only [List.length_drop, List.length_take]; rfl)) ?_; (with_reducible refine (ostinatoref02_Formed.calls kj1 a0_0 a0_1 a0_2 a0_3 a0_4 _ _ l0_5 a0_6 a0_7 true _ ?side1 ?side2 A15.out).mono ?_); (case side1 => exact Kd.C_below HR0_5.out (by repeat (first | (with_reducible first | exact HB.out | apply below_alloc | apply pw_below_drewN | apply below_drew1 | refine below_set ?_ GE259.out | refine below_set ?_ GE274.out) | exact HB.out))); (case side2 => exact HC0_5.out); rintro e w27 ⟨rfl, hb⟩; refine ⟨_, rfl, ?_⟩; have n0_ := Aside0.mk (Kd.V_below (by (with_reducible repeat (first | apply Kd.V_alloc | apply Kd.V_drewN | apply Kd.V_drew)); exact (Kd.V_mono (Kd.V_far (p := ⟨gb274, 7, none⟩) (Kd.V_far (p := ⟨gb274, 6, none⟩) (Kd.V_far (p := ⟨gb274, 5, none⟩) (Kd.V_far (p := ⟨gb274, 4, none⟩) (Kd.V_far (p := ⟨gb274, 3, none⟩) (Kd.V_far (p := ⟨gb274, 2, none⟩) (Kd.V_far (p := ⟨gb274, 1, none⟩) (Kd.V_far (p := ⟨gb274, 0, none⟩) (Kd.V_mono HO270.out (fun k_ hk => (⟨hk, hk.2⟩ : _ ∧ k_ ≠ gb274))) (fun _ hk => hk.2) (.int .i64 t263)) (fun _ hk => hk.2) (.int .u64 t264)) (fun _ hk => hk.2) (.int .u64 t265)) (fun _ hk => hk.2) (.int .u64 t266)) (fun _ hk => hk.2) (.int .u64 t267)) (fun _ hk => hk.2) (.slice Ao25 t268.length co25)) (fun _ hk => hk.2) (.int .i64 t271)) (fun _ hk => hk.2) (.int .i64 t272)) (fun _ h_ => h_.1))) hb); have n1_ := Aside0.mk (blk_below (g := gb259) (o := .cells #[.int .i64 a0_0, .int .u64 a0_1, .int .u64 a0_2, .int .u64 a0_3, .int .u64 a0_4, .slice A0_5 l0_5.length c0_5, .int .i64 a0_6, .int .i64 a0_7] 27 (0, 0)) (by (with_reducible repeat (first | refine blk_drewN ?_ _ | refine blk_drew ?_ | refine blk_alloc ?_ _)); refine blk_far ?_ NB259_274.out _; (with_reducible repeat (first | refine blk_drewN ?_ _ | refine blk_drew ?_ | refine blk_alloc ?_ _)); refine blk_far ?_ NB259_274.out _; (with_reducible repeat (first | refine blk_drewN ?_ _ | refine blk_drew ?_ | refine blk_alloc ?_ _)); refine blk_far ?_ NB259_274.out _; (with_reducible repeat (first | refine blk_drewN ?_ _ | refine blk_drew ?_ | refine blk_alloc ?_ _)); refine blk_far ?_ NB259_274.out _; (with_reducible repeat (first | refine blk_drewN ?_ _ | refine blk_drew ?_ | refine blk_alloc ?_ _)); refine blk_far ?_ NB259_274.out _; (with_reducible repeat (first | refine blk_drewN ?_ _ | refine blk_drew ?_ | refine blk_alloc ?_ _)); refine blk_far ?_ NB259_274.out _; (with_reducible repeat (first | refine blk_drewN ?_ _ | refine blk_drew ?_ | refine blk_alloc ?_ _)); refine blk_far ?_ NB259_274.out _; (with_reducible repeat (first | refine blk_drewN ?_ _ | refine blk_drew ?_ | refine blk_alloc ?_ _)); refine blk_far ?_ NB259_274.out _; (with_reducible repeat (first | refine blk_drewN ?_ _ | refine blk_drew ?_ | refine blk_alloc ?_ _)); exact BK259.out) hb); have n2_ := Aside0.mk (blk_below (g := gb274) (o := .cells #[.int .i64 t263, .int .u64 t264, .int .u64 t265, .int .u64 t266, .int .u64 t267, .slice Ao25 t268.length co25, .int .i64 t271, .int .i64 t272] 27 (0, 0)) (by (with_reducible repeat (first | refine blk_drewN ?_ _ | refine blk_drew ?_ | refine blk_alloc ?_ _)); refine blk_put (cs := #[.int .i64 t263, .int .u64 t264, .int .u64 t265, .int .u64 t266, .int .u64 t267, .slice Ao25 t268.length co25, .int .i64 t271, .int .i64 0]) ?_ 7 _ rfl; (with_reducible repeat (first | refine blk_drewN ?_ _ | refine blk_drew ?_ | refine blk_alloc ?_ _)); refine blk_put (cs := #[.int .i64 t263, .int .u64 t264, .int .u64 t265, .int .u64 t266, .int .u64 t267, .slice Ao25 t268.length co25, .int .i64 0, .int .i64 0]) ?_ 6 _ rfl; (with_reducible repeat (first | refine blk_drewN ?_ _ | refine blk_drew ?_ | refine blk_alloc ?_ _)); refine blk_put (cs := #[.int .i64 t263, .int .u64 t264, .int .u64 t265, .int .u64 t266, .int .u64 t267, .slice none 0 0, .int .i64 0, .int .i64 0]) ?_ 5 _ rfl; (with_reducible repeat (first | refine blk_drewN ?_ _ | refine blk_drew ?_ | refine blk_alloc ?_ _)); refine blk_put (cs := #[.int .i64 t263, .int .u64 t264, .int .u64 t265, .int .u64 t266, .int .u64 0, .slice none 0 0, .int .i64 0, .int .i64 0]) ?_ 4 _ rfl; (with_reducible repeat (first | refine blk_drewN ?_ _ | refine blk_drew ?_ | refine blk_alloc ?_ _)); refine blk_put (cs := #[.int .i64 t263, .int .u64 t264, .int .u64 t265, .int .u64 0, .int .u64 0, .slice none 0 0, .int .i64 0, .int .i64 0]) ?_ 3 _ rfl; (with_reducible repeat (first | refine blk_drewN ?_ _ | refine blk_drew ?_ | refine blk_alloc ?_ _)); refine blk_put (cs := #[.int .i64 t263, .int .u64 t264, .int .u64 0, .int .u64 0, .int .u64 0, .slice none 0 0, .int .i64 0, .int .i64 0]) ?_ 2 _ rfl; (with_reducible repeat (first | refine blk_drewN ?_ _ | refine blk_drew ?_ | refine blk_alloc ?_ _)); refine blk_put (cs := #[.int .i64 t263, .int .u64 0, .int .u64 0, .int .u64 0, .int .u64 0, .slice none 0 0, .int .i64 0, .int .i64 0]) ?_ 1 _ rfl; (with_reducible repeat (first | refine blk_drewN ?_ _ | refine blk_drew ?_ | refine blk_alloc ?_ _)); refine blk_put (cs := #[.int .i64 0, .int .u64 0, .int .u64 0, .int .u64 0, .int .u64 0, .slice none 0 0, .int .i64 0, .int .i64 0]) ?_ 0 _ rfl; (with_reducible repeat (first | refine blk_drewN ?_ _ | refine blk_drew ?_ | refine blk_alloc ?_ _)); exact BK274.out) hb); have n3_ := Aside0.mk (below_step (by repeat (first | (with_reducible first | exact HB.out | apply below_alloc | apply pw_below_drewN | apply below_drew1 | refine below_set ?_ GE259.out | refine below_set ?_ GE274.out) | exact HB.out)) hb); clear HO270; clear BK259; clear BK274; clear HB; have HO270 := n0_; have BK259 := n1_; have BK274 := n2_; have HB := n3_; clear n0_ n1_ n2_ n3_; (try clear hb); (try clear hb2); (try clear hk); (try clear hi)))
      have n0_ := Aside0.mk (Kd.V_drew HO270.out)
      have n1_ := Aside0.mk (blk_drew BK259.out)
      have n2_ := Aside0.mk (blk_drew BK274.out)
      have n3_ := Aside0.mk (below_drew1 HB.out)
      clear HO270
      clear BK259
      clear BK274
      clear HB
      have HO270 := n0_
      have BK259 := n1_
      have BK274 := n2_
      have HB := n3_
      clear n0_ n1_ n2_ n3_
      refine start_ (n := 9) (S := fun w' => w'.cell? ⟨gb274, 0, none⟩ = some (.int .i64 t263) ∧ w'.cell? ⟨gb274, 1, none⟩ = some (.int .u64 t264) ∧ w'.cell? ⟨gb274, 2, none⟩ = some (.int .u64 t265) ∧ w'.cell? ⟨gb274, 3, none⟩ = some (.int .u64 t266) ∧ w'.cell? ⟨gb274, 4, none⟩ = some (.int .u64 t267) ∧ w'.cell? ⟨gb274, 5, none⟩ = some (.slice Ao25 t268.length co25) ∧ w'.cell? ⟨gb274, 6, none⟩ = some (.int .i64 t271) ∧ w'.cell? ⟨gb274, 7, none⟩ = some (.int .i64 t272) ∧ w'.cell? ⟨gb259, 0, none⟩ = some (.int .i64 a0_0) ∧ w'.cell? ⟨gb259, 1, none⟩ = some (.int .u64 a0_1) ∧ w'.cell? ⟨gb259, 2, none⟩ = some (.int .u64 a0_2) ∧ w'.cell? ⟨gb259, 3, none⟩ = some (.int .u64 a0_3) ∧ w'.cell? ⟨gb259, 4, none⟩ = some (.int .u64 a0_4) ∧ w'.cell? ⟨gb259, 5, none⟩ = some (.slice A0_5 l0_5.length c0_5) ∧ w'.cell? ⟨gb259, 6, none⟩ = some (.int .i64 a0_6) ∧ w'.cell? ⟨gb259, 7, none⟩ = some (.int .i64 a0_7)) (ds := []) #[false, false, false, false, false, false, false, false, false] (by kernel_rfl) rfl rfl ⟨(blk_cell BK274.out 0).trans rfl, (blk_cell BK274.out 1).trans rfl, (blk_cell BK274.out 2).trans rfl, (blk_cell BK274.out 3).trans rfl, (blk_cell BK274.out 4).trans rfl, (blk_cell BK274.out 5).trans rfl, (blk_cell BK274.out 6).trans rfl, (blk_cell BK274.out 7).trans rfl, (blk_cell BK259.out 0).trans rfl, (blk_cell BK259.out 1).trans rfl, (blk_cell BK259.out 2).trans rfl, (blk_cell BK259.out 3).trans rfl, (blk_cell BK259.out 4).trans rfl, (blk_cell BK259.out 5).trans rfl, (blk_cell BK259.out 6).trans rfl, (blk_cell BK259.out 7).trans rfl⟩ (fun hHeld => ?_); refine with_tabW ostinatolaw04_CoreSimple.tab6 ostinatolaw04_CoreSimple.bits6 (fun HT_ HW_ => ?_)
      generalize w27.drew = w28 at HO270 BK259 BK274 HB hHeld ⊢
      refine pure_ (i := 0) (N := some 28) (v := ?_) (a' := ?_) #[true, false, false, false, false, false, false, false, false] rfl rfl (any_of HT_.out (by kernel_rfl)) (fun _ _ _ h => h) (Or.inl ⟨by rfl, ?_⟩) ?_ ?_
      rotate_left
      ·
       intro w'
       go_simp
       with_reducible rfl
      rotate_left
      ·
       simp only [Act.put, List.setIfInBounds_toArray, List.set_cons_zero, List.set_cons_succ, i64_w, i32_w]
       rfl
      refine pure_ (i := 1) (N := some 29) (v := ?_) (a' := ?_) #[true, true, false, false, false, false, false, false, false] rfl rfl (any_of HT_.out (by kernel_rfl)) (fun _ _ _ h => h) (Or.inl ⟨by rfl, ?_⟩) ?_ ?_
      rotate_left
      ·
       intro w'
       go_simp
       with_reducible rfl
      rotate_left
      ·
       simp only [Act.put, List.setIfInBounds_toArray, List.set_cons_zero, List.set_cons_succ, i64_w, i32_w]
       rfl
      refine pure_ (i := 2) (N := some 30) (v := ?_) (a' := ?_) #[true, true, true, false, false, false, false, false, false] rfl rfl (any_of HT_.out (by kernel_rfl)) (fun _ _ _ h => h) (Or.inl ⟨by rfl, ?_⟩) ?_ ?_
      rotate_left
      ·
       intro w'
       go_simp
       with_reducible rfl
      rotate_left
      ·
       simp only [Act.put, List.setIfInBounds_toArray, List.set_cons_zero, List.set_cons_succ, i64_w, i32_w]
       rfl
      refine take_ (i := 3) (N := some 31) (v := ?_) (a' := ?_) #[true, true, true, true, false, false, false, false, false] rfl rfl (take_ofW HT_.out HW_.out (by kernel_rfl)) (fun _ _ _ h => h) (Or.inl ⟨by rfl, ?_⟩) hHeld ?_ ?_
      rotate_left
      ·
       rintro w' ⟨s0, s1, s2, s3, s4, s5, s6, s7, s8, s9, s10, s11, s12, s13, s14, s15⟩
       go_simp
       with_reducible rfl
      rotate_left
      ·
       simp only [Act.put, List.setIfInBounds_toArray, List.set_cons_zero, List.set_cons_succ, i64_w, i32_w]
       rfl
      refine take_ (i := 4) (N := some 32) (v := ?_) (a' := ?_) #[true, true, true, true, true, false, false, false, false] rfl rfl (take_ofW HT_.out HW_.out (by kernel_rfl)) (fun _ _ _ h => h) (Or.inl ⟨by rfl, ?_⟩) hHeld ?_ ?_
      rotate_left
      ·
       rintro w' ⟨s0, s1, s2, s3, s4, s5, s6, s7, s8, s9, s10, s11, s12, s13, s14, s15⟩
       go_simp
       with_reducible rfl
      rotate_left
      ·
       simp only [Act.put, List.setIfInBounds_toArray, List.set_cons_zero, List.set_cons_succ, i64_w, i32_w]
       rfl
      refine one_ (i := 5) (N := some 33) #[true, true, true, true, true, true, false, false, false] rfl rfl (one_of HT_.out (by kernel_rfl)) (by decide) (fun K hK => ?_)
      refine goes_ Try.func13 (by kernel_rfl) rfl #[.agg #[.int .i64 a0_0, .int .u64 a0_1, .int .u64 a0_2, .int .u64 a0_3, .int .u64 a0_4, .slice A0_5 l0_5.length c0_5, .int .i64 a0_6, .int .i64 a0_7]] (by rfl) rfl rfl (by (try simp only [List.map_toArray, List.map_cons, List.map_nil]); first | done | rfl | (simp only [List.length_drop, List.length_take]; rfl)) ?_
      with_reducible refine (ostinatoref04_Simple.calls kj1 a0_0 a0_1 a0_2 a0_3 a0_4 (fun k_ => k_ < w.heap.size) _ _ l0_5 a0_6 a0_7 t276 t277 t278 t279 t280 t281 t284 t285 _ ?side1 A18.out).mono ?_
      (case side1 => exact Kd.V_mk HC0_5.out (Kd.F_below (Kd.C_F k27_heap HR0_5.out) (by repeat (first | (with_reducible first | exact HB.out | apply below_alloc | apply pw_below_drewN | apply below_drew1 | refine below_set ?_ GE259.out | refine below_set ?_ GE274.out) | exact HB.out))))
      rintro e w29 ⟨v282, rfl, ho0, hb⟩
      refine ⟨_, rfl, ?_⟩
      have n0_ := Aside0.mk (Kd.V_below (by (with_reducible repeat (first | apply Kd.V_alloc | apply Kd.V_drewN | apply Kd.V_drew)); exact HO270.out) hb)
      have n1_ := Aside0.mk (Kd.V_lower (Kd.V_mono (ok' := fun k_ => k_ ≠ gb259 ∧ k_ ≠ gb274) ho0 (fun k_ hk_ => ⟨Or.elim hk_ (fun hs_ => fun e_ => Nat.not_le.2 hs_ (by rw [e_]; exact GW259.out)) (fun hn_ => (Kd.freshB (g := gb259) (o := .cells #[.int .i64 a0_0, .int .u64 a0_1, .int .u64 a0_2, .int .u64 a0_3, .int .u64 a0_4, .slice A0_5 l0_5.length c0_5, .int .i64 a0_6, .int .i64 a0_7] 27 (0, 0)) (by (with_reducible repeat (first | refine blk_drewN ?_ _ | refine blk_drew ?_ | refine blk_alloc ?_ _)); exact BK259.out) k_ hn_)), Or.elim hk_ (fun hs_ => fun e_ => Nat.not_le.2 hs_ (by rw [e_]; exact GW274.out)) (fun hn_ => (Kd.freshB (g := gb274) (o := .cells #[.int .i64 t263, .int .u64 t264, .int .u64 t265, .int .u64 t266, .int .u64 t267, .slice Ao25 t268.length co25, .int .i64 t271, .int .i64 t272] 27 (0, 0)) (by (with_reducible repeat (first | refine blk_drewN ?_ _ | refine blk_drew ?_ | refine blk_alloc ?_ _)); exact BK274.out) k_ hn_))⟩)) (below_size (by repeat (first | (with_reducible first | exact HB.out | apply below_alloc | apply pw_below_drewN | apply below_drew1 | refine below_set ?_ GE259.out | refine below_set ?_ GE274.out) | exact HB.out))))
      have n2_ := Aside0.mk (blk_below (g := gb259) (o := .cells #[.int .i64 a0_0, .int .u64 a0_1, .int .u64 a0_2, .int .u64 a0_3, .int .u64 a0_4, .slice A0_5 l0_5.length c0_5, .int .i64 a0_6, .int .i64 a0_7] 27 (0, 0)) (by (with_reducible repeat (first | refine blk_drewN ?_ _ | refine blk_drew ?_ | refine blk_alloc ?_ _)); exact BK259.out) hb)
      have n3_ := Aside0.mk (blk_below (g := gb274) (o := .cells #[.int .i64 t263, .int .u64 t264, .int .u64 t265, .int .u64 t266, .int .u64 t267, .slice Ao25 t268.length co25, .int .i64 t271, .int .i64 t272] 27 (0, 0)) (by (with_reducible repeat (first | refine blk_drewN ?_ _ | refine blk_drew ?_ | refine blk_alloc ?_ _)); exact BK274.out) hb)
      have n4_ := Aside0.mk (below_step (by repeat (first | (with_reducible first | exact HB.out | apply below_alloc | apply pw_below_drewN | apply below_drew1 | refine below_set ?_ GE259.out | refine below_set ?_ GE274.out) | exact HB.out)) hb)
      clear HO270
      clear BK259
      clear BK274
      clear HB
      have HO270 := n0_
      have HO283 := n1_
      have BK259 := n2_
      have BK274 := n3_
      have HB := n4_
      clear n0_ n1_ n2_ n3_ n4_
      (try clear hb)
      (try clear hb2)
      (try clear hk)
      (try clear hi)
      (try clear ho0)
      obtain ⟨Ao30, co30, eo30⟩ := Kd.V_slice HO283.out
      (first | subst eo30 | (injection eo30 with f1_ f2_ f3_; have f4_ := f1_.symm; have f5_ := f3_.symm; clear f1_ f2_ f3_; subst f4_; subst f5_))
      refine hK.out _ _ ⟨(blk_cell BK274.out 0).trans rfl, (blk_cell BK274.out 1).trans rfl, (blk_cell BK274.out 2).trans rfl, (blk_cell BK274.out 3).trans rfl, (blk_cell BK274.out 4).trans rfl, (blk_cell BK274.out 5).trans rfl, (blk_cell BK274.out 6).trans rfl, (blk_cell BK274.out 7).trans rfl, (blk_cell BK259.out 0).trans rfl, (blk_cell BK259.out 1).trans rfl, (blk_cell BK259.out 2).trans rfl, (blk_cell BK259.out 3).trans rfl, (blk_cell BK259.out 4).trans rfl, (blk_cell BK259.out 5).trans rfl, (blk_cell BK259.out 6).trans rfl, (blk_cell BK259.out 7).trans rfl⟩ (fun hHeld => ?_)
      clear hK K
      refine norm_ (a' := ?_) ?_ ?_
      rotate_left
      ·
       show Act.put _ (some 33) _ = _
       simp only [Act.put, List.setIfInBounds_toArray, List.set_cons_zero, List.set_cons_succ, i64_w, i32_w]
       rfl
      refine one_ (i := 6) (N := some 34) #[true, true, true, true, true, true, true, false, false] rfl rfl (one_of HT_.out (by kernel_rfl)) (by decide) (fun K hK => ?_)
      refine goes_ Try.func12 (by kernel_rfl) rfl #[.agg #[.int .i64 t263, .int .u64 t264, .int .u64 t265, .int .u64 t266, .int .u64 t267, .slice Ao25 t268.length co25, .int .i64 t271, .int .i64 t272], .agg #[.int .i64 t276, .int .u64 t277, .int .u64 t278, .int .u64 t279, .int .u64 t280, .slice Ao30 t281.length co30, .int .i64 t284, .int .i64 t285]] (by rfl) rfl rfl (by (try simp only [List.map_toArray, List.map_cons, List.map_nil]); first | done | rfl | (simp only [List.length_drop, List.length_take]; rfl)) ?_
      with_reducible refine (ostinatoref02_Same.calls kj1 t263 t264 t265 t266 t267 _ _ t268 t271 t272 t276 t277 t278 t279 t280 _ _ t281 t284 t285 t286 _ ?side1 ?side2 ?side3 ?side4 A19.out).mono ?_
      (case side1 => repeat (first | exact (Kd.V_reads' HO270.out).2.2 | (with_reducible refine Kd.C_alloc ?_ _) | (with_reducible refine Kd.C_drewN ?_ _) | (with_reducible refine Kd.C_drew ?_)))
      (case side2 => exact (Kd.V_reads' HO270.out).2.1)
      (case side3 => repeat (first | exact (Kd.V_reads' HO283.out).2.2 | (with_reducible refine Kd.C_alloc ?_ _) | (with_reducible refine Kd.C_drewN ?_ _) | (with_reducible refine Kd.C_drew ?_)))
      (case side4 => exact (Kd.V_reads' HO283.out).2.1)
      rintro e w31 ⟨rfl, hb⟩
      refine ⟨_, rfl, ?_⟩
      have n0_ := Aside0.mk (Kd.V_below (by (with_reducible repeat (first | apply Kd.V_alloc | apply Kd.V_drewN | apply Kd.V_drew)); exact HO270.out) hb)
      have n1_ := Aside0.mk (Kd.V_below (by (with_reducible repeat (first | apply Kd.V_alloc | apply Kd.V_drewN | apply Kd.V_drew)); exact HO283.out) hb)
      have n2_ := Aside0.mk (blk_below (g := gb259) (o := .cells #[.int .i64 a0_0, .int .u64 a0_1, .int .u64 a0_2, .int .u64 a0_3, .int .u64 a0_4, .slice A0_5 l0_5.length c0_5, .int .i64 a0_6, .int .i64 a0_7] 27 (0, 0)) (by (with_reducible repeat (first | refine blk_drewN ?_ _ | refine blk_drew ?_ | refine blk_alloc ?_ _)); exact BK259.out) hb)
      have n3_ := Aside0.mk (blk_below (g := gb274) (o := .cells #[.int .i64 t263, .int .u64 t264, .int .u64 t265, .int .u64 t266, .int .u64 t267, .slice Ao25 t268.length co25, .int .i64 t271, .int .i64 t272] 27 (0, 0)) (by (with_reducible repeat (first | refine blk_drewN ?_ _ | refine blk_drew ?_ | refine blk_alloc ?_ _)); exact BK274.out) hb)
      have n4_ := Aside0.mk (below_step (by repeat (first | (with_reducible first | exact HB.out | apply below_alloc | apply pw_below_drewN | apply below_drew1 | refine below_set ?_ GE259.out | refine below_set ?_ GE274.out) | exact HB.out)) hb)
      clear HO270
      clear HO283
      clear BK259
      clear BK274
      clear HB
      have HO270 := n0_
      have HO283 := n1_
      have BK259 := n2_
      have BK274 := n3_
      have HB := n4_
      clear n0_ n1_ n2_ n3_ n4_
      (try clear hb)
      (try clear hb2)
      (try clear hk)
      (try clear hi)
      refine hK.out _ _ ⟨(blk_cell BK274.out 0).trans rfl, (blk_cell BK274.out 1).trans rfl, (blk_cell BK274.out 2).trans rfl, (blk_cell BK274.out 3).trans rfl, (blk_cell BK274.out 4).trans rfl, (blk_cell BK274.out 5).trans rfl, (blk_cell BK274.out 6).trans rfl, (blk_cell BK274.out 7).trans rfl, (blk_cell BK259.out 0).trans rfl, (blk_cell BK259.out 1).trans rfl, (blk_cell BK259.out 2).trans rfl, (blk_cell BK259.out 3).trans rfl, (blk_cell BK259.out 4).trans rfl, (blk_cell BK259.out 5).trans rfl, (blk_cell BK259.out 6).trans rfl, (blk_cell BK259.out 7).trans rfl⟩ (fun hHeld => ?_)
      clear hK K
      refine norm_ (a' := ?_) ?_ ?_
      rotate_left
      ·
       show Act.put _ (some 34) _ = _
       simp only [Act.put, List.setIfInBounds_toArray, List.set_cons_zero, List.set_cons_succ, i64_w, i32_w]
       rfl
      refine pure_ (i := 7) (N := some 35) (v := ?_) (a' := ?_) #[true, true, true, true, true, true, true, true, false] rfl rfl (any_of HT_.out (by kernel_rfl)) (fun _ _ _ h => h) (Or.inl ⟨by rfl, ?_⟩) ?_ ?_
      rotate_left
      ·
       intro w'
       go_simp
       with_reducible rfl
      rotate_left
      ·
       simp only [Act.put, List.setIfInBounds_toArray, List.set_cons_zero, List.set_cons_succ, i64_w, i32_w]
       rfl
      refine pure_ (i := 8) (N := some 2) (v := ?_) (a' := ?_) #[true, true, true, true, true, true, true, true, true] rfl rfl (any_of HT_.out (by kernel_rfl)) (fun _ _ _ h => h) (Or.inl ⟨by rfl, ?_⟩) ?_ ?_
      rotate_left
      ·
       intro w'
       go_simp
       with_reducible rfl
      rotate_left
      ·
       simp only [Act.put, List.setIfInBounds_toArray, List.set_cons_zero, List.set_cons_succ, i64_w, i32_w]
       rfl
      refine done_ (done_of HT_.out (by kernel_rfl)) ?_
      try go_wp2
      go_ret
      exact ⟨by first | rfl | (simp [errW_none, errW_some] <;> rfl) | (simp [*, errW_none, errW_some] <;> rfl), by repeat (first | (with_reducible first | exact HB.out | apply below_alloc | apply pw_below_drewN | apply below_drew1 | refine below_set ?_ GE259.out | refine below_set ?_ GE274.out) | exact HB.out)⟩
     ·
      rw [if_neg c17] at H
      have c17b0 : (t273 == 0) = false := beq_eq_false_iff_ne.mpr c17
      have c17b1 : (t273 != 0) = true := bne_iff_ne.mpr c17
      obtain rfl := Option.some.inj H
      have hcz32_0 : wc.cell? ⟨gb259, 0, none⟩ = some (.int .i64 a0_0) := (blk_cell BK259.out 0).trans rfl
      have hcz32_1 : wc.cell? ⟨gb259, 1, none⟩ = some (.int .u64 a0_1) := (blk_cell BK259.out 1).trans rfl
      have hcz32_2 : wc.cell? ⟨gb259, 2, none⟩ = some (.int .u64 a0_2) := (blk_cell BK259.out 2).trans rfl
      have hcz32_3 : wc.cell? ⟨gb259, 3, none⟩ = some (.int .u64 a0_3) := (blk_cell BK259.out 3).trans rfl
      have hcz32_4 : wc.cell? ⟨gb259, 4, none⟩ = some (.int .u64 a0_4) := (blk_cell BK259.out 4).trans rfl
      have hcz32_5 : wc.cell? ⟨gb259, 5, none⟩ = some (.slice A0_5 l0_5.length c0_5) := (blk_cell BK259.out 5).trans rfl
      have hcz32_6 : wc.cell? ⟨gb259, 6, none⟩ = some (.int .i64 a0_6) := (blk_cell BK259.out 6).trans rfl
      have hcz32_7 : wc.cell? ⟨gb259, 7, none⟩ = some (.int .i64 a0_7) := (blk_cell BK259.out 7).trans rfl
      have hfz32_0 := blk_frozen BK259.out 0
      have hfz32_1 := blk_frozen BK259.out 1
      have hfz32_2 := blk_frozen BK259.out 2
      have hfz32_3 := blk_frozen BK259.out 3
      have hfz32_4 := blk_frozen BK259.out 4
      have hfz32_5 := blk_frozen BK259.out 5
      have hfz32_6 := blk_frozen BK259.out 6
      have hfz32_7 := blk_frozen BK259.out 7
      try go_wp2_with (first | ((with_reducible refine gate_callee (f := 10) rfl ?_); refine goesL_ (some 15) rfl rfl Try.func10 (by kernel_rfl) rfl #[.agg #[.int .i64 a0_0, .int .u64 a0_1, .int .u64 a0_2, .int .u64 a0_3, .int .u64 a0_4, .slice A0_5 l0_5.length c0_5, .int .i64 a0_6, .int .i64 a0_7]] rfl (by (try simp only [List.map_toArray, List.map_cons, List.map_nil]); first | done | rfl | (simp only [List.length_drop, List.length_take]; rfl)) ?_; (with_reducible refine (core_Simple.calls kj1 a0_0 a0_1 a0_2 a0_3 a0_4 (fun k_ => k_ < w.heap.size) _ _ l0_5 a0_6 a0_7 t263 t264 t265 t266 t267 t268 t271 t272 t273 _ ?side1 A14.out).mono ?_); (case side1 => exact Kd.V_mk HC0_5.out (Kd.F_below (Kd.C_F k27_heap HR0_5.out) (by repeat (first | (with_reducible first | exact HB.out | apply below_alloc | apply pw_below_drewN | apply below_drew1 | refine below_set ?_ GE259.out) | exact HB.out)))); rintro e w33 ⟨v269, rfl, ho0, hb⟩; refine ⟨_, rfl, ?_⟩; have n0_ := Aside0.mk (Kd.V_lower (Kd.V_mono (ok' := fun k_ => k_ ≠ gb259) ho0 (fun k_ hk_ => Or.elim hk_ (fun hs_ => fun e_ => Nat.not_le.2 hs_ (by rw [e_]; exact GW259.out)) (fun hn_ => (Kd.freshB (g := gb259) (o := .cells #[.int .i64 a0_0, .int .u64 a0_1, .int .u64 a0_2, .int .u64 a0_3, .int .u64 a0_4, .slice A0_5 l0_5.length c0_5, .int .i64 a0_6, .int .i64 a0_7] 27 (0, 0)) (by (with_reducible repeat (first | refine blk_drewN ?_ _ | refine blk_drew ?_ | refine blk_alloc ?_ _)); exact BK259.out) k_ hn_)))) (below_size (by repeat (first | (with_reducible first | exact HB.out | apply below_alloc | apply pw_below_drewN | apply below_drew1 | refine below_set ?_ GE259.out) | exact HB.out)))); have n1_ := Aside0.mk (blk_below (g := gb259) (o := .cells #[.int .i64 a0_0, .int .u64 a0_1, .int .u64 a0_2, .int .u64 a0_3, .int .u64 a0_4, .slice A0_5 l0_5.length c0_5, .int .i64 a0_6, .int .i64 a0_7] 27 (0, 0)) (by (with_reducible repeat (first | refine blk_drewN ?_ _ | refine blk_drew ?_ | refine blk_alloc ?_ _)); exact BK259.out) hb); have n2_ := Aside0.mk (below_step (by repeat (first | (with_reducible first | exact HB.out | apply below_alloc | apply pw_below_drewN | apply below_drew1 | refine below_set ?_ GE259.out) | exact HB.out)) hb); clear BK259; clear HB; have HO270 := n0_; have BK259 := n1_; have HB := n2_; clear n0_ n1_ n2_; (try clear hb); (try clear hb2); (try clear hk); (try clear hi); (try clear ho0)) | ((with_reducible refine gate_dst (N := 3) rfl ?_); refine box_event ?hg (N := 3) ?hd (cs := #[.int .i64 0, .int .u64 0, .int .u64 0, .int .u64 0, .int .u64 0, .slice none 0 0, .int .i64 0, .int .i64 0]) (t := 27) ?hr ?_; (case hd => rfl); (case hg => rfl); (case hr => first | (go_simp; done) | (go_simp; rfl)); intro gb274 hg w34 hbox hb; have n0_ := Aside0.mk (Kd.V_below (Kd.V_elderB (by (with_reducible repeat (first | apply Kd.V_alloc | apply Kd.V_drewN | apply Kd.V_drew)); exact HO270.out) gb274 (Nat.le_of_eq hg.symm)) hb); have n1_ := Aside0.mk (blk_below (g := gb259) (o := .cells #[.int .i64 a0_0, .int .u64 a0_1, .int .u64 a0_2, .int .u64 a0_3, .int .u64 a0_4, .slice A0_5 l0_5.length c0_5, .int .i64 a0_6, .int .i64 a0_7] 27 (0, 0)) (by (with_reducible repeat (first | refine blk_drewN ?_ _ | refine blk_drew ?_ | refine blk_alloc ?_ _)); exact BK259.out) hb); have n2_ := Aside0.mk (below_step (by repeat (first | (with_reducible first | exact HB.out | apply below_alloc | apply pw_below_drewN | apply below_drew1 | refine below_set ?_ GE259.out) | exact HB.out)) hb); have n3_ := Aside0.mk (hbox); have n4_ := Aside0.mk ((by rw [hg]; exact (below_size (by repeat (first | (with_reducible first | exact HB.out | apply below_alloc | apply pw_below_drewN | apply below_drew1 | refine below_set ?_ GE259.out) | exact HB.out))) : w.heap.size ≤ gb274)); have n5_ := Aside0.mk ((by rw [hg]; exact (below_size (by repeat (first | (with_reducible first | exact HB.out | apply below_alloc | apply pw_below_drewN | apply below_drew1 | refine below_set ?_ GE259.out) | exact HB.out))) : w.heap.size ≤ gb274)); have n6_ := Aside0.mk ((by rw [hg]; exact Nat.ne_of_lt (blk_lt (g := gb259) (o := .cells #[.int .i64 a0_0, .int .u64 a0_1, .int .u64 a0_2, .int .u64 a0_3, .int .u64 a0_4, .slice A0_5 l0_5.length c0_5, .int .i64 a0_6, .int .i64 a0_7] 27 (0, 0)) (by (with_reducible repeat (first | refine blk_drewN ?_ _ | refine blk_drew ?_ | refine blk_alloc ?_ _)); exact BK259.out)) : gb259 ≠ gb274)); have n7_ := Aside0.mk ((by rw [hg]; exact Nat.ne_of_gt (blk_lt (g := gb259) (o := .cells #[.int .i64 a0_0, .int .u64 a0_1, .int .u64 a0_2, .int .u64 a0_3, .int .u64 a0_4, .slice A0_5 l0_5.length c0_5, .int .i64 a0_6, .int .i64 a0_7] 27 (0, 0)) (by (with_reducible repeat (first | refine blk_drewN ?_ _ | refine blk_drew ?_ | refine blk_alloc ?_ _)); exact BK259.out)) : gb274 ≠ gb259)); clear HO270; clear BK259; clear HB; have HO270 := n0_; have BK259 := n1_; have HB := n2_; have BK274 := n3_; have GW274 := n4_; have GE274 := n5_; have NB259_274 := n6_; have NB274_259 := n7_; clear n0_ n1_ n2_ n3_ n4_ n5_ n6_ n7_; clear hb hbox hg; have hnb35 := NB274_259.out; have hnc35 := NB259_274.out; have hcz36_0 : w34.cell? ⟨gb274, 0, none⟩ = some (.int .i64 0) := (blk_cell BK274.out 0).trans rfl; have hcz36_1 : w34.cell? ⟨gb274, 1, none⟩ = some (.int .u64 0) := (blk_cell BK274.out 1).trans rfl; have hcz36_2 : w34.cell? ⟨gb274, 2, none⟩ = some (.int .u64 0) := (blk_cell BK274.out 2).trans rfl; have hcz36_3 : w34.cell? ⟨gb274, 3, none⟩ = some (.int .u64 0) := (blk_cell BK274.out 3).trans rfl; have hcz36_4 : w34.cell? ⟨gb274, 4, none⟩ = some (.int .u64 0) := (blk_cell BK274.out 4).trans rfl; have hcz36_5 : w34.cell? ⟨gb274, 5, none⟩ = some (.slice none 0 0) := (blk_cell BK274.out 5).trans rfl; have hcz36_6 : w34.cell? ⟨gb274, 6, none⟩ = some (.int .i64 0) := (blk_cell BK274.out 6).trans rfl; have hcz36_7 : w34.cell? ⟨gb274, 7, none⟩ = some (.int .i64 0) := (blk_cell BK274.out 7).trans rfl; have hfz36_0 := blk_frozen BK274.out 0; have hfz36_1 := blk_frozen BK274.out 1; have hfz36_2 := blk_frozen BK274.out 2; have hfz36_3 := blk_frozen BK274.out 3; have hfz36_4 := blk_frozen BK274.out 4; have hfz36_5 := blk_frozen BK274.out 5; have hfz36_6 := blk_frozen BK274.out 6; have hfz36_7 := blk_frozen BK274.out 7; obtain ⟨Ao37, co37, eo37⟩ := Kd.V_slice HO270.out; subst eo37; have hcz38_0 : w34.cell? ⟨gb259, 0, none⟩ = some (.int .i64 a0_0) := (blk_cell BK259.out 0).trans rfl; have hcz38_1 : w34.cell? ⟨gb259, 1, none⟩ = some (.int .u64 a0_1) := (blk_cell BK259.out 1).trans rfl; have hcz38_2 : w34.cell? ⟨gb259, 2, none⟩ = some (.int .u64 a0_2) := (blk_cell BK259.out 2).trans rfl; have hcz38_3 : w34.cell? ⟨gb259, 3, none⟩ = some (.int .u64 a0_3) := (blk_cell BK259.out 3).trans rfl; have hcz38_4 : w34.cell? ⟨gb259, 4, none⟩ = some (.int .u64 a0_4) := (blk_cell BK259.out 4).trans rfl; have hcz38_5 : w34.cell? ⟨gb259, 5, none⟩ = some (.slice A0_5 l0_5.length c0_5) := (blk_cell BK259.out 5).trans rfl; have hcz38_6 : w34.cell? ⟨gb259, 6, none⟩ = some (.int .i64 a0_6) := (blk_cell BK259.out 6).trans rfl; have hcz38_7 : w34.cell? ⟨gb259, 7, none⟩ = some (.int .i64 a0_7) := (blk_cell BK259.out 7).trans rfl; have hfz38_0 := blk_frozen BK259.out 0; have hfz38_1 := blk_frozen BK259.out 1; have hfz38_2 := blk_frozen BK259.out 2; have hfz38_3 := blk_frozen BK259.out 3; have hfz38_4 := blk_frozen BK259.out 4; have hfz38_5 := blk_frozen BK259.out 5; have hfz38_6 := blk_frozen BK259.out 6; have hfz38_7 := blk_frozen BK259.out 7) | ((with_reducible refine gate_callee (f := 11) rfl ?_); refine goesL_ (some 19) rfl rfl Try.func11 (by kernel_rfl) rfl #[.agg #[.int .i64 a0_0, .int .u64 a0_1, .int .u64 a0_2, .int .u64 a0_3, .int .u64 a0_4, .slice A0_5 l0_5.length c0_5, .int .i64 a0_6, .int .i64 a0_7]] rfl (by (try simp only [List.map_toArray, List.map_cons, List.map_nil]); first | done | rfl | (simp only [List.length_drop, List.length_take]; rfl)) ?_; (with_reducible refine (ostinatoref02_Formed.calls kj1 a0_0 a0_1 a0_2 a0_3 a0_4 _ _ l0_5 a0_6 a0_7 true _ ?side1 ?side2 A15.out).mono ?_); (case side1 => exact Kd.C_below HR0_5.out (by repeat (first | (with_reducible first | exact HB.out | apply below_alloc | apply pw_below_drewN | apply below_drew1 | refine below_set ?_ GE259.out | refine below_set ?_ GE274.out) | exact HB.out))); (case side2 => exact HC0_5.out); rintro e w39 ⟨rfl, hb⟩; refine ⟨_, rfl, ?_⟩; have n0_ := Aside0.mk (Kd.V_below (by (with_reducible repeat (first | apply Kd.V_alloc | apply Kd.V_drewN | apply Kd.V_drew)); exact (Kd.V_mono (Kd.V_far (p := ⟨gb274, 7, none⟩) (Kd.V_far (p := ⟨gb274, 6, none⟩) (Kd.V_far (p := ⟨gb274, 5, none⟩) (Kd.V_far (p := ⟨gb274, 4, none⟩) (Kd.V_far (p := ⟨gb274, 3, none⟩) (Kd.V_far (p := ⟨gb274, 2, none⟩) (Kd.V_far (p := ⟨gb274, 1, none⟩) (Kd.V_far (p := ⟨gb274, 0, none⟩) (Kd.V_mono HO270.out (fun k_ hk => (⟨hk, hk.2⟩ : _ ∧ k_ ≠ gb274))) (fun _ hk => hk.2) (.int .i64 t263)) (fun _ hk => hk.2) (.int .u64 t264)) (fun _ hk => hk.2) (.int .u64 t265)) (fun _ hk => hk.2) (.int .u64 t266)) (fun _ hk => hk.2) (.int .u64 t267)) (fun _ hk => hk.2) (.slice Ao37 t268.length co37)) (fun _ hk => hk.2) (.int .i64 t271)) (fun _ hk => hk.2) (.int .i64 t272)) (fun _ h_ => h_.1))) hb); have n1_ := Aside0.mk (blk_below (g := gb259) (o := .cells #[.int .i64 a0_0, .int .u64 a0_1, .int .u64 a0_2, .int .u64 a0_3, .int .u64 a0_4, .slice A0_5 l0_5.length c0_5, .int .i64 a0_6, .int .i64 a0_7] 27 (0, 0)) (by (with_reducible repeat (first | refine blk_drewN ?_ _ | refine blk_drew ?_ | refine blk_alloc ?_ _)); refine blk_far ?_ NB259_274.out _; (with_reducible repeat (first | refine blk_drewN ?_ _ | refine blk_drew ?_ | refine blk_alloc ?_ _)); refine blk_far ?_ NB259_274.out _; (with_reducible repeat (first | refine blk_drewN ?_ _ | refine blk_drew ?_ | refine blk_alloc ?_ _)); refine blk_far ?_ NB259_274.out _; (with_reducible repeat (first | refine blk_drewN ?_ _ | refine blk_drew ?_ | refine blk_alloc ?_ _)); refine blk_far ?_ NB259_274.out _; (with_reducible repeat (first | refine blk_drewN ?_ _ | refine blk_drew ?_ | refine blk_alloc ?_ _)); refine blk_far ?_ NB259_274.out _; (with_reducible repeat (first | refine blk_drewN ?_ _ | refine blk_drew ?_ | refine blk_alloc ?_ _)); refine blk_far ?_ NB259_274.out _; (with_reducible repeat (first | refine blk_drewN ?_ _ | refine blk_drew ?_ | refine blk_alloc ?_ _)); refine blk_far ?_ NB259_274.out _; (with_reducible repeat (first | refine blk_drewN ?_ _ | refine blk_drew ?_ | refine blk_alloc ?_ _)); refine blk_far ?_ NB259_274.out _; (with_reducible repeat (first | refine blk_drewN ?_ _ | refine blk_drew ?_ | refine blk_alloc ?_ _)); exact BK259.out) hb); have n2_ := Aside0.mk (blk_below (g := gb274) (o := .cells #[.int .i64 t263, .int .u64 t264, .int .u64 t265, .int .u64 t266, .int .u64 t267, .slice Ao37 t268.length co37, .int .i64 t271, .int .i64 t272] 27 (0, 0)) (by (with_reducible repeat (first | refine blk_drewN ?_ _ | refine blk_drew ?_ | refine blk_alloc ?_ _)); refine blk_put (cs := #[.int .i64 t263, .int .u64 t264, .int .u64 t265, .int .u64 t266, .int .u64 t267, .slice Ao37 t268.length co37, .int .i64 t271, .int .i64 0]) ?_ 7 _ rfl; (with_reducible repeat (first | refine blk_drewN ?_ _ | refine blk_drew ?_ | refine blk_alloc ?_ _)); refine blk_put (cs := #[.int .i64 t263, .int .u64 t264, .int .u64 t265, .int .u64 t266, .int .u64 t267, .slice Ao37 t268.length co37, .int .i64 0, .int .i64 0]) ?_ 6 _ rfl; (with_reducible repeat (first | refine blk_drewN ?_ _ | refine blk_drew ?_ | refine blk_alloc ?_ _)); refine blk_put (cs := #[.int .i64 t263, .int .u64 t264, .int .u64 t265, .int .u64 t266, .int .u64 t267, .slice none 0 0, .int .i64 0, .int .i64 0]) ?_ 5 _ rfl; (with_reducible repeat (first | refine blk_drewN ?_ _ | refine blk_drew ?_ | refine blk_alloc ?_ _)); refine blk_put (cs := #[.int .i64 t263, .int .u64 t264, .int .u64 t265, .int .u64 t266, .int .u64 0, .slice none 0 0, .int .i64 0, .int .i64 0]) ?_ 4 _ rfl; (with_reducible repeat (first | refine blk_drewN ?_ _ | refine blk_drew ?_ | refine blk_alloc ?_ _)); refine blk_put (cs := #[.int .i64 t263, .int .u64 t264, .int .u64 t265, .int .u64 0, .int .u64 0, .slice none 0 0, .int .i64 0, .int .i64 0]) ?_ 3 _ rfl; (with_reducible repeat (first | refine blk_drewN ?_ _ | refine blk_drew ?_ | refine blk_alloc ?_ _)); refine blk_put (cs := #[.int .i64 t263, .int .u64 t264, .int .u64 0, .int .u64 0, .int .u64 0, .slice none 0 0, .int .i64 0, .int .i64 0]) ?_ 2 _ rfl; (with_reducible repeat (first | refine blk_drewN ?_ _ | refine blk_drew ?_ | refine blk_alloc ?_ _)); refine blk_put (cs := #[.int .i64 t263, .int .u64 0, .int .u64 0, .int .u64 0, .int .u64 0, .slice none 0 0, .int .i64 0, .int .i64 0]) ?_ 1 _ rfl; (with_reducible repeat (first | refine blk_drewN ?_ _ | refine blk_drew ?_ | refine blk_alloc ?_ _)); refine blk_put (cs := #[.int .i64 0, .int .u64 0, .int .u64 0, .int .u64 0, .int .u64 0, .slice none 0 0, .int .i64 0, .int .i64 0]) ?_ 0 _ rfl; (with_reducible repeat (first | refine blk_drewN ?_ _ | refine blk_drew ?_ | refine blk_alloc ?_ _)); exact BK274.out) hb); have n3_ := Aside0.mk (below_step (by repeat (first | (with_reducible first | exact HB.out | apply below_alloc | apply pw_below_drewN | apply below_drew1 | refine below_set ?_ GE259.out | refine below_set ?_ GE274.out) | exact HB.out)) hb); clear HO270; clear BK259; clear BK274; clear HB; have HO270 := n0_; have BK259 := n1_; have BK274 := n2_; have HB := n3_; clear n0_ n1_ n2_ n3_; (try clear hb); (try clear hb2); (try clear hk); (try clear hi)))
      have n0_ := Aside0.mk (Kd.V_drew HO270.out)
      have n1_ := Aside0.mk (blk_drew BK259.out)
      have n2_ := Aside0.mk (blk_drew BK274.out)
      have n3_ := Aside0.mk (below_drew1 HB.out)
      clear HO270
      clear BK259
      clear BK274
      clear HB
      have HO270 := n0_
      have BK259 := n1_
      have BK274 := n2_
      have HB := n3_
      clear n0_ n1_ n2_ n3_
      refine start_ (n := 9) (S := fun w' => True) (ds := []) #[false, false, false, false, false, false, false, false, false] (by kernel_rfl) rfl rfl trivial (fun hHeld => ?_); refine with_tabW ostinatolaw04_CoreSimple.tab6 ostinatolaw04_CoreSimple.bits6 (fun HT_ HW_ => ?_)
      generalize w39.drew = w40 at HO270 BK259 BK274 HB hHeld ⊢
      refine pure_ (i := 0) (N := some 28) (v := ?_) (a' := ?_) #[true, false, false, false, false, false, false, false, false] rfl rfl (any_of HT_.out (by kernel_rfl)) (fun _ _ _ h => h) (Or.inl ⟨by rfl, ?_⟩) ?_ ?_
      rotate_left
      ·
       intro w'
       go_simp
       with_reducible rfl
      rotate_left
      ·
       simp only [Act.put, List.setIfInBounds_toArray, List.set_cons_zero, List.set_cons_succ, i64_w, i32_w]
       rfl
      refine pure_ (i := 1) (N := some 29) (v := ?_) (a' := ?_) #[true, true, false, false, false, false, false, false, false] rfl rfl (any_of HT_.out (by kernel_rfl)) (fun _ _ _ h => h) (Or.inl ⟨by rfl, ?_⟩) ?_ ?_
      rotate_left
      ·
       intro w'
       go_simp
       with_reducible rfl
      rotate_left
      ·
       simp only [Act.put, List.setIfInBounds_toArray, List.set_cons_zero, List.set_cons_succ, i64_w, i32_w]
       rfl
      refine pure_ (i := 2) (N := some 30) (v := ?_) (a' := ?_) #[true, true, true, false, false, false, false, false, false] rfl rfl (any_of HT_.out (by kernel_rfl)) (fun _ _ _ h => h) (Or.inl ⟨by rfl, ?_⟩) ?_ ?_
      rotate_left
      ·
       intro w'
       go_simp
       with_reducible rfl
      rotate_left
      ·
       simp only [Act.put, List.setIfInBounds_toArray, List.set_cons_zero, List.set_cons_succ, i64_w, i32_w]
       rfl
      refine pure_ (i := 3) (N := some 31) (v := undef) (a' := ?_) #[true, true, true, true, false, false, false, false, false] rfl rfl (any_of HT_.out (by kernel_rfl)) (fun _ _ _ h => h) (Or.inr ⟨by rfl, rfl⟩) ?_ ?_
      rotate_left
      ·
       simp only [Act.put, List.setIfInBounds_toArray, List.set_cons_zero, List.set_cons_succ, i64_w, i32_w]
       rfl
      refine pure_ (i := 4) (N := some 32) (v := undef) (a' := ?_) #[true, true, true, true, true, false, false, false, false] rfl rfl (any_of HT_.out (by kernel_rfl)) (fun _ _ _ h => h) (Or.inr ⟨by rfl, rfl⟩) ?_ ?_
      rotate_left
      ·
       simp only [Act.put, List.setIfInBounds_toArray, List.set_cons_zero, List.set_cons_succ, i64_w, i32_w]
       rfl
      refine pure_ (i := 5) (N := some 33) (v := undef) (a' := ?_) #[true, true, true, true, true, true, false, false, false] rfl rfl (any_of HT_.out (by kernel_rfl)) (fun _ _ _ h => h) (Or.inr ⟨by rfl, rfl⟩) ?_ ?_
      rotate_left
      ·
       simp only [Act.put, List.setIfInBounds_toArray, List.set_cons_zero, List.set_cons_succ, i64_w, i32_w]
       rfl
      refine pure_ (i := 6) (N := some 34) (v := undef) (a' := ?_) #[true, true, true, true, true, true, true, false, false] rfl rfl (any_of HT_.out (by kernel_rfl)) (fun _ _ _ h => h) (Or.inr ⟨by rfl, rfl⟩) ?_ ?_
      rotate_left
      ·
       simp only [Act.put, List.setIfInBounds_toArray, List.set_cons_zero, List.set_cons_succ, i64_w, i32_w]
       rfl
      refine pure_ (i := 7) (N := some 35) (v := ?_) (a' := ?_) #[true, true, true, true, true, true, true, true, false] rfl rfl (any_of HT_.out (by kernel_rfl)) (fun _ _ _ h => h) (Or.inl ⟨by rfl, ?_⟩) ?_ ?_
      rotate_left
      ·
       intro w'
       go_simp
       with_reducible rfl
      rotate_left
      ·
       simp only [Act.put, List.setIfInBounds_toArray, List.set_cons_zero, List.set_cons_succ, i64_w, i32_w]
       rfl
      refine pure_ (i := 8) (N := some 2) (v := ?_) (a' := ?_) #[true, true, true, true, true, true, true, true, true] rfl rfl (any_of HT_.out (by kernel_rfl)) (fun _ _ _ h => h) (Or.inl ⟨by rfl, ?_⟩) ?_ ?_
      rotate_left
      ·
       intro w'
       go_simp
       with_reducible rfl
      rotate_left
      ·
       simp only [Act.put, List.setIfInBounds_toArray, List.set_cons_zero, List.set_cons_succ, i64_w, i32_w]
       rfl
      refine done_ (done_of HT_.out (by kernel_rfl)) ?_
      try go_wp2
      go_ret
      exact ⟨by first | rfl | (simp [errW_none, errW_some] <;> rfl) | (simp [*, errW_none, errW_some] <;> rfl), by repeat (first | (with_reducible first | exact HB.out | apply below_alloc | apply pw_below_drewN | apply below_drew1 | refine below_set ?_ GE259.out | refine below_set ?_ GE274.out) | exact HB.out)⟩
    ·
     replace c16 := Bool.eq_false_iff.mpr c16
     subst c16
     have H1 : (if t273 = 1 then ((ostinatoref02_Same.f kj1 t263 t264 t265 t266 t267 t268 t271 t272 0 0 0 0 0 ([] : List (S27)) 0 0).bind fun t287 => (some t287)) else (some false)) = some r := by rw [if_neg (show ¬ (false = true) by decide)] at H; exact H
     clear H
     have H := H1
     clear H1
     by_cases c41 : t273 = 1
     ·
      rw [if_pos c41] at H
      have c41b0 : (t273 == 1) = true := beq_iff_eq.mpr c41
      have c41b1 : (t273 != 1) = false := bne_eq_false_iff_eq.mpr c41
      clear c41
      replace H := Option.bind_eq_some_iff.mp H
      obtain ⟨t287, A420, H⟩ := H
      replace H : (some t287) = some r := H
      have A42 := Aside0.mk A420
      clear A420
      obtain rfl := Option.some.inj H
      have hcz43_0 : wc.cell? ⟨gb259, 0, none⟩ = some (.int .i64 a0_0) := (blk_cell BK259.out 0).trans rfl
      have hcz43_1 : wc.cell? ⟨gb259, 1, none⟩ = some (.int .u64 a0_1) := (blk_cell BK259.out 1).trans rfl
      have hcz43_2 : wc.cell? ⟨gb259, 2, none⟩ = some (.int .u64 a0_2) := (blk_cell BK259.out 2).trans rfl
      have hcz43_3 : wc.cell? ⟨gb259, 3, none⟩ = some (.int .u64 a0_3) := (blk_cell BK259.out 3).trans rfl
      have hcz43_4 : wc.cell? ⟨gb259, 4, none⟩ = some (.int .u64 a0_4) := (blk_cell BK259.out 4).trans rfl
      have hcz43_5 : wc.cell? ⟨gb259, 5, none⟩ = some (.slice A0_5 l0_5.length c0_5) := (blk_cell BK259.out 5).trans rfl
      have hcz43_6 : wc.cell? ⟨gb259, 6, none⟩ = some (.int .i64 a0_6) := (blk_cell BK259.out 6).trans rfl
      have hcz43_7 : wc.cell? ⟨gb259, 7, none⟩ = some (.int .i64 a0_7) := (blk_cell BK259.out 7).trans rfl
      have hfz43_0 := blk_frozen BK259.out 0
      have hfz43_1 := blk_frozen BK259.out 1
      have hfz43_2 := blk_frozen BK259.out 2
      have hfz43_3 := blk_frozen BK259.out 3
      have hfz43_4 := blk_frozen BK259.out 4
      have hfz43_5 := blk_frozen BK259.out 5
      have hfz43_6 := blk_frozen BK259.out 6
      have hfz43_7 := blk_frozen BK259.out 7
      go_wp2_with (first | ((with_reducible refine gate_callee (f := 10) rfl ?_); refine goesL_ (some 15) rfl rfl Try.func10 (by kernel_rfl) rfl #[.agg #[.int .i64 a0_0, .int .u64 a0_1, .int .u64 a0_2, .int .u64 a0_3, .int .u64 a0_4, .slice A0_5 l0_5.length c0_5, .int .i64 a0_6, .int .i64 a0_7]] rfl (by (try simp only [List.map_toArray, List.map_cons, List.map_nil]); first | done | rfl | (simp only [List.length_drop, List.length_take]; rfl)) ?_; (with_reducible refine (core_Simple.calls kj1 a0_0 a0_1 a0_2 a0_3 a0_4 (fun k_ => k_ < w.heap.size) _ _ l0_5 a0_6 a0_7 t263 t264 t265 t266 t267 t268 t271 t272 t273 _ ?side1 A14.out).mono ?_); (case side1 => exact Kd.V_mk HC0_5.out (Kd.F_below (Kd.C_F k27_heap HR0_5.out) (by repeat (first | (with_reducible first | exact HB.out | apply below_alloc | apply pw_below_drewN | apply below_drew1 | refine below_set ?_ GE259.out) | exact HB.out)))); rintro e w44 ⟨v269, rfl, ho0, hb⟩; refine ⟨_, rfl, ?_⟩; have n0_ := Aside0.mk (Kd.V_lower (Kd.V_mono (ok' := fun k_ => k_ ≠ gb259) ho0 (fun k_ hk_ => Or.elim hk_ (fun hs_ => fun e_ => Nat.not_le.2 hs_ (by rw [e_]; exact GW259.out)) (fun hn_ => (Kd.freshB (g := gb259) (o := .cells #[.int .i64 a0_0, .int .u64 a0_1, .int .u64 a0_2, .int .u64 a0_3, .int .u64 a0_4, .slice A0_5 l0_5.length c0_5, .int .i64 a0_6, .int .i64 a0_7] 27 (0, 0)) (by (with_reducible repeat (first | refine blk_drewN ?_ _ | refine blk_drew ?_ | refine blk_alloc ?_ _)); exact BK259.out) k_ hn_)))) (below_size (by repeat (first | (with_reducible first | exact HB.out | apply below_alloc | apply pw_below_drewN | apply below_drew1 | refine below_set ?_ GE259.out) | exact HB.out)))); have n1_ := Aside0.mk (blk_below (g := gb259) (o := .cells #[.int .i64 a0_0, .int .u64 a0_1, .int .u64 a0_2, .int .u64 a0_3, .int .u64 a0_4, .slice A0_5 l0_5.length c0_5, .int .i64 a0_6, .int .i64 a0_7] 27 (0, 0)) (by (with_reducible repeat (first | refine blk_drewN ?_ _ | refine blk_drew ?_ | refine blk_alloc ?_ _)); exact BK259.out) hb); have n2_ := Aside0.mk (below_step (by repeat (first | (with_reducible first | exact HB.out | apply below_alloc | apply pw_below_drewN | apply below_drew1 | refine below_set ?_ GE259.out) | exact HB.out)) hb); clear BK259; clear HB; have HO270 := n0_; have BK259 := n1_; have HB := n2_; clear n0_ n1_ n2_; (try clear hb); (try clear hb2); (try clear hk); (try clear hi); (try clear ho0)) | ((with_reducible refine gate_dst (N := 3) rfl ?_); refine box_event ?hg (N := 3) ?hd (cs := #[.int .i64 0, .int .u64 0, .int .u64 0, .int .u64 0, .int .u64 0, .slice none 0 0, .int .i64 0, .int .i64 0]) (t := 27) ?hr ?_; (case hd => rfl); (case hg => rfl); (case hr => first | (go_simp; done) | (go_simp; rfl)); intro gb274 hg w45 hbox hb; have n0_ := Aside0.mk (Kd.V_below (Kd.V_elderB (by (with_reducible repeat (first | apply Kd.V_alloc | apply Kd.V_drewN | apply Kd.V_drew)); exact HO270.out) gb274 (Nat.le_of_eq hg.symm)) hb); have n1_ := Aside0.mk (blk_below (g := gb259) (o := .cells #[.int .i64 a0_0, .int .u64 a0_1, .int .u64 a0_2, .int .u64 a0_3, .int .u64 a0_4, .slice A0_5 l0_5.length c0_5, .int .i64 a0_6, .int .i64 a0_7] 27 (0, 0)) (by (with_reducible repeat (first | refine blk_drewN ?_ _ | refine blk_drew ?_ | refine blk_alloc ?_ _)); exact BK259.out) hb); have n2_ := Aside0.mk (below_step (by repeat (first | (with_reducible first | exact HB.out | apply below_alloc | apply pw_below_drewN | apply below_drew1 | refine below_set ?_ GE259.out) | exact HB.out)) hb); have n3_ := Aside0.mk (hbox); have n4_ := Aside0.mk ((by rw [hg]; exact (below_size (by repeat (first | (with_reducible first | exact HB.out | apply below_alloc | apply pw_below_drewN | apply below_drew1 | refine below_set ?_ GE259.out) | exact HB.out))) : w.heap.size ≤ gb274)); have n5_ := Aside0.mk ((by rw [hg]; exact (below_size (by repeat (first | (with_reducible first | exact HB.out | apply below_alloc | apply pw_below_drewN | apply below_drew1 | refine below_set ?_ GE259.out) | exact HB.out))) : w.heap.size ≤ gb274)); have n6_ := Aside0.mk ((by rw [hg]; exact Nat.ne_of_lt (blk_lt (g := gb259) (o := .cells #[.int .i64 a0_0, .int .u64 a0_1, .int .u64 a0_2, .int .u64 a0_3, .int .u64 a0_4, .slice A0_5 l0_5.length c0_5, .int .i64 a0_6, .int .i64 a0_7] 27 (0, 0)) (by (with_reducible repeat (first | refine blk_drewN ?_ _ | refine blk_drew ?_ | refine blk_alloc ?_ _)); exact BK259.out)) : gb259 ≠ gb274)); have n7_ := Aside0.mk ((by rw [hg]; exact Nat.ne_of_gt (blk_lt (g := gb259) (o := .cells #[.int .i64 a0_0, .int .u64 a0_1, .int .u64 a0_2, .int .u64 a0_3, .int .u64 a0_4, .slice A0_5 l0_5.length c0_5, .int .i64 a0_6, .int .i64 a0_7] 27 (0, 0)) (by (with_reducible repeat (first | refine blk_drewN ?_ _ | refine blk_drew ?_ | refine blk_alloc ?_ _)); exact BK259.out)) : gb274 ≠ gb259)); clear HO270; clear BK259; clear HB; have HO270 := n0_; have BK259 := n1_; have HB := n2_; have BK274 := n3_; have GW274 := n4_; have GE274 := n5_; have NB259_274 := n6_; have NB274_259 := n7_; clear n0_ n1_ n2_ n3_ n4_ n5_ n6_ n7_; clear hb hbox hg; have hnb46 := NB274_259.out; have hnc46 := NB259_274.out; have hcz47_0 : w45.cell? ⟨gb274, 0, none⟩ = some (.int .i64 0) := (blk_cell BK274.out 0).trans rfl; have hcz47_1 : w45.cell? ⟨gb274, 1, none⟩ = some (.int .u64 0) := (blk_cell BK274.out 1).trans rfl; have hcz47_2 : w45.cell? ⟨gb274, 2, none⟩ = some (.int .u64 0) := (blk_cell BK274.out 2).trans rfl; have hcz47_3 : w45.cell? ⟨gb274, 3, none⟩ = some (.int .u64 0) := (blk_cell BK274.out 3).trans rfl; have hcz47_4 : w45.cell? ⟨gb274, 4, none⟩ = some (.int .u64 0) := (blk_cell BK274.out 4).trans rfl; have hcz47_5 : w45.cell? ⟨gb274, 5, none⟩ = some (.slice none 0 0) := (blk_cell BK274.out 5).trans rfl; have hcz47_6 : w45.cell? ⟨gb274, 6, none⟩ = some (.int .i64 0) := (blk_cell BK274.out 6).trans rfl; have hcz47_7 : w45.cell? ⟨gb274, 7, none⟩ = some (.int .i64 0) := (blk_cell BK274.out 7).trans rfl; have hfz47_0 := blk_frozen BK274.out 0; have hfz47_1 := blk_frozen BK274.out 1; have hfz47_2 := blk_frozen BK274.out 2; have hfz47_3 := blk_frozen BK274.out 3; have hfz47_4 := blk_frozen BK274.out 4; have hfz47_5 := blk_frozen BK274.out 5; have hfz47_6 := blk_frozen BK274.out 6; have hfz47_7 := blk_frozen BK274.out 7; obtain ⟨Ao48, co48, eo48⟩ := Kd.V_slice HO270.out; subst eo48; have hcz49_0 : w45.cell? ⟨gb259, 0, none⟩ = some (.int .i64 a0_0) := (blk_cell BK259.out 0).trans rfl; have hcz49_1 : w45.cell? ⟨gb259, 1, none⟩ = some (.int .u64 a0_1) := (blk_cell BK259.out 1).trans rfl; have hcz49_2 : w45.cell? ⟨gb259, 2, none⟩ = some (.int .u64 a0_2) := (blk_cell BK259.out 2).trans rfl; have hcz49_3 : w45.cell? ⟨gb259, 3, none⟩ = some (.int .u64 a0_3) := (blk_cell BK259.out 3).trans rfl; have hcz49_4 : w45.cell? ⟨gb259, 4, none⟩ = some (.int .u64 a0_4) := (blk_cell BK259.out 4).trans rfl; have hcz49_5 : w45.cell? ⟨gb259, 5, none⟩ = some (.slice A0_5 l0_5.length c0_5) := (blk_cell BK259.out 5).trans rfl; have hcz49_6 : w45.cell? ⟨gb259, 6, none⟩ = some (.int .i64 a0_6) := (blk_cell BK259.out 6).trans rfl; have hcz49_7 : w45.cell? ⟨gb259, 7, none⟩ = some (.int .i64 a0_7) := (blk_cell BK259.out 7).trans rfl; have hfz49_0 := blk_frozen BK259.out 0; have hfz49_1 := blk_frozen BK259.out 1; have hfz49_2 := blk_frozen BK259.out 2; have hfz49_3 := blk_frozen BK259.out 3; have hfz49_4 := blk_frozen BK259.out 4; have hfz49_5 := blk_frozen BK259.out 5; have hfz49_6 := blk_frozen BK259.out 6; have hfz49_7 := blk_frozen BK259.out 7) | ((with_reducible refine gate_callee (f := 11) rfl ?_); refine goesL_ (some 19) rfl rfl Try.func11 (by kernel_rfl) rfl #[.agg #[.int .i64 a0_0, .int .u64 a0_1, .int .u64 a0_2, .int .u64 a0_3, .int .u64 a0_4, .slice A0_5 l0_5.length c0_5, .int .i64 a0_6, .int .i64 a0_7]] rfl (by (try simp only [List.map_toArray, List.map_cons, List.map_nil]); first | done | rfl | (simp only [List.length_drop, List.length_take]; rfl)) ?_; (with_reducible refine (ostinatoref02_Formed.calls kj1 a0_0 a0_1 a0_2 a0_3 a0_4 _ _ l0_5 a0_6 a0_7 false _ ?side1 ?side2 A15.out).mono ?_); (case side1 => exact Kd.C_below HR0_5.out (by repeat (first | (with_reducible first | exact HB.out | apply below_alloc | apply pw_below_drewN | apply below_drew1 | refine below_set ?_ GE259.out | refine below_set ?_ GE274.out) | exact HB.out))); (case side2 => exact HC0_5.out); rintro e w50 ⟨rfl, hb⟩; refine ⟨_, rfl, ?_⟩; have n0_ := Aside0.mk (Kd.V_below (by (with_reducible repeat (first | apply Kd.V_alloc | apply Kd.V_drewN | apply Kd.V_drew)); exact (Kd.V_mono (Kd.V_far (p := ⟨gb274, 7, none⟩) (Kd.V_far (p := ⟨gb274, 6, none⟩) (Kd.V_far (p := ⟨gb274, 5, none⟩) (Kd.V_far (p := ⟨gb274, 4, none⟩) (Kd.V_far (p := ⟨gb274, 3, none⟩) (Kd.V_far (p := ⟨gb274, 2, none⟩) (Kd.V_far (p := ⟨gb274, 1, none⟩) (Kd.V_far (p := ⟨gb274, 0, none⟩) (Kd.V_mono HO270.out (fun k_ hk => (⟨hk, hk.2⟩ : _ ∧ k_ ≠ gb274))) (fun _ hk => hk.2) (.int .i64 t263)) (fun _ hk => hk.2) (.int .u64 t264)) (fun _ hk => hk.2) (.int .u64 t265)) (fun _ hk => hk.2) (.int .u64 t266)) (fun _ hk => hk.2) (.int .u64 t267)) (fun _ hk => hk.2) (.slice Ao48 t268.length co48)) (fun _ hk => hk.2) (.int .i64 t271)) (fun _ hk => hk.2) (.int .i64 t272)) (fun _ h_ => h_.1))) hb); have n1_ := Aside0.mk (blk_below (g := gb259) (o := .cells #[.int .i64 a0_0, .int .u64 a0_1, .int .u64 a0_2, .int .u64 a0_3, .int .u64 a0_4, .slice A0_5 l0_5.length c0_5, .int .i64 a0_6, .int .i64 a0_7] 27 (0, 0)) (by (with_reducible repeat (first | refine blk_drewN ?_ _ | refine blk_drew ?_ | refine blk_alloc ?_ _)); refine blk_far ?_ NB259_274.out _; (with_reducible repeat (first | refine blk_drewN ?_ _ | refine blk_drew ?_ | refine blk_alloc ?_ _)); refine blk_far ?_ NB259_274.out _; (with_reducible repeat (first | refine blk_drewN ?_ _ | refine blk_drew ?_ | refine blk_alloc ?_ _)); refine blk_far ?_ NB259_274.out _; (with_reducible repeat (first | refine blk_drewN ?_ _ | refine blk_drew ?_ | refine blk_alloc ?_ _)); refine blk_far ?_ NB259_274.out _; (with_reducible repeat (first | refine blk_drewN ?_ _ | refine blk_drew ?_ | refine blk_alloc ?_ _)); refine blk_far ?_ NB259_274.out _; (with_reducible repeat (first | refine blk_drewN ?_ _ | refine blk_drew ?_ | refine blk_alloc ?_ _)); refine blk_far ?_ NB259_274.out _; (with_reducible repeat (first | refine blk_drewN ?_ _ | refine blk_drew ?_ | refine blk_alloc ?_ _)); refine blk_far ?_ NB259_274.out _; (with_reducible repeat (first | refine blk_drewN ?_ _ | refine blk_drew ?_ | refine blk_alloc ?_ _)); refine blk_far ?_ NB259_274.out _; (with_reducible repeat (first | refine blk_drewN ?_ _ | refine blk_drew ?_ | refine blk_alloc ?_ _)); exact BK259.out) hb); have n2_ := Aside0.mk (blk_below (g := gb274) (o := .cells #[.int .i64 t263, .int .u64 t264, .int .u64 t265, .int .u64 t266, .int .u64 t267, .slice Ao48 t268.length co48, .int .i64 t271, .int .i64 t272] 27 (0, 0)) (by (with_reducible repeat (first | refine blk_drewN ?_ _ | refine blk_drew ?_ | refine blk_alloc ?_ _)); refine blk_put (cs := #[.int .i64 t263, .int .u64 t264, .int .u64 t265, .int .u64 t266, .int .u64 t267, .slice Ao48 t268.length co48, .int .i64 t271, .int .i64 0]) ?_ 7 _ rfl; (with_reducible repeat (first | refine blk_drewN ?_ _ | refine blk_drew ?_ | refine blk_alloc ?_ _)); refine blk_put (cs := #[.int .i64 t263, .int .u64 t264, .int .u64 t265, .int .u64 t266, .int .u64 t267, .slice Ao48 t268.length co48, .int .i64 0, .int .i64 0]) ?_ 6 _ rfl; (with_reducible repeat (first | refine blk_drewN ?_ _ | refine blk_drew ?_ | refine blk_alloc ?_ _)); refine blk_put (cs := #[.int .i64 t263, .int .u64 t264, .int .u64 t265, .int .u64 t266, .int .u64 t267, .slice none 0 0, .int .i64 0, .int .i64 0]) ?_ 5 _ rfl; (with_reducible repeat (first | refine blk_drewN ?_ _ | refine blk_drew ?_ | refine blk_alloc ?_ _)); refine blk_put (cs := #[.int .i64 t263, .int .u64 t264, .int .u64 t265, .int .u64 t266, .int .u64 0, .slice none 0 0, .int .i64 0, .int .i64 0]) ?_ 4 _ rfl; (with_reducible repeat (first | refine blk_drewN ?_ _ | refine blk_drew ?_ | refine blk_alloc ?_ _)); refine blk_put (cs := #[.int .i64 t263, .int .u64 t264, .int .u64 t265, .int .u64 0, .int .u64 0, .slice none 0 0, .int .i64 0, .int .i64 0]) ?_ 3 _ rfl; (with_reducible repeat (first | refine blk_drewN ?_ _ | refine blk_drew ?_ | refine blk_alloc ?_ _)); refine blk_put (cs := #[.int .i64 t263, .int .u64 t264, .int .u64 0, .int .u64 0, .int .u64 0, .slice none 0 0, .int .i64 0, .int .i64 0]) ?_ 2 _ rfl; (with_reducible repeat (first | refine blk_drewN ?_ _ | refine blk_drew ?_ | refine blk_alloc ?_ _)); refine blk_put (cs := #[.int .i64 t263, .int .u64 0, .int .u64 0, .int .u64 0, .int .u64 0, .slice none 0 0, .int .i64 0, .int .i64 0]) ?_ 1 _ rfl; (with_reducible repeat (first | refine blk_drewN ?_ _ | refine blk_drew ?_ | refine blk_alloc ?_ _)); refine blk_put (cs := #[.int .i64 0, .int .u64 0, .int .u64 0, .int .u64 0, .int .u64 0, .slice none 0 0, .int .i64 0, .int .i64 0]) ?_ 0 _ rfl; (with_reducible repeat (first | refine blk_drewN ?_ _ | refine blk_drew ?_ | refine blk_alloc ?_ _)); exact BK274.out) hb); have n3_ := Aside0.mk (below_step (by repeat (first | (with_reducible first | exact HB.out | apply below_alloc | apply pw_below_drewN | apply below_drew1 | refine below_set ?_ GE259.out | refine below_set ?_ GE274.out) | exact HB.out)) hb); clear HO270; clear BK259; clear BK274; clear HB; have HO270 := n0_; have BK259 := n1_; have BK274 := n2_; have HB := n3_; clear n0_ n1_ n2_ n3_; (try clear hb); (try clear hb2); (try clear hk); (try clear hi); have hcz51_0 : w50.cell? ⟨gb274, 0, none⟩ = some (.int .i64 t263) := (blk_cell BK274.out 0).trans rfl; have hcz51_1 : w50.cell? ⟨gb274, 1, none⟩ = some (.int .u64 t264) := (blk_cell BK274.out 1).trans rfl; have hcz51_2 : w50.cell? ⟨gb274, 2, none⟩ = some (.int .u64 t265) := (blk_cell BK274.out 2).trans rfl; have hcz51_3 : w50.cell? ⟨gb274, 3, none⟩ = some (.int .u64 t266) := (blk_cell BK274.out 3).trans rfl; have hcz51_4 : w50.cell? ⟨gb274, 4, none⟩ = some (.int .u64 t267) := (blk_cell BK274.out 4).trans rfl; have hcz51_5 : w50.cell? ⟨gb274, 5, none⟩ = some (.slice Ao48 t268.length co48) := (blk_cell BK274.out 5).trans rfl; have hcz51_6 : w50.cell? ⟨gb274, 6, none⟩ = some (.int .i64 t271) := (blk_cell BK274.out 6).trans rfl; have hcz51_7 : w50.cell? ⟨gb274, 7, none⟩ = some (.int .i64 t272) := (blk_cell BK274.out 7).trans rfl; have hfz51_0 := blk_frozen BK274.out 0; have hfz51_1 := blk_frozen BK274.out 1; have hfz51_2 := blk_frozen BK274.out 2; have hfz51_3 := blk_frozen BK274.out 3; have hfz51_4 := blk_frozen BK274.out 4; have hfz51_5 := blk_frozen BK274.out 5; have hfz51_6 := blk_frozen BK274.out 6; have hfz51_7 := blk_frozen BK274.out 7) | (go_at_call 12; (refine (ostinatoref02_Same.calls kj1 t263 t264 t265 t266 t267 _ _ t268 t271 t272 0 0 0 0 0 _ _ ([] : List (S27)) 0 0 t287 _ ?side1 ?side2 ?side3 ?side4 A42.out).mono ?_); (case side1 => repeat (first | exact (Kd.V_reads' HO270.out).2.2 | (with_reducible refine Kd.C_alloc ?_ _) | (with_reducible refine Kd.C_drewN ?_ _) | (with_reducible refine Kd.C_drew ?_))); (case side2 => exact (Kd.V_reads' HO270.out).2.1); (case side3 => exact Kd.C_nil _ _); (case side4 => exact Nat.le_refl _); rintro e w52 ⟨rfl, hb⟩; have n0_ := Aside0.mk (Kd.V_below (by (with_reducible repeat (first | apply Kd.V_alloc | apply Kd.V_drewN | apply Kd.V_drew)); exact HO270.out) hb); have n1_ := Aside0.mk (blk_below (g := gb259) (o := .cells #[.int .i64 a0_0, .int .u64 a0_1, .int .u64 a0_2, .int .u64 a0_3, .int .u64 a0_4, .slice A0_5 l0_5.length c0_5, .int .i64 a0_6, .int .i64 a0_7] 27 (0, 0)) (by (with_reducible repeat (first | refine blk_drewN ?_ _ | refine blk_drew ?_ | refine blk_alloc ?_ _)); exact BK259.out) hb); have n2_ := Aside0.mk (blk_below (g := gb274) (o := .cells #[.int .i64 t263, .int .u64 t264, .int .u64 t265, .int .u64 t266, .int .u64 t267, .slice Ao48 t268.length co48, .int .i64 t271, .int .i64 t272] 27 (0, 0)) (by (with_reducible repeat (first | refine blk_drewN ?_ _ | refine blk_drew ?_ | refine blk_alloc ?_ _)); exact BK274.out) hb); have n3_ := Aside0.mk (below_step (by repeat (first | (with_reducible first | exact HB.out | apply below_alloc | apply pw_below_drewN | apply below_drew1 | refine below_set ?_ GE259.out | refine below_set ?_ GE274.out) | exact HB.out)) hb); clear HO270; clear BK259; clear BK274; clear HB; have HO270 := n0_; have BK259 := n1_; have BK274 := n2_; have HB := n3_; clear n0_ n1_ n2_ n3_; (try clear hb); (try clear hb2); (try clear hk); (try clear hi)))
      go_ret
      exact ⟨by first | rfl | (simp [errW_none, errW_some] <;> rfl) | (simp [*, errW_none, errW_some] <;> rfl), by repeat (first | (with_reducible first | exact HB.out | apply below_alloc | apply pw_below_drewN | apply below_drew1 | refine below_set ?_ GE259.out | refine below_set ?_ GE274.out) | exact HB.out)⟩
     ·
      rw [if_neg c41] at H
      have c41b0 : (t273 == 1) = false := beq_eq_false_iff_ne.mpr c41
      have c41b1 : (t273 != 1) = true := bne_iff_ne.mpr c41
      obtain rfl := Option.some.inj H
      have hcz53_0 : wc.cell? ⟨gb259, 0, none⟩ = some (.int .i64 a0_0) := (blk_cell BK259.out 0).trans rfl
      have hcz53_1 : wc.cell? ⟨gb259, 1, none⟩ = some (.int .u64 a0_1) := (blk_cell BK259.out 1).trans rfl
      have hcz53_2 : wc.cell? ⟨gb259, 2, none⟩ = some (.int .u64 a0_2) := (blk_cell BK259.out 2).trans rfl
      have hcz53_3 : wc.cell? ⟨gb259, 3, none⟩ = some (.int .u64 a0_3) := (blk_cell BK259.out 3).trans rfl
      have hcz53_4 : wc.cell? ⟨gb259, 4, none⟩ = some (.int .u64 a0_4) := (blk_cell BK259.out 4).trans rfl
      have hcz53_5 : wc.cell? ⟨gb259, 5, none⟩ = some (.slice A0_5 l0_5.length c0_5) := (blk_cell BK259.out 5).trans rfl
      have hcz53_6 : wc.cell? ⟨gb259, 6, none⟩ = some (.int .i64 a0_6) := (blk_cell BK259.out 6).trans rfl
      have hcz53_7 : wc.cell? ⟨gb259, 7, none⟩ = some (.int .i64 a0_7) := (blk_cell BK259.out 7).trans rfl
      have hfz53_0 := blk_frozen BK259.out 0
      have hfz53_1 := blk_frozen BK259.out 1
      have hfz53_2 := blk_frozen BK259.out 2
      have hfz53_3 := blk_frozen BK259.out 3
      have hfz53_4 := blk_frozen BK259.out 4
      have hfz53_5 := blk_frozen BK259.out 5
      have hfz53_6 := blk_frozen BK259.out 6
      have hfz53_7 := blk_frozen BK259.out 7
      go_wp2_with (first | ((with_reducible refine gate_callee (f := 10) rfl ?_); refine goesL_ (some 15) rfl rfl Try.func10 (by kernel_rfl) rfl #[.agg #[.int .i64 a0_0, .int .u64 a0_1, .int .u64 a0_2, .int .u64 a0_3, .int .u64 a0_4, .slice A0_5 l0_5.length c0_5, .int .i64 a0_6, .int .i64 a0_7]] rfl (by (try simp only [List.map_toArray, List.map_cons, List.map_nil]); first | done | rfl | (simp only [List.length_drop, List.length_take]; rfl)) ?_; (with_reducible refine (core_Simple.calls kj1 a0_0 a0_1 a0_2 a0_3 a0_4 (fun k_ => k_ < w.heap.size) _ _ l0_5 a0_6 a0_7 t263 t264 t265 t266 t267 t268 t271 t272 t273 _ ?side1 A14.out).mono ?_); (case side1 => exact Kd.V_mk HC0_5.out (Kd.F_below (Kd.C_F k27_heap HR0_5.out) (by repeat (first | (with_reducible first | exact HB.out | apply below_alloc | apply pw_below_drewN | apply below_drew1 | refine below_set ?_ GE259.out) | exact HB.out)))); rintro e w54 ⟨v269, rfl, ho0, hb⟩; refine ⟨_, rfl, ?_⟩; have n0_ := Aside0.mk (Kd.V_lower (Kd.V_mono (ok' := fun k_ => k_ ≠ gb259) ho0 (fun k_ hk_ => Or.elim hk_ (fun hs_ => fun e_ => Nat.not_le.2 hs_ (by rw [e_]; exact GW259.out)) (fun hn_ => (Kd.freshB (g := gb259) (o := .cells #[.int .i64 a0_0, .int .u64 a0_1, .int .u64 a0_2, .int .u64 a0_3, .int .u64 a0_4, .slice A0_5 l0_5.length c0_5, .int .i64 a0_6, .int .i64 a0_7] 27 (0, 0)) (by (with_reducible repeat (first | refine blk_drewN ?_ _ | refine blk_drew ?_ | refine blk_alloc ?_ _)); exact BK259.out) k_ hn_)))) (below_size (by repeat (first | (with_reducible first | exact HB.out | apply below_alloc | apply pw_below_drewN | apply below_drew1 | refine below_set ?_ GE259.out) | exact HB.out)))); have n1_ := Aside0.mk (blk_below (g := gb259) (o := .cells #[.int .i64 a0_0, .int .u64 a0_1, .int .u64 a0_2, .int .u64 a0_3, .int .u64 a0_4, .slice A0_5 l0_5.length c0_5, .int .i64 a0_6, .int .i64 a0_7] 27 (0, 0)) (by (with_reducible repeat (first | refine blk_drewN ?_ _ | refine blk_drew ?_ | refine blk_alloc ?_ _)); exact BK259.out) hb); have n2_ := Aside0.mk (below_step (by repeat (first | (with_reducible first | exact HB.out | apply below_alloc | apply pw_below_drewN | apply below_drew1 | refine below_set ?_ GE259.out) | exact HB.out)) hb); clear BK259; clear HB; have HO270 := n0_; have BK259 := n1_; have HB := n2_; clear n0_ n1_ n2_; (try clear hb); (try clear hb2); (try clear hk); (try clear hi); (try clear ho0)) | ((with_reducible refine gate_dst (N := 3) rfl ?_); refine box_event ?hg (N := 3) ?hd (cs := #[.int .i64 0, .int .u64 0, .int .u64 0, .int .u64 0, .int .u64 0, .slice none 0 0, .int .i64 0, .int .i64 0]) (t := 27) ?hr ?_; (case hd => rfl); (case hg => rfl); (case hr => first | (go_simp; done) | (go_simp; rfl)); intro gb274 hg w55 hbox hb; have n0_ := Aside0.mk (Kd.V_below (Kd.V_elderB (by (with_reducible repeat (first | apply Kd.V_alloc | apply Kd.V_drewN | apply Kd.V_drew)); exact HO270.out) gb274 (Nat.le_of_eq hg.symm)) hb); have n1_ := Aside0.mk (blk_below (g := gb259) (o := .cells #[.int .i64 a0_0, .int .u64 a0_1, .int .u64 a0_2, .int .u64 a0_3, .int .u64 a0_4, .slice A0_5 l0_5.length c0_5, .int .i64 a0_6, .int .i64 a0_7] 27 (0, 0)) (by (with_reducible repeat (first | refine blk_drewN ?_ _ | refine blk_drew ?_ | refine blk_alloc ?_ _)); exact BK259.out) hb); have n2_ := Aside0.mk (below_step (by repeat (first | (with_reducible first | exact HB.out | apply below_alloc | apply pw_below_drewN | apply below_drew1 | refine below_set ?_ GE259.out) | exact HB.out)) hb); have n3_ := Aside0.mk (hbox); have n4_ := Aside0.mk ((by rw [hg]; exact (below_size (by repeat (first | (with_reducible first | exact HB.out | apply below_alloc | apply pw_below_drewN | apply below_drew1 | refine below_set ?_ GE259.out) | exact HB.out))) : w.heap.size ≤ gb274)); have n5_ := Aside0.mk ((by rw [hg]; exact (below_size (by repeat (first | (with_reducible first | exact HB.out | apply below_alloc | apply pw_below_drewN | apply below_drew1 | refine below_set ?_ GE259.out) | exact HB.out))) : w.heap.size ≤ gb274)); have n6_ := Aside0.mk ((by rw [hg]; exact Nat.ne_of_lt (blk_lt (g := gb259) (o := .cells #[.int .i64 a0_0, .int .u64 a0_1, .int .u64 a0_2, .int .u64 a0_3, .int .u64 a0_4, .slice A0_5 l0_5.length c0_5, .int .i64 a0_6, .int .i64 a0_7] 27 (0, 0)) (by (with_reducible repeat (first | refine blk_drewN ?_ _ | refine blk_drew ?_ | refine blk_alloc ?_ _)); exact BK259.out)) : gb259 ≠ gb274)); have n7_ := Aside0.mk ((by rw [hg]; exact Nat.ne_of_gt (blk_lt (g := gb259) (o := .cells #[.int .i64 a0_0, .int .u64 a0_1, .int .u64 a0_2, .int .u64 a0_3, .int .u64 a0_4, .slice A0_5 l0_5.length c0_5, .int .i64 a0_6, .int .i64 a0_7] 27 (0, 0)) (by (with_reducible repeat (first | refine blk_drewN ?_ _ | refine blk_drew ?_ | refine blk_alloc ?_ _)); exact BK259.out)) : gb274 ≠ gb259)); clear HO270; clear BK259; clear HB; have HO270 := n0_; have BK259 := n1_; have HB := n2_; have BK274 := n3_; have GW274 := n4_; have GE274 := n5_; have NB259_274 := n6_; have NB274_259 := n7_; clear n0_ n1_ n2_ n3_ n4_ n5_ n6_ n7_; clear hb hbox hg; have hnb56 := NB274_259.out; have hnc56 := NB259_274.out; have hcz57_0 : w55.cell? ⟨gb274, 0, none⟩ = some (.int .i64 0) := (blk_cell BK274.out 0).trans rfl; have hcz57_1 : w55.cell? ⟨gb274, 1, none⟩ = some (.int .u64 0) := (blk_cell BK274.out 1).trans rfl; have hcz57_2 : w55.cell? ⟨gb274, 2, none⟩ = some (.int .u64 0) := (blk_cell BK274.out 2).trans rfl; have hcz57_3 : w55.cell? ⟨gb274, 3, none⟩ = some (.int .u64 0) := (blk_cell BK274.out 3).trans rfl; have hcz57_4 : w55.cell? ⟨gb274, 4, none⟩ = some (.int .u64 0) := (blk_cell BK274.out 4).trans rfl; have hcz57_5 : w55.cell? ⟨gb274, 5, none⟩ = some (.slice none 0 0) := (blk_cell BK274.out 5).trans rfl; have hcz57_6 : w55.cell? ⟨gb274, 6, none⟩ = some (.int .i64 0) := (blk_cell BK274.out 6).trans rfl; have hcz57_7 : w55.cell? ⟨gb274, 7, none⟩ = some (.int .i64 0) := (blk_cell BK274.out 7).trans rfl; have hfz57_0 := blk_frozen BK274.out 0; have hfz57_1 := blk_frozen BK274.out 1; have hfz57_2 := blk_frozen BK274.out 2; have hfz57_3 := blk_frozen BK274.out 3; have hfz57_4 := blk_frozen BK274.out 4; have hfz57_5 := blk_frozen BK274.out 5; have hfz57_6 := blk_frozen BK274.out 6; have hfz57_7 := blk_frozen BK274.out 7; obtain ⟨Ao58, co58, eo58⟩ := Kd.V_slice HO270.out; subst eo58; have hcz59_0 : w55.cell? ⟨gb259, 0, none⟩ = some (.int .i64 a0_0) := (blk_cell BK259.out 0).trans rfl; have hcz59_1 : w55.cell? ⟨gb259, 1, none⟩ = some (.int .u64 a0_1) := (blk_cell BK259.out 1).trans rfl; have hcz59_2 : w55.cell? ⟨gb259, 2, none⟩ = some (.int .u64 a0_2) := (blk_cell BK259.out 2).trans rfl; have hcz59_3 : w55.cell? ⟨gb259, 3, none⟩ = some (.int .u64 a0_3) := (blk_cell BK259.out 3).trans rfl; have hcz59_4 : w55.cell? ⟨gb259, 4, none⟩ = some (.int .u64 a0_4) := (blk_cell BK259.out 4).trans rfl; have hcz59_5 : w55.cell? ⟨gb259, 5, none⟩ = some (.slice A0_5 l0_5.length c0_5) := (blk_cell BK259.out 5).trans rfl; have hcz59_6 : w55.cell? ⟨gb259, 6, none⟩ = some (.int .i64 a0_6) := (blk_cell BK259.out 6).trans rfl; have hcz59_7 : w55.cell? ⟨gb259, 7, none⟩ = some (.int .i64 a0_7) := (blk_cell BK259.out 7).trans rfl; have hfz59_0 := blk_frozen BK259.out 0; have hfz59_1 := blk_frozen BK259.out 1; have hfz59_2 := blk_frozen BK259.out 2; have hfz59_3 := blk_frozen BK259.out 3; have hfz59_4 := blk_frozen BK259.out 4; have hfz59_5 := blk_frozen BK259.out 5; have hfz59_6 := blk_frozen BK259.out 6; have hfz59_7 := blk_frozen BK259.out 7) | ((with_reducible refine gate_callee (f := 11) rfl ?_); refine goesL_ (some 19) rfl rfl Try.func11 (by kernel_rfl) rfl #[.agg #[.int .i64 a0_0, .int .u64 a0_1, .int .u64 a0_2, .int .u64 a0_3, .int .u64 a0_4, .slice A0_5 l0_5.length c0_5, .int .i64 a0_6, .int .i64 a0_7]] rfl (by (try simp only [List.map_toArray, List.map_cons, List.map_nil]); first | done | rfl | (simp only [List.length_drop, List.length_take]; rfl)) ?_; (with_reducible refine (ostinatoref02_Formed.calls kj1 a0_0 a0_1 a0_2 a0_3 a0_4 _ _ l0_5 a0_6 a0_7 false _ ?side1 ?side2 A15.out).mono ?_); (case side1 => exact Kd.C_below HR0_5.out (by repeat (first | (with_reducible first | exact HB.out | apply below_alloc | apply pw_below_drewN | apply below_drew1 | refine below_set ?_ GE259.out | refine below_set ?_ GE274.out) | exact HB.out))); (case side2 => exact HC0_5.out); rintro e w60 ⟨rfl, hb⟩; refine ⟨_, rfl, ?_⟩; have n0_ := Aside0.mk (Kd.V_below (by (with_reducible repeat (first | apply Kd.V_alloc | apply Kd.V_drewN | apply Kd.V_drew)); exact (Kd.V_mono (Kd.V_far (p := ⟨gb274, 7, none⟩) (Kd.V_far (p := ⟨gb274, 6, none⟩) (Kd.V_far (p := ⟨gb274, 5, none⟩) (Kd.V_far (p := ⟨gb274, 4, none⟩) (Kd.V_far (p := ⟨gb274, 3, none⟩) (Kd.V_far (p := ⟨gb274, 2, none⟩) (Kd.V_far (p := ⟨gb274, 1, none⟩) (Kd.V_far (p := ⟨gb274, 0, none⟩) (Kd.V_mono HO270.out (fun k_ hk => (⟨hk, hk.2⟩ : _ ∧ k_ ≠ gb274))) (fun _ hk => hk.2) (.int .i64 t263)) (fun _ hk => hk.2) (.int .u64 t264)) (fun _ hk => hk.2) (.int .u64 t265)) (fun _ hk => hk.2) (.int .u64 t266)) (fun _ hk => hk.2) (.int .u64 t267)) (fun _ hk => hk.2) (.slice Ao58 t268.length co58)) (fun _ hk => hk.2) (.int .i64 t271)) (fun _ hk => hk.2) (.int .i64 t272)) (fun _ h_ => h_.1))) hb); have n1_ := Aside0.mk (blk_below (g := gb259) (o := .cells #[.int .i64 a0_0, .int .u64 a0_1, .int .u64 a0_2, .int .u64 a0_3, .int .u64 a0_4, .slice A0_5 l0_5.length c0_5, .int .i64 a0_6, .int .i64 a0_7] 27 (0, 0)) (by (with_reducible repeat (first | refine blk_drewN ?_ _ | refine blk_drew ?_ | refine blk_alloc ?_ _)); refine blk_far ?_ NB259_274.out _; (with_reducible repeat (first | refine blk_drewN ?_ _ | refine blk_drew ?_ | refine blk_alloc ?_ _)); refine blk_far ?_ NB259_274.out _; (with_reducible repeat (first | refine blk_drewN ?_ _ | refine blk_drew ?_ | refine blk_alloc ?_ _)); refine blk_far ?_ NB259_274.out _; (with_reducible repeat (first | refine blk_drewN ?_ _ | refine blk_drew ?_ | refine blk_alloc ?_ _)); refine blk_far ?_ NB259_274.out _; (with_reducible repeat (first | refine blk_drewN ?_ _ | refine blk_drew ?_ | refine blk_alloc ?_ _)); refine blk_far ?_ NB259_274.out _; (with_reducible repeat (first | refine blk_drewN ?_ _ | refine blk_drew ?_ | refine blk_alloc ?_ _)); refine blk_far ?_ NB259_274.out _; (with_reducible repeat (first | refine blk_drewN ?_ _ | refine blk_drew ?_ | refine blk_alloc ?_ _)); refine blk_far ?_ NB259_274.out _; (with_reducible repeat (first | refine blk_drewN ?_ _ | refine blk_drew ?_ | refine blk_alloc ?_ _)); refine blk_far ?_ NB259_274.out _; (with_reducible repeat (first | refine blk_drewN ?_ _ | refine blk_drew ?_ | refine blk_alloc ?_ _)); exact BK259.out) hb); have n2_ := Aside0.mk (blk_below (g := gb274) (o := .cells #[.int .i64 t263, .int .u64 t264, .int .u64 t265, .int .u64 t266, .int .u64 t267, .slice Ao58 t268.length co58, .int .i64 t271, .int .i64 t272] 27 (0, 0)) (by (with_reducible repeat (first | refine blk_drewN ?_ _ | refine blk_drew ?_ | refine blk_alloc ?_ _)); refine blk_put (cs := #[.int .i64 t263, .int .u64 t264, .int .u64 t265, .int .u64 t266, .int .u64 t267, .slice Ao58 t268.length co58, .int .i64 t271, .int .i64 0]) ?_ 7 _ rfl; (with_reducible repeat (first | refine blk_drewN ?_ _ | refine blk_drew ?_ | refine blk_alloc ?_ _)); refine blk_put (cs := #[.int .i64 t263, .int .u64 t264, .int .u64 t265, .int .u64 t266, .int .u64 t267, .slice Ao58 t268.length co58, .int .i64 0, .int .i64 0]) ?_ 6 _ rfl; (with_reducible repeat (first | refine blk_drewN ?_ _ | refine blk_drew ?_ | refine blk_alloc ?_ _)); refine blk_put (cs := #[.int .i64 t263, .int .u64 t264, .int .u64 t265, .int .u64 t266, .int .u64 t267, .slice none 0 0, .int .i64 0, .int .i64 0]) ?_ 5 _ rfl; (with_reducible repeat (first | refine blk_drewN ?_ _ | refine blk_drew ?_ | refine blk_alloc ?_ _)); refine blk_put (cs := #[.int .i64 t263, .int .u64 t264, .int .u64 t265, .int .u64 t266, .int .u64 0, .slice none 0 0, .int .i64 0, .int .i64 0]) ?_ 4 _ rfl; (with_reducible repeat (first | refine blk_drewN ?_ _ | refine blk_drew ?_ | refine blk_alloc ?_ _)); refine blk_put (cs := #[.int .i64 t263, .int .u64 t264, .int .u64 t265, .int .u64 0, .int .u64 0, .slice none 0 0, .int .i64 0, .int .i64 0]) ?_ 3 _ rfl; (with_reducible repeat (first | refine blk_drewN ?_ _ | refine blk_drew ?_ | refine blk_alloc ?_ _)); refine blk_put (cs := #[.int .i64 t263, .int .u64 t264, .int .u64 0, .int .u64 0, .int .u64 0, .slice none 0 0, .int .i64 0, .int .i64 0]) ?_ 2 _ rfl; (with_reducible repeat (first | refine blk_drewN ?_ _ | refine blk_drew ?_ | refine blk_alloc ?_ _)); refine blk_put (cs := #[.int .i64 t263, .int .u64 0, .int .u64 0, .int .u64 0, .int .u64 0, .slice none 0 0, .int .i64 0, .int .i64 0]) ?_ 1 _ rfl; (with_reducible repeat (first | refine blk_drewN ?_ _ | refine blk_drew ?_ | refine blk_alloc ?_ _)); refine blk_put (cs := #[.int .i64 0, .int .u64 0, .int .u64 0, .int .u64 0, .int .u64 0, .slice none 0 0, .int .i64 0, .int .i64 0]) ?_ 0 _ rfl; (with_reducible repeat (first | refine blk_drewN ?_ _ | refine blk_drew ?_ | refine blk_alloc ?_ _)); exact BK274.out) hb); have n3_ := Aside0.mk (below_step (by repeat (first | (with_reducible first | exact HB.out | apply below_alloc | apply pw_below_drewN | apply below_drew1 | refine below_set ?_ GE259.out | refine below_set ?_ GE274.out) | exact HB.out)) hb); clear HO270; clear BK259; clear BK274; clear HB; have HO270 := n0_; have BK259 := n1_; have BK274 := n2_; have HB := n3_; clear n0_ n1_ n2_ n3_; (try clear hb); (try clear hb2); (try clear hk); (try clear hi)))
      go_ret
      exact ⟨by first | rfl | (simp [errW_none, errW_some] <;> rfl) | (simp [*, errW_none, errW_some] <;> rfl), by repeat (first | (with_reducible first | exact HB.out | apply below_alloc | apply pw_below_drewN | apply below_drew1 | refine below_set ?_ GE259.out | refine below_set ?_ GE274.out) | exact HB.out)⟩

end Go.Proofs.Ytgcgijmjlnhdnaa.P
