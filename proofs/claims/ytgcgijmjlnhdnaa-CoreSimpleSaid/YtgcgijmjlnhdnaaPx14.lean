-- Written by a program of this project (wip/xp over the words of the print), not by hand.
import Derived.Test.YtgcgijmjlnhdnaaPx0
import Derived.Test.YtgcgijmjlnhdnaaPx1
namespace Go.Proofs.Ytgcgijmjlnhdnaa.P
open Go.RowKit Go.Proofs.YtgcgijmjlnhdnaaW.PrintWords Go.Proofs.YtgcgijmjlnhdnaaW.PrintLast Go.Proofs.YtgcgijmjlnhdnaaW.PrintMore
attribute [local go_sem] max2_int min2_int max_two min_two max_three min_three max_four min_four   -- for this text's walks alone
set_option linter.unusedVariables false
set_option linter.unusedSimpArgs false

attribute [local go_sem high] eqA24
/-! ### ostinatoref04_Told: function 16 -/
mutual
def ostinatoref04_Told.l0 : Nat → Int → Int → Int → Int → Int → Int → Int → Int → List (S27) → Int → Int → Option (Bool × Bool)
  | 0, _, _, _, _, _, _, _, _, _, _, _ => none
  | k + 1, x4, x5, x6, x204000, x204001, x204002, x204003, x204004, x204005, x204006, x204007 => if x6 < (x204005.length : Int) then (if 0 ≤ x6 then ((ostinatoref04_Told.f k ((rd_T27 x204005 x6).f0) ((rd_T27 x204005 x6).f1.f0) ((rd_T27 x204005 x6).f1.f1) ((rd_T27 x204005 x6).f1.f2) ((rd_T27 x204005 x6).f1.f3) ((rd_T27 x204005 x6).f2) ((rd_T27 x204005 x6).f3) ((rd_T27 x204005 x6).f4)).bind fun bt205 => (if bt205.1 = true then (if bt205.2 = true then (ostinatoref04_Told.l0 k (wrap64 (x4 + 1)) (wrap64 (x5 + 1)) (wrap64 (x6 + 1)) x204000 x204001 x204002 x204003 x204004 x204005 x204006 x204007) else (ostinatoref04_Told.l0 k (wrap64 (x4 + 1)) x5 (wrap64 (x6 + 1)) x204000 x204001 x204002 x204003 x204004 x204005 x204006 x204007)) else (if bt205.2 = true then (ostinatoref04_Told.l0 k x4 (wrap64 (x5 + 1)) (wrap64 (x6 + 1)) x204000 x204001 x204002 x204003 x204004 x204005 x204006 x204007) else (ostinatoref04_Told.l0 k x4 x5 (wrap64 (x6 + 1)) x204000 x204001 x204002 x204003 x204004 x204005 x204006 x204007)))) else (none)) else (if x204000 = 0 then (some (false, true)) else (if x204000 = 1 then (some ((x204001 == 0 && (x204002 == 0 && (x204003 == 0 && (x204004 == 0)))), false)) else (if x204000 = 2 then (some (decide (x4 > 0), (x5 == (x204005.length : Int)))) else (if x204000 = 3 then (some ((x4 == (x204005.length : Int)), decide (x5 > 0))) else (if x4 > 0 then (if x204006 = 0 then (some (decide (x204006 > 0), true)) else (some (decide (x204006 > 0), decide (x5 > 0)))) else (if x204006 = 0 then (some (false, true)) else (some (false, decide (x5 > 0)))))))))
def ostinatoref04_Told.f : Nat → Int → Int → Int → Int → Int → List (S27) → Int → Int → Option (Bool × Bool)
  | 0, _, _, _, _, _, _, _, _ => none
  | k + 1, a0_0, a0_1, a0_2, a0_3, a0_4, l0_5, a0_6, a0_7 => ostinatoref04_Told.l0 k 0 0 0 a0_0 a0_1 a0_2 a0_3 a0_4 l0_5 a0_6 a0_7
end
theorem ostinatoref04_Told.mono_l : ∀ k, (∀ y0 y1 y2 y3 y4 y5 y6 y7, LeO (ostinatoref04_Told.f k y0 y1 y2 y3 y4 y5 y6 y7) (ostinatoref04_Told.f (k + 1) y0 y1 y2 y3 y4 y5 y6 y7)) ∧ (∀ y0 y1 y2 y3 y4 y5 y6 y7 y8 y9 y10, LeO (ostinatoref04_Told.l0 k y0 y1 y2 y3 y4 y5 y6 y7 y8 y9 y10) (ostinatoref04_Told.l0 (k + 1) y0 y1 y2 y3 y4 y5 y6 y7 y8 y9 y10))
  | 0 => ⟨fun _ _ _ _ _ _ _ _ r h => by simp [ostinatoref04_Told.f] at h, fun _ _ _ _ _ _ _ _ _ _ _ r h => by simp [ostinatoref04_Told.l0] at h⟩
  | k + 1 => by
    obtain ⟨ih0, ih1⟩ := ostinatoref04_Told.mono_l k
    refine ⟨?_, ?_⟩
    · intro y0 y1 y2 y3 y4 y5 y6 y7
      unfold ostinatoref04_Told.f
      repeat' first
      | (with_reducible exact ih0 _ _ _ _ _ _ _ _)
      | (with_reducible exact ih1 _ _ _ _ _ _ _ _ _ _ _)
      | (with_reducible exact LeO.refl _)
      | (with_reducible exact LeO.none _)
      | (with_reducible refine LeO.ite ?_ ?_)
      | (with_reducible refine LeO.bind ?_ (fun _ => ?_))
      | exact ih0 _ _ _ _ _ _ _ _
      | exact ih1 _ _ _ _ _ _ _ _ _ _ _
      | exact LeO.none _
      | refine LeO.ite ?_ ?_
      | refine LeO.bind ?_ (fun _ => ?_)
    · intro y0 y1 y2 y3 y4 y5 y6 y7 y8 y9 y10
      unfold ostinatoref04_Told.l0
      repeat' first
      | (with_reducible exact ih0 _ _ _ _ _ _ _ _)
      | (with_reducible exact ih1 _ _ _ _ _ _ _ _ _ _ _)
      | (with_reducible exact LeO.refl _)
      | (with_reducible exact LeO.none _)
      | (with_reducible refine LeO.ite ?_ ?_)
      | (with_reducible refine LeO.bind ?_ (fun _ => ?_))
      | exact ih0 _ _ _ _ _ _ _ _
      | exact ih1 _ _ _ _ _ _ _ _ _ _ _
      | exact LeO.none _
      | refine LeO.ite ?_ ?_
      | refine LeO.bind ?_ (fun _ => ?_)
theorem ostinatoref04_Told.mono : ∀ a0 a1 a2 a3 a4 a5 a6 a7 k, LeO (ostinatoref04_Told.f k a0 a1 a2 a3 a4 a5 a6 a7) (ostinatoref04_Told.f (k + 1) a0 a1 a2 a3 a4 a5 a6 a7) := by
  intro a0 a1 a2 a3 a4 a5 a6 a7 k
  obtain ⟨ih0, ih1⟩ := ostinatoref04_Told.mono_l k
  exact ih0 a0 a1 a2 a3 a4 a5 a6 a7
set_option maxHeartbeats 8000000 in
set_option maxRecDepth 100000 in
theorem ostinatoref04_Told.calls (k : Nat) : ∀ (a0_0 : Int) (a0_1 : Int) (a0_2 : Int) (a0_3 : Int) (a0_4 : Int) (A0_5 : Option Addr) (c0_5 : Nat) (l0_5 : List (S27)) (a0_6 : Int) (a0_7 : Int) (r1 : Bool) (r2 : Bool) (w : World) (hr0_5 : Kd.C k27 w A0_5 l0_5.length l0_5) (hc0_5 : l0_5.length ≤ c0_5) (h : ostinatoref04_Told.f k a0_0 a0_1 a0_2 a0_3 a0_4 l0_5 a0_6 a0_7 = some (r1, r2)),
  Calls Try.prog 16 #[.agg #[.int .i64 a0_0, .int .u64 a0_1, .int .u64 a0_2, .int .u64 a0_3, .int .u64 a0_4, .slice A0_5 l0_5.length c0_5, .int .i64 a0_6, .int .i64 a0_7]] w fun e w' => e = .returned (.tuple #[.bool r1, .bool r2]) ∧ Below w.heap.size w w' := by
 induction k using Nat.strongRecOn with
 | _ k ih =>
 intro a0_0 a0_1 a0_2 a0_3 a0_4 A0_5 c0_5 l0_5 a0_6 a0_7 r1 r2 w hr0_5 hc0_5 h
 cases k with
 | zero => exact absurd h (by simp [ostinatoref04_Told.f])
 | succ k =>
 simp only [ostinatoref04_Told.f] at h
 have hu27 := Try.underlying27
 have hu24 := Try.underlying24
 have HR0_5 := Aside0.mk hr0_5
 have HC0_5 := Aside0.mk hc0_5
 clear hr0_5 hc0_5
 have HB := Aside0.mk (Below.refl w.heap.size w)
 have H : (ostinatoref04_Told.l0 k 0 0 0 a0_0 a0_1 a0_2 a0_3 a0_4 l0_5 a0_6 a0_7) = some (r1, r2) := h
 clear h
 have H' := Aside0.mk H
 clear H
 go_enter Try.func16, Try.ntmps16
 go_wp2_with (first | ((with_reducible refine gate_dst (N := 1) rfl ?_); refine box_event ?hg (N := 1) ?hd (cs := #[.int .i64 a0_0, .int .u64 a0_1, .int .u64 a0_2, .int .u64 a0_3, .int .u64 a0_4, .slice A0_5 l0_5.length c0_5, .int .i64 a0_6, .int .i64 a0_7]) (t := 27) ?hr ?_; (case hd => rfl); (case hg => rfl); (case hr => first | (go_simp; done) | (go_simp; rfl)); intro gb203 hg w2 hbox hb; have n0_ := Aside0.mk (below_step (by repeat (first | (with_reducible first | exact HB.out | apply below_alloc | apply pw_below_drewN | apply below_drew1) | exact HB.out)) hb); have n1_ := Aside0.mk (hbox); have n2_ := Aside0.mk ((by rw [hg]; exact (below_size (by repeat (first | (with_reducible first | exact HB.out | apply below_alloc | apply pw_below_drewN | apply below_drew1) | exact HB.out))) : w.heap.size ≤ gb203)); have n3_ := Aside0.mk ((by rw [hg]; exact (below_size (by repeat (first | (with_reducible first | exact HB.out | apply below_alloc | apply pw_below_drewN | apply below_drew1) | exact HB.out))) : w.heap.size ≤ gb203)); clear HB; have HB := n0_; have BK203 := n1_; have GW203 := n2_; have GE203 := n3_; clear n0_ n1_ n2_ n3_; clear hb hbox hg))
 repeat (go_quiet (first | ((with_reducible refine gate_dst (N := 1) rfl ?_); refine box_event ?hg (N := 1) ?hd (cs := #[.int .i64 a0_0, .int .u64 a0_1, .int .u64 a0_2, .int .u64 a0_3, .int .u64 a0_4, .slice A0_5 l0_5.length c0_5, .int .i64 a0_6, .int .i64 a0_7]) (t := 27) ?hr ?_; (case hd => rfl); (case hg => rfl); (case hr => first | (go_simp; done) | (go_simp; rfl)); intro gb203 hg w2 hbox hb; have n0_ := Aside0.mk (below_step (by repeat (first | (with_reducible first | exact HB.out | apply below_alloc | apply pw_below_drewN | apply below_drew1) | exact HB.out)) hb); have n1_ := Aside0.mk (hbox); have n2_ := Aside0.mk ((by rw [hg]; exact (below_size (by repeat (first | (with_reducible first | exact HB.out | apply below_alloc | apply pw_below_drewN | apply below_drew1) | exact HB.out))) : w.heap.size ≤ gb203)); have n3_ := Aside0.mk ((by rw [hg]; exact (below_size (by repeat (first | (with_reducible first | exact HB.out | apply below_alloc | apply pw_below_drewN | apply below_drew1) | exact HB.out))) : w.heap.size ≤ gb203)); clear HB; have HB := n0_; have BK203 := n1_; have GW203 := n2_; have GE203 := n3_; clear n0_ n1_ n2_ n3_; clear hb hbox hg)); try go_wp2_with (first | ((with_reducible refine gate_dst (N := 1) rfl ?_); refine box_event ?hg (N := 1) ?hd (cs := #[.int .i64 a0_0, .int .u64 a0_1, .int .u64 a0_2, .int .u64 a0_3, .int .u64 a0_4, .slice A0_5 l0_5.length c0_5, .int .i64 a0_6, .int .i64 a0_7]) (t := 27) ?hr ?_; (case hd => rfl); (case hg => rfl); (case hr => first | (go_simp; done) | (go_simp; rfl)); intro gb203 hg w2 hbox hb; have n0_ := Aside0.mk (below_step (by repeat (first | (with_reducible first | exact HB.out | apply below_alloc | apply pw_below_drewN | apply below_drew1) | exact HB.out)) hb); have n1_ := Aside0.mk (hbox); have n2_ := Aside0.mk ((by rw [hg]; exact (below_size (by repeat (first | (with_reducible first | exact HB.out | apply below_alloc | apply pw_below_drewN | apply below_drew1) | exact HB.out))) : w.heap.size ≤ gb203)); have n3_ := Aside0.mk ((by rw [hg]; exact (below_size (by repeat (first | (with_reducible first | exact HB.out | apply below_alloc | apply pw_below_drewN | apply below_drew1) | exact HB.out))) : w.heap.size ≤ gb203)); clear HB; have HB := n0_; have BK203 := n1_; have GW203 := n2_; have GE203 := n3_; clear n0_ n1_ n2_ n3_; clear hb hbox hg)))
 go_loopg [4, 5, 6] k (fun kq v4 v5 v6 w' => ∃ (x4_1 : Int) (x5_1 : Int) (x6_1 : Int), v4 = .int .i64 x4_1 ∧ v5 = .int .i64 x5_1 ∧ v6 = .int .i64 x6_1 ∧ Aside0 (ostinatoref04_Told.l0 kq x4_1 x5_1 x6_1 a0_0 a0_1 a0_2 a0_3 a0_4 l0_5 a0_6 a0_7 = some (r1, r2)) ∧ Aside0 (kq ≤ k) ∧ Aside0 (w'.heap[gb203]? = some (.cells #[.int .i64 a0_0, .int .u64 a0_1, .int .u64 a0_2, .int .u64 a0_3, .int .u64 a0_4, (.slice A0_5 l0_5.length c0_5), .int .i64 a0_6, .int .i64 a0_7] 27 (0, 0))) ∧ Aside0 (Below w.heap.size w w'))
 case atStart => exact ⟨(0), (0), (0), (by first | rfl | (simp; done) | (simp [*]; done)), (by first | rfl | (simp; done) | (simp [*]; done)), (by first | rfl | (simp; done) | (simp [*]; done)), H', ⟨Nat.le_refl _⟩, ⟨by (with_reducible repeat (first | refine blk_drewN ?_ _ | refine blk_drew ?_ | refine blk_alloc ?_ _)); exact BK203.out⟩, ⟨by repeat (first | (with_reducible first | exact HB.out | apply below_alloc | apply pw_below_drewN | apply below_drew1 | refine below_set ?_ GE203.out) | exact HB.out)⟩⟩
 case round =>
  clear H'
  (try clear c1); (try clear p2)
  obtain ⟨x4_1, x5_1, x6_1, rfl, rfl, rfl, HA, HK1, BK203, HB⟩ := hrel
  cases gk with
  | zero => exact absurd HA.out (by simp [ostinatoref04_Told.l0])
  | succ k1 =>
   have H := HA.out
   clear HA
   simp only [ostinatoref04_Told.l0] at H
   by_cases c3 : x6_1 < (l0_5.length : Int)
   ·
    rw [if_pos c3] at H
    have c3b0 : decide (x6_1 < (l0_5.length : Int)) = true := decide_eq_true c3
    clear c3
    by_cases c4 : 0 ≤ x6_1
    ·
     rw [if_pos c4] at H
     have c4b0 : decide (0 ≤ x6_1) = true := decide_eq_true c4
     clear c4
     replace H := Option.bind_eq_some_iff.mp H
     obtain ⟨⟨t205, t206⟩, A50, H⟩ := H
     replace H : (if t205 = true then (if t206 = true then (ostinatoref04_Told.l0 k1 (wrap64 (x4_1 + 1)) (wrap64 (x5_1 + 1)) (wrap64 (x6_1 + 1)) a0_0 a0_1 a0_2 a0_3 a0_4 l0_5 a0_6 a0_7) else (ostinatoref04_Told.l0 k1 (wrap64 (x4_1 + 1)) x5_1 (wrap64 (x6_1 + 1)) a0_0 a0_1 a0_2 a0_3 a0_4 l0_5 a0_6 a0_7)) else (if t206 = true then (ostinatoref04_Told.l0 k1 x4_1 (wrap64 (x5_1 + 1)) (wrap64 (x6_1 + 1)) a0_0 a0_1 a0_2 a0_3 a0_4 l0_5 a0_6 a0_7) else (ostinatoref04_Told.l0 k1 x4_1 x5_1 (wrap64 (x6_1 + 1)) a0_0 a0_1 a0_2 a0_3 a0_4 l0_5 a0_6 a0_7))) = some (r1, r2) := H
     have A5 := Aside0.mk A50
     clear A50
     by_cases c6 : t205 = true
     ·
      subst c6
      have H1 : (if t206 = true then (ostinatoref04_Told.l0 k1 (wrap64 (x4_1 + 1)) (wrap64 (x5_1 + 1)) (wrap64 (x6_1 + 1)) a0_0 a0_1 a0_2 a0_3 a0_4 l0_5 a0_6 a0_7) else (ostinatoref04_Told.l0 k1 (wrap64 (x4_1 + 1)) x5_1 (wrap64 (x6_1 + 1)) a0_0 a0_1 a0_2 a0_3 a0_4 l0_5 a0_6 a0_7)) = some (r1, r2) := by rw [if_pos rfl] at H; exact H
      clear H
      have H := H1
      clear H1
      by_cases c7 : t206 = true
      ·
       subst c7
       have H1 : (ostinatoref04_Told.l0 k1 (wrap64 (x4_1 + 1)) (wrap64 (x5_1 + 1)) (wrap64 (x6_1 + 1)) a0_0 a0_1 a0_2 a0_3 a0_4 l0_5 a0_6 a0_7) = some (r1, r2) := by rw [if_pos rfl] at H; exact H
       clear H
       have H := H1
       clear H1
       have H' := Aside0.mk H
       clear H
       have hcz8_0 : wr.cell? ⟨gb203, 0, none⟩ = some (.int .i64 a0_0) := (blk_cell BK203.out 0).trans rfl
       have hcz8_1 : wr.cell? ⟨gb203, 1, none⟩ = some (.int .u64 a0_1) := (blk_cell BK203.out 1).trans rfl
       have hcz8_2 : wr.cell? ⟨gb203, 2, none⟩ = some (.int .u64 a0_2) := (blk_cell BK203.out 2).trans rfl
       have hcz8_3 : wr.cell? ⟨gb203, 3, none⟩ = some (.int .u64 a0_3) := (blk_cell BK203.out 3).trans rfl
       have hcz8_4 : wr.cell? ⟨gb203, 4, none⟩ = some (.int .u64 a0_4) := (blk_cell BK203.out 4).trans rfl
       have hcz8_5 : wr.cell? ⟨gb203, 5, none⟩ = some (.slice A0_5 l0_5.length c0_5) := (blk_cell BK203.out 5).trans rfl
       have hcz8_6 : wr.cell? ⟨gb203, 6, none⟩ = some (.int .i64 a0_6) := (blk_cell BK203.out 6).trans rfl
       have hcz8_7 : wr.cell? ⟨gb203, 7, none⟩ = some (.int .i64 a0_7) := (blk_cell BK203.out 7).trans rfl
       have hfz8_0 := blk_frozen BK203.out 0
       have hfz8_1 := blk_frozen BK203.out 1
       have hfz8_2 := blk_frozen BK203.out 2
       have hfz8_3 := blk_frozen BK203.out 3
       have hfz8_4 := blk_frozen BK203.out 4
       have hfz8_5 := blk_frozen BK203.out 5
       have hfz8_6 := blk_frozen BK203.out 6
       have hfz8_7 := blk_frozen BK203.out 7
       have p204 : 0 ≤ (x6_1 : Int) := of_decide_eq_true (by first | (with_reducible assumption) | assumption)
       have q204 : x6_1 < (l0_5.length : Int) := of_decide_eq_true (by first | (with_reducible assumption) | assumption)
       obtain ⟨ad204, A204_5, c204_5, e204, hx204_0, hx204_1, hx204_2, hx204_3, hx204_4, hx204_5, hx204_6, hx204_7, hl204_5, hi204_5⟩ := at_T27 HR0_5.out x6_1 p204 q204
       cases e204
       replace hx204_0 := (HB.out.cell (World.block_lt_of_cell? w _ hx204_0)).trans hx204_0
       replace hx204_1 := (HB.out.cell (World.block_lt_of_cell? w _ hx204_1)).trans hx204_1
       replace hx204_2 := (HB.out.cell (World.block_lt_of_cell? w _ hx204_2)).trans hx204_2
       replace hx204_3 := (HB.out.cell (World.block_lt_of_cell? w _ hx204_3)).trans hx204_3
       replace hx204_4 := (HB.out.cell (World.block_lt_of_cell? w _ hx204_4)).trans hx204_4
       replace hx204_5 := (HB.out.cell (World.block_lt_of_cell? w _ hx204_5)).trans hx204_5
       replace hx204_6 := (HB.out.cell (World.block_lt_of_cell? w _ hx204_6)).trans hx204_6
       replace hx204_7 := (HB.out.cell (World.block_lt_of_cell? w _ hx204_7)).trans hx204_7
       have HR204_5 := Aside0.mk hi204_5
       have HC204_5 := Aside0.mk hl204_5
       clear hi204_5 hl204_5
       replace p204 := eq_true p204
       replace q204 := eq_true q204
       go_wp2_with (first | (go_at_call 16; (with_reducible refine (ih k1 (by have := HK1.out; omega) ((rd_T27 l0_5 x6_1).f0) ((rd_T27 l0_5 x6_1).f1.f0) ((rd_T27 l0_5 x6_1).f1.f1) ((rd_T27 l0_5 x6_1).f1.f2) ((rd_T27 l0_5 x6_1).f1.f3) _ _ ((rd_T27 l0_5 x6_1).f2) ((rd_T27 l0_5 x6_1).f3) ((rd_T27 l0_5 x6_1).f4) true true _ ?side1 ?side2 A5.out).mono ?_); (case side1 => repeat (first | exact (Kd.C_below HR204_5.out HB.out) | (with_reducible refine Kd.C_alloc ?_ _) | (with_reducible refine Kd.C_drewN ?_ _) | (with_reducible refine Kd.C_drew ?_))); (case side2 => exact HC204_5.out); rintro e w9 ⟨rfl, hb⟩; have n0_ := Aside0.mk (blk_below (g := gb203) (o := .cells #[.int .i64 a0_0, .int .u64 a0_1, .int .u64 a0_2, .int .u64 a0_3, .int .u64 a0_4, .slice (some ad204) l0_5.length c0_5, .int .i64 a0_6, .int .i64 a0_7] 27 (0, 0)) (by (with_reducible repeat (first | refine blk_drewN ?_ _ | refine blk_drew ?_ | refine blk_alloc ?_ _)); exact BK203.out) hb); have n1_ := Aside0.mk (below_step (by repeat (first | (with_reducible first | exact HB.out | apply below_alloc | apply pw_below_drewN | apply below_drew1 | refine below_set ?_ GE203.out) | exact HB.out)) hb); clear BK203; clear HB; have BK203 := n0_; have HB := n1_; clear n0_ n1_; (try clear hb); (try clear hb2); (try clear hk); (try clear hi)))
       repeat (go_quiet (first | (go_at_call 16; (with_reducible refine (ih k1 (by have := HK1.out; omega) ((rd_T27 l0_5 x6_1).f0) ((rd_T27 l0_5 x6_1).f1.f0) ((rd_T27 l0_5 x6_1).f1.f1) ((rd_T27 l0_5 x6_1).f1.f2) ((rd_T27 l0_5 x6_1).f1.f3) _ _ ((rd_T27 l0_5 x6_1).f2) ((rd_T27 l0_5 x6_1).f3) ((rd_T27 l0_5 x6_1).f4) true true _ ?side1 ?side2 A5.out).mono ?_); (case side1 => repeat (first | exact (Kd.C_below HR204_5.out HB.out) | (with_reducible refine Kd.C_alloc ?_ _) | (with_reducible refine Kd.C_drewN ?_ _) | (with_reducible refine Kd.C_drew ?_))); (case side2 => exact HC204_5.out); rintro e w9 ⟨rfl, hb⟩; have n0_ := Aside0.mk (blk_below (g := gb203) (o := .cells #[.int .i64 a0_0, .int .u64 a0_1, .int .u64 a0_2, .int .u64 a0_3, .int .u64 a0_4, .slice (some ad204) l0_5.length c0_5, .int .i64 a0_6, .int .i64 a0_7] 27 (0, 0)) (by (with_reducible repeat (first | refine blk_drewN ?_ _ | refine blk_drew ?_ | refine blk_alloc ?_ _)); exact BK203.out) hb); have n1_ := Aside0.mk (below_step (by repeat (first | (with_reducible first | exact HB.out | apply below_alloc | apply pw_below_drewN | apply below_drew1 | refine below_set ?_ GE203.out) | exact HB.out)) hb); clear BK203; clear HB; have BK203 := n0_; have HB := n1_; clear n0_ n1_; (try clear hb); (try clear hb2); (try clear hk); (try clear hi))); try go_wp2_with (first | (go_at_call 16; (with_reducible refine (ih k1 (by have := HK1.out; omega) ((rd_T27 l0_5 x6_1).f0) ((rd_T27 l0_5 x6_1).f1.f0) ((rd_T27 l0_5 x6_1).f1.f1) ((rd_T27 l0_5 x6_1).f1.f2) ((rd_T27 l0_5 x6_1).f1.f3) _ _ ((rd_T27 l0_5 x6_1).f2) ((rd_T27 l0_5 x6_1).f3) ((rd_T27 l0_5 x6_1).f4) true true _ ?side1 ?side2 A5.out).mono ?_); (case side1 => repeat (first | exact (Kd.C_below HR204_5.out HB.out) | (with_reducible refine Kd.C_alloc ?_ _) | (with_reducible refine Kd.C_drewN ?_ _) | (with_reducible refine Kd.C_drew ?_))); (case side2 => exact HC204_5.out); rintro e w9 ⟨rfl, hb⟩; have n0_ := Aside0.mk (blk_below (g := gb203) (o := .cells #[.int .i64 a0_0, .int .u64 a0_1, .int .u64 a0_2, .int .u64 a0_3, .int .u64 a0_4, .slice (some ad204) l0_5.length c0_5, .int .i64 a0_6, .int .i64 a0_7] 27 (0, 0)) (by (with_reducible repeat (first | refine blk_drewN ?_ _ | refine blk_drew ?_ | refine blk_alloc ?_ _)); exact BK203.out) hb); have n1_ := Aside0.mk (below_step (by repeat (first | (with_reducible first | exact HB.out | apply below_alloc | apply pw_below_drewN | apply below_drew1 | refine below_set ?_ GE203.out) | exact HB.out)) hb); clear BK203; clear HB; have BK203 := n0_; have HB := n1_; clear n0_ n1_; (try clear hb); (try clear hb2); (try clear hk); (try clear hi))))
       go_roundg k1
       case measure => have := HK1.out; omega
       case rel => exact ⟨(wrap64 (x4_1 + 1)), (wrap64 (x5_1 + 1)), (wrap64 (x6_1 + 1)), (by first | rfl | (simp; done) | (simp [*]; done)), (by first | rfl | (simp; done) | (simp [*]; done)), (by first | rfl | (simp; done) | (simp [*]; done)), H', ⟨by have := HK1.out; omega⟩, ⟨by (with_reducible repeat (first | refine blk_drewN ?_ _ | refine blk_drew ?_ | refine blk_alloc ?_ _)); exact BK203.out⟩, ⟨by repeat (first | (with_reducible first | exact HB.out | apply below_alloc | apply pw_below_drewN | apply below_drew1 | refine below_set ?_ GE203.out) | exact HB.out)⟩⟩
      ·
       replace c7 := Bool.eq_false_iff.mpr c7
       subst c7
       have H1 : (ostinatoref04_Told.l0 k1 (wrap64 (x4_1 + 1)) x5_1 (wrap64 (x6_1 + 1)) a0_0 a0_1 a0_2 a0_3 a0_4 l0_5 a0_6 a0_7) = some (r1, r2) := by rw [if_neg (show ¬ (false = true) by decide)] at H; exact H
       clear H
       have H := H1
       clear H1
       have H' := Aside0.mk H
       clear H
       have hcz10_0 : wr.cell? ⟨gb203, 0, none⟩ = some (.int .i64 a0_0) := (blk_cell BK203.out 0).trans rfl
       have hcz10_1 : wr.cell? ⟨gb203, 1, none⟩ = some (.int .u64 a0_1) := (blk_cell BK203.out 1).trans rfl
       have hcz10_2 : wr.cell? ⟨gb203, 2, none⟩ = some (.int .u64 a0_2) := (blk_cell BK203.out 2).trans rfl
       have hcz10_3 : wr.cell? ⟨gb203, 3, none⟩ = some (.int .u64 a0_3) := (blk_cell BK203.out 3).trans rfl
       have hcz10_4 : wr.cell? ⟨gb203, 4, none⟩ = some (.int .u64 a0_4) := (blk_cell BK203.out 4).trans rfl
       have hcz10_5 : wr.cell? ⟨gb203, 5, none⟩ = some (.slice A0_5 l0_5.length c0_5) := (blk_cell BK203.out 5).trans rfl
       have hcz10_6 : wr.cell? ⟨gb203, 6, none⟩ = some (.int .i64 a0_6) := (blk_cell BK203.out 6).trans rfl
       have hcz10_7 : wr.cell? ⟨gb203, 7, none⟩ = some (.int .i64 a0_7) := (blk_cell BK203.out 7).trans rfl
       have hfz10_0 := blk_frozen BK203.out 0
       have hfz10_1 := blk_frozen BK203.out 1
       have hfz10_2 := blk_frozen BK203.out 2
       have hfz10_3 := blk_frozen BK203.out 3
       have hfz10_4 := blk_frozen BK203.out 4
       have hfz10_5 := blk_frozen BK203.out 5
       have hfz10_6 := blk_frozen BK203.out 6
       have hfz10_7 := blk_frozen BK203.out 7
       have p204 : 0 ≤ (x6_1 : Int) := of_decide_eq_true (by first | (with_reducible assumption) | assumption)
       have q204 : x6_1 < (l0_5.length : Int) := of_decide_eq_true (by first | (with_reducible assumption) | assumption)
       obtain ⟨ad204, A204_5, c204_5, e204, hx204_0, hx204_1, hx204_2, hx204_3, hx204_4, hx204_5, hx204_6, hx204_7, hl204_5, hi204_5⟩ := at_T27 HR0_5.out x6_1 p204 q204
       cases e204
       replace hx204_0 := (HB.out.cell (World.block_lt_of_cell? w _ hx204_0)).trans hx204_0
       replace hx204_1 := (HB.out.cell (World.block_lt_of_cell? w _ hx204_1)).trans hx204_1
       replace hx204_2 := (HB.out.cell (World.block_lt_of_cell? w _ hx204_2)).trans hx204_2
       replace hx204_3 := (HB.out.cell (World.block_lt_of_cell? w _ hx204_3)).trans hx204_3
       replace hx204_4 := (HB.out.cell (World.block_lt_of_cell? w _ hx204_4)).trans hx204_4
       replace hx204_5 := (HB.out.cell (World.block_lt_of_cell? w _ hx204_5)).trans hx204_5
       replace hx204_6 := (HB.out.cell (World.block_lt_of_cell? w _ hx204_6)).trans hx204_6
       replace hx204_7 := (HB.out.cell (World.block_lt_of_cell? w _ hx204_7)).trans hx204_7
       have HR204_5 := Aside0.mk hi204_5
       have HC204_5 := Aside0.mk hl204_5
       clear hi204_5 hl204_5
       replace p204 := eq_true p204
       replace q204 := eq_true q204
       go_wp2_with (first | (go_at_call 16; (with_reducible refine (ih k1 (by have := HK1.out; omega) ((rd_T27 l0_5 x6_1).f0) ((rd_T27 l0_5 x6_1).f1.f0) ((rd_T27 l0_5 x6_1).f1.f1) ((rd_T27 l0_5 x6_1).f1.f2) ((rd_T27 l0_5 x6_1).f1.f3) _ _ ((rd_T27 l0_5 x6_1).f2) ((rd_T27 l0_5 x6_1).f3) ((rd_T27 l0_5 x6_1).f4) true false _ ?side1 ?side2 A5.out).mono ?_); (case side1 => repeat (first | exact (Kd.C_below HR204_5.out HB.out) | (with_reducible refine Kd.C_alloc ?_ _) | (with_reducible refine Kd.C_drewN ?_ _) | (with_reducible refine Kd.C_drew ?_))); (case side2 => exact HC204_5.out); rintro e w11 ⟨rfl, hb⟩; have n0_ := Aside0.mk (blk_below (g := gb203) (o := .cells #[.int .i64 a0_0, .int .u64 a0_1, .int .u64 a0_2, .int .u64 a0_3, .int .u64 a0_4, .slice (some ad204) l0_5.length c0_5, .int .i64 a0_6, .int .i64 a0_7] 27 (0, 0)) (by (with_reducible repeat (first | refine blk_drewN ?_ _ | refine blk_drew ?_ | refine blk_alloc ?_ _)); exact BK203.out) hb); have n1_ := Aside0.mk (below_step (by repeat (first | (with_reducible first | exact HB.out | apply below_alloc | apply pw_below_drewN | apply below_drew1 | refine below_set ?_ GE203.out) | exact HB.out)) hb); clear BK203; clear HB; have BK203 := n0_; have HB := n1_; clear n0_ n1_; (try clear hb); (try clear hb2); (try clear hk); (try clear hi)))
       repeat (go_quiet (first | (go_at_call 16; (with_reducible refine (ih k1 (by have := HK1.out; omega) ((rd_T27 l0_5 x6_1).f0) ((rd_T27 l0_5 x6_1).f1.f0) ((rd_T27 l0_5 x6_1).f1.f1) ((rd_T27 l0_5 x6_1).f1.f2) ((rd_T27 l0_5 x6_1).f1.f3) _ _ ((rd_T27 l0_5 x6_1).f2) ((rd_T27 l0_5 x6_1).f3) ((rd_T27 l0_5 x6_1).f4) true false _ ?side1 ?side2 A5.out).mono ?_); (case side1 => repeat (first | exact (Kd.C_below HR204_5.out HB.out) | (with_reducible refine Kd.C_alloc ?_ _) | (with_reducible refine Kd.C_drewN ?_ _) | (with_reducible refine Kd.C_drew ?_))); (case side2 => exact HC204_5.out); rintro e w11 ⟨rfl, hb⟩; have n0_ := Aside0.mk (blk_below (g := gb203) (o := .cells #[.int .i64 a0_0, .int .u64 a0_1, .int .u64 a0_2, .int .u64 a0_3, .int .u64 a0_4, .slice (some ad204) l0_5.length c0_5, .int .i64 a0_6, .int .i64 a0_7] 27 (0, 0)) (by (with_reducible repeat (first | refine blk_drewN ?_ _ | refine blk_drew ?_ | refine blk_alloc ?_ _)); exact BK203.out) hb); have n1_ := Aside0.mk (below_step (by repeat (first | (with_reducible first | exact HB.out | apply below_alloc | apply pw_below_drewN | apply below_drew1 | refine below_set ?_ GE203.out) | exact HB.out)) hb); clear BK203; clear HB; have BK203 := n0_; have HB := n1_; clear n0_ n1_; (try clear hb); (try clear hb2); (try clear hk); (try clear hi))); try go_wp2_with (first | (go_at_call 16; (with_reducible refine (ih k1 (by have := HK1.out; omega) ((rd_T27 l0_5 x6_1).f0) ((rd_T27 l0_5 x6_1).f1.f0) ((rd_T27 l0_5 x6_1).f1.f1) ((rd_T27 l0_5 x6_1).f1.f2) ((rd_T27 l0_5 x6_1).f1.f3) _ _ ((rd_T27 l0_5 x6_1).f2) ((rd_T27 l0_5 x6_1).f3) ((rd_T27 l0_5 x6_1).f4) true false _ ?side1 ?side2 A5.out).mono ?_); (case side1 => repeat (first | exact (Kd.C_below HR204_5.out HB.out) | (with_reducible refine Kd.C_alloc ?_ _) | (with_reducible refine Kd.C_drewN ?_ _) | (with_reducible refine Kd.C_drew ?_))); (case side2 => exact HC204_5.out); rintro e w11 ⟨rfl, hb⟩; have n0_ := Aside0.mk (blk_below (g := gb203) (o := .cells #[.int .i64 a0_0, .int .u64 a0_1, .int .u64 a0_2, .int .u64 a0_3, .int .u64 a0_4, .slice (some ad204) l0_5.length c0_5, .int .i64 a0_6, .int .i64 a0_7] 27 (0, 0)) (by (with_reducible repeat (first | refine blk_drewN ?_ _ | refine blk_drew ?_ | refine blk_alloc ?_ _)); exact BK203.out) hb); have n1_ := Aside0.mk (below_step (by repeat (first | (with_reducible first | exact HB.out | apply below_alloc | apply pw_below_drewN | apply below_drew1 | refine below_set ?_ GE203.out) | exact HB.out)) hb); clear BK203; clear HB; have BK203 := n0_; have HB := n1_; clear n0_ n1_; (try clear hb); (try clear hb2); (try clear hk); (try clear hi))))
       go_roundg k1
       case measure => have := HK1.out; omega
       case rel => exact ⟨(wrap64 (x4_1 + 1)), (x5_1), (wrap64 (x6_1 + 1)), (by first | rfl | (simp; done) | (simp [*]; done)), (by first | rfl | (simp; done) | (simp [*]; done)), (by first | rfl | (simp; done) | (simp [*]; done)), H', ⟨by have := HK1.out; omega⟩, ⟨by (with_reducible repeat (first | refine blk_drewN ?_ _ | refine blk_drew ?_ | refine blk_alloc ?_ _)); exact BK203.out⟩, ⟨by repeat (first | (with_reducible first | exact HB.out | apply below_alloc | apply pw_below_drewN | apply below_drew1 | refine below_set ?_ GE203.out) | exact HB.out)⟩⟩
     ·
      replace c6 := Bool.eq_false_iff.mpr c6
      subst c6
      have H1 : (if t206 = true then (ostinatoref04_Told.l0 k1 x4_1 (wrap64 (x5_1 + 1)) (wrap64 (x6_1 + 1)) a0_0 a0_1 a0_2 a0_3 a0_4 l0_5 a0_6 a0_7) else (ostinatoref04_Told.l0 k1 x4_1 x5_1 (wrap64 (x6_1 + 1)) a0_0 a0_1 a0_2 a0_3 a0_4 l0_5 a0_6 a0_7)) = some (r1, r2) := by rw [if_neg (show ¬ (false = true) by decide)] at H; exact H
      clear H
      have H := H1
      clear H1
      by_cases c12 : t206 = true
      ·
       subst c12
       have H1 : (ostinatoref04_Told.l0 k1 x4_1 (wrap64 (x5_1 + 1)) (wrap64 (x6_1 + 1)) a0_0 a0_1 a0_2 a0_3 a0_4 l0_5 a0_6 a0_7) = some (r1, r2) := by rw [if_pos rfl] at H; exact H
       clear H
       have H := H1
       clear H1
       have H' := Aside0.mk H
       clear H
       have hcz13_0 : wr.cell? ⟨gb203, 0, none⟩ = some (.int .i64 a0_0) := (blk_cell BK203.out 0).trans rfl
       have hcz13_1 : wr.cell? ⟨gb203, 1, none⟩ = some (.int .u64 a0_1) := (blk_cell BK203.out 1).trans rfl
       have hcz13_2 : wr.cell? ⟨gb203, 2, none⟩ = some (.int .u64 a0_2) := (blk_cell BK203.out 2).trans rfl
       have hcz13_3 : wr.cell? ⟨gb203, 3, none⟩ = some (.int .u64 a0_3) := (blk_cell BK203.out 3).trans rfl
       have hcz13_4 : wr.cell? ⟨gb203, 4, none⟩ = some (.int .u64 a0_4) := (blk_cell BK203.out 4).trans rfl
       have hcz13_5 : wr.cell? ⟨gb203, 5, none⟩ = some (.slice A0_5 l0_5.length c0_5) := (blk_cell BK203.out 5).trans rfl
       have hcz13_6 : wr.cell? ⟨gb203, 6, none⟩ = some (.int .i64 a0_6) := (blk_cell BK203.out 6).trans rfl
       have hcz13_7 : wr.cell? ⟨gb203, 7, none⟩ = some (.int .i64 a0_7) := (blk_cell BK203.out 7).trans rfl
       have hfz13_0 := blk_frozen BK203.out 0
       have hfz13_1 := blk_frozen BK203.out 1
       have hfz13_2 := blk_frozen BK203.out 2
       have hfz13_3 := blk_frozen BK203.out 3
       have hfz13_4 := blk_frozen BK203.out 4
       have hfz13_5 := blk_frozen BK203.out 5
       have hfz13_6 := blk_frozen BK203.out 6
       have hfz13_7 := blk_frozen BK203.out 7
       have p204 : 0 ≤ (x6_1 : Int) := of_decide_eq_true (by first | (with_reducible assumption) | assumption)
       have q204 : x6_1 < (l0_5.length : Int) := of_decide_eq_true (by first | (with_reducible assumption) | assumption)
       obtain ⟨ad204, A204_5, c204_5, e204, hx204_0, hx204_1, hx204_2, hx204_3, hx204_4, hx204_5, hx204_6, hx204_7, hl204_5, hi204_5⟩ := at_T27 HR0_5.out x6_1 p204 q204
       cases e204
       replace hx204_0 := (HB.out.cell (World.block_lt_of_cell? w _ hx204_0)).trans hx204_0
       replace hx204_1 := (HB.out.cell (World.block_lt_of_cell? w _ hx204_1)).trans hx204_1
       replace hx204_2 := (HB.out.cell (World.block_lt_of_cell? w _ hx204_2)).trans hx204_2
       replace hx204_3 := (HB.out.cell (World.block_lt_of_cell? w _ hx204_3)).trans hx204_3
       replace hx204_4 := (HB.out.cell (World.block_lt_of_cell? w _ hx204_4)).trans hx204_4
       replace hx204_5 := (HB.out.cell (World.block_lt_of_cell? w _ hx204_5)).trans hx204_5
       replace hx204_6 := (HB.out.cell (World.block_lt_of_cell? w _ hx204_6)).trans hx204_6
       replace hx204_7 := (HB.out.cell (World.block_lt_of_cell? w _ hx204_7)).trans hx204_7
       have HR204_5 := Aside0.mk hi204_5
       have HC204_5 := Aside0.mk hl204_5
       clear hi204_5 hl204_5
       replace p204 := eq_true p204
       replace q204 := eq_true q204
       go_wp2_with (first | (go_at_call 16; (with_reducible refine (ih k1 (by have := HK1.out; omega) ((rd_T27 l0_5 x6_1).f0) ((rd_T27 l0_5 x6_1).f1.f0) ((rd_T27 l0_5 x6_1).f1.f1) ((rd_T27 l0_5 x6_1).f1.f2) ((rd_T27 l0_5 x6_1).f1.f3) _ _ ((rd_T27 l0_5 x6_1).f2) ((rd_T27 l0_5 x6_1).f3) ((rd_T27 l0_5 x6_1).f4) false true _ ?side1 ?side2 A5.out).mono ?_); (case side1 => repeat (first | exact (Kd.C_below HR204_5.out HB.out) | (with_reducible refine Kd.C_alloc ?_ _) | (with_reducible refine Kd.C_drewN ?_ _) | (with_reducible refine Kd.C_drew ?_))); (case side2 => exact HC204_5.out); rintro e w14 ⟨rfl, hb⟩; have n0_ := Aside0.mk (blk_below (g := gb203) (o := .cells #[.int .i64 a0_0, .int .u64 a0_1, .int .u64 a0_2, .int .u64 a0_3, .int .u64 a0_4, .slice (some ad204) l0_5.length c0_5, .int .i64 a0_6, .int .i64 a0_7] 27 (0, 0)) (by (with_reducible repeat (first | refine blk_drewN ?_ _ | refine blk_drew ?_ | refine blk_alloc ?_ _)); exact BK203.out) hb); have n1_ := Aside0.mk (below_step (by repeat (first | (with_reducible first | exact HB.out | apply below_alloc | apply pw_below_drewN | apply below_drew1 | refine below_set ?_ GE203.out) | exact HB.out)) hb); clear BK203; clear HB; have BK203 := n0_; have HB := n1_; clear n0_ n1_; (try clear hb); (try clear hb2); (try clear hk); (try clear hi)))
       repeat (go_quiet (first | (go_at_call 16; (with_reducible refine (ih k1 (by have := HK1.out; omega) ((rd_T27 l0_5 x6_1).f0) ((rd_T27 l0_5 x6_1).f1.f0) ((rd_T27 l0_5 x6_1).f1.f1) ((rd_T27 l0_5 x6_1).f1.f2) ((rd_T27 l0_5 x6_1).f1.f3) _ _ ((rd_T27 l0_5 x6_1).f2) ((rd_T27 l0_5 x6_1).f3) ((rd_T27 l0_5 x6_1).f4) false true _ ?side1 ?side2 A5.out).mono ?_); (case side1 => repeat (first | exact (Kd.C_below HR204_5.out HB.out) | (with_reducible refine Kd.C_alloc ?_ _) | (with_reducible refine Kd.C_drewN ?_ _) | (with_reducible refine Kd.C_drew ?_))); (case side2 => exact HC204_5.out); rintro e w14 ⟨rfl, hb⟩; have n0_ := Aside0.mk (blk_below (g := gb203) (o := .cells #[.int .i64 a0_0, .int .u64 a0_1, .int .u64 a0_2, .int .u64 a0_3, .int .u64 a0_4, .slice (some ad204) l0_5.length c0_5, .int .i64 a0_6, .int .i64 a0_7] 27 (0, 0)) (by (with_reducible repeat (first | refine blk_drewN ?_ _ | refine blk_drew ?_ | refine blk_alloc ?_ _)); exact BK203.out) hb); have n1_ := Aside0.mk (below_step (by repeat (first | (with_reducible first | exact HB.out | apply below_alloc | apply pw_below_drewN | apply below_drew1 | refine below_set ?_ GE203.out) | exact HB.out)) hb); clear BK203; clear HB; have BK203 := n0_; have HB := n1_; clear n0_ n1_; (try clear hb); (try clear hb2); (try clear hk); (try clear hi))); try go_wp2_with (first | (go_at_call 16; (with_reducible refine (ih k1 (by have := HK1.out; omega) ((rd_T27 l0_5 x6_1).f0) ((rd_T27 l0_5 x6_1).f1.f0) ((rd_T27 l0_5 x6_1).f1.f1) ((rd_T27 l0_5 x6_1).f1.f2) ((rd_T27 l0_5 x6_1).f1.f3) _ _ ((rd_T27 l0_5 x6_1).f2) ((rd_T27 l0_5 x6_1).f3) ((rd_T27 l0_5 x6_1).f4) false true _ ?side1 ?side2 A5.out).mono ?_); (case side1 => repeat (first | exact (Kd.C_below HR204_5.out HB.out) | (with_reducible refine Kd.C_alloc ?_ _) | (with_reducible refine Kd.C_drewN ?_ _) | (with_reducible refine Kd.C_drew ?_))); (case side2 => exact HC204_5.out); rintro e w14 ⟨rfl, hb⟩; have n0_ := Aside0.mk (blk_below (g := gb203) (o := .cells #[.int .i64 a0_0, .int .u64 a0_1, .int .u64 a0_2, .int .u64 a0_3, .int .u64 a0_4, .slice (some ad204) l0_5.length c0_5, .int .i64 a0_6, .int .i64 a0_7] 27 (0, 0)) (by (with_reducible repeat (first | refine blk_drewN ?_ _ | refine blk_drew ?_ | refine blk_alloc ?_ _)); exact BK203.out) hb); have n1_ := Aside0.mk (below_step (by repeat (first | (with_reducible first | exact HB.out | apply below_alloc | apply pw_below_drewN | apply below_drew1 | refine below_set ?_ GE203.out) | exact HB.out)) hb); clear BK203; clear HB; have BK203 := n0_; have HB := n1_; clear n0_ n1_; (try clear hb); (try clear hb2); (try clear hk); (try clear hi))))
       go_roundg k1
       case measure => have := HK1.out; omega
       case rel => exact ⟨(x4_1), (wrap64 (x5_1 + 1)), (wrap64 (x6_1 + 1)), (by first | rfl | (simp; done) | (simp [*]; done)), (by first | rfl | (simp; done) | (simp [*]; done)), (by first | rfl | (simp; done) | (simp [*]; done)), H', ⟨by have := HK1.out; omega⟩, ⟨by (with_reducible repeat (first | refine blk_drewN ?_ _ | refine blk_drew ?_ | refine blk_alloc ?_ _)); exact BK203.out⟩, ⟨by repeat (first | (with_reducible first | exact HB.out | apply below_alloc | apply pw_below_drewN | apply below_drew1 | refine below_set ?_ GE203.out) | exact HB.out)⟩⟩
      ·
       replace c12 := Bool.eq_false_iff.mpr c12
       subst c12
       have H1 : (ostinatoref04_Told.l0 k1 x4_1 x5_1 (wrap64 (x6_1 + 1)) a0_0 a0_1 a0_2 a0_3 a0_4 l0_5 a0_6 a0_7) = some (r1, r2) := by rw [if_neg (show ¬ (false = true) by decide)] at H; exact H
       clear H
       have H := H1
       clear H1
       have H' := Aside0.mk H
       clear H
       have hcz15_0 : wr.cell? ⟨gb203, 0, none⟩ = some (.int .i64 a0_0) := (blk_cell BK203.out 0).trans rfl
       have hcz15_1 : wr.cell? ⟨gb203, 1, none⟩ = some (.int .u64 a0_1) := (blk_cell BK203.out 1).trans rfl
       have hcz15_2 : wr.cell? ⟨gb203, 2, none⟩ = some (.int .u64 a0_2) := (blk_cell BK203.out 2).trans rfl
       have hcz15_3 : wr.cell? ⟨gb203, 3, none⟩ = some (.int .u64 a0_3) := (blk_cell BK203.out 3).trans rfl
       have hcz15_4 : wr.cell? ⟨gb203, 4, none⟩ = some (.int .u64 a0_4) := (blk_cell BK203.out 4).trans rfl
       have hcz15_5 : wr.cell? ⟨gb203, 5, none⟩ = some (.slice A0_5 l0_5.length c0_5) := (blk_cell BK203.out 5).trans rfl
       have hcz15_6 : wr.cell? ⟨gb203, 6, none⟩ = some (.int .i64 a0_6) := (blk_cell BK203.out 6).trans rfl
       have hcz15_7 : wr.cell? ⟨gb203, 7, none⟩ = some (.int .i64 a0_7) := (blk_cell BK203.out 7).trans rfl
       have hfz15_0 := blk_frozen BK203.out 0
       have hfz15_1 := blk_frozen BK203.out 1
       have hfz15_2 := blk_frozen BK203.out 2
       have hfz15_3 := blk_frozen BK203.out 3
       have hfz15_4 := blk_frozen BK203.out 4
       have hfz15_5 := blk_frozen BK203.out 5
       have hfz15_6 := blk_frozen BK203.out 6
       have hfz15_7 := blk_frozen BK203.out 7
       have p204 : 0 ≤ (x6_1 : Int) := of_decide_eq_true (by first | (with_reducible assumption) | assumption)
       have q204 : x6_1 < (l0_5.length : Int) := of_decide_eq_true (by first | (with_reducible assumption) | assumption)
       obtain ⟨ad204, A204_5, c204_5, e204, hx204_0, hx204_1, hx204_2, hx204_3, hx204_4, hx204_5, hx204_6, hx204_7, hl204_5, hi204_5⟩ := at_T27 HR0_5.out x6_1 p204 q204
       cases e204
       replace hx204_0 := (HB.out.cell (World.block_lt_of_cell? w _ hx204_0)).trans hx204_0
       replace hx204_1 := (HB.out.cell (World.block_lt_of_cell? w _ hx204_1)).trans hx204_1
       replace hx204_2 := (HB.out.cell (World.block_lt_of_cell? w _ hx204_2)).trans hx204_2
       replace hx204_3 := (HB.out.cell (World.block_lt_of_cell? w _ hx204_3)).trans hx204_3
       replace hx204_4 := (HB.out.cell (World.block_lt_of_cell? w _ hx204_4)).trans hx204_4
       replace hx204_5 := (HB.out.cell (World.block_lt_of_cell? w _ hx204_5)).trans hx204_5
       replace hx204_6 := (HB.out.cell (World.block_lt_of_cell? w _ hx204_6)).trans hx204_6
       replace hx204_7 := (HB.out.cell (World.block_lt_of_cell? w _ hx204_7)).trans hx204_7
       have HR204_5 := Aside0.mk hi204_5
       have HC204_5 := Aside0.mk hl204_5
       clear hi204_5 hl204_5
       replace p204 := eq_true p204
       replace q204 := eq_true q204
       go_wp2_with (first | (go_at_call 16; (with_reducible refine (ih k1 (by have := HK1.out; omega) ((rd_T27 l0_5 x6_1).f0) ((rd_T27 l0_5 x6_1).f1.f0) ((rd_T27 l0_5 x6_1).f1.f1) ((rd_T27 l0_5 x6_1).f1.f2) ((rd_T27 l0_5 x6_1).f1.f3) _ _ ((rd_T27 l0_5 x6_1).f2) ((rd_T27 l0_5 x6_1).f3) ((rd_T27 l0_5 x6_1).f4) false false _ ?side1 ?side2 A5.out).mono ?_); (case side1 => repeat (first | exact (Kd.C_below HR204_5.out HB.out) | (with_reducible refine Kd.C_alloc ?_ _) | (with_reducible refine Kd.C_drewN ?_ _) | (with_reducible refine Kd.C_drew ?_))); (case side2 => exact HC204_5.out); rintro e w16 ⟨rfl, hb⟩; have n0_ := Aside0.mk (blk_below (g := gb203) (o := .cells #[.int .i64 a0_0, .int .u64 a0_1, .int .u64 a0_2, .int .u64 a0_3, .int .u64 a0_4, .slice (some ad204) l0_5.length c0_5, .int .i64 a0_6, .int .i64 a0_7] 27 (0, 0)) (by (with_reducible repeat (first | refine blk_drewN ?_ _ | refine blk_drew ?_ | refine blk_alloc ?_ _)); exact BK203.out) hb); have n1_ := Aside0.mk (below_step (by repeat (first | (with_reducible first | exact HB.out | apply below_alloc | apply pw_below_drewN | apply below_drew1 | refine below_set ?_ GE203.out) | exact HB.out)) hb); clear BK203; clear HB; have BK203 := n0_; have HB := n1_; clear n0_ n1_; (try clear hb); (try clear hb2); (try clear hk); (try clear hi)))
       repeat (go_quiet (first | (go_at_call 16; (with_reducible refine (ih k1 (by have := HK1.out; omega) ((rd_T27 l0_5 x6_1).f0) ((rd_T27 l0_5 x6_1).f1.f0) ((rd_T27 l0_5 x6_1).f1.f1) ((rd_T27 l0_5 x6_1).f1.f2) ((rd_T27 l0_5 x6_1).f1.f3) _ _ ((rd_T27 l0_5 x6_1).f2) ((rd_T27 l0_5 x6_1).f3) ((rd_T27 l0_5 x6_1).f4) false false _ ?side1 ?side2 A5.out).mono ?_); (case side1 => repeat (first | exact (Kd.C_below HR204_5.out HB.out) | (with_reducible refine Kd.C_alloc ?_ _) | (with_reducible refine Kd.C_drewN ?_ _) | (with_reducible refine Kd.C_drew ?_))); (case side2 => exact HC204_5.out); rintro e w16 ⟨rfl, hb⟩; have n0_ := Aside0.mk (blk_below (g := gb203) (o := .cells #[.int .i64 a0_0, .int .u64 a0_1, .int .u64 a0_2, .int .u64 a0_3, .int .u64 a0_4, .slice (some ad204) l0_5.length c0_5, .int .i64 a0_6, .int .i64 a0_7] 27 (0, 0)) (by (with_reducible repeat (first | refine blk_drewN ?_ _ | refine blk_drew ?_ | refine blk_alloc ?_ _)); exact BK203.out) hb); have n1_ := Aside0.mk (below_step (by repeat (first | (with_reducible first | exact HB.out | apply below_alloc | apply pw_below_drewN | apply below_drew1 | refine below_set ?_ GE203.out) | exact HB.out)) hb); clear BK203; clear HB; have BK203 := n0_; have HB := n1_; clear n0_ n1_; (try clear hb); (try clear hb2); (try clear hk); (try clear hi))); try go_wp2_with (first | (go_at_call 16; (with_reducible refine (ih k1 (by have := HK1.out; omega) ((rd_T27 l0_5 x6_1).f0) ((rd_T27 l0_5 x6_1).f1.f0) ((rd_T27 l0_5 x6_1).f1.f1) ((rd_T27 l0_5 x6_1).f1.f2) ((rd_T27 l0_5 x6_1).f1.f3) _ _ ((rd_T27 l0_5 x6_1).f2) ((rd_T27 l0_5 x6_1).f3) ((rd_T27 l0_5 x6_1).f4) false false _ ?side1 ?side2 A5.out).mono ?_); (case side1 => repeat (first | exact (Kd.C_below HR204_5.out HB.out) | (with_reducible refine Kd.C_alloc ?_ _) | (with_reducible refine Kd.C_drewN ?_ _) | (with_reducible refine Kd.C_drew ?_))); (case side2 => exact HC204_5.out); rintro e w16 ⟨rfl, hb⟩; have n0_ := Aside0.mk (blk_below (g := gb203) (o := .cells #[.int .i64 a0_0, .int .u64 a0_1, .int .u64 a0_2, .int .u64 a0_3, .int .u64 a0_4, .slice (some ad204) l0_5.length c0_5, .int .i64 a0_6, .int .i64 a0_7] 27 (0, 0)) (by (with_reducible repeat (first | refine blk_drewN ?_ _ | refine blk_drew ?_ | refine blk_alloc ?_ _)); exact BK203.out) hb); have n1_ := Aside0.mk (below_step (by repeat (first | (with_reducible first | exact HB.out | apply below_alloc | apply pw_below_drewN | apply below_drew1 | refine below_set ?_ GE203.out) | exact HB.out)) hb); clear BK203; clear HB; have BK203 := n0_; have HB := n1_; clear n0_ n1_; (try clear hb); (try clear hb2); (try clear hk); (try clear hi))))
       go_roundg k1
       case measure => have := HK1.out; omega
       case rel => exact ⟨(x4_1), (x5_1), (wrap64 (x6_1 + 1)), (by first | rfl | (simp; done) | (simp [*]; done)), (by first | rfl | (simp; done) | (simp [*]; done)), (by first | rfl | (simp; done) | (simp [*]; done)), H', ⟨by have := HK1.out; omega⟩, ⟨by (with_reducible repeat (first | refine blk_drewN ?_ _ | refine blk_drew ?_ | refine blk_alloc ?_ _)); exact BK203.out⟩, ⟨by repeat (first | (with_reducible first | exact HB.out | apply below_alloc | apply pw_below_drewN | apply below_drew1 | refine below_set ?_ GE203.out) | exact HB.out)⟩⟩
    ·
     rw [if_neg c4] at H
     exact absurd H (by simp)
   ·
    rw [if_neg c3] at H
    have c3b0 : decide (x6_1 < (l0_5.length : Int)) = false := decide_eq_false c3
    clear c3
    by_cases c17 : a0_0 = 0
    ·
     rw [if_pos c17] at H
     have c17b0 : (a0_0 == 0) = true := beq_iff_eq.mpr c17
     have c17b1 : (a0_0 != 0) = false := bne_eq_false_iff_eq.mpr c17
     clear c17
     simp only [Option.some.injEq, Prod.mk.injEq] at H
     obtain ⟨rfl, rfl⟩ := H
     have hcz18_0 : wr.cell? ⟨gb203, 0, none⟩ = some (.int .i64 a0_0) := (blk_cell BK203.out 0).trans rfl
     have hcz18_1 : wr.cell? ⟨gb203, 1, none⟩ = some (.int .u64 a0_1) := (blk_cell BK203.out 1).trans rfl
     have hcz18_2 : wr.cell? ⟨gb203, 2, none⟩ = some (.int .u64 a0_2) := (blk_cell BK203.out 2).trans rfl
     have hcz18_3 : wr.cell? ⟨gb203, 3, none⟩ = some (.int .u64 a0_3) := (blk_cell BK203.out 3).trans rfl
     have hcz18_4 : wr.cell? ⟨gb203, 4, none⟩ = some (.int .u64 a0_4) := (blk_cell BK203.out 4).trans rfl
     have hcz18_5 : wr.cell? ⟨gb203, 5, none⟩ = some (.slice A0_5 l0_5.length c0_5) := (blk_cell BK203.out 5).trans rfl
     have hcz18_6 : wr.cell? ⟨gb203, 6, none⟩ = some (.int .i64 a0_6) := (blk_cell BK203.out 6).trans rfl
     have hcz18_7 : wr.cell? ⟨gb203, 7, none⟩ = some (.int .i64 a0_7) := (blk_cell BK203.out 7).trans rfl
     have hfz18_0 := blk_frozen BK203.out 0
     have hfz18_1 := blk_frozen BK203.out 1
     have hfz18_2 := blk_frozen BK203.out 2
     have hfz18_3 := blk_frozen BK203.out 3
     have hfz18_4 := blk_frozen BK203.out 4
     have hfz18_5 := blk_frozen BK203.out 5
     have hfz18_6 := blk_frozen BK203.out 6
     have hfz18_7 := blk_frozen BK203.out 7
     go_wp2
     repeat (go_quiet (fail); try go_wp2)
     go_ret2
     exact ⟨by first | rfl | (simp [errW_none, errW_some] <;> rfl) | (simp [*, errW_none, errW_some] <;> rfl), by repeat (first | (with_reducible first | exact HB.out | apply below_alloc | apply pw_below_drewN | apply below_drew1 | refine below_set ?_ GE203.out) | exact HB.out)⟩
    ·
     rw [if_neg c17] at H
     have c17b0 : (a0_0 == 0) = false := beq_eq_false_iff_ne.mpr c17
     have c17b1 : (a0_0 != 0) = true := bne_iff_ne.mpr c17
     by_cases c19 : a0_0 = 1
     ·
      rw [if_pos c19] at H
      have c19b0 : (a0_0 == 1) = true := beq_iff_eq.mpr c19
      have c19b1 : (a0_0 != 1) = false := bne_eq_false_iff_eq.mpr c19
      clear c19
      obtain ⟨bj20, hbj20⟩ : ∃ b_ : Bool, (a0_1 == 0 && (a0_2 == 0 && (a0_3 == 0 && (a0_4 == 0)))) = b_ := ⟨_, rfl⟩
      replace H : (some (bj20, false)) = some (r1, r2) := by (try rw [hbj20] at H); exact H
      simp only [Option.some.injEq, Prod.mk.injEq] at H
      obtain ⟨rfl, rfl⟩ := H
      have hcz21_0 : wr.cell? ⟨gb203, 0, none⟩ = some (.int .i64 a0_0) := (blk_cell BK203.out 0).trans rfl
      have hcz21_1 : wr.cell? ⟨gb203, 1, none⟩ = some (.int .u64 a0_1) := (blk_cell BK203.out 1).trans rfl
      have hcz21_2 : wr.cell? ⟨gb203, 2, none⟩ = some (.int .u64 a0_2) := (blk_cell BK203.out 2).trans rfl
      have hcz21_3 : wr.cell? ⟨gb203, 3, none⟩ = some (.int .u64 a0_3) := (blk_cell BK203.out 3).trans rfl
      have hcz21_4 : wr.cell? ⟨gb203, 4, none⟩ = some (.int .u64 a0_4) := (blk_cell BK203.out 4).trans rfl
      have hcz21_5 : wr.cell? ⟨gb203, 5, none⟩ = some (.slice A0_5 l0_5.length c0_5) := (blk_cell BK203.out 5).trans rfl
      have hcz21_6 : wr.cell? ⟨gb203, 6, none⟩ = some (.int .i64 a0_6) := (blk_cell BK203.out 6).trans rfl
      have hcz21_7 : wr.cell? ⟨gb203, 7, none⟩ = some (.int .i64 a0_7) := (blk_cell BK203.out 7).trans rfl
      have hfz21_0 := blk_frozen BK203.out 0
      have hfz21_1 := blk_frozen BK203.out 1
      have hfz21_2 := blk_frozen BK203.out 2
      have hfz21_3 := blk_frozen BK203.out 3
      have hfz21_4 := blk_frozen BK203.out 4
      have hfz21_5 := blk_frozen BK203.out 5
      have hfz21_6 := blk_frozen BK203.out 6
      have hfz21_7 := blk_frozen BK203.out 7
      go_wp2
      repeat (go_quiet (fail); try go_wp2)
      go_ret2
      exact ⟨by first | rfl | (simp [errW_none, errW_some] <;> rfl) | (simp [*, errW_none, errW_some] <;> rfl), by repeat (first | (with_reducible first | exact HB.out | apply below_alloc | apply pw_below_drewN | apply below_drew1 | refine below_set ?_ GE203.out) | exact HB.out)⟩
     ·
      rw [if_neg c19] at H
      have c19b0 : (a0_0 == 1) = false := beq_eq_false_iff_ne.mpr c19
      have c19b1 : (a0_0 != 1) = true := bne_iff_ne.mpr c19
      by_cases c22 : a0_0 = 2
      ·
       rw [if_pos c22] at H
       have c22b0 : (a0_0 == 2) = true := beq_iff_eq.mpr c22
       have c22b1 : (a0_0 != 2) = false := bne_eq_false_iff_eq.mpr c22
       clear c22
       simp only [Option.some.injEq, Prod.mk.injEq] at H
       obtain ⟨rfl, rfl⟩ := H
       have hcz23_0 : wr.cell? ⟨gb203, 0, none⟩ = some (.int .i64 a0_0) := (blk_cell BK203.out 0).trans rfl
       have hcz23_1 : wr.cell? ⟨gb203, 1, none⟩ = some (.int .u64 a0_1) := (blk_cell BK203.out 1).trans rfl
       have hcz23_2 : wr.cell? ⟨gb203, 2, none⟩ = some (.int .u64 a0_2) := (blk_cell BK203.out 2).trans rfl
       have hcz23_3 : wr.cell? ⟨gb203, 3, none⟩ = some (.int .u64 a0_3) := (blk_cell BK203.out 3).trans rfl
       have hcz23_4 : wr.cell? ⟨gb203, 4, none⟩ = some (.int .u64 a0_4) := (blk_cell BK203.out 4).trans rfl
       have hcz23_5 : wr.cell? ⟨gb203, 5, none⟩ = some (.slice A0_5 l0_5.length c0_5) := (blk_cell BK203.out 5).trans rfl
       have hcz23_6 : wr.cell? ⟨gb203, 6, none⟩ = some (.int .i64 a0_6) := (blk_cell BK203.out 6).trans rfl
       have hcz23_7 : wr.cell? ⟨gb203, 7, none⟩ = some (.int .i64 a0_7) := (blk_cell BK203.out 7).trans rfl
       have hfz23_0 := blk_frozen BK203.out 0
       have hfz23_1 := blk_frozen BK203.out 1
       have hfz23_2 := blk_frozen BK203.out 2
       have hfz23_3 := blk_frozen BK203.out 3
       have hfz23_4 := blk_frozen BK203.out 4
       have hfz23_5 := blk_frozen BK203.out 5
       have hfz23_6 := blk_frozen BK203.out 6
       have hfz23_7 := blk_frozen BK203.out 7
       go_wp2
       repeat (go_quiet (fail); try go_wp2)
       go_ret2
       exact ⟨by first | rfl | (simp [errW_none, errW_some] <;> rfl) | (simp [*, errW_none, errW_some] <;> rfl), by repeat (first | (with_reducible first | exact HB.out | apply below_alloc | apply pw_below_drewN | apply below_drew1 | refine below_set ?_ GE203.out) | exact HB.out)⟩
      ·
       rw [if_neg c22] at H
       have c22b0 : (a0_0 == 2) = false := beq_eq_false_iff_ne.mpr c22
       have c22b1 : (a0_0 != 2) = true := bne_iff_ne.mpr c22
       by_cases c24 : a0_0 = 3
       ·
        rw [if_pos c24] at H
        have c24b0 : (a0_0 == 3) = true := beq_iff_eq.mpr c24
        have c24b1 : (a0_0 != 3) = false := bne_eq_false_iff_eq.mpr c24
        clear c24
        simp only [Option.some.injEq, Prod.mk.injEq] at H
        obtain ⟨rfl, rfl⟩ := H
        have hcz25_0 : wr.cell? ⟨gb203, 0, none⟩ = some (.int .i64 a0_0) := (blk_cell BK203.out 0).trans rfl
        have hcz25_1 : wr.cell? ⟨gb203, 1, none⟩ = some (.int .u64 a0_1) := (blk_cell BK203.out 1).trans rfl
        have hcz25_2 : wr.cell? ⟨gb203, 2, none⟩ = some (.int .u64 a0_2) := (blk_cell BK203.out 2).trans rfl
        have hcz25_3 : wr.cell? ⟨gb203, 3, none⟩ = some (.int .u64 a0_3) := (blk_cell BK203.out 3).trans rfl
        have hcz25_4 : wr.cell? ⟨gb203, 4, none⟩ = some (.int .u64 a0_4) := (blk_cell BK203.out 4).trans rfl
        have hcz25_5 : wr.cell? ⟨gb203, 5, none⟩ = some (.slice A0_5 l0_5.length c0_5) := (blk_cell BK203.out 5).trans rfl
        have hcz25_6 : wr.cell? ⟨gb203, 6, none⟩ = some (.int .i64 a0_6) := (blk_cell BK203.out 6).trans rfl
        have hcz25_7 : wr.cell? ⟨gb203, 7, none⟩ = some (.int .i64 a0_7) := (blk_cell BK203.out 7).trans rfl
        have hfz25_0 := blk_frozen BK203.out 0
        have hfz25_1 := blk_frozen BK203.out 1
        have hfz25_2 := blk_frozen BK203.out 2
        have hfz25_3 := blk_frozen BK203.out 3
        have hfz25_4 := blk_frozen BK203.out 4
        have hfz25_5 := blk_frozen BK203.out 5
        have hfz25_6 := blk_frozen BK203.out 6
        have hfz25_7 := blk_frozen BK203.out 7
        go_wp2
        repeat (go_quiet (fail); try go_wp2)
        go_ret2
        exact ⟨by first | rfl | (simp [errW_none, errW_some] <;> rfl) | (simp [*, errW_none, errW_some] <;> rfl), by repeat (first | (with_reducible first | exact HB.out | apply below_alloc | apply pw_below_drewN | apply below_drew1 | refine below_set ?_ GE203.out) | exact HB.out)⟩
       ·
        rw [if_neg c24] at H
        have c24b0 : (a0_0 == 3) = false := beq_eq_false_iff_ne.mpr c24
        have c24b1 : (a0_0 != 3) = true := bne_iff_ne.mpr c24
        by_cases c26 : x4_1 > 0
        ·
         rw [if_pos c26] at H
         have c26b0 : decide (0 < x4_1) = true := decide_eq_true c26
         clear c26
         by_cases c27 : a0_6 = 0
         ·
          rw [if_pos c27] at H
          have c27b0 : (a0_6 == 0) = true := beq_iff_eq.mpr c27
          have c27b1 : (a0_6 != 0) = false := bne_eq_false_iff_eq.mpr c27
          clear c27
          simp only [Option.some.injEq, Prod.mk.injEq] at H
          obtain ⟨rfl, rfl⟩ := H
          have hcz28_0 : wr.cell? ⟨gb203, 0, none⟩ = some (.int .i64 a0_0) := (blk_cell BK203.out 0).trans rfl
          have hcz28_1 : wr.cell? ⟨gb203, 1, none⟩ = some (.int .u64 a0_1) := (blk_cell BK203.out 1).trans rfl
          have hcz28_2 : wr.cell? ⟨gb203, 2, none⟩ = some (.int .u64 a0_2) := (blk_cell BK203.out 2).trans rfl
          have hcz28_3 : wr.cell? ⟨gb203, 3, none⟩ = some (.int .u64 a0_3) := (blk_cell BK203.out 3).trans rfl
          have hcz28_4 : wr.cell? ⟨gb203, 4, none⟩ = some (.int .u64 a0_4) := (blk_cell BK203.out 4).trans rfl
          have hcz28_5 : wr.cell? ⟨gb203, 5, none⟩ = some (.slice A0_5 l0_5.length c0_5) := (blk_cell BK203.out 5).trans rfl
          have hcz28_6 : wr.cell? ⟨gb203, 6, none⟩ = some (.int .i64 a0_6) := (blk_cell BK203.out 6).trans rfl
          have hcz28_7 : wr.cell? ⟨gb203, 7, none⟩ = some (.int .i64 a0_7) := (blk_cell BK203.out 7).trans rfl
          have hfz28_0 := blk_frozen BK203.out 0
          have hfz28_1 := blk_frozen BK203.out 1
          have hfz28_2 := blk_frozen BK203.out 2
          have hfz28_3 := blk_frozen BK203.out 3
          have hfz28_4 := blk_frozen BK203.out 4
          have hfz28_5 := blk_frozen BK203.out 5
          have hfz28_6 := blk_frozen BK203.out 6
          have hfz28_7 := blk_frozen BK203.out 7
          go_wp2
          repeat (go_quiet (fail); try go_wp2)
          go_ret2
          exact ⟨by first | rfl | (simp [errW_none, errW_some] <;> rfl) | (simp [*, errW_none, errW_some] <;> rfl), by repeat (first | (with_reducible first | exact HB.out | apply below_alloc | apply pw_below_drewN | apply below_drew1 | refine below_set ?_ GE203.out) | exact HB.out)⟩
         ·
          rw [if_neg c27] at H
          have c27b0 : (a0_6 == 0) = false := beq_eq_false_iff_ne.mpr c27
          have c27b1 : (a0_6 != 0) = true := bne_iff_ne.mpr c27
          simp only [Option.some.injEq, Prod.mk.injEq] at H
          obtain ⟨rfl, rfl⟩ := H
          have hcz29_0 : wr.cell? ⟨gb203, 0, none⟩ = some (.int .i64 a0_0) := (blk_cell BK203.out 0).trans rfl
          have hcz29_1 : wr.cell? ⟨gb203, 1, none⟩ = some (.int .u64 a0_1) := (blk_cell BK203.out 1).trans rfl
          have hcz29_2 : wr.cell? ⟨gb203, 2, none⟩ = some (.int .u64 a0_2) := (blk_cell BK203.out 2).trans rfl
          have hcz29_3 : wr.cell? ⟨gb203, 3, none⟩ = some (.int .u64 a0_3) := (blk_cell BK203.out 3).trans rfl
          have hcz29_4 : wr.cell? ⟨gb203, 4, none⟩ = some (.int .u64 a0_4) := (blk_cell BK203.out 4).trans rfl
          have hcz29_5 : wr.cell? ⟨gb203, 5, none⟩ = some (.slice A0_5 l0_5.length c0_5) := (blk_cell BK203.out 5).trans rfl
          have hcz29_6 : wr.cell? ⟨gb203, 6, none⟩ = some (.int .i64 a0_6) := (blk_cell BK203.out 6).trans rfl
          have hcz29_7 : wr.cell? ⟨gb203, 7, none⟩ = some (.int .i64 a0_7) := (blk_cell BK203.out 7).trans rfl
          have hfz29_0 := blk_frozen BK203.out 0
          have hfz29_1 := blk_frozen BK203.out 1
          have hfz29_2 := blk_frozen BK203.out 2
          have hfz29_3 := blk_frozen BK203.out 3
          have hfz29_4 := blk_frozen BK203.out 4
          have hfz29_5 := blk_frozen BK203.out 5
          have hfz29_6 := blk_frozen BK203.out 6
          have hfz29_7 := blk_frozen BK203.out 7
          go_wp2
          repeat (go_quiet (fail); try go_wp2)
          go_ret2
          exact ⟨by first | rfl | (simp [errW_none, errW_some] <;> rfl) | (simp [*, errW_none, errW_some] <;> rfl), by repeat (first | (with_reducible first | exact HB.out | apply below_alloc | apply pw_below_drewN | apply below_drew1 | refine below_set ?_ GE203.out) | exact HB.out)⟩
        ·
         rw [if_neg c26] at H
         have c26b0 : decide (0 < x4_1) = false := decide_eq_false c26
         clear c26
         by_cases c30 : a0_6 = 0
         ·
          rw [if_pos c30] at H
          have c30b0 : (a0_6 == 0) = true := beq_iff_eq.mpr c30
          have c30b1 : (a0_6 != 0) = false := bne_eq_false_iff_eq.mpr c30
          clear c30
          simp only [Option.some.injEq, Prod.mk.injEq] at H
          obtain ⟨rfl, rfl⟩ := H
          have hcz31_0 : wr.cell? ⟨gb203, 0, none⟩ = some (.int .i64 a0_0) := (blk_cell BK203.out 0).trans rfl
          have hcz31_1 : wr.cell? ⟨gb203, 1, none⟩ = some (.int .u64 a0_1) := (blk_cell BK203.out 1).trans rfl
          have hcz31_2 : wr.cell? ⟨gb203, 2, none⟩ = some (.int .u64 a0_2) := (blk_cell BK203.out 2).trans rfl
          have hcz31_3 : wr.cell? ⟨gb203, 3, none⟩ = some (.int .u64 a0_3) := (blk_cell BK203.out 3).trans rfl
          have hcz31_4 : wr.cell? ⟨gb203, 4, none⟩ = some (.int .u64 a0_4) := (blk_cell BK203.out 4).trans rfl
          have hcz31_5 : wr.cell? ⟨gb203, 5, none⟩ = some (.slice A0_5 l0_5.length c0_5) := (blk_cell BK203.out 5).trans rfl
          have hcz31_6 : wr.cell? ⟨gb203, 6, none⟩ = some (.int .i64 a0_6) := (blk_cell BK203.out 6).trans rfl
          have hcz31_7 : wr.cell? ⟨gb203, 7, none⟩ = some (.int .i64 a0_7) := (blk_cell BK203.out 7).trans rfl
          have hfz31_0 := blk_frozen BK203.out 0
          have hfz31_1 := blk_frozen BK203.out 1
          have hfz31_2 := blk_frozen BK203.out 2
          have hfz31_3 := blk_frozen BK203.out 3
          have hfz31_4 := blk_frozen BK203.out 4
          have hfz31_5 := blk_frozen BK203.out 5
          have hfz31_6 := blk_frozen BK203.out 6
          have hfz31_7 := blk_frozen BK203.out 7
          go_wp2
          repeat (go_quiet (fail); try go_wp2)
          go_ret2
          exact ⟨by first | rfl | (simp [errW_none, errW_some] <;> rfl) | (simp [*, errW_none, errW_some] <;> rfl), by repeat (first | (with_reducible first | exact HB.out | apply below_alloc | apply pw_below_drewN | apply below_drew1 | refine below_set ?_ GE203.out) | exact HB.out)⟩
         ·
          rw [if_neg c30] at H
          have c30b0 : (a0_6 == 0) = false := beq_eq_false_iff_ne.mpr c30
          have c30b1 : (a0_6 != 0) = true := bne_iff_ne.mpr c30
          simp only [Option.some.injEq, Prod.mk.injEq] at H
          obtain ⟨rfl, rfl⟩ := H
          have hcz32_0 : wr.cell? ⟨gb203, 0, none⟩ = some (.int .i64 a0_0) := (blk_cell BK203.out 0).trans rfl
          have hcz32_1 : wr.cell? ⟨gb203, 1, none⟩ = some (.int .u64 a0_1) := (blk_cell BK203.out 1).trans rfl
          have hcz32_2 : wr.cell? ⟨gb203, 2, none⟩ = some (.int .u64 a0_2) := (blk_cell BK203.out 2).trans rfl
          have hcz32_3 : wr.cell? ⟨gb203, 3, none⟩ = some (.int .u64 a0_3) := (blk_cell BK203.out 3).trans rfl
          have hcz32_4 : wr.cell? ⟨gb203, 4, none⟩ = some (.int .u64 a0_4) := (blk_cell BK203.out 4).trans rfl
          have hcz32_5 : wr.cell? ⟨gb203, 5, none⟩ = some (.slice A0_5 l0_5.length c0_5) := (blk_cell BK203.out 5).trans rfl
          have hcz32_6 : wr.cell? ⟨gb203, 6, none⟩ = some (.int .i64 a0_6) := (blk_cell BK203.out 6).trans rfl
          have hcz32_7 : wr.cell? ⟨gb203, 7, none⟩ = some (.int .i64 a0_7) := (blk_cell BK203.out 7).trans rfl
          have hfz32_0 := blk_frozen BK203.out 0
          have hfz32_1 := blk_frozen BK203.out 1
          have hfz32_2 := blk_frozen BK203.out 2
          have hfz32_3 := blk_frozen BK203.out 3
          have hfz32_4 := blk_frozen BK203.out 4
          have hfz32_5 := blk_frozen BK203.out 5
          have hfz32_6 := blk_frozen BK203.out 6
          have hfz32_7 := blk_frozen BK203.out 7
          go_wp2
          repeat (go_quiet (fail); try go_wp2)
          go_ret2
          exact ⟨by first | rfl | (simp [errW_none, errW_some] <;> rfl) | (simp [*, errW_none, errW_some] <;> rfl), by repeat (first | (with_reducible first | exact HB.out | apply below_alloc | apply pw_below_drewN | apply below_drew1 | refine below_set ?_ GE203.out) | exact HB.out)⟩

end Go.Proofs.Ytgcgijmjlnhdnaa.P
