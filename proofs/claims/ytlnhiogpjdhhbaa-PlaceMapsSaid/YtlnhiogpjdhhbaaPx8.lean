import Derived.Test.YtlnhiogpjdhhbaaPx0
import Derived.Test.YtlnhiogpjdhhbaaPx5
-- Written by wip/xp.
namespace Go.Proofs.Ytlnhiogpjdhhbaa.P
open Go.RowKit Go.Proofs.YtlnhiogpjdhhbaaW.PrintWords Go.Proofs.YtlnhiogpjdhhbaaW.PrintLast Go.Proofs.YtlnhiogpjdhhbaaW.PrintMore
open Go.Proofs.YtlnhiogpjdhhbaaW.PrintWords renaming blk_frozen → zA, blk_cell → zB, pw_below_drewN → zC, below_drew1 → zD, below_alloc → zE, below_set → zF, blk_alloc → zG, blk_drewN → zH, blk_drew → zI, below_step → zJ, below_size → zK, blk_below → zL
open Go.Proofs.YtlnhiogpjdhhbaaW.PrintWords.Aside0 renaming mk → zM
attribute [local go_sem] max2_int min2_int max_two min_two max_three min_three max_four min_four   -- for this text's walks alone
set_option linter.unusedVariables false
set_option linter.unusedSimpArgs false

mutual
def core_times.j0 : Nat → Int → Int → Bool → Int → Int → Int → Int → Int → List (S27) → Int → Int → Option (Int × Int × Int × Int × Int × (List (S27)) × Int × Int)
  | 0, _, _, _, _, _, _, _, _, _, _, _ => none
  | k + 1, x1, x2, x7, x109000, x109001, x109002, x109003, x109004, x109005, x109006, x109007 => if x7 = true then (some (0, 0, 0, 0, 0, ([] : List (S27)), 0, 0)) else (if x1 = 1 then (core_times.j1 k x1 x2 (x2 == 1) x109000 x109001 x109002 x109003 x109004 x109005 x109006 x109007) else (core_times.j1 k x1 x2 false x109000 x109001 x109002 x109003 x109004 x109005 x109006 x109007))
def core_times.j1 : Nat → Int → Int → Bool → Int → Int → Int → Int → Int → List (S27) → Int → Int → Option (Int × Int × Int × Int × Int × (List (S27)) × Int × Int)
  | 0, _, _, _, _, _, _, _, _, _, _, _ => none
  | k + 1, x1, x2, x20, x109000, x109001, x109002, x109003, x109004, x109005, x109006, x109007 => if x20 = true then (some (x109000, x109001, x109002, x109003, x109004, x109005, x109006, x109007)) else ((core_nullable.f x109000 x109001 x109002 x109003 x109004 x109005 x109006 x109007).bind fun t111 => (if t111 = true then (some (4, 0, 0, 0, 0, (([(⟨x109000, (⟨x109001, x109002, x109003, x109004⟩ : S24), x109005, x109006, x109007⟩ : S27)] : List (S27))), 0, x2)) else (some (4, 0, 0, 0, 0, (([(⟨x109000, (⟨x109001, x109002, x109003, x109004⟩ : S24), x109005, x109006, x109007⟩ : S27)] : List (S27))), x1, x2))))
end
def core_times.f (k : Nat) (a0_0 : Int) (a0_1 : Int) (a0_2 : Int) (a0_3 : Int) (a0_4 : Int) (l0_5 : List (S27)) (a0_6 : Int) (a0_7 : Int) (a1 : Int) (a2 : Int) : Option (Int × Int × Int × Int × Int × (List (S27)) × Int × Int) := if a2 = 0 then (core_times.j0 k a1 a2 true a0_0 a0_1 a0_2 a0_3 a0_4 l0_5 a0_6 a0_7) else (if a0_0 = 0 then (core_times.j0 k a1 a2 true a0_0 a0_1 a0_2 a0_3 a0_4 l0_5 a0_6 a0_7) else ((core_void.f a0_0 a0_1 a0_2 a0_3 a0_4 l0_5 a0_6 a0_7).bind fun t110 => (core_times.j0 k a1 a2 t110 a0_0 a0_1 a0_2 a0_3 a0_4 l0_5 a0_6 a0_7)))
theorem core_times.mono_l : ∀ k, (∀ y0 y1 y2 y3 y4 y5 y6 y7 y8 y9 y10, LeO (core_times.j0 k y0 y1 y2 y3 y4 y5 y6 y7 y8 y9 y10) (core_times.j0 (k + 1) y0 y1 y2 y3 y4 y5 y6 y7 y8 y9 y10)) ∧ (∀ y0 y1 y2 y3 y4 y5 y6 y7 y8 y9 y10, LeO (core_times.j1 k y0 y1 y2 y3 y4 y5 y6 y7 y8 y9 y10) (core_times.j1 (k + 1) y0 y1 y2 y3 y4 y5 y6 y7 y8 y9 y10))
  | 0 => ⟨fun _ _ _ _ _ _ _ _ _ _ _ r h => by simp [core_times.j0] at h, fun _ _ _ _ _ _ _ _ _ _ _ r h => by simp [core_times.j1] at h⟩
  | k + 1 => by
    obtain ⟨ih0, ih1⟩ := core_times.mono_l k
    refine ⟨?_, ?_⟩
    · intro y0 y1 y2 y3 y4 y5 y6 y7 y8 y9 y10
      unfold core_times.j0
      repeat' first
      | (with_reducible exact ih0 _ _ _ _ _ _ _ _ _ _ _)
      | (with_reducible exact ih1 _ _ _ _ _ _ _ _ _ _ _)
      | (with_reducible exact LeO.refl _)
      | (with_reducible exact LeO.none _)
      | (with_reducible refine LeO.ite ?_ ?_)
      | (with_reducible refine LeO.bind ?_ (fun _ => ?_))
      | exact ih0 _ _ _ _ _ _ _ _ _ _ _
      | exact ih1 _ _ _ _ _ _ _ _ _ _ _
      | exact LeO.none _
      | refine LeO.ite ?_ ?_
      | refine LeO.bind ?_ (fun _ => ?_)
    · intro y0 y1 y2 y3 y4 y5 y6 y7 y8 y9 y10
      unfold core_times.j1
      repeat' first
      | (with_reducible exact ih0 _ _ _ _ _ _ _ _ _ _ _)
      | (with_reducible exact ih1 _ _ _ _ _ _ _ _ _ _ _)
      | (with_reducible exact LeO.refl _)
      | (with_reducible exact LeO.none _)
      | (with_reducible refine LeO.ite ?_ ?_)
      | (with_reducible refine LeO.bind ?_ (fun _ => ?_))
      | exact ih0 _ _ _ _ _ _ _ _ _ _ _
      | exact ih1 _ _ _ _ _ _ _ _ _ _ _
      | exact LeO.none _
      | refine LeO.ite ?_ ?_
      | refine LeO.bind ?_ (fun _ => ?_)
theorem core_times.mono : ∀ a0 a1 a2 a3 a4 a5 a6 a7 a8 a9 k, LeO (core_times.f k a0 a1 a2 a3 a4 a5 a6 a7 a8 a9) (core_times.f (k + 1) a0 a1 a2 a3 a4 a5 a6 a7 a8 a9) := by
  intro a0 a1 a2 a3 a4 a5 a6 a7 a8 a9 k
  obtain ⟨ih0, ih1⟩ := core_times.mono_l k
  unfold core_times.f
  repeat' first
      | (with_reducible exact ih0 _ _ _ _ _ _ _ _ _ _ _)
      | (with_reducible exact ih1 _ _ _ _ _ _ _ _ _ _ _)
      | (with_reducible exact LeO.refl _)
      | (with_reducible exact LeO.none _)
      | (with_reducible refine LeO.ite ?_ ?_)
      | (with_reducible refine LeO.bind ?_ (fun _ => ?_))
      | exact ih0 _ _ _ _ _ _ _ _ _ _ _
      | exact ih1 _ _ _ _ _ _ _ _ _ _ _
      | exact LeO.none _
      | refine LeO.ite ?_ ?_
      | refine LeO.bind ?_ (fun _ => ?_)
set_option maxHeartbeats 8000000 in
set_option maxRecDepth 100000 in
theorem core_times.calls (k : Nat) (a0_0 : Int) (a0_1 : Int) (a0_2 : Int) (a0_3 : Int) (a0_4 : Int) (P0_5_ : Nat → Prop) (A0_5 : Option Addr) (c0_5 : Nat) (l0_5 : List (S27)) (a0_6 : Int) (a0_7 : Int) (a1 : Int) (a2 : Int) (r1 : Int) (r2 : Int) (r3 : Int) (r4 : Int) (r5 : Int) (r6 : List (S27)) (r7 : Int) (r8 : Int) (w : World) (hs0_5 : Kd.V k27 27 w w.heap.size (fun k_ => P0_5_ k_) (.slice A0_5 l0_5.length c0_5) l0_5) (h : core_times.f k a0_0 a0_1 a0_2 a0_3 a0_4 l0_5 a0_6 a0_7 a1 a2 = some (r1, r2, r3, r4, r5, r6, r7, r8)) :
  Calls Try.prog 35 #[.agg #[.int .i64 a0_0, .int .u64 a0_1, .int .u64 a0_2, .int .u64 a0_3, .int .u64 a0_4, .slice A0_5 l0_5.length c0_5, .int .i64 a0_6, .int .i64 a0_7], .int .i64 a1, .int .i64 a2] w fun e w' => ∃ v5_ : Value, e = .returned (.agg #[.int .i64 r1, .int .u64 r2, .int .u64 r3, .int .u64 r4, .int .u64 r5, v5_, .int .i64 r7, .int .i64 r8]) ∧ Kd.V k27 27 w' w.heap.size (fun k_ => (P0_5_ k_ ∨ w.heap.size ≤ k_)) v5_ r6 ∧ Below w.heap.size w w' := by
 have hu27 := Try.underlying27
 have HO0_5 := zM (show Kd.V k27 27 w w.heap.size (fun k_ => (P0_5_ k_ ∨ w.heap.size ≤ k_)) (.slice A0_5 l0_5.length c0_5) l0_5 from Kd.V_mono hs0_5 (fun k_ hk => .inl hk))
 have HB := zM (Below.refl w.heap.size w)
 have H : (if a2 = 0 then (core_times.j0 k a1 a2 true a0_0 a0_1 a0_2 a0_3 a0_4 l0_5 a0_6 a0_7) else (if a0_0 = 0 then (core_times.j0 k a1 a2 true a0_0 a0_1 a0_2 a0_3 a0_4 l0_5 a0_6 a0_7) else ((core_void.f a0_0 a0_1 a0_2 a0_3 a0_4 l0_5 a0_6 a0_7).bind fun t110 => (core_times.j0 k a1 a2 t110 a0_0 a0_1 a0_2 a0_3 a0_4 l0_5 a0_6 a0_7)))) = some (r1, r2, r3, r4, r5, r6, r7, r8) := h
 clear h
 have HC4 := zM H
 clear H
 go_enter Try.func35, Try.ntmps35
 go_upto_region 1 with (first | ((with_reducible refine gate_dst (N := 3) rfl ?_); refine box_event ?hg (N := 3) ?hd (cs := #[.int .i64 a0_0, .int .u64 a0_1, .int .u64 a0_2, .int .u64 a0_3, .int .u64 a0_4, .slice A0_5 l0_5.length c0_5, .int .i64 a0_6, .int .i64 a0_7]) (t := 27) ?hr ?_; (case hd => rfl); (case hg => rfl); (case hr => first | (go_simp; done) | (go_simp; rfl)); intro gb108 hg w5 hbox hb; have n0_ := zM (Kd.V_below (Kd.V_elderB (by (with_reducible repeat (first | apply Kd.V_alloc | apply Kd.V_drewN | apply Kd.V_drew)); exact HO0_5.out) gb108 (Nat.le_of_eq hg.symm)) hb); have n1_ := zM (zJ (by repeat (first | (with_reducible first | exact HB.out | apply zE | apply zC | apply zD) | exact HB.out)) hb); have n2_ := zM (hbox); have n3_ := zM ((by rw [hg]; exact (zK (by repeat (first | (with_reducible first | exact HB.out | apply zE | apply zC | apply zD) | exact HB.out))) : w.heap.size ≤ gb108)); have n4_ := zM ((by rw [hg]; exact (zK (by repeat (first | (with_reducible first | exact HB.out | apply zE | apply zC | apply zD) | exact HB.out))) : w.heap.size ≤ gb108)); clear HO0_5; clear HB; have HO0_5 := n0_; have HB := n1_; have BK108 := n2_; have GW108 := n3_; have GE108 := n4_; clear n0_ n1_ n2_ n3_ n4_; clear hb hbox hg) | ((with_reducible refine gate_dst (N := 6) rfl ?_); refine box_event ?hg (N := 6) ?hd (cs := #[.int .i64 0, .int .u64 0, .int .u64 0, .int .u64 0, .int .u64 0, .slice none 0 0, .int .i64 0, .int .i64 0]) (t := 27) ?hr ?_; (case hd => rfl); (case hg => rfl); (case hr => first | (go_simp; done) | (go_simp; rfl)); intro gb109 hg w6 hbox hb; have n0_ := zM (Kd.V_below (Kd.V_elderB (by (with_reducible repeat (first | apply Kd.V_alloc | apply Kd.V_drewN | apply Kd.V_drew)); exact HO0_5.out) gb109 (Nat.le_of_eq hg.symm)) hb); have n1_ := zM (zL (g := gb108) (o := .cells #[.int .i64 a0_0, .int .u64 a0_1, .int .u64 a0_2, .int .u64 a0_3, .int .u64 a0_4, .slice A0_5 l0_5.length c0_5, .int .i64 a0_6, .int .i64 a0_7] 27 (0, 0)) (by (with_reducible repeat (first | refine zH ?_ _ | refine zI ?_ | refine zG ?_ _)); exact BK108.out) hb); have n2_ := zM (zJ (by repeat (first | (with_reducible first | exact HB.out | apply zE | apply zC | apply zD | refine zF ?_ GE108.out) | exact HB.out)) hb); have n3_ := zM (hbox); have n4_ := zM ((by rw [hg]; exact (zK (by repeat (first | (with_reducible first | exact HB.out | apply zE | apply zC | apply zD | refine zF ?_ GE108.out) | exact HB.out))) : w.heap.size ≤ gb109)); have n5_ := zM ((by rw [hg]; exact (zK (by repeat (first | (with_reducible first | exact HB.out | apply zE | apply zC | apply zD | refine zF ?_ GE108.out) | exact HB.out))) : w.heap.size ≤ gb109)); have n6_ := zM ((by rw [hg]; exact Nat.ne_of_lt (blk_lt (g := gb108) (o := .cells #[.int .i64 a0_0, .int .u64 a0_1, .int .u64 a0_2, .int .u64 a0_3, .int .u64 a0_4, .slice A0_5 l0_5.length c0_5, .int .i64 a0_6, .int .i64 a0_7] 27 (0, 0)) (by (with_reducible repeat (first | refine zH ?_ _ | refine zI ?_ | refine zG ?_ _)); exact BK108.out)) : gb108 ≠ gb109)); have n7_ := zM ((by rw [hg]; exact Nat.ne_of_gt (blk_lt (g := gb108) (o := .cells #[.int .i64 a0_0, .int .u64 a0_1, .int .u64 a0_2, .int .u64 a0_3, .int .u64 a0_4, .slice A0_5 l0_5.length c0_5, .int .i64 a0_6, .int .i64 a0_7] 27 (0, 0)) (by (with_reducible repeat (first | refine zH ?_ _ | refine zI ?_ | refine zG ?_ _)); exact BK108.out)) : gb109 ≠ gb108)); clear HO0_5; clear BK108; clear HB; have HO0_5 := n0_; have BK108 := n1_; have HB := n2_; have BK109 := n3_; have GW109 := n4_; have GE109 := n5_; have NB108_109 := n6_; have NB109_108 := n7_; clear n0_ n1_ n2_ n3_ n4_ n5_ n6_ n7_; clear hb hbox hg))
 (try simp only [Act.put, List.setIfInBounds_toArray, List.set_cons_zero, List.set_cons_succ])
 go_cut [7] (fun v7 wc => ∃ (kq : Nat) (x7_3 : Bool), v7 = .bool x7_3 ∧ Aside0 (core_times.j0 kq a1 a2 x7_3 a0_0 a0_1 a0_2 a0_3 a0_4 l0_5 a0_6 a0_7 = some (r1, r2, r3, r4, r5, r6, r7, r8)) ∧ Aside0 (kq ≤ k) ∧ Aside0 (Kd.V k27 27 wc w.heap.size (fun k_ => (P0_5_ k_ ∨ w.heap.size ≤ k_) ∧ k_ ≠ gb108 ∧ k_ ≠ gb109) (.slice A0_5 l0_5.length c0_5) l0_5) ∧ Aside0 (wc.heap[gb108]? = some (.cells #[.int .i64 a0_0, .int .u64 a0_1, .int .u64 a0_2, .int .u64 a0_3, .int .u64 a0_4, (.slice A0_5 l0_5.length c0_5), .int .i64 a0_6, .int .i64 a0_7] 27 (0, 0))) ∧ Aside0 (wc.heap[gb109]? = some (.cells #[.int .i64 0, .int .u64 0, .int .u64 0, .int .u64 0, .int .u64 0, (.slice none 0 0), .int .i64 0, .int .i64 0] 27 (0, 0))) ∧ Aside0 (Below w.heap.size w wc))
 case first =>
  have H := HC4.out
  clear HC4
  by_cases c7 : a2 = 0
  ·
   rw [if_pos c7] at H
   have c7b0 : (a2 == 0) = true := beq_iff_eq.mpr c7
   have c7b1 : (a2 != 0) = false := bne_eq_false_iff_eq.mpr c7
   clear c7
   (first | rw [c7b0] | (simp only [i64_w, i32_w]; rw [c7b0]) | skip)
   have H' := zM H
   clear H
   go_wp2
   go_meet
   case rel => exact ⟨_, (true), (by first | rfl | (simp; done) | (simp [*]; done)), H', ⟨by first | omega | exact Nat.le_refl _⟩, ⟨by (with_reducible repeat (first | apply Kd.V_alloc | apply Kd.V_drewN | apply Kd.V_drew)); exact Kd.V_mono HO0_5.out (fun _ hk => ⟨hk.1.1, ⟨hk.1.2, hk.2⟩⟩)⟩, ⟨by (with_reducible repeat (first | refine zH ?_ _ | refine zI ?_ | refine zG ?_ _)); exact BK108.out⟩, ⟨by (with_reducible repeat (first | refine zH ?_ _ | refine zI ?_ | refine zG ?_ _)); exact BK109.out⟩, ⟨by repeat (first | (with_reducible first | exact HB.out | apply zE | apply zC | apply zD | refine zF ?_ GE108.out | refine zF ?_ GE109.out) | exact HB.out)⟩⟩
  ·
   rw [if_neg c7] at H
   have c7b0 : (a2 == 0) = false := beq_eq_false_iff_ne.mpr c7
   have c7b1 : (a2 != 0) = true := bne_iff_ne.mpr c7
   (first | rw [c7b0] | (simp only [i64_w, i32_w]; rw [c7b0]) | skip)
   by_cases c8 : a0_0 = 0
   ·
    rw [if_pos c8] at H
    have c8b0 : (a0_0 == 0) = true := beq_iff_eq.mpr c8
    have c8b1 : (a0_0 != 0) = false := bne_eq_false_iff_eq.mpr c8
    clear c8
    have H' := zM H
    clear H
    have hnb9 := NB108_109.out
    have hnc9 := NB109_108.out
    have hcz10_0 : w6.cell? ⟨gb108, 0, none⟩ = some (.int .i64 a0_0) := (zB BK108.out 0).trans rfl
    have hcz10_1 : w6.cell? ⟨gb108, 1, none⟩ = some (.int .u64 a0_1) := (zB BK108.out 1).trans rfl
    have hcz10_2 : w6.cell? ⟨gb108, 2, none⟩ = some (.int .u64 a0_2) := (zB BK108.out 2).trans rfl
    have hcz10_3 : w6.cell? ⟨gb108, 3, none⟩ = some (.int .u64 a0_3) := (zB BK108.out 3).trans rfl
    have hcz10_4 : w6.cell? ⟨gb108, 4, none⟩ = some (.int .u64 a0_4) := (zB BK108.out 4).trans rfl
    have hcz10_5 : w6.cell? ⟨gb108, 5, none⟩ = some (.slice A0_5 l0_5.length c0_5) := (zB BK108.out 5).trans rfl
    have hcz10_6 : w6.cell? ⟨gb108, 6, none⟩ = some (.int .i64 a0_6) := (zB BK108.out 6).trans rfl
    have hcz10_7 : w6.cell? ⟨gb108, 7, none⟩ = some (.int .i64 a0_7) := (zB BK108.out 7).trans rfl
    have hfz10_0 := zA BK108.out 0
    have hfz10_1 := zA BK108.out 1
    have hfz10_2 := zA BK108.out 2
    have hfz10_3 := zA BK108.out 3
    have hfz10_4 := zA BK108.out 4
    have hfz10_5 := zA BK108.out 5
    have hfz10_6 := zA BK108.out 6
    have hfz10_7 := zA BK108.out 7
    go_wp2
    go_meet
    case rel => exact ⟨_, (true), (by first | rfl | (simp; done) | (simp [*]; done)), H', ⟨by first | omega | exact Nat.le_refl _⟩, ⟨by (with_reducible repeat (first | apply Kd.V_alloc | apply Kd.V_drewN | apply Kd.V_drew)); exact Kd.V_mono HO0_5.out (fun _ hk => ⟨hk.1.1, ⟨hk.1.2, hk.2⟩⟩)⟩, ⟨by (with_reducible repeat (first | refine zH ?_ _ | refine zI ?_ | refine zG ?_ _)); exact BK108.out⟩, ⟨by (with_reducible repeat (first | refine zH ?_ _ | refine zI ?_ | refine zG ?_ _)); exact BK109.out⟩, ⟨by repeat (first | (with_reducible first | exact HB.out | apply zE | apply zC | apply zD | refine zF ?_ GE108.out | refine zF ?_ GE109.out) | exact HB.out)⟩⟩
   ·
    rw [if_neg c8] at H
    have c8b0 : (a0_0 == 0) = false := beq_eq_false_iff_ne.mpr c8
    have c8b1 : (a0_0 != 0) = true := bne_iff_ne.mpr c8
    replace H := Option.bind_eq_some_iff.mp H
    obtain ⟨t110, A110, H⟩ := H
    replace H : (core_times.j0 k a1 a2 t110 a0_0 a0_1 a0_2 a0_3 a0_4 l0_5 a0_6 a0_7) = some (r1, r2, r3, r4, r5, r6, r7, r8) := H
    have A11 := zM A110
    clear A110
    have H' := zM H
    clear H
    have hnb12 := NB108_109.out
    have hnc12 := NB109_108.out
    have hcz13_0 : w6.cell? ⟨gb108, 0, none⟩ = some (.int .i64 a0_0) := (zB BK108.out 0).trans rfl
    have hcz13_1 : w6.cell? ⟨gb108, 1, none⟩ = some (.int .u64 a0_1) := (zB BK108.out 1).trans rfl
    have hcz13_2 : w6.cell? ⟨gb108, 2, none⟩ = some (.int .u64 a0_2) := (zB BK108.out 2).trans rfl
    have hcz13_3 : w6.cell? ⟨gb108, 3, none⟩ = some (.int .u64 a0_3) := (zB BK108.out 3).trans rfl
    have hcz13_4 : w6.cell? ⟨gb108, 4, none⟩ = some (.int .u64 a0_4) := (zB BK108.out 4).trans rfl
    have hcz13_5 : w6.cell? ⟨gb108, 5, none⟩ = some (.slice A0_5 l0_5.length c0_5) := (zB BK108.out 5).trans rfl
    have hcz13_6 : w6.cell? ⟨gb108, 6, none⟩ = some (.int .i64 a0_6) := (zB BK108.out 6).trans rfl
    have hcz13_7 : w6.cell? ⟨gb108, 7, none⟩ = some (.int .i64 a0_7) := (zB BK108.out 7).trans rfl
    have hfz13_0 := zA BK108.out 0
    have hfz13_1 := zA BK108.out 1
    have hfz13_2 := zA BK108.out 2
    have hfz13_3 := zA BK108.out 3
    have hfz13_4 := zA BK108.out 4
    have hfz13_5 := zA BK108.out 5
    have hfz13_6 := zA BK108.out 6
    have hfz13_7 := zA BK108.out 7
    go_wp2_with (first | (go_at_call 32; (with_reducible refine (core_void.calls a0_0 a0_1 a0_2 a0_3 a0_4 _ _ l0_5 a0_6 a0_7 t110 _ ?side1 ?side2 A11.out).mono ?_); (case side1 => repeat (first | exact (Kd.V_reads' HO0_5.out).2.2 | (with_reducible refine Kd.C_alloc ?_ _) | (with_reducible refine Kd.C_drewN ?_ _) | (with_reducible refine Kd.C_drew ?_))); (case side2 => exact (Kd.V_reads' HO0_5.out).2.1); rintro e w14 ⟨rfl, hb⟩; have n0_ := zM (Kd.V_below (by (with_reducible repeat (first | apply Kd.V_alloc | apply Kd.V_drewN | apply Kd.V_drew)); exact HO0_5.out) hb); have n1_ := zM (zL (g := gb108) (o := .cells #[.int .i64 a0_0, .int .u64 a0_1, .int .u64 a0_2, .int .u64 a0_3, .int .u64 a0_4, .slice A0_5 l0_5.length c0_5, .int .i64 a0_6, .int .i64 a0_7] 27 (0, 0)) (by (with_reducible repeat (first | refine zH ?_ _ | refine zI ?_ | refine zG ?_ _)); exact BK108.out) hb); have n2_ := zM (zL (g := gb109) (o := .cells #[.int .i64 0, .int .u64 0, .int .u64 0, .int .u64 0, .int .u64 0, .slice none 0 0, .int .i64 0, .int .i64 0] 27 (0, 0)) (by (with_reducible repeat (first | refine zH ?_ _ | refine zI ?_ | refine zG ?_ _)); exact BK109.out) hb); have n3_ := zM (zJ (by repeat (first | (with_reducible first | exact HB.out | apply zE | apply zC | apply zD | refine zF ?_ GE108.out | refine zF ?_ GE109.out) | exact HB.out)) hb); clear HO0_5; clear BK108; clear BK109; clear HB; have HO0_5 := n0_; have BK108 := n1_; have BK109 := n2_; have HB := n3_; clear n0_ n1_ n2_ n3_; (try clear hb); (try clear hb2); (try clear hk); (try clear hi)))
    go_meet
    case rel => exact ⟨_, (t110), (by first | rfl | (simp; done) | (simp [*]; done)), H', ⟨by first | omega | exact Nat.le_refl _⟩, ⟨by (with_reducible repeat (first | apply Kd.V_alloc | apply Kd.V_drewN | apply Kd.V_drew)); exact Kd.V_mono HO0_5.out (fun _ hk => ⟨hk.1.1, ⟨hk.1.2, hk.2⟩⟩)⟩, ⟨by (with_reducible repeat (first | refine zH ?_ _ | refine zI ?_ | refine zG ?_ _)); exact BK108.out⟩, ⟨by (with_reducible repeat (first | refine zH ?_ _ | refine zI ?_ | refine zG ?_ _)); exact BK109.out⟩, ⟨by repeat (first | (with_reducible first | exact HB.out | apply zE | apply zC | apply zD | refine zF ?_ GE108.out | refine zF ?_ GE109.out) | exact HB.out)⟩⟩
 case rest =>
  clear HC4
  (try clear c1); (try clear p2); (try clear c3); (try clear c7); (try clear c7b0); (try clear c7b1); (try clear c8); (try clear c8b0); (try clear c8b1); (try clear c9); (try clear c12); (try clear hcz10_0 hcz10_1 hcz10_2 hcz10_3 hcz10_4 hcz10_5 hcz10_6 hcz10_7); (try clear hcz13_0 hcz13_1 hcz13_2 hcz13_3 hcz13_4 hcz13_5 hcz13_6 hcz13_7); (try clear hfz10_0 hfz10_1 hfz10_2 hfz10_3 hfz10_4 hfz10_5 hfz10_6 hfz10_7); (try clear hfz13_0 hfz13_1 hfz13_2 hfz13_3 hfz13_4 hfz13_5 hfz13_6 hfz13_7)
  obtain ⟨kq, x7_3, rfl, HA, HJ3, HO_109005, BK108, BK109, HB⟩ := hcut
  cases kq with
  | zero => exact absurd HA.out (by simp [core_times.j0])
  | succ kj3 =>
   have H := HA.out
   clear HA
   simp only [core_times.j0] at H
   by_cases c15 : x7_3 = true
   ·
    subst c15
    have H1 : (some (0, 0, 0, 0, 0, ([] : List (S27)), 0, 0)) = some (r1, r2, r3, r4, r5, r6, r7, r8) := by rw [if_pos rfl] at H; exact H
    clear H
    have H := H1
    clear H1
    simp only [Option.some.injEq, Prod.mk.injEq] at H
    obtain ⟨rfl, rfl, rfl, rfl, rfl, rfl, rfl, rfl⟩ := H
    have hnb16 := NB109_108.out
    have hnc16 := NB108_109.out
    have hcz17_0 : wc.cell? ⟨gb109, 0, none⟩ = some (.int .i64 0) := (zB BK109.out 0).trans rfl
    have hcz17_1 : wc.cell? ⟨gb109, 1, none⟩ = some (.int .u64 0) := (zB BK109.out 1).trans rfl
    have hcz17_2 : wc.cell? ⟨gb109, 2, none⟩ = some (.int .u64 0) := (zB BK109.out 2).trans rfl
    have hcz17_3 : wc.cell? ⟨gb109, 3, none⟩ = some (.int .u64 0) := (zB BK109.out 3).trans rfl
    have hcz17_4 : wc.cell? ⟨gb109, 4, none⟩ = some (.int .u64 0) := (zB BK109.out 4).trans rfl
    have hcz17_5 : wc.cell? ⟨gb109, 5, none⟩ = some (.slice none 0 0) := (zB BK109.out 5).trans rfl
    have hcz17_6 : wc.cell? ⟨gb109, 6, none⟩ = some (.int .i64 0) := (zB BK109.out 6).trans rfl
    have hcz17_7 : wc.cell? ⟨gb109, 7, none⟩ = some (.int .i64 0) := (zB BK109.out 7).trans rfl
    have hfz17_0 := zA BK109.out 0
    have hfz17_1 := zA BK109.out 1
    have hfz17_2 := zA BK109.out 2
    have hfz17_3 := zA BK109.out 3
    have hfz17_4 := zA BK109.out 4
    have hfz17_5 := zA BK109.out 5
    have hfz17_6 := zA BK109.out 6
    have hfz17_7 := zA BK109.out 7
    go_wp2
    refine bodyPost_ret (results_cell_row rfl _ _ gb109 27 #[.int .i64 0, .int .u64 0, .int .u64 0, .int .u64 0, .int .u64 0, .slice none 0 0, .int .i64 0, .int .i64 0] (0, 0) _ rfl (by (with_reducible repeat (first | refine zH ?_ _ | refine zI ?_ | refine zG ?_ _)); refine blk_put (cs := #[.int .i64 0, .int .u64 0, .int .u64 0, .int .u64 0, .int .u64 0, .slice none 0 0, .int .i64 0, .int .i64 0]) ?_ 7 _ rfl; (with_reducible repeat (first | refine zH ?_ _ | refine zI ?_ | refine zG ?_ _)); refine blk_put (cs := #[.int .i64 0, .int .u64 0, .int .u64 0, .int .u64 0, .int .u64 0, .slice none 0 0, .int .i64 0, .int .i64 0]) ?_ 6 _ rfl; (with_reducible repeat (first | refine zH ?_ _ | refine zI ?_ | refine zG ?_ _)); refine blk_put (cs := #[.int .i64 0, .int .u64 0, .int .u64 0, .int .u64 0, .int .u64 0, .slice none 0 0, .int .i64 0, .int .i64 0]) ?_ 5 _ rfl; (with_reducible repeat (first | refine zH ?_ _ | refine zI ?_ | refine zG ?_ _)); refine blk_put (cs := #[.int .i64 0, .int .u64 0, .int .u64 0, .int .u64 0, .int .u64 0, .slice none 0 0, .int .i64 0, .int .i64 0]) ?_ 4 _ rfl; (with_reducible repeat (first | refine zH ?_ _ | refine zI ?_ | refine zG ?_ _)); refine blk_put (cs := #[.int .i64 0, .int .u64 0, .int .u64 0, .int .u64 0, .int .u64 0, .slice none 0 0, .int .i64 0, .int .i64 0]) ?_ 3 _ rfl; (with_reducible repeat (first | refine zH ?_ _ | refine zI ?_ | refine zG ?_ _)); refine blk_put (cs := #[.int .i64 0, .int .u64 0, .int .u64 0, .int .u64 0, .int .u64 0, .slice none 0 0, .int .i64 0, .int .i64 0]) ?_ 2 _ rfl; (with_reducible repeat (first | refine zH ?_ _ | refine zI ?_ | refine zG ?_ _)); refine blk_put (cs := #[.int .i64 0, .int .u64 0, .int .u64 0, .int .u64 0, .int .u64 0, .slice none 0 0, .int .i64 0, .int .i64 0]) ?_ 1 _ rfl; (with_reducible repeat (first | refine zH ?_ _ | refine zI ?_ | refine zG ?_ _)); refine blk_put (cs := #[.int .i64 0, .int .u64 0, .int .u64 0, .int .u64 0, .int .u64 0, .slice none 0 0, .int .i64 0, .int .i64 0]) ?_ 0 _ rfl; (with_reducible repeat (first | refine zH ?_ _ | refine zI ?_ | refine zG ?_ _)); exact BK109.out) Try.underlying27 rfl (by kernel_rfl)) rfl ?_
    exact ⟨_, by first | rfl | (simp [errW_none, errW_some] <;> rfl) | (simp [*, errW_none, errW_some] <;> rfl), Kd.V_nil _ _ _ _ _, by repeat (first | (with_reducible first | exact HB.out | apply zE | apply zC | apply zD | refine zF ?_ GE108.out | refine zF ?_ GE109.out) | exact HB.out)⟩
   ·
    replace c15 := Bool.eq_false_iff.mpr c15
    subst c15
    have H1 : (if a1 = 1 then (core_times.j1 kj3 a1 a2 (a2 == 1) a0_0 a0_1 a0_2 a0_3 a0_4 l0_5 a0_6 a0_7) else (core_times.j1 kj3 a1 a2 false a0_0 a0_1 a0_2 a0_3 a0_4 l0_5 a0_6 a0_7)) = some (r1, r2, r3, r4, r5, r6, r7, r8) := by rw [if_neg (show ¬ (false = true) by decide)] at H; exact H
    clear H
    have H := H1
    clear H1
    have HC18 := zM H
    clear H
    go_upto_region 3 with (fail)
    go_cut [20] (fun v20 wc => ∃ (kq : Nat) (x20_17 : Bool), v20 = .bool x20_17 ∧ Aside0 (core_times.j1 kq a1 a2 x20_17 a0_0 a0_1 a0_2 a0_3 a0_4 l0_5 a0_6 a0_7 = some (r1, r2, r3, r4, r5, r6, r7, r8)) ∧ Aside0 (kq ≤ kj3) ∧ Aside0 (Kd.V k27 27 wc w.heap.size (fun k_ => (P0_5_ k_ ∨ w.heap.size ≤ k_) ∧ k_ ≠ gb108 ∧ k_ ≠ gb109) (.slice A0_5 l0_5.length c0_5) l0_5) ∧ Aside0 (wc.heap[gb108]? = some (.cells #[.int .i64 a0_0, .int .u64 a0_1, .int .u64 a0_2, .int .u64 a0_3, .int .u64 a0_4, (.slice A0_5 l0_5.length c0_5), .int .i64 a0_6, .int .i64 a0_7] 27 (0, 0))) ∧ Aside0 (wc.heap[gb109]? = some (.cells #[.int .i64 0, .int .u64 0, .int .u64 0, .int .u64 0, .int .u64 0, (.slice none 0 0), .int .i64 0, .int .i64 0] 27 (0, 0))) ∧ Aside0 (Below w.heap.size w wc))
    case first =>
     have H := HC18.out
     clear HC18
     by_cases c19 : a1 = 1
     ·
      rw [if_pos c19] at H
      have c19b0 : (a1 == 1) = true := beq_iff_eq.mpr c19
      have c19b1 : (a1 != 1) = false := bne_eq_false_iff_eq.mpr c19
      clear c19
      (first | rw [c19b0] | (simp only [i64_w, i32_w]; rw [c19b0]) | skip)
      have H' := zM H
      clear H
      go_wp2
      go_meet
      case rel => exact ⟨_, ((a2 == 1)), (by first | rfl | (simp; done) | (simp [*]; done)), H', ⟨by have := HJ3.out; first | omega | exact Nat.le_refl _⟩, ⟨by (with_reducible repeat (first | apply Kd.V_alloc | apply Kd.V_drewN | apply Kd.V_drew)); exact HO_109005.out⟩, ⟨by (with_reducible repeat (first | refine zH ?_ _ | refine zI ?_ | refine zG ?_ _)); exact BK108.out⟩, ⟨by (with_reducible repeat (first | refine zH ?_ _ | refine zI ?_ | refine zG ?_ _)); exact BK109.out⟩, ⟨by repeat (first | (with_reducible first | exact HB.out | apply zE | apply zC | apply zD | refine zF ?_ GE108.out | refine zF ?_ GE109.out) | exact HB.out)⟩⟩
     ·
      rw [if_neg c19] at H
      have c19b0 : (a1 == 1) = false := beq_eq_false_iff_ne.mpr c19
      have c19b1 : (a1 != 1) = true := bne_iff_ne.mpr c19
      (first | rw [c19b0] | (simp only [i64_w, i32_w]; rw [c19b0]) | skip)
      have H' := zM H
      clear H
      go_wp2
      go_meet
      case rel => exact ⟨_, (false), (by first | rfl | (simp; done) | (simp [*]; done)), H', ⟨by have := HJ3.out; first | omega | exact Nat.le_refl _⟩, ⟨by (with_reducible repeat (first | apply Kd.V_alloc | apply Kd.V_drewN | apply Kd.V_drew)); exact HO_109005.out⟩, ⟨by (with_reducible repeat (first | refine zH ?_ _ | refine zI ?_ | refine zG ?_ _)); exact BK108.out⟩, ⟨by (with_reducible repeat (first | refine zH ?_ _ | refine zI ?_ | refine zG ?_ _)); exact BK109.out⟩, ⟨by repeat (first | (with_reducible first | exact HB.out | apply zE | apply zC | apply zD | refine zF ?_ GE108.out | refine zF ?_ GE109.out) | exact HB.out)⟩⟩
    case rest =>
     clear HC18
     (try clear c1); (try clear p2 p2); (try clear c3); (try clear c7); (try clear c7b0); (try clear c7b1); (try clear c8); (try clear c8b0); (try clear c8b1); (try clear c9); (try clear c12); (try clear c15); (try clear c16); (try clear c19); (try clear c19b0); (try clear c19b1); (try clear hcz10_0 hcz10_1 hcz10_2 hcz10_3 hcz10_4 hcz10_5 hcz10_6 hcz10_7); (try clear hcz13_0 hcz13_1 hcz13_2 hcz13_3 hcz13_4 hcz13_5 hcz13_6 hcz13_7); (try clear hcz17_0 hcz17_1 hcz17_2 hcz17_3 hcz17_4 hcz17_5 hcz17_6 hcz17_7); (try clear hfz10_0 hfz10_1 hfz10_2 hfz10_3 hfz10_4 hfz10_5 hfz10_6 hfz10_7); (try clear hfz13_0 hfz13_1 hfz13_2 hfz13_3 hfz13_4 hfz13_5 hfz13_6 hfz13_7); (try clear hfz17_0 hfz17_1 hfz17_2 hfz17_3 hfz17_4 hfz17_5 hfz17_6 hfz17_7)
     obtain ⟨kq, x20_17, rfl, HA, HJ17, HO_109005, BK108, BK109, HB⟩ := hcut
     cases kq with
     | zero => exact absurd HA.out (by simp [core_times.j1])
     | succ kj17 =>
      have H := HA.out
      clear HA
      simp only [core_times.j1] at H
      by_cases c20 : x20_17 = true
      ·
       subst c20
       have H1 : (some (a0_0, a0_1, a0_2, a0_3, a0_4, l0_5, a0_6, a0_7)) = some (r1, r2, r3, r4, r5, r6, r7, r8) := by rw [if_pos rfl] at H; exact H
       clear H
       have H := H1
       clear H1
       simp only [Option.some.injEq, Prod.mk.injEq] at H
       obtain ⟨rfl, rfl, rfl, rfl, rfl, rfl, rfl, rfl⟩ := H
       have hnb21 := NB108_109.out
       have hnc21 := NB109_108.out
       have hcz22_0 : wc.cell? ⟨gb108, 0, none⟩ = some (.int .i64 a0_0) := (zB BK108.out 0).trans rfl
       have hcz22_1 : wc.cell? ⟨gb108, 1, none⟩ = some (.int .u64 a0_1) := (zB BK108.out 1).trans rfl
       have hcz22_2 : wc.cell? ⟨gb108, 2, none⟩ = some (.int .u64 a0_2) := (zB BK108.out 2).trans rfl
       have hcz22_3 : wc.cell? ⟨gb108, 3, none⟩ = some (.int .u64 a0_3) := (zB BK108.out 3).trans rfl
       have hcz22_4 : wc.cell? ⟨gb108, 4, none⟩ = some (.int .u64 a0_4) := (zB BK108.out 4).trans rfl
       have hcz22_5 : wc.cell? ⟨gb108, 5, none⟩ = some (.slice A0_5 l0_5.length c0_5) := (zB BK108.out 5).trans rfl
       have hcz22_6 : wc.cell? ⟨gb108, 6, none⟩ = some (.int .i64 a0_6) := (zB BK108.out 6).trans rfl
       have hcz22_7 : wc.cell? ⟨gb108, 7, none⟩ = some (.int .i64 a0_7) := (zB BK108.out 7).trans rfl
       have hfz22_0 := zA BK108.out 0
       have hfz22_1 := zA BK108.out 1
       have hfz22_2 := zA BK108.out 2
       have hfz22_3 := zA BK108.out 3
       have hfz22_4 := zA BK108.out 4
       have hfz22_5 := zA BK108.out 5
       have hfz22_6 := zA BK108.out 6
       have hfz22_7 := zA BK108.out 7
       have hcz23_0 : wc.cell? ⟨gb109, 0, none⟩ = some (.int .i64 0) := (zB BK109.out 0).trans rfl
       have hcz23_1 : wc.cell? ⟨gb109, 1, none⟩ = some (.int .u64 0) := (zB BK109.out 1).trans rfl
       have hcz23_2 : wc.cell? ⟨gb109, 2, none⟩ = some (.int .u64 0) := (zB BK109.out 2).trans rfl
       have hcz23_3 : wc.cell? ⟨gb109, 3, none⟩ = some (.int .u64 0) := (zB BK109.out 3).trans rfl
       have hcz23_4 : wc.cell? ⟨gb109, 4, none⟩ = some (.int .u64 0) := (zB BK109.out 4).trans rfl
       have hcz23_5 : wc.cell? ⟨gb109, 5, none⟩ = some (.slice none 0 0) := (zB BK109.out 5).trans rfl
       have hcz23_6 : wc.cell? ⟨gb109, 6, none⟩ = some (.int .i64 0) := (zB BK109.out 6).trans rfl
       have hcz23_7 : wc.cell? ⟨gb109, 7, none⟩ = some (.int .i64 0) := (zB BK109.out 7).trans rfl
       have hfz23_0 := zA BK109.out 0
       have hfz23_1 := zA BK109.out 1
       have hfz23_2 := zA BK109.out 2
       have hfz23_3 := zA BK109.out 3
       have hfz23_4 := zA BK109.out 4
       have hfz23_5 := zA BK109.out 5
       have hfz23_6 := zA BK109.out 6
       have hfz23_7 := zA BK109.out 7
       go_wp2
       refine bodyPost_ret (results_cell_row rfl _ _ gb109 27 #[.int .i64 a0_0, .int .u64 a0_1, .int .u64 a0_2, .int .u64 a0_3, .int .u64 a0_4, .slice A0_5 l0_5.length c0_5, .int .i64 a0_6, .int .i64 a0_7] (0, 0) _ rfl (by (with_reducible repeat (first | refine zH ?_ _ | refine zI ?_ | refine zG ?_ _)); refine blk_put (cs := #[.int .i64 a0_0, .int .u64 a0_1, .int .u64 a0_2, .int .u64 a0_3, .int .u64 a0_4, .slice A0_5 l0_5.length c0_5, .int .i64 a0_6, .int .i64 0]) ?_ 7 _ rfl; (with_reducible repeat (first | refine zH ?_ _ | refine zI ?_ | refine zG ?_ _)); refine blk_put (cs := #[.int .i64 a0_0, .int .u64 a0_1, .int .u64 a0_2, .int .u64 a0_3, .int .u64 a0_4, .slice A0_5 l0_5.length c0_5, .int .i64 0, .int .i64 0]) ?_ 6 _ rfl; (with_reducible repeat (first | refine zH ?_ _ | refine zI ?_ | refine zG ?_ _)); refine blk_put (cs := #[.int .i64 a0_0, .int .u64 a0_1, .int .u64 a0_2, .int .u64 a0_3, .int .u64 a0_4, .slice none 0 0, .int .i64 0, .int .i64 0]) ?_ 5 _ rfl; (with_reducible repeat (first | refine zH ?_ _ | refine zI ?_ | refine zG ?_ _)); refine blk_put (cs := #[.int .i64 a0_0, .int .u64 a0_1, .int .u64 a0_2, .int .u64 a0_3, .int .u64 0, .slice none 0 0, .int .i64 0, .int .i64 0]) ?_ 4 _ rfl; (with_reducible repeat (first | refine zH ?_ _ | refine zI ?_ | refine zG ?_ _)); refine blk_put (cs := #[.int .i64 a0_0, .int .u64 a0_1, .int .u64 a0_2, .int .u64 0, .int .u64 0, .slice none 0 0, .int .i64 0, .int .i64 0]) ?_ 3 _ rfl; (with_reducible repeat (first | refine zH ?_ _ | refine zI ?_ | refine zG ?_ _)); refine blk_put (cs := #[.int .i64 a0_0, .int .u64 a0_1, .int .u64 0, .int .u64 0, .int .u64 0, .slice none 0 0, .int .i64 0, .int .i64 0]) ?_ 2 _ rfl; (with_reducible repeat (first | refine zH ?_ _ | refine zI ?_ | refine zG ?_ _)); refine blk_put (cs := #[.int .i64 a0_0, .int .u64 0, .int .u64 0, .int .u64 0, .int .u64 0, .slice none 0 0, .int .i64 0, .int .i64 0]) ?_ 1 _ rfl; (with_reducible repeat (first | refine zH ?_ _ | refine zI ?_ | refine zG ?_ _)); refine blk_put (cs := #[.int .i64 0, .int .u64 0, .int .u64 0, .int .u64 0, .int .u64 0, .slice none 0 0, .int .i64 0, .int .i64 0]) ?_ 0 _ rfl; (with_reducible repeat (first | refine zH ?_ _ | refine zI ?_ | refine zG ?_ _)); exact BK109.out) Try.underlying27 rfl (by kernel_rfl)) rfl ?_
       exact ⟨_, by first | rfl | (simp [errW_none, errW_some] <;> rfl) | (simp [*, errW_none, errW_some] <;> rfl), by (with_reducible repeat (first | apply Kd.V_alloc | apply Kd.V_drewN | apply Kd.V_drew)); exact Kd.V_mono (Kd.V_far (p := ⟨gb109, 7, none⟩) (Kd.V_far (p := ⟨gb109, 6, none⟩) (Kd.V_far (p := ⟨gb109, 5, none⟩) (Kd.V_far (p := ⟨gb109, 4, none⟩) (Kd.V_far (p := ⟨gb109, 3, none⟩) (Kd.V_far (p := ⟨gb109, 2, none⟩) (Kd.V_far (p := ⟨gb109, 1, none⟩) (Kd.V_far (p := ⟨gb109, 0, none⟩) (Kd.V_mono HO_109005.out (fun k_ hk => (⟨hk, hk.2.2⟩ : _ ∧ k_ ≠ gb109))) (fun _ hk => hk.2) (.int .i64 a0_0)) (fun _ hk => hk.2) (.int .u64 a0_1)) (fun _ hk => hk.2) (.int .u64 a0_2)) (fun _ hk => hk.2) (.int .u64 a0_3)) (fun _ hk => hk.2) (.int .u64 a0_4)) (fun _ hk => hk.2) (.slice A0_5 l0_5.length c0_5)) (fun _ hk => hk.2) (.int .i64 a0_6)) (fun _ hk => hk.2) (.int .i64 a0_7)) (fun _ hk => hk.1.1), by repeat (first | (with_reducible first | exact HB.out | apply zE | apply zC | apply zD | refine zF ?_ GE108.out | refine zF ?_ GE109.out) | exact HB.out)⟩
      ·
       replace c20 := Bool.eq_false_iff.mpr c20
       subst c20
       have H1 : ((core_nullable.f a0_0 a0_1 a0_2 a0_3 a0_4 l0_5 a0_6 a0_7).bind fun t111 => (if t111 = true then (some (4, 0, 0, 0, 0, (([(⟨a0_0, (⟨a0_1, a0_2, a0_3, a0_4⟩ : S24), l0_5, a0_6, a0_7⟩ : S27)] : List (S27))), 0, a2)) else (some (4, 0, 0, 0, 0, (([(⟨a0_0, (⟨a0_1, a0_2, a0_3, a0_4⟩ : S24), l0_5, a0_6, a0_7⟩ : S27)] : List (S27))), a1, a2)))) = some (r1, r2, r3, r4, r5, r6, r7, r8) := by rw [if_neg (show ¬ (false = true) by decide)] at H; exact H
       clear H
       have H := H1
       clear H1
       replace H := Option.bind_eq_some_iff.mp H
       obtain ⟨t111, A240, H⟩ := H
       replace H : (if t111 = true then (some (4, 0, 0, 0, 0, (([(⟨a0_0, (⟨a0_1, a0_2, a0_3, a0_4⟩ : S24), l0_5, a0_6, a0_7⟩ : S27)] : List (S27))), 0, a2)) else (some (4, 0, 0, 0, 0, (([(⟨a0_0, (⟨a0_1, a0_2, a0_3, a0_4⟩ : S24), l0_5, a0_6, a0_7⟩ : S27)] : List (S27))), a1, a2))) = some (r1, r2, r3, r4, r5, r6, r7, r8) := H
       have A24 := zM A240
       clear A240
       by_cases c25 : t111 = true
       ·
        subst c25
        have H1 : (some (4, 0, 0, 0, 0, (([(⟨a0_0, (⟨a0_1, a0_2, a0_3, a0_4⟩ : S24), l0_5, a0_6, a0_7⟩ : S27)] : List (S27))), 0, a2)) = some (r1, r2, r3, r4, r5, r6, r7, r8) := by rw [if_pos rfl] at H; exact H
        clear H
        have H := H1
        clear H1
        obtain ⟨y112, hy112⟩ : ∃ y_ : List (S27), y_ = (([(⟨a0_0, (⟨a0_1, a0_2, a0_3, a0_4⟩ : S24), l0_5, a0_6, a0_7⟩ : S27)] : List (S27))) := ⟨_, rfl⟩
        replace H : (some (4, 0, 0, 0, 0, y112, 0, a2)) = some (r1, r2, r3, r4, r5, r6, r7, r8) := by first | (rw [hy112]; with_reducible exact H) | (have H2_ := (Option.bind_some _ _).symm.trans H; rw [hy112]; with_reducible exact H2_) | (have H2_ := (Option.bind_some _ _).symm.trans H; with_reducible exact H2_) | with_reducible exact H | (rw [hy112]; exact H) | exact H
        have Ny112 := zM hy112
        clear hy112
        simp only [Option.some.injEq, Prod.mk.injEq] at H
        obtain ⟨rfl, rfl, rfl, rfl, rfl, rfl, rfl, rfl⟩ := H
        have hnb26 := NB108_109.out
        have hnc26 := NB109_108.out
        have hcz27_0 : wc.cell? ⟨gb108, 0, none⟩ = some (.int .i64 a0_0) := (zB BK108.out 0).trans rfl
        have hcz27_1 : wc.cell? ⟨gb108, 1, none⟩ = some (.int .u64 a0_1) := (zB BK108.out 1).trans rfl
        have hcz27_2 : wc.cell? ⟨gb108, 2, none⟩ = some (.int .u64 a0_2) := (zB BK108.out 2).trans rfl
        have hcz27_3 : wc.cell? ⟨gb108, 3, none⟩ = some (.int .u64 a0_3) := (zB BK108.out 3).trans rfl
        have hcz27_4 : wc.cell? ⟨gb108, 4, none⟩ = some (.int .u64 a0_4) := (zB BK108.out 4).trans rfl
        have hcz27_5 : wc.cell? ⟨gb108, 5, none⟩ = some (.slice A0_5 l0_5.length c0_5) := (zB BK108.out 5).trans rfl
        have hcz27_6 : wc.cell? ⟨gb108, 6, none⟩ = some (.int .i64 a0_6) := (zB BK108.out 6).trans rfl
        have hcz27_7 : wc.cell? ⟨gb108, 7, none⟩ = some (.int .i64 a0_7) := (zB BK108.out 7).trans rfl
        have hfz27_0 := zA BK108.out 0
        have hfz27_1 := zA BK108.out 1
        have hfz27_2 := zA BK108.out 2
        have hfz27_3 := zA BK108.out 3
        have hfz27_4 := zA BK108.out 4
        have hfz27_5 := zA BK108.out 5
        have hfz27_6 := zA BK108.out 6
        have hfz27_7 := zA BK108.out 7
        go_wp2_with (first | ((with_reducible refine gate_callee (f := 42) rfl ?_); refine goesL_ (some 30) rfl rfl Try.func42 (by kernel_rfl) rfl #[.agg #[.int .i64 a0_0, .int .u64 a0_1, .int .u64 a0_2, .int .u64 a0_3, .int .u64 a0_4, .slice A0_5 l0_5.length c0_5, .int .i64 a0_6, .int .i64 a0_7]] rfl (by (try simp only [List.map_toArray, List.map_cons, List.map_nil]); first | done | rfl | (simp only [List.length_drop, List.length_take]; rfl)) ?_; (with_reducible refine (core_nullable.calls a0_0 a0_1 a0_2 a0_3 a0_4 _ _ l0_5 a0_6 a0_7 true _ ?side1 ?side2 A24.out).mono ?_); (case side1 => repeat (first | exact (Kd.V_reads' HO_109005.out).2.2 | (with_reducible refine Kd.C_alloc ?_ _) | (with_reducible refine Kd.C_drewN ?_ _) | (with_reducible refine Kd.C_drew ?_))); (case side2 => exact (Kd.V_reads' HO_109005.out).2.1); rintro e w28 ⟨rfl, hb⟩; refine ⟨_, rfl, ?_⟩; have n0_ := zM (Kd.V_below (by (with_reducible repeat (first | apply Kd.V_alloc | apply Kd.V_drewN | apply Kd.V_drew)); exact HO_109005.out) hb); have n1_ := zM (zL (g := gb108) (o := .cells #[.int .i64 a0_0, .int .u64 a0_1, .int .u64 a0_2, .int .u64 a0_3, .int .u64 a0_4, .slice A0_5 l0_5.length c0_5, .int .i64 a0_6, .int .i64 a0_7] 27 (0, 0)) (by (with_reducible repeat (first | refine zH ?_ _ | refine zI ?_ | refine zG ?_ _)); exact BK108.out) hb); have n2_ := zM (zL (g := gb109) (o := .cells #[.int .i64 0, .int .u64 0, .int .u64 0, .int .u64 0, .int .u64 0, .slice none 0 0, .int .i64 0, .int .i64 0] 27 (0, 0)) (by (with_reducible repeat (first | refine zH ?_ _ | refine zI ?_ | refine zG ?_ _)); exact BK109.out) hb); have n3_ := zM (zJ (by repeat (first | (with_reducible first | exact HB.out | apply zE | apply zC | apply zD | refine zF ?_ GE108.out | refine zF ?_ GE109.out) | exact HB.out)) hb); clear HO_109005; clear BK108; clear BK109; clear HB; have HO_109005 := n0_; have BK108 := n1_; have BK109 := n2_; have HB := n3_; clear n0_ n1_ n2_ n3_; (try clear hb); (try clear hb2); (try clear hk); (try clear hi); have hcz29_0 : w28.cell? ⟨gb108, 0, none⟩ = some (.int .i64 a0_0) := (zB BK108.out 0).trans rfl; have hcz29_1 : w28.cell? ⟨gb108, 1, none⟩ = some (.int .u64 a0_1) := (zB BK108.out 1).trans rfl; have hcz29_2 : w28.cell? ⟨gb108, 2, none⟩ = some (.int .u64 a0_2) := (zB BK108.out 2).trans rfl; have hcz29_3 : w28.cell? ⟨gb108, 3, none⟩ = some (.int .u64 a0_3) := (zB BK108.out 3).trans rfl; have hcz29_4 : w28.cell? ⟨gb108, 4, none⟩ = some (.int .u64 a0_4) := (zB BK108.out 4).trans rfl; have hcz29_5 : w28.cell? ⟨gb108, 5, none⟩ = some (.slice A0_5 l0_5.length c0_5) := (zB BK108.out 5).trans rfl; have hcz29_6 : w28.cell? ⟨gb108, 6, none⟩ = some (.int .i64 a0_6) := (zB BK108.out 6).trans rfl; have hcz29_7 : w28.cell? ⟨gb108, 7, none⟩ = some (.int .i64 a0_7) := (zB BK108.out 7).trans rfl; have hfz29_0 := zA BK108.out 0; have hfz29_1 := zA BK108.out 1; have hfz29_2 := zA BK108.out 2; have hfz29_3 := zA BK108.out 3; have hfz29_4 := zA BK108.out 4; have hfz29_5 := zA BK108.out 5; have hfz29_6 := zA BK108.out 6; have hfz29_7 := zA BK108.out 7) | ((with_reducible refine gate_dst (N := 32) rfl ?_); refine Kd.N_lit k27 _ 27 ?hg (N' := 32) ?hd (xs := ([(⟨a0_0, (⟨a0_1, a0_2, a0_3, a0_4⟩ : S24), l0_5, a0_6, a0_7⟩ : S27)] : List (S27))) (inner := [.int .i64 a0_0, .int .u64 a0_1, .int .u64 a0_2, .int .u64 a0_3, .int .u64 a0_4, .slice A0_5 l0_5.length c0_5, .int .i64 a0_6, .int .i64 a0_7]) (ok := (fun k_ => (P0_5_ k_ ∨ w.heap.size ≤ k_) ∧ k_ ≠ gb108 ∧ k_ ≠ gb109)) (okp := (fun k_ => (P0_5_ k_ ∨ w.heap.size ≤ k_) ∧ k_ ≠ gb108 ∧ k_ ≠ gb109)) ?hr ?hp (fun _ hk => hk) ((show ∀ k_, w28.heap.size ≤ k_ → (fun k_ => (P0_5_ k_ ∨ w.heap.size ≤ k_) ∧ k_ ≠ gb108 ∧ k_ ≠ gb109) k_ from fun k_ hk => ⟨(.inr (Nat.le_trans (zK (by repeat (first | (with_reducible first | exact HB.out | apply zE | apply zC | apply zD | refine zF ?_ GE108.out | refine zF ?_ GE109.out) | exact HB.out))) hk)), Kd.freshB (g := gb108) (o := .cells #[.int .i64 a0_0, .int .u64 a0_1, .int .u64 a0_2, .int .u64 a0_3, .int .u64 a0_4, .slice A0_5 l0_5.length c0_5, .int .i64 a0_6, .int .i64 a0_7] 27 (0, 0)) (by (with_reducible repeat (first | refine zH ?_ _ | refine zI ?_ | refine zG ?_ _)); exact BK108.out) k_ hk, Kd.freshB (g := gb109) (o := .cells #[.int .i64 0, .int .u64 0, .int .u64 0, .int .u64 0, .int .u64 0, .slice none 0 0, .int .i64 0, .int .i64 0] 27 (0, 0)) (by (with_reducible repeat (first | refine zH ?_ _ | refine zI ?_ | refine zG ?_ _)); exact BK109.out) k_ hk⟩) _ (Nat.le_refl _)) (Below.refl _ _) (Nat.le_refl _) (by simp) ?_; (case hd => rfl); (case hg => rfl); (case hr => first | (go_simp; done) | (go_simp; rfl)); (case hp => exact (Reps.c8 (show Kd.FK k27 _ _ (⟨a0_0, (⟨a0_1, a0_2, a0_3, a0_4⟩ : S24), l0_5, a0_6, a0_7⟩ : S27) [.int .i64 a0_0, .int .u64 a0_1, .int .u64 a0_2, .int .u64 a0_3, .int .u64 a0_4, .slice A0_5 l0_5.length c0_5, .int .i64 a0_6, .int .i64 a0_7] from (k27_mkF _ _ (⟨a0_0, (⟨a0_1, a0_2, a0_3, a0_4⟩ : S24), l0_5, a0_6, a0_7⟩ : S27) (Kd.V_reads' (Kd.V_mono (ok' := (fun k_ => (P0_5_ k_ ∨ w.heap.size ≤ k_) ∧ k_ ≠ gb108 ∧ k_ ≠ gb109)) (HO_109005.out) (fun k_ hk => ⟨hk.1, ⟨hk.2.1, hk.2.2⟩⟩))).2.1 (Kd.V_F (Kd.V_mono (ok' := (fun k_ => (P0_5_ k_ ∨ w.heap.size ≤ k_) ∧ k_ ≠ gb108 ∧ k_ ≠ gb109)) (HO_109005.out) (fun k_ hk => ⟨hk.1, ⟨hk.2.1, hk.2.2⟩⟩))))) (Reps.none _ _))); intro v113 w30 ho31 hb hg_ hnew_; clear hg_ hnew_; (first | rw [← Ny112.out] at ho31 | (simp only [Int.reduceToNat] at ho31; rw [← Ny112.out] at ho31)); have n0_ := zM (Kd.V_elder' (by (with_reducible repeat (first | apply Kd.V_alloc | apply Kd.V_drewN | apply Kd.V_drew)); exact HO_109005.out) (Kd.N_base ho31) hb); have n1_ := zM (Kd.N_lower ho31 (zK (by repeat (first | (with_reducible first | exact HB.out | apply zE | apply zC | apply zD | refine zF ?_ GE108.out | refine zF ?_ GE109.out) | exact HB.out)))); have n2_ := zM (zL (g := gb108) (o := .cells #[.int .i64 a0_0, .int .u64 a0_1, .int .u64 a0_2, .int .u64 a0_3, .int .u64 a0_4, .slice A0_5 l0_5.length c0_5, .int .i64 a0_6, .int .i64 a0_7] 27 (0, 0)) (by (with_reducible repeat (first | refine zH ?_ _ | refine zI ?_ | refine zG ?_ _)); exact BK108.out) hb); have n3_ := zM (zL (g := gb109) (o := .cells #[.int .i64 0, .int .u64 0, .int .u64 0, .int .u64 0, .int .u64 0, .slice none 0 0, .int .i64 0, .int .i64 0] 27 (0, 0)) (by (with_reducible repeat (first | refine zH ?_ _ | refine zI ?_ | refine zG ?_ _)); exact BK109.out) hb); have n4_ := zM (zJ (by repeat (first | (with_reducible first | exact HB.out | apply zE | apply zC | apply zD | refine zF ?_ GE108.out | refine zF ?_ GE109.out) | exact HB.out)) hb); clear HO_109005; clear BK108; clear BK109; clear HB; have HO_109005 := n0_; have HO114 := n1_; have BK108 := n2_; have BK109 := n3_; have HB := n4_; clear n0_ n1_ n2_ n3_ n4_; clear hb ho31; obtain ⟨Ao32, co32, eo32⟩ := Kd.N_slice HO114.out; subst eo32; have hcz33_0 : w30.cell? ⟨gb109, 0, none⟩ = some (.int .i64 0) := (zB BK109.out 0).trans rfl; have hcz33_1 : w30.cell? ⟨gb109, 1, none⟩ = some (.int .u64 0) := (zB BK109.out 1).trans rfl; have hcz33_2 : w30.cell? ⟨gb109, 2, none⟩ = some (.int .u64 0) := (zB BK109.out 2).trans rfl; have hcz33_3 : w30.cell? ⟨gb109, 3, none⟩ = some (.int .u64 0) := (zB BK109.out 3).trans rfl; have hcz33_4 : w30.cell? ⟨gb109, 4, none⟩ = some (.int .u64 0) := (zB BK109.out 4).trans rfl; have hcz33_5 : w30.cell? ⟨gb109, 5, none⟩ = some (.slice none 0 0) := (zB BK109.out 5).trans rfl; have hcz33_6 : w30.cell? ⟨gb109, 6, none⟩ = some (.int .i64 0) := (zB BK109.out 6).trans rfl; have hcz33_7 : w30.cell? ⟨gb109, 7, none⟩ = some (.int .i64 0) := (zB BK109.out 7).trans rfl; have hfz33_0 := zA BK109.out 0; have hfz33_1 := zA BK109.out 1; have hfz33_2 := zA BK109.out 2; have hfz33_3 := zA BK109.out 3; have hfz33_4 := zA BK109.out 4; have hfz33_5 := zA BK109.out 5; have hfz33_6 := zA BK109.out 6; have hfz33_7 := zA BK109.out 7))
        refine bodyPost_ret (results_cell_row rfl _ _ gb109 27 #[.int .i64 4, .int .u64 0, .int .u64 0, .int .u64 0, .int .u64 0, .slice Ao32 y112.length co32, .int .i64 0, .int .i64 a2] (0, 0) _ rfl (by (with_reducible repeat (first | refine zH ?_ _ | refine zI ?_ | refine zG ?_ _)); refine blk_put (cs := #[.int .i64 4, .int .u64 0, .int .u64 0, .int .u64 0, .int .u64 0, .slice Ao32 y112.length co32, .int .i64 0, .int .i64 0]) ?_ 7 _ rfl; (with_reducible repeat (first | refine zH ?_ _ | refine zI ?_ | refine zG ?_ _)); refine blk_put (cs := #[.int .i64 4, .int .u64 0, .int .u64 0, .int .u64 0, .int .u64 0, .slice Ao32 y112.length co32, .int .i64 0, .int .i64 0]) ?_ 6 _ rfl; (with_reducible repeat (first | refine zH ?_ _ | refine zI ?_ | refine zG ?_ _)); refine blk_put (cs := #[.int .i64 4, .int .u64 0, .int .u64 0, .int .u64 0, .int .u64 0, .slice none 0 0, .int .i64 0, .int .i64 0]) ?_ 5 _ rfl; (with_reducible repeat (first | refine zH ?_ _ | refine zI ?_ | refine zG ?_ _)); refine blk_put (cs := #[.int .i64 4, .int .u64 0, .int .u64 0, .int .u64 0, .int .u64 0, .slice none 0 0, .int .i64 0, .int .i64 0]) ?_ 4 _ rfl; (with_reducible repeat (first | refine zH ?_ _ | refine zI ?_ | refine zG ?_ _)); refine blk_put (cs := #[.int .i64 4, .int .u64 0, .int .u64 0, .int .u64 0, .int .u64 0, .slice none 0 0, .int .i64 0, .int .i64 0]) ?_ 3 _ rfl; (with_reducible repeat (first | refine zH ?_ _ | refine zI ?_ | refine zG ?_ _)); refine blk_put (cs := #[.int .i64 4, .int .u64 0, .int .u64 0, .int .u64 0, .int .u64 0, .slice none 0 0, .int .i64 0, .int .i64 0]) ?_ 2 _ rfl; (with_reducible repeat (first | refine zH ?_ _ | refine zI ?_ | refine zG ?_ _)); refine blk_put (cs := #[.int .i64 4, .int .u64 0, .int .u64 0, .int .u64 0, .int .u64 0, .slice none 0 0, .int .i64 0, .int .i64 0]) ?_ 1 _ rfl; (with_reducible repeat (first | refine zH ?_ _ | refine zI ?_ | refine zG ?_ _)); refine blk_put (cs := #[.int .i64 0, .int .u64 0, .int .u64 0, .int .u64 0, .int .u64 0, .slice none 0 0, .int .i64 0, .int .i64 0]) ?_ 0 _ rfl; (with_reducible repeat (first | refine zH ?_ _ | refine zI ?_ | refine zG ?_ _)); exact BK109.out) Try.underlying27 rfl (by kernel_rfl)) rfl ?_
        exact ⟨_, by first | rfl | (simp [errW_none, errW_some] <;> rfl) | (simp [*, errW_none, errW_some] <;> rfl), Kd.N_V (by (with_reducible repeat (first | apply Kd.N_alloc | apply Kd.N_drewN | apply Kd.N_drew)); exact Kd.N_mono (Kd.N_far (p := ⟨gb109, 7, none⟩) (Kd.N_far (p := ⟨gb109, 6, none⟩) (Kd.N_far (p := ⟨gb109, 5, none⟩) (Kd.N_far (p := ⟨gb109, 4, none⟩) (Kd.N_far (p := ⟨gb109, 3, none⟩) (Kd.N_far (p := ⟨gb109, 2, none⟩) (Kd.N_far (p := ⟨gb109, 1, none⟩) (Kd.N_far (p := ⟨gb109, 0, none⟩) (Kd.N_mono HO114.out (fun k_ hk => (⟨hk, hk.2.2⟩ : _ ∧ k_ ≠ gb109))) (fun _ hk => hk.2) (.int .i64 4)) (fun _ hk => hk.2) (.int .u64 0)) (fun _ hk => hk.2) (.int .u64 0)) (fun _ hk => hk.2) (.int .u64 0)) (fun _ hk => hk.2) (.int .u64 0)) (fun _ hk => hk.2) (.slice Ao32 y112.length co32)) (fun _ hk => hk.2) (.int .i64 0)) (fun _ hk => hk.2) (.int .i64 a2)) (fun _ hk => hk.1.1)), by repeat (first | (with_reducible first | exact HB.out | apply zE | apply zC | apply zD | refine zF ?_ GE108.out | refine zF ?_ GE109.out) | exact HB.out)⟩
       ·
        replace c25 := Bool.eq_false_iff.mpr c25
        subst c25
        have H1 : (some (4, 0, 0, 0, 0, (([(⟨a0_0, (⟨a0_1, a0_2, a0_3, a0_4⟩ : S24), l0_5, a0_6, a0_7⟩ : S27)] : List (S27))), a1, a2)) = some (r1, r2, r3, r4, r5, r6, r7, r8) := by rw [if_neg (show ¬ (false = true) by decide)] at H; exact H
        clear H
        have H := H1
        clear H1
        obtain ⟨y115, hy115⟩ : ∃ y_ : List (S27), y_ = (([(⟨a0_0, (⟨a0_1, a0_2, a0_3, a0_4⟩ : S24), l0_5, a0_6, a0_7⟩ : S27)] : List (S27))) := ⟨_, rfl⟩
        replace H : (some (4, 0, 0, 0, 0, y115, a1, a2)) = some (r1, r2, r3, r4, r5, r6, r7, r8) := by first | (rw [hy115]; with_reducible exact H) | (have H2_ := (Option.bind_some _ _).symm.trans H; rw [hy115]; with_reducible exact H2_) | (have H2_ := (Option.bind_some _ _).symm.trans H; with_reducible exact H2_) | with_reducible exact H | (rw [hy115]; exact H) | exact H
        have Ny115 := zM hy115
        clear hy115
        simp only [Option.some.injEq, Prod.mk.injEq] at H
        obtain ⟨rfl, rfl, rfl, rfl, rfl, rfl, rfl, rfl⟩ := H
        have hnb34 := NB108_109.out
        have hnc34 := NB109_108.out
        have hcz35_0 : wc.cell? ⟨gb108, 0, none⟩ = some (.int .i64 a0_0) := (zB BK108.out 0).trans rfl
        have hcz35_1 : wc.cell? ⟨gb108, 1, none⟩ = some (.int .u64 a0_1) := (zB BK108.out 1).trans rfl
        have hcz35_2 : wc.cell? ⟨gb108, 2, none⟩ = some (.int .u64 a0_2) := (zB BK108.out 2).trans rfl
        have hcz35_3 : wc.cell? ⟨gb108, 3, none⟩ = some (.int .u64 a0_3) := (zB BK108.out 3).trans rfl
        have hcz35_4 : wc.cell? ⟨gb108, 4, none⟩ = some (.int .u64 a0_4) := (zB BK108.out 4).trans rfl
        have hcz35_5 : wc.cell? ⟨gb108, 5, none⟩ = some (.slice A0_5 l0_5.length c0_5) := (zB BK108.out 5).trans rfl
        have hcz35_6 : wc.cell? ⟨gb108, 6, none⟩ = some (.int .i64 a0_6) := (zB BK108.out 6).trans rfl
        have hcz35_7 : wc.cell? ⟨gb108, 7, none⟩ = some (.int .i64 a0_7) := (zB BK108.out 7).trans rfl
        have hfz35_0 := zA BK108.out 0
        have hfz35_1 := zA BK108.out 1
        have hfz35_2 := zA BK108.out 2
        have hfz35_3 := zA BK108.out 3
        have hfz35_4 := zA BK108.out 4
        have hfz35_5 := zA BK108.out 5
        have hfz35_6 := zA BK108.out 6
        have hfz35_7 := zA BK108.out 7
        go_wp2_with (first | ((with_reducible refine gate_callee (f := 42) rfl ?_); refine goesL_ (some 30) rfl rfl Try.func42 (by kernel_rfl) rfl #[.agg #[.int .i64 a0_0, .int .u64 a0_1, .int .u64 a0_2, .int .u64 a0_3, .int .u64 a0_4, .slice A0_5 l0_5.length c0_5, .int .i64 a0_6, .int .i64 a0_7]] rfl (by (try simp only [List.map_toArray, List.map_cons, List.map_nil]); first | done | rfl | (simp only [List.length_drop, List.length_take]; rfl)) ?_; (with_reducible refine (core_nullable.calls a0_0 a0_1 a0_2 a0_3 a0_4 _ _ l0_5 a0_6 a0_7 false _ ?side1 ?side2 A24.out).mono ?_); (case side1 => repeat (first | exact (Kd.V_reads' HO_109005.out).2.2 | (with_reducible refine Kd.C_alloc ?_ _) | (with_reducible refine Kd.C_drewN ?_ _) | (with_reducible refine Kd.C_drew ?_))); (case side2 => exact (Kd.V_reads' HO_109005.out).2.1); rintro e w36 ⟨rfl, hb⟩; refine ⟨_, rfl, ?_⟩; have n0_ := zM (Kd.V_below (by (with_reducible repeat (first | apply Kd.V_alloc | apply Kd.V_drewN | apply Kd.V_drew)); exact HO_109005.out) hb); have n1_ := zM (zL (g := gb108) (o := .cells #[.int .i64 a0_0, .int .u64 a0_1, .int .u64 a0_2, .int .u64 a0_3, .int .u64 a0_4, .slice A0_5 l0_5.length c0_5, .int .i64 a0_6, .int .i64 a0_7] 27 (0, 0)) (by (with_reducible repeat (first | refine zH ?_ _ | refine zI ?_ | refine zG ?_ _)); exact BK108.out) hb); have n2_ := zM (zL (g := gb109) (o := .cells #[.int .i64 0, .int .u64 0, .int .u64 0, .int .u64 0, .int .u64 0, .slice none 0 0, .int .i64 0, .int .i64 0] 27 (0, 0)) (by (with_reducible repeat (first | refine zH ?_ _ | refine zI ?_ | refine zG ?_ _)); exact BK109.out) hb); have n3_ := zM (zJ (by repeat (first | (with_reducible first | exact HB.out | apply zE | apply zC | apply zD | refine zF ?_ GE108.out | refine zF ?_ GE109.out) | exact HB.out)) hb); clear HO_109005; clear BK108; clear BK109; clear HB; have HO_109005 := n0_; have BK108 := n1_; have BK109 := n2_; have HB := n3_; clear n0_ n1_ n2_ n3_; (try clear hb); (try clear hb2); (try clear hk); (try clear hi); have hcz37_0 : w36.cell? ⟨gb108, 0, none⟩ = some (.int .i64 a0_0) := (zB BK108.out 0).trans rfl; have hcz37_1 : w36.cell? ⟨gb108, 1, none⟩ = some (.int .u64 a0_1) := (zB BK108.out 1).trans rfl; have hcz37_2 : w36.cell? ⟨gb108, 2, none⟩ = some (.int .u64 a0_2) := (zB BK108.out 2).trans rfl; have hcz37_3 : w36.cell? ⟨gb108, 3, none⟩ = some (.int .u64 a0_3) := (zB BK108.out 3).trans rfl; have hcz37_4 : w36.cell? ⟨gb108, 4, none⟩ = some (.int .u64 a0_4) := (zB BK108.out 4).trans rfl; have hcz37_5 : w36.cell? ⟨gb108, 5, none⟩ = some (.slice A0_5 l0_5.length c0_5) := (zB BK108.out 5).trans rfl; have hcz37_6 : w36.cell? ⟨gb108, 6, none⟩ = some (.int .i64 a0_6) := (zB BK108.out 6).trans rfl; have hcz37_7 : w36.cell? ⟨gb108, 7, none⟩ = some (.int .i64 a0_7) := (zB BK108.out 7).trans rfl; have hfz37_0 := zA BK108.out 0; have hfz37_1 := zA BK108.out 1; have hfz37_2 := zA BK108.out 2; have hfz37_3 := zA BK108.out 3; have hfz37_4 := zA BK108.out 4; have hfz37_5 := zA BK108.out 5; have hfz37_6 := zA BK108.out 6; have hfz37_7 := zA BK108.out 7) | ((with_reducible refine gate_dst (N := 32) rfl ?_); refine Kd.N_lit k27 _ 27 ?hg (N' := 32) ?hd (xs := ([(⟨a0_0, (⟨a0_1, a0_2, a0_3, a0_4⟩ : S24), l0_5, a0_6, a0_7⟩ : S27)] : List (S27))) (inner := [.int .i64 a0_0, .int .u64 a0_1, .int .u64 a0_2, .int .u64 a0_3, .int .u64 a0_4, .slice A0_5 l0_5.length c0_5, .int .i64 a0_6, .int .i64 a0_7]) (ok := (fun k_ => (P0_5_ k_ ∨ w.heap.size ≤ k_) ∧ k_ ≠ gb108 ∧ k_ ≠ gb109)) (okp := (fun k_ => (P0_5_ k_ ∨ w.heap.size ≤ k_) ∧ k_ ≠ gb108 ∧ k_ ≠ gb109)) ?hr ?hp (fun _ hk => hk) ((show ∀ k_, w36.heap.size ≤ k_ → (fun k_ => (P0_5_ k_ ∨ w.heap.size ≤ k_) ∧ k_ ≠ gb108 ∧ k_ ≠ gb109) k_ from fun k_ hk => ⟨(.inr (Nat.le_trans (zK (by repeat (first | (with_reducible first | exact HB.out | apply zE | apply zC | apply zD | refine zF ?_ GE108.out | refine zF ?_ GE109.out) | exact HB.out))) hk)), Kd.freshB (g := gb108) (o := .cells #[.int .i64 a0_0, .int .u64 a0_1, .int .u64 a0_2, .int .u64 a0_3, .int .u64 a0_4, .slice A0_5 l0_5.length c0_5, .int .i64 a0_6, .int .i64 a0_7] 27 (0, 0)) (by (with_reducible repeat (first | refine zH ?_ _ | refine zI ?_ | refine zG ?_ _)); exact BK108.out) k_ hk, Kd.freshB (g := gb109) (o := .cells #[.int .i64 0, .int .u64 0, .int .u64 0, .int .u64 0, .int .u64 0, .slice none 0 0, .int .i64 0, .int .i64 0] 27 (0, 0)) (by (with_reducible repeat (first | refine zH ?_ _ | refine zI ?_ | refine zG ?_ _)); exact BK109.out) k_ hk⟩) _ (Nat.le_refl _)) (Below.refl _ _) (Nat.le_refl _) (by simp) ?_; (case hd => rfl); (case hg => rfl); (case hr => first | (go_simp; done) | (go_simp; rfl)); (case hp => exact (Reps.c8 (show Kd.FK k27 _ _ (⟨a0_0, (⟨a0_1, a0_2, a0_3, a0_4⟩ : S24), l0_5, a0_6, a0_7⟩ : S27) [.int .i64 a0_0, .int .u64 a0_1, .int .u64 a0_2, .int .u64 a0_3, .int .u64 a0_4, .slice A0_5 l0_5.length c0_5, .int .i64 a0_6, .int .i64 a0_7] from (k27_mkF _ _ (⟨a0_0, (⟨a0_1, a0_2, a0_3, a0_4⟩ : S24), l0_5, a0_6, a0_7⟩ : S27) (Kd.V_reads' (Kd.V_mono (ok' := (fun k_ => (P0_5_ k_ ∨ w.heap.size ≤ k_) ∧ k_ ≠ gb108 ∧ k_ ≠ gb109)) (HO_109005.out) (fun k_ hk => ⟨hk.1, ⟨hk.2.1, hk.2.2⟩⟩))).2.1 (Kd.V_F (Kd.V_mono (ok' := (fun k_ => (P0_5_ k_ ∨ w.heap.size ≤ k_) ∧ k_ ≠ gb108 ∧ k_ ≠ gb109)) (HO_109005.out) (fun k_ hk => ⟨hk.1, ⟨hk.2.1, hk.2.2⟩⟩))))) (Reps.none _ _))); intro v116 w38 ho39 hb hg_ hnew_; clear hg_ hnew_; (first | rw [← Ny115.out] at ho39 | (simp only [Int.reduceToNat] at ho39; rw [← Ny115.out] at ho39)); have n0_ := zM (Kd.V_elder' (by (with_reducible repeat (first | apply Kd.V_alloc | apply Kd.V_drewN | apply Kd.V_drew)); exact HO_109005.out) (Kd.N_base ho39) hb); have n1_ := zM (Kd.N_lower ho39 (zK (by repeat (first | (with_reducible first | exact HB.out | apply zE | apply zC | apply zD | refine zF ?_ GE108.out | refine zF ?_ GE109.out) | exact HB.out)))); have n2_ := zM (zL (g := gb108) (o := .cells #[.int .i64 a0_0, .int .u64 a0_1, .int .u64 a0_2, .int .u64 a0_3, .int .u64 a0_4, .slice A0_5 l0_5.length c0_5, .int .i64 a0_6, .int .i64 a0_7] 27 (0, 0)) (by (with_reducible repeat (first | refine zH ?_ _ | refine zI ?_ | refine zG ?_ _)); exact BK108.out) hb); have n3_ := zM (zL (g := gb109) (o := .cells #[.int .i64 0, .int .u64 0, .int .u64 0, .int .u64 0, .int .u64 0, .slice none 0 0, .int .i64 0, .int .i64 0] 27 (0, 0)) (by (with_reducible repeat (first | refine zH ?_ _ | refine zI ?_ | refine zG ?_ _)); exact BK109.out) hb); have n4_ := zM (zJ (by repeat (first | (with_reducible first | exact HB.out | apply zE | apply zC | apply zD | refine zF ?_ GE108.out | refine zF ?_ GE109.out) | exact HB.out)) hb); clear HO_109005; clear BK108; clear BK109; clear HB; have HO_109005 := n0_; have HO117 := n1_; have BK108 := n2_; have BK109 := n3_; have HB := n4_; clear n0_ n1_ n2_ n3_ n4_; clear hb ho39; obtain ⟨Ao40, co40, eo40⟩ := Kd.N_slice HO117.out; subst eo40; have hcz41_0 : w38.cell? ⟨gb109, 0, none⟩ = some (.int .i64 0) := (zB BK109.out 0).trans rfl; have hcz41_1 : w38.cell? ⟨gb109, 1, none⟩ = some (.int .u64 0) := (zB BK109.out 1).trans rfl; have hcz41_2 : w38.cell? ⟨gb109, 2, none⟩ = some (.int .u64 0) := (zB BK109.out 2).trans rfl; have hcz41_3 : w38.cell? ⟨gb109, 3, none⟩ = some (.int .u64 0) := (zB BK109.out 3).trans rfl; have hcz41_4 : w38.cell? ⟨gb109, 4, none⟩ = some (.int .u64 0) := (zB BK109.out 4).trans rfl; have hcz41_5 : w38.cell? ⟨gb109, 5, none⟩ = some (.slice none 0 0) := (zB BK109.out 5).trans rfl; have hcz41_6 : w38.cell? ⟨gb109, 6, none⟩ = some (.int .i64 0) := (zB BK109.out 6).trans rfl; have hcz41_7 : w38.cell? ⟨gb109, 7, none⟩ = some (.int .i64 0) := (zB BK109.out 7).trans rfl; have hfz41_0 := zA BK109.out 0; have hfz41_1 := zA BK109.out 1; have hfz41_2 := zA BK109.out 2; have hfz41_3 := zA BK109.out 3; have hfz41_4 := zA BK109.out 4; have hfz41_5 := zA BK109.out 5; have hfz41_6 := zA BK109.out 6; have hfz41_7 := zA BK109.out 7))
        refine bodyPost_ret (results_cell_row rfl _ _ gb109 27 #[.int .i64 4, .int .u64 0, .int .u64 0, .int .u64 0, .int .u64 0, .slice Ao40 y115.length co40, .int .i64 a1, .int .i64 a2] (0, 0) _ rfl (by (with_reducible repeat (first | refine zH ?_ _ | refine zI ?_ | refine zG ?_ _)); refine blk_put (cs := #[.int .i64 4, .int .u64 0, .int .u64 0, .int .u64 0, .int .u64 0, .slice Ao40 y115.length co40, .int .i64 a1, .int .i64 0]) ?_ 7 _ rfl; (with_reducible repeat (first | refine zH ?_ _ | refine zI ?_ | refine zG ?_ _)); refine blk_put (cs := #[.int .i64 4, .int .u64 0, .int .u64 0, .int .u64 0, .int .u64 0, .slice Ao40 y115.length co40, .int .i64 0, .int .i64 0]) ?_ 6 _ rfl; (with_reducible repeat (first | refine zH ?_ _ | refine zI ?_ | refine zG ?_ _)); refine blk_put (cs := #[.int .i64 4, .int .u64 0, .int .u64 0, .int .u64 0, .int .u64 0, .slice none 0 0, .int .i64 0, .int .i64 0]) ?_ 5 _ rfl; (with_reducible repeat (first | refine zH ?_ _ | refine zI ?_ | refine zG ?_ _)); refine blk_put (cs := #[.int .i64 4, .int .u64 0, .int .u64 0, .int .u64 0, .int .u64 0, .slice none 0 0, .int .i64 0, .int .i64 0]) ?_ 4 _ rfl; (with_reducible repeat (first | refine zH ?_ _ | refine zI ?_ | refine zG ?_ _)); refine blk_put (cs := #[.int .i64 4, .int .u64 0, .int .u64 0, .int .u64 0, .int .u64 0, .slice none 0 0, .int .i64 0, .int .i64 0]) ?_ 3 _ rfl; (with_reducible repeat (first | refine zH ?_ _ | refine zI ?_ | refine zG ?_ _)); refine blk_put (cs := #[.int .i64 4, .int .u64 0, .int .u64 0, .int .u64 0, .int .u64 0, .slice none 0 0, .int .i64 0, .int .i64 0]) ?_ 2 _ rfl; (with_reducible repeat (first | refine zH ?_ _ | refine zI ?_ | refine zG ?_ _)); refine blk_put (cs := #[.int .i64 4, .int .u64 0, .int .u64 0, .int .u64 0, .int .u64 0, .slice none 0 0, .int .i64 0, .int .i64 0]) ?_ 1 _ rfl; (with_reducible repeat (first | refine zH ?_ _ | refine zI ?_ | refine zG ?_ _)); refine blk_put (cs := #[.int .i64 0, .int .u64 0, .int .u64 0, .int .u64 0, .int .u64 0, .slice none 0 0, .int .i64 0, .int .i64 0]) ?_ 0 _ rfl; (with_reducible repeat (first | refine zH ?_ _ | refine zI ?_ | refine zG ?_ _)); exact BK109.out) Try.underlying27 rfl (by kernel_rfl)) rfl ?_
        exact ⟨_, by first | rfl | (simp [errW_none, errW_some] <;> rfl) | (simp [*, errW_none, errW_some] <;> rfl), Kd.N_V (by (with_reducible repeat (first | apply Kd.N_alloc | apply Kd.N_drewN | apply Kd.N_drew)); exact Kd.N_mono (Kd.N_far (p := ⟨gb109, 7, none⟩) (Kd.N_far (p := ⟨gb109, 6, none⟩) (Kd.N_far (p := ⟨gb109, 5, none⟩) (Kd.N_far (p := ⟨gb109, 4, none⟩) (Kd.N_far (p := ⟨gb109, 3, none⟩) (Kd.N_far (p := ⟨gb109, 2, none⟩) (Kd.N_far (p := ⟨gb109, 1, none⟩) (Kd.N_far (p := ⟨gb109, 0, none⟩) (Kd.N_mono HO117.out (fun k_ hk => (⟨hk, hk.2.2⟩ : _ ∧ k_ ≠ gb109))) (fun _ hk => hk.2) (.int .i64 4)) (fun _ hk => hk.2) (.int .u64 0)) (fun _ hk => hk.2) (.int .u64 0)) (fun _ hk => hk.2) (.int .u64 0)) (fun _ hk => hk.2) (.int .u64 0)) (fun _ hk => hk.2) (.slice Ao40 y115.length co40)) (fun _ hk => hk.2) (.int .i64 a1)) (fun _ hk => hk.2) (.int .i64 a2)) (fun _ hk => hk.1.1)), by repeat (first | (with_reducible first | exact HB.out | apply zE | apply zC | apply zD | refine zF ?_ GE108.out | refine zF ?_ GE109.out) | exact HB.out)⟩

end Go.Proofs.Ytlnhiogpjdhhbaa.P
