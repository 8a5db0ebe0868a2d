import Derived.Test.YtlnhiogpjdhhbaaPx0
import Derived.Test.YtlnhiogpjdhhbaaPx5
import Derived.Test.YtlnhiogpjdhhbaaPx6
import Derived.Test.YtlnhiogpjdhhbaaPx7
import Derived.Test.YtlnhiogpjdhhbaaPx8
-- Written by wip/xp.
namespace Go.Proofs.Ytlnhiogpjdhhbaa.P
open Go.RowKit Go.Proofs.YtlnhiogpjdhhbaaW.PrintWords Go.Proofs.YtlnhiogpjdhhbaaW.PrintLast Go.Proofs.YtlnhiogpjdhhbaaW.PrintMore
open Go.Proofs.YtlnhiogpjdhhbaaW.PrintWords renaming blk_frozen → zA, blk_cell → zB, pw_below_drewN → zC, below_drew1 → zD, below_alloc → zE, below_set → zF, blk_alloc → zG, blk_drewN → zH, blk_drew → zI, below_step → zJ, below_size → zK, cell_far → zL, blk_below → zM
open Go.Proofs.YtlnhiogpjdhhbaaW.PrintWords.Aside0 renaming mk → zN
open Go.World renaming block_lt_of_cell? → zO
open List renaming setIfInBounds_toArray → zP, set_cons_zero → zQ, set_cons_succ → zR
attribute [local go_sem] max2_int min2_int max_two min_two max_three min_three max_four min_four   -- for this text's walks alone
set_option linter.unusedVariables false
set_option linter.unusedSimpArgs false

mutual
def core_simple.l0 : Nat → List (S27) → List (S27) → Int → Int → Int → Int → Int → Int → Int → List (S27) → Int → Int → Option (Int × Int × Int × Int × Int × (List (S27)) × Int × Int)
  | 0, _, _, _, _, _, _, _, _, _, _, _, _ => none
  | k + 1, x3, x10, x11, x12, x119000, x119001, x119002, x119003, x119004, x119005, x119006, x119007 => if x12 < x11 then (if 0 ≤ x12 then (if x12 < (x10.length : Int) then ((core_simple.f k ((rd_T27 x10 x12).f0) ((rd_T27 x10 x12).f1.f0) ((rd_T27 x10 x12).f1.f1) ((rd_T27 x10 x12).f1.f2) ((rd_T27 x10 x12).f1.f3) ((rd_T27 x10 x12).f2) ((rd_T27 x10 x12).f3) ((rd_T27 x10 x12).f4)).bind fun bt123 => (if x3.length < 1759218604441 then (core_simple.l0 k (x3 ++ [(⟨bt123.1, (⟨bt123.2.1, bt123.2.2.1, bt123.2.2.2.1, bt123.2.2.2.2.1⟩ : S24), bt123.2.2.2.2.2.1, bt123.2.2.2.2.2.2.1, bt123.2.2.2.2.2.2.2⟩ : S27)]) x10 x11 (wrap64 (x12 + 1)) x119000 x119001 x119002 x119003 x119004 x119005 x119006 x119007) else (none))) else (none)) else (none)) else (if x119000 = 2 then (core_simple.j1 k x3 x119000 (x119000 == 2) x119000 x119001 x119002 x119003 x119004 x119005 x119006 x119007) else (core_simple.j1 k x3 x119000 (x119000 == 3) x119000 x119001 x119002 x119003 x119004 x119005 x119006 x119007))
def core_simple.j1 : Nat → List (S27) → Int → Bool → Int → Int → Int → Int → Int → List (S27) → Int → Int → Option (Int × Int × Int × Int × Int × (List (S27)) × Int × Int)
  | 0, _, _, _, _, _, _, _, _, _, _, _ => none
  | k + 1, x3, x23, x24, x119000, x119001, x119002, x119003, x119004, x119005, x119006, x119007 => if x24 = true then ((core_put.f x119000 ([] : List (S27)) x3).bind fun t136 => ((core_one.f x119000 t136).bind fun bt139 => (some (bt139.1, bt139.2.1, bt139.2.2.1, bt139.2.2.2.1, bt139.2.2.2.2.1, bt139.2.2.2.2.2.1, bt139.2.2.2.2.2.2.1, bt139.2.2.2.2.2.2.2)))) else (if x23 = 4 then (if 0 < (x3.length : Int) then ((core_times.f k ((rd_T27 x3 0).f0) ((rd_T27 x3 0).f1.f0) ((rd_T27 x3 0).f1.f1) ((rd_T27 x3 0).f1.f2) ((rd_T27 x3 0).f1.f3) ((rd_T27 x3 0).f2) ((rd_T27 x3 0).f3) ((rd_T27 x3 0).f4) x119006 x119007).bind fun bt150 => (some (bt150.1, bt150.2.1, bt150.2.2.1, bt150.2.2.2.1, bt150.2.2.2.2.1, bt150.2.2.2.2.2.1, bt150.2.2.2.2.2.2.1, bt150.2.2.2.2.2.2.2))) else (none)) else (some (x119000, x119001, x119002, x119003, x119004, x119005, x119006, x119007)))
def core_simple.f : Nat → Int → Int → Int → Int → Int → List (S27) → Int → Int → Option (Int × Int × Int × Int × Int × (List (S27)) × Int × Int)
  | 0, _, _, _, _, _, _, _, _ => none
  | k + 1, a0_0, a0_1, a0_2, a0_3, a0_4, l0_5, a0_6, a0_7 => (core_void.f a0_0 a0_1 a0_2 a0_3 a0_4 l0_5 a0_6 a0_7).bind fun t120 => (if t120 = true then (some (1, 0, 0, 0, 0, ([] : List (S27)), 0, 0)) else (core_simple.l0 k ([] : List (S27)) l0_5 (l0_5.length : Int) 0 a0_0 a0_1 a0_2 a0_3 a0_4 l0_5 a0_6 a0_7))
end
theorem core_simple.mono_l : ∀ k, (∀ y0 y1 y2 y3 y4 y5 y6 y7, LeO (core_simple.f k y0 y1 y2 y3 y4 y5 y6 y7) (core_simple.f (k + 1) y0 y1 y2 y3 y4 y5 y6 y7)) ∧ (∀ y0 y1 y2 y3 y4 y5 y6 y7 y8 y9 y10 y11, LeO (core_simple.l0 k y0 y1 y2 y3 y4 y5 y6 y7 y8 y9 y10 y11) (core_simple.l0 (k + 1) y0 y1 y2 y3 y4 y5 y6 y7 y8 y9 y10 y11)) ∧ (∀ y0 y1 y2 y3 y4 y5 y6 y7 y8 y9 y10, LeO (core_simple.j1 k y0 y1 y2 y3 y4 y5 y6 y7 y8 y9 y10) (core_simple.j1 (k + 1) y0 y1 y2 y3 y4 y5 y6 y7 y8 y9 y10))
  | 0 => ⟨fun _ _ _ _ _ _ _ _ r h => by simp [core_simple.f] at h, fun _ _ _ _ _ _ _ _ _ _ _ _ r h => by simp [core_simple.l0] at h, fun _ _ _ _ _ _ _ _ _ _ _ r h => by simp [core_simple.j1] at h⟩
  | k + 1 => by
    obtain ⟨ih0, ih1, ih2⟩ := core_simple.mono_l k
    refine ⟨?_, ?_, ?_⟩
    · intro y0 y1 y2 y3 y4 y5 y6 y7
      unfold core_simple.f
      repeat' first
      | (with_reducible exact ih0 _ _ _ _ _ _ _ _)
      | (with_reducible exact ih1 _ _ _ _ _ _ _ _ _ _ _ _)
      | (with_reducible exact ih2 _ _ _ _ _ _ _ _ _ _ _)
      | (with_reducible exact core_times.mono _ _ _ _ _ _ _ _ _ _ _)
      | (with_reducible exact LeO.refl _)
      | (with_reducible exact LeO.none _)
      | (with_reducible refine LeO.ite ?_ ?_)
      | (with_reducible refine LeO.bind ?_ (fun _ => ?_))
      | exact ih0 _ _ _ _ _ _ _ _
      | exact ih1 _ _ _ _ _ _ _ _ _ _ _ _
      | exact ih2 _ _ _ _ _ _ _ _ _ _ _
      | exact core_times.mono _ _ _ _ _ _ _ _ _ _ _
      | exact LeO.none _
      | refine LeO.ite ?_ ?_
      | refine LeO.bind ?_ (fun _ => ?_)
    · intro y0 y1 y2 y3 y4 y5 y6 y7 y8 y9 y10 y11
      unfold core_simple.l0
      repeat' first
      | (with_reducible exact ih0 _ _ _ _ _ _ _ _)
      | (with_reducible exact ih1 _ _ _ _ _ _ _ _ _ _ _ _)
      | (with_reducible exact ih2 _ _ _ _ _ _ _ _ _ _ _)
      | (with_reducible exact core_times.mono _ _ _ _ _ _ _ _ _ _ _)
      | (with_reducible exact LeO.refl _)
      | (with_reducible exact LeO.none _)
      | (with_reducible refine LeO.ite ?_ ?_)
      | (with_reducible refine LeO.bind ?_ (fun _ => ?_))
      | exact ih0 _ _ _ _ _ _ _ _
      | exact ih1 _ _ _ _ _ _ _ _ _ _ _ _
      | exact ih2 _ _ _ _ _ _ _ _ _ _ _
      | exact core_times.mono _ _ _ _ _ _ _ _ _ _ _
      | exact LeO.none _
      | refine LeO.ite ?_ ?_
      | refine LeO.bind ?_ (fun _ => ?_)
    · intro y0 y1 y2 y3 y4 y5 y6 y7 y8 y9 y10
      unfold core_simple.j1
      repeat' first
      | (with_reducible exact ih0 _ _ _ _ _ _ _ _)
      | (with_reducible exact ih1 _ _ _ _ _ _ _ _ _ _ _ _)
      | (with_reducible exact ih2 _ _ _ _ _ _ _ _ _ _ _)
      | (with_reducible exact core_times.mono _ _ _ _ _ _ _ _ _ _ _)
      | (with_reducible exact LeO.refl _)
      | (with_reducible exact LeO.none _)
      | (with_reducible refine LeO.ite ?_ ?_)
      | (with_reducible refine LeO.bind ?_ (fun _ => ?_))
      | exact ih0 _ _ _ _ _ _ _ _
      | exact ih1 _ _ _ _ _ _ _ _ _ _ _ _
      | exact ih2 _ _ _ _ _ _ _ _ _ _ _
      | exact core_times.mono _ _ _ _ _ _ _ _ _ _ _
      | exact LeO.none _
      | refine LeO.ite ?_ ?_
      | refine LeO.bind ?_ (fun _ => ?_)
theorem core_simple.mono : ∀ a0 a1 a2 a3 a4 a5 a6 a7 k, LeO (core_simple.f k a0 a1 a2 a3 a4 a5 a6 a7) (core_simple.f (k + 1) a0 a1 a2 a3 a4 a5 a6 a7) := by
  intro a0 a1 a2 a3 a4 a5 a6 a7 k
  obtain ⟨ih0, ih1, ih2⟩ := core_simple.mono_l k
  exact ih0 a0 a1 a2 a3 a4 a5 a6 a7
def core_simple.T12 : Bool × List (List Nat × List Nat) := (true, [([], []), ([0], [0]), ([], []), ([2], [2]), ([], []), ([3, 4], [3, 4]), ([1, 5, 5], [1, 5]), ([6, 6, 0, 1, 2, 3, 4, 5, 6], [6])])
def core_simple.B12 : List Nat := [0, 1, 0, 4, 0, 28, 63, 127]
theorem core_simple.tab12 : rtab .any (opsOf Try.f23 12) = core_simple.T12 := by kernel_rfl
theorem core_simple.bits12 : waitsOk core_simple.T12.2 core_simple.B12 = true := by kernel_rfl
def core_simple.T14 : Bool × List (List Nat × List Nat) := (true, [([], []), ([0], [0]), ([1], [1]), ([], []), ([3], [3]), ([], []), ([5], [5]), ([2, 4, 6], [2, 4, 6]), ([7, 7, 0, 1, 2, 3, 4, 5, 6, 7], [7])])
def core_simple.B14 : List Nat := [0, 1, 3, 0, 8, 0, 32, 127, 255]
theorem core_simple.tab14 : rtab .any (opsOf Try.f23 14) = core_simple.T14 := by kernel_rfl
theorem core_simple.bits14 : waitsOk core_simple.T14.2 core_simple.B14 = true := by kernel_rfl
set_option maxHeartbeats 8000000 in
set_option maxRecDepth 100000 in
theorem core_simple.calls (k : Nat) : ∀ (a0_0 : Int) (a0_1 : Int) (a0_2 : Int) (a0_3 : Int) (a0_4 : Int) (P0_5_ : Nat → Prop) (A0_5 : Option Addr) (c0_5 : Nat) (l0_5 : List (S27)) (a0_6 : Int) (a0_7 : Int) (r1 : Int) (r2 : Int) (r3 : Int) (r4 : Int) (r5 : Int) (r6 : List (S27)) (r7 : Int) (r8 : Int) (w : World) (hs0_5 : Kd.V k27 27 w w.heap.size (fun k_ => P0_5_ k_) (.slice A0_5 l0_5.length c0_5) l0_5) (h : core_simple.f k a0_0 a0_1 a0_2 a0_3 a0_4 l0_5 a0_6 a0_7 = some (r1, r2, r3, r4, r5, r6, r7, r8)),
  Calls Try.prog 23 #[.agg #[.int .i64 a0_0, .int .u64 a0_1, .int .u64 a0_2, .int .u64 a0_3, .int .u64 a0_4, .slice A0_5 l0_5.length c0_5, .int .i64 a0_6, .int .i64 a0_7]] w fun e w' => ∃ v5_ : Value, e = .returned (.agg #[.int .i64 r1, .int .u64 r2, .int .u64 r3, .int .u64 r4, .int .u64 r5, v5_, .int .i64 r7, .int .i64 r8]) ∧ Kd.V k27 27 w' w.heap.size (fun k_ => (P0_5_ k_ ∨ w.heap.size ≤ k_)) v5_ r6 ∧ Below w.heap.size w w' := by
 induction k using Nat.strongRecOn with
 | _ k ih =>
 intro a0_0 a0_1 a0_2 a0_3 a0_4 P0_5_ A0_5 c0_5 l0_5 a0_6 a0_7 r1 r2 r3 r4 r5 r6 r7 r8 w hs0_5 h
 cases k with
 | zero => exact absurd h (by simp [core_simple.f])
 | succ k =>
 simp only [core_simple.f] at h
 have hu27 := Try.underlying27
 have HO0_5 := zN (show Kd.V k27 27 w w.heap.size (fun k_ => (P0_5_ k_ ∨ w.heap.size ≤ k_)) (.slice A0_5 l0_5.length c0_5) l0_5 from Kd.V_mono hs0_5 (fun k_ hk => .inl hk))
 have HB := zN (Below.refl w.heap.size w)
 have H : ((core_void.f a0_0 a0_1 a0_2 a0_3 a0_4 l0_5 a0_6 a0_7).bind fun t120 => (if t120 = true then (some (1, 0, 0, 0, 0, ([] : List (S27)), 0, 0)) else (core_simple.l0 k ([] : List (S27)) l0_5 (l0_5.length : Int) 0 a0_0 a0_1 a0_2 a0_3 a0_4 l0_5 a0_6 a0_7))) = some (r1, r2, r3, r4, r5, r6, r7, r8) := h
 clear h
 replace H := Option.bind_eq_some_iff.mp H
 obtain ⟨t120, A20, H⟩ := H
 replace H : (if t120 = true then (some (1, 0, 0, 0, 0, ([] : List (S27)), 0, 0)) else (core_simple.l0 k ([] : List (S27)) l0_5 (l0_5.length : Int) 0 a0_0 a0_1 a0_2 a0_3 a0_4 l0_5 a0_6 a0_7)) = some (r1, r2, r3, r4, r5, r6, r7, r8) := H
 have A2 := zN A20
 clear A20
 by_cases c3 : t120 = true
 ·
  subst c3
  have H1 : (some (1, 0, 0, 0, 0, ([] : List (S27)), 0, 0)) = some (r1, r2, r3, r4, r5, r6, r7, r8) := by rw [if_pos rfl] at H; exact H
  clear H
  have H := H1
  clear H1
  simp only [Option.some.injEq, Prod.mk.injEq] at H
  obtain ⟨rfl, rfl, rfl, rfl, rfl, rfl, rfl, rfl⟩ := H
  go_enter Try.func23, Try.ntmps23
  go_wp2_with (first | ((with_reducible refine gate_dst (N := 1) rfl ?_); refine box_event ?hg (N := 1) ?hd (cs := #[.int .i64 a0_0, .int .u64 a0_1, .int .u64 a0_2, .int .u64 a0_3, .int .u64 a0_4, .slice A0_5 l0_5.length c0_5, .int .i64 a0_6, .int .i64 a0_7]) (t := 27) ?hr ?_; (case hd => rfl); (case hg => rfl); (case hr => first | (go_simp; done) | (go_simp; rfl)); intro gb118 hg w4 hbox hb; have n0_ := zN (Kd.V_below (Kd.V_elderB (by (with_reducible repeat (first | apply Kd.V_alloc | apply Kd.V_drewN | apply Kd.V_drew)); exact HO0_5.out) gb118 (Nat.le_of_eq hg.symm)) hb); have n1_ := zN (zJ (by repeat (first | (with_reducible first | exact HB.out | apply zE | apply zC | apply zD) | exact HB.out)) hb); have n2_ := zN (hbox); have n3_ := zN ((by rw [hg]; exact (zK (by repeat (first | (with_reducible first | exact HB.out | apply zE | apply zC | apply zD) | exact HB.out))) : w.heap.size ≤ gb118)); have n4_ := zN ((by rw [hg]; exact (zK (by repeat (first | (with_reducible first | exact HB.out | apply zE | apply zC | apply zD) | exact HB.out))) : w.heap.size ≤ gb118)); clear HO0_5; clear HB; have HO0_5 := n0_; have HB := n1_; have BK118 := n2_; have GW118 := n3_; have GE118 := n4_; clear n0_ n1_ n2_ n3_ n4_; clear hb hbox hg) | ((with_reducible refine gate_dst (N := 2) rfl ?_); refine box_event ?hg (N := 2) ?hd (cs := #[.int .i64 0, .int .u64 0, .int .u64 0, .int .u64 0, .int .u64 0, .slice none 0 0, .int .i64 0, .int .i64 0]) (t := 27) ?hr ?_; (case hd => rfl); (case hg => rfl); (case hr => first | (go_simp; done) | (go_simp; rfl)); intro gb119 hg w5 hbox hb; have n0_ := zN (Kd.V_below (Kd.V_elderB (by (with_reducible repeat (first | apply Kd.V_alloc | apply Kd.V_drewN | apply Kd.V_drew)); exact HO0_5.out) gb119 (Nat.le_of_eq hg.symm)) hb); have n1_ := zN (zM (g := gb118) (o := .cells #[.int .i64 a0_0, .int .u64 a0_1, .int .u64 a0_2, .int .u64 a0_3, .int .u64 a0_4, .slice A0_5 l0_5.length c0_5, .int .i64 a0_6, .int .i64 a0_7] 27 (0, 0)) (by (with_reducible repeat (first | refine zH ?_ _ | refine zI ?_ | refine zG ?_ _)); exact BK118.out) hb); have n2_ := zN (zJ (by repeat (first | (with_reducible first | exact HB.out | apply zE | apply zC | apply zD | refine zF ?_ GE118.out) | exact HB.out)) hb); have n3_ := zN (hbox); have n4_ := zN ((by rw [hg]; exact (zK (by repeat (first | (with_reducible first | exact HB.out | apply zE | apply zC | apply zD | refine zF ?_ GE118.out) | exact HB.out))) : w.heap.size ≤ gb119)); have n5_ := zN ((by rw [hg]; exact (zK (by repeat (first | (with_reducible first | exact HB.out | apply zE | apply zC | apply zD | refine zF ?_ GE118.out) | exact HB.out))) : w.heap.size ≤ gb119)); have n6_ := zN ((by rw [hg]; exact Nat.ne_of_lt (blk_lt (g := gb118) (o := .cells #[.int .i64 a0_0, .int .u64 a0_1, .int .u64 a0_2, .int .u64 a0_3, .int .u64 a0_4, .slice A0_5 l0_5.length c0_5, .int .i64 a0_6, .int .i64 a0_7] 27 (0, 0)) (by (with_reducible repeat (first | refine zH ?_ _ | refine zI ?_ | refine zG ?_ _)); exact BK118.out)) : gb118 ≠ gb119)); have n7_ := zN ((by rw [hg]; exact Nat.ne_of_gt (blk_lt (g := gb118) (o := .cells #[.int .i64 a0_0, .int .u64 a0_1, .int .u64 a0_2, .int .u64 a0_3, .int .u64 a0_4, .slice A0_5 l0_5.length c0_5, .int .i64 a0_6, .int .i64 a0_7] 27 (0, 0)) (by (with_reducible repeat (first | refine zH ?_ _ | refine zI ?_ | refine zG ?_ _)); exact BK118.out)) : gb119 ≠ gb118)); clear HO0_5; clear BK118; clear HB; have HO0_5 := n0_; have BK118 := n1_; have HB := n2_; have BK119 := n3_; have GW119 := n4_; have GE119 := n5_; have NB118_119 := n6_; have NB119_118 := n7_; clear n0_ n1_ n2_ n3_ n4_ n5_ n6_ n7_; clear hb hbox hg; have hnb6 := NB118_119.out; have hnc6 := NB119_118.out; have hcz7_0 : w5.cell? ⟨gb118, 0, none⟩ = some (.int .i64 a0_0) := (zB BK118.out 0).trans rfl; have hcz7_1 : w5.cell? ⟨gb118, 1, none⟩ = some (.int .u64 a0_1) := (zB BK118.out 1).trans rfl; have hcz7_2 : w5.cell? ⟨gb118, 2, none⟩ = some (.int .u64 a0_2) := (zB BK118.out 2).trans rfl; have hcz7_3 : w5.cell? ⟨gb118, 3, none⟩ = some (.int .u64 a0_3) := (zB BK118.out 3).trans rfl; have hcz7_4 : w5.cell? ⟨gb118, 4, none⟩ = some (.int .u64 a0_4) := (zB BK118.out 4).trans rfl; have hcz7_5 : w5.cell? ⟨gb118, 5, none⟩ = some (.slice A0_5 l0_5.length c0_5) := (zB BK118.out 5).trans rfl; have hcz7_6 : w5.cell? ⟨gb118, 6, none⟩ = some (.int .i64 a0_6) := (zB BK118.out 6).trans rfl; have hcz7_7 : w5.cell? ⟨gb118, 7, none⟩ = some (.int .i64 a0_7) := (zB BK118.out 7).trans rfl; have hfz7_0 := zA BK118.out 0; have hfz7_1 := zA BK118.out 1; have hfz7_2 := zA BK118.out 2; have hfz7_3 := zA BK118.out 3; have hfz7_4 := zA BK118.out 4; have hfz7_5 := zA BK118.out 5; have hfz7_6 := zA BK118.out 6; have hfz7_7 := zA BK118.out 7) | ((with_reducible refine gate_callee (f := 32) rfl ?_); refine goesL_ (some 7) rfl rfl Try.func32 (by kernel_rfl) rfl #[.agg #[.int .i64 a0_0, .int .u64 a0_1, .int .u64 a0_2, .int .u64 a0_3, .int .u64 a0_4, .slice A0_5 l0_5.length c0_5, .int .i64 a0_6, .int .i64 a0_7]] rfl (by (try simp only [List.map_toArray, List.map_cons, List.map_nil]); first | done | rfl | (simp only [List.length_drop, List.length_take]; rfl)) ?_; (with_reducible refine (core_void.calls a0_0 a0_1 a0_2 a0_3 a0_4 _ _ l0_5 a0_6 a0_7 true _ ?side1 ?side2 A2.out).mono ?_); (case side1 => repeat (first | exact (Kd.V_reads' HO0_5.out).2.2 | (with_reducible refine Kd.C_alloc ?_ _) | (with_reducible refine Kd.C_drewN ?_ _) | (with_reducible refine Kd.C_drew ?_))); (case side2 => exact (Kd.V_reads' HO0_5.out).2.1); rintro e w8 ⟨rfl, hb⟩; refine ⟨_, rfl, ?_⟩; have n0_ := zN (Kd.V_below (by (with_reducible repeat (first | apply Kd.V_alloc | apply Kd.V_drewN | apply Kd.V_drew)); exact HO0_5.out) hb); have n1_ := zN (zM (g := gb118) (o := .cells #[.int .i64 a0_0, .int .u64 a0_1, .int .u64 a0_2, .int .u64 a0_3, .int .u64 a0_4, .slice A0_5 l0_5.length c0_5, .int .i64 a0_6, .int .i64 a0_7] 27 (0, 0)) (by (with_reducible repeat (first | refine zH ?_ _ | refine zI ?_ | refine zG ?_ _)); exact BK118.out) hb); have n2_ := zN (zM (g := gb119) (o := .cells #[.int .i64 0, .int .u64 0, .int .u64 0, .int .u64 0, .int .u64 0, .slice none 0 0, .int .i64 0, .int .i64 0] 27 (0, 0)) (by (with_reducible repeat (first | refine zH ?_ _ | refine zI ?_ | refine zG ?_ _)); exact BK119.out) hb); have n3_ := zN (zJ (by repeat (first | (with_reducible first | exact HB.out | apply zE | apply zC | apply zD | refine zF ?_ GE118.out | refine zF ?_ GE119.out) | exact HB.out)) hb); clear HO0_5; clear BK118; clear BK119; clear HB; have HO0_5 := n0_; have BK118 := n1_; have BK119 := n2_; have HB := n3_; clear n0_ n1_ n2_ n3_; (try clear hb); (try clear hb2); (try clear hk); (try clear hi); have hcz9_0 : w8.cell? ⟨gb119, 0, none⟩ = some (.int .i64 0) := (zB BK119.out 0).trans rfl; have hcz9_1 : w8.cell? ⟨gb119, 1, none⟩ = some (.int .u64 0) := (zB BK119.out 1).trans rfl; have hcz9_2 : w8.cell? ⟨gb119, 2, none⟩ = some (.int .u64 0) := (zB BK119.out 2).trans rfl; have hcz9_3 : w8.cell? ⟨gb119, 3, none⟩ = some (.int .u64 0) := (zB BK119.out 3).trans rfl; have hcz9_4 : w8.cell? ⟨gb119, 4, none⟩ = some (.int .u64 0) := (zB BK119.out 4).trans rfl; have hcz9_5 : w8.cell? ⟨gb119, 5, none⟩ = some (.slice none 0 0) := (zB BK119.out 5).trans rfl; have hcz9_6 : w8.cell? ⟨gb119, 6, none⟩ = some (.int .i64 0) := (zB BK119.out 6).trans rfl; have hcz9_7 : w8.cell? ⟨gb119, 7, none⟩ = some (.int .i64 0) := (zB BK119.out 7).trans rfl; have hfz9_0 := zA BK119.out 0; have hfz9_1 := zA BK119.out 1; have hfz9_2 := zA BK119.out 2; have hfz9_3 := zA BK119.out 3; have hfz9_4 := zA BK119.out 4; have hfz9_5 := zA BK119.out 5; have hfz9_6 := zA BK119.out 6; have hfz9_7 := zA BK119.out 7))
  refine bodyPost_ret (results_cell_row rfl _ _ gb119 27 #[.int .i64 1, .int .u64 0, .int .u64 0, .int .u64 0, .int .u64 0, .slice none 0 0, .int .i64 0, .int .i64 0] (0, 0) _ rfl (by (with_reducible repeat (first | refine zH ?_ _ | refine zI ?_ | refine zG ?_ _)); refine blk_put (cs := #[.int .i64 1, .int .u64 0, .int .u64 0, .int .u64 0, .int .u64 0, .slice none 0 0, .int .i64 0, .int .i64 0]) ?_ 7 _ rfl; (with_reducible repeat (first | refine zH ?_ _ | refine zI ?_ | refine zG ?_ _)); refine blk_put (cs := #[.int .i64 1, .int .u64 0, .int .u64 0, .int .u64 0, .int .u64 0, .slice none 0 0, .int .i64 0, .int .i64 0]) ?_ 6 _ rfl; (with_reducible repeat (first | refine zH ?_ _ | refine zI ?_ | refine zG ?_ _)); refine blk_put (cs := #[.int .i64 1, .int .u64 0, .int .u64 0, .int .u64 0, .int .u64 0, .slice none 0 0, .int .i64 0, .int .i64 0]) ?_ 5 _ rfl; (with_reducible repeat (first | refine zH ?_ _ | refine zI ?_ | refine zG ?_ _)); refine blk_put (cs := #[.int .i64 1, .int .u64 0, .int .u64 0, .int .u64 0, .int .u64 0, .slice none 0 0, .int .i64 0, .int .i64 0]) ?_ 4 _ rfl; (with_reducible repeat (first | refine zH ?_ _ | refine zI ?_ | refine zG ?_ _)); refine blk_put (cs := #[.int .i64 1, .int .u64 0, .int .u64 0, .int .u64 0, .int .u64 0, .slice none 0 0, .int .i64 0, .int .i64 0]) ?_ 3 _ rfl; (with_reducible repeat (first | refine zH ?_ _ | refine zI ?_ | refine zG ?_ _)); refine blk_put (cs := #[.int .i64 1, .int .u64 0, .int .u64 0, .int .u64 0, .int .u64 0, .slice none 0 0, .int .i64 0, .int .i64 0]) ?_ 2 _ rfl; (with_reducible repeat (first | refine zH ?_ _ | refine zI ?_ | refine zG ?_ _)); refine blk_put (cs := #[.int .i64 1, .int .u64 0, .int .u64 0, .int .u64 0, .int .u64 0, .slice none 0 0, .int .i64 0, .int .i64 0]) ?_ 1 _ rfl; (with_reducible repeat (first | refine zH ?_ _ | refine zI ?_ | refine zG ?_ _)); refine blk_put (cs := #[.int .i64 0, .int .u64 0, .int .u64 0, .int .u64 0, .int .u64 0, .slice none 0 0, .int .i64 0, .int .i64 0]) ?_ 0 _ rfl; (with_reducible repeat (first | refine zH ?_ _ | refine zI ?_ | refine zG ?_ _)); exact BK119.out) Try.underlying27 rfl (by kernel_rfl)) rfl ?_
  exact ⟨_, by first | rfl | (simp [errW_none, errW_some] <;> rfl) | (simp [*, errW_none, errW_some] <;> rfl), Kd.V_nil _ _ _ _ _, by repeat (first | (with_reducible first | exact HB.out | apply zE | apply zC | apply zD | refine zF ?_ GE118.out | refine zF ?_ GE119.out) | exact HB.out)⟩
 ·
  replace c3 := Bool.eq_false_iff.mpr c3
  subst c3
  have H1 : (core_simple.l0 k ([] : List (S27)) l0_5 (l0_5.length : Int) 0 a0_0 a0_1 a0_2 a0_3 a0_4 l0_5 a0_6 a0_7) = some (r1, r2, r3, r4, r5, r6, r7, r8) := by rw [if_neg (show ¬ (false = true) by decide)] at H; exact H
  clear H
  have H := H1
  clear H1
  have H' := zN H
  clear H
  go_enter Try.func23, Try.ntmps23
  go_wp2_with (first | ((with_reducible refine gate_dst (N := 1) rfl ?_); refine box_event ?hg (N := 1) ?hd (cs := #[.int .i64 a0_0, .int .u64 a0_1, .int .u64 a0_2, .int .u64 a0_3, .int .u64 a0_4, .slice A0_5 l0_5.length c0_5, .int .i64 a0_6, .int .i64 a0_7]) (t := 27) ?hr ?_; (case hd => rfl); (case hg => rfl); (case hr => first | (go_simp; done) | (go_simp; rfl)); intro gb118 hg w10 hbox hb; have n0_ := zN (Kd.V_below (Kd.V_elderB (by (with_reducible repeat (first | apply Kd.V_alloc | apply Kd.V_drewN | apply Kd.V_drew)); exact HO0_5.out) gb118 (Nat.le_of_eq hg.symm)) hb); have n1_ := zN (zJ (by repeat (first | (with_reducible first | exact HB.out | apply zE | apply zC | apply zD) | exact HB.out)) hb); have n2_ := zN (hbox); have n3_ := zN ((by rw [hg]; exact (zK (by repeat (first | (with_reducible first | exact HB.out | apply zE | apply zC | apply zD) | exact HB.out))) : w.heap.size ≤ gb118)); have n4_ := zN ((by rw [hg]; exact (zK (by repeat (first | (with_reducible first | exact HB.out | apply zE | apply zC | apply zD) | exact HB.out))) : w.heap.size ≤ gb118)); clear HO0_5; clear HB; have HO0_5 := n0_; have HB := n1_; have BK118 := n2_; have GW118 := n3_; have GE118 := n4_; clear n0_ n1_ n2_ n3_ n4_; clear hb hbox hg) | ((with_reducible refine gate_dst (N := 2) rfl ?_); refine box_event ?hg (N := 2) ?hd (cs := #[.int .i64 0, .int .u64 0, .int .u64 0, .int .u64 0, .int .u64 0, .slice none 0 0, .int .i64 0, .int .i64 0]) (t := 27) ?hr ?_; (case hd => rfl); (case hg => rfl); (case hr => first | (go_simp; done) | (go_simp; rfl)); intro gb119 hg w11 hbox hb; have n0_ := zN (Kd.V_below (Kd.V_elderB (by (with_reducible repeat (first | apply Kd.V_alloc | apply Kd.V_drewN | apply Kd.V_drew)); exact HO0_5.out) gb119 (Nat.le_of_eq hg.symm)) hb); have n1_ := zN (zM (g := gb118) (o := .cells #[.int .i64 a0_0, .int .u64 a0_1, .int .u64 a0_2, .int .u64 a0_3, .int .u64 a0_4, .slice A0_5 l0_5.length c0_5, .int .i64 a0_6, .int .i64 a0_7] 27 (0, 0)) (by (with_reducible repeat (first | refine zH ?_ _ | refine zI ?_ | refine zG ?_ _)); exact BK118.out) hb); have n2_ := zN (zJ (by repeat (first | (with_reducible first | exact HB.out | apply zE | apply zC | apply zD | refine zF ?_ GE118.out) | exact HB.out)) hb); have n3_ := zN (hbox); have n4_ := zN ((by rw [hg]; exact (zK (by repeat (first | (with_reducible first | exact HB.out | apply zE | apply zC | apply zD | refine zF ?_ GE118.out) | exact HB.out))) : w.heap.size ≤ gb119)); have n5_ := zN ((by rw [hg]; exact (zK (by repeat (first | (with_reducible first | exact HB.out | apply zE | apply zC | apply zD | refine zF ?_ GE118.out) | exact HB.out))) : w.heap.size ≤ gb119)); have n6_ := zN ((by rw [hg]; exact Nat.ne_of_lt (blk_lt (g := gb118) (o := .cells #[.int .i64 a0_0, .int .u64 a0_1, .int .u64 a0_2, .int .u64 a0_3, .int .u64 a0_4, .slice A0_5 l0_5.length c0_5, .int .i64 a0_6, .int .i64 a0_7] 27 (0, 0)) (by (with_reducible repeat (first | refine zH ?_ _ | refine zI ?_ | refine zG ?_ _)); exact BK118.out)) : gb118 ≠ gb119)); have n7_ := zN ((by rw [hg]; exact Nat.ne_of_gt (blk_lt (g := gb118) (o := .cells #[.int .i64 a0_0, .int .u64 a0_1, .int .u64 a0_2, .int .u64 a0_3, .int .u64 a0_4, .slice A0_5 l0_5.length c0_5, .int .i64 a0_6, .int .i64 a0_7] 27 (0, 0)) (by (with_reducible repeat (first | refine zH ?_ _ | refine zI ?_ | refine zG ?_ _)); exact BK118.out)) : gb119 ≠ gb118)); clear HO0_5; clear BK118; clear HB; have HO0_5 := n0_; have BK118 := n1_; have HB := n2_; have BK119 := n3_; have GW119 := n4_; have GE119 := n5_; have NB118_119 := n6_; have NB119_118 := n7_; clear n0_ n1_ n2_ n3_ n4_ n5_ n6_ n7_; clear hb hbox hg; have hnb12 := NB118_119.out; have hnc12 := NB119_118.out; have hcz13_0 : w11.cell? ⟨gb118, 0, none⟩ = some (.int .i64 a0_0) := (zB BK118.out 0).trans rfl; have hcz13_1 : w11.cell? ⟨gb118, 1, none⟩ = some (.int .u64 a0_1) := (zB BK118.out 1).trans rfl; have hcz13_2 : w11.cell? ⟨gb118, 2, none⟩ = some (.int .u64 a0_2) := (zB BK118.out 2).trans rfl; have hcz13_3 : w11.cell? ⟨gb118, 3, none⟩ = some (.int .u64 a0_3) := (zB BK118.out 3).trans rfl; have hcz13_4 : w11.cell? ⟨gb118, 4, none⟩ = some (.int .u64 a0_4) := (zB BK118.out 4).trans rfl; have hcz13_5 : w11.cell? ⟨gb118, 5, none⟩ = some (.slice A0_5 l0_5.length c0_5) := (zB BK118.out 5).trans rfl; have hcz13_6 : w11.cell? ⟨gb118, 6, none⟩ = some (.int .i64 a0_6) := (zB BK118.out 6).trans rfl; have hcz13_7 : w11.cell? ⟨gb118, 7, none⟩ = some (.int .i64 a0_7) := (zB BK118.out 7).trans rfl; have hfz13_0 := zA BK118.out 0; have hfz13_1 := zA BK118.out 1; have hfz13_2 := zA BK118.out 2; have hfz13_3 := zA BK118.out 3; have hfz13_4 := zA BK118.out 4; have hfz13_5 := zA BK118.out 5; have hfz13_6 := zA BK118.out 6; have hfz13_7 := zA BK118.out 7) | ((with_reducible refine gate_callee (f := 32) rfl ?_); refine goesL_ (some 7) rfl rfl Try.func32 (by kernel_rfl) rfl #[.agg #[.int .i64 a0_0, .int .u64 a0_1, .int .u64 a0_2, .int .u64 a0_3, .int .u64 a0_4, .slice A0_5 l0_5.length c0_5, .int .i64 a0_6, .int .i64 a0_7]] rfl (by (try simp only [List.map_toArray, List.map_cons, List.map_nil]); first | done | rfl | (simp only [List.length_drop, List.length_take]; rfl)) ?_; (with_reducible refine (core_void.calls a0_0 a0_1 a0_2 a0_3 a0_4 _ _ l0_5 a0_6 a0_7 false _ ?side1 ?side2 A2.out).mono ?_); (case side1 => repeat (first | exact (Kd.V_reads' HO0_5.out).2.2 | (with_reducible refine Kd.C_alloc ?_ _) | (with_reducible refine Kd.C_drewN ?_ _) | (with_reducible refine Kd.C_drew ?_))); (case side2 => exact (Kd.V_reads' HO0_5.out).2.1); rintro e w14 ⟨rfl, hb⟩; refine ⟨_, rfl, ?_⟩; have n0_ := zN (Kd.V_below (by (with_reducible repeat (first | apply Kd.V_alloc | apply Kd.V_drewN | apply Kd.V_drew)); exact HO0_5.out) hb); have n1_ := zN (zM (g := gb118) (o := .cells #[.int .i64 a0_0, .int .u64 a0_1, .int .u64 a0_2, .int .u64 a0_3, .int .u64 a0_4, .slice A0_5 l0_5.length c0_5, .int .i64 a0_6, .int .i64 a0_7] 27 (0, 0)) (by (with_reducible repeat (first | refine zH ?_ _ | refine zI ?_ | refine zG ?_ _)); exact BK118.out) hb); have n2_ := zN (zM (g := gb119) (o := .cells #[.int .i64 0, .int .u64 0, .int .u64 0, .int .u64 0, .int .u64 0, .slice none 0 0, .int .i64 0, .int .i64 0] 27 (0, 0)) (by (with_reducible repeat (first | refine zH ?_ _ | refine zI ?_ | refine zG ?_ _)); exact BK119.out) hb); have n3_ := zN (zJ (by repeat (first | (with_reducible first | exact HB.out | apply zE | apply zC | apply zD | refine zF ?_ GE118.out | refine zF ?_ GE119.out) | exact HB.out)) hb); clear HO0_5; clear BK118; clear BK119; clear HB; have HO0_5 := n0_; have BK118 := n1_; have BK119 := n2_; have HB := n3_; clear n0_ n1_ n2_ n3_; (try clear hb); (try clear hb2); (try clear hk); (try clear hi); have hcz15_0 : w14.cell? ⟨gb118, 0, none⟩ = some (.int .i64 a0_0) := (zB BK118.out 0).trans rfl; have hcz15_1 : w14.cell? ⟨gb118, 1, none⟩ = some (.int .u64 a0_1) := (zB BK118.out 1).trans rfl; have hcz15_2 : w14.cell? ⟨gb118, 2, none⟩ = some (.int .u64 a0_2) := (zB BK118.out 2).trans rfl; have hcz15_3 : w14.cell? ⟨gb118, 3, none⟩ = some (.int .u64 a0_3) := (zB BK118.out 3).trans rfl; have hcz15_4 : w14.cell? ⟨gb118, 4, none⟩ = some (.int .u64 a0_4) := (zB BK118.out 4).trans rfl; have hcz15_5 : w14.cell? ⟨gb118, 5, none⟩ = some (.slice A0_5 l0_5.length c0_5) := (zB BK118.out 5).trans rfl; have hcz15_6 : w14.cell? ⟨gb118, 6, none⟩ = some (.int .i64 a0_6) := (zB BK118.out 6).trans rfl; have hcz15_7 : w14.cell? ⟨gb118, 7, none⟩ = some (.int .i64 a0_7) := (zB BK118.out 7).trans rfl; have hfz15_0 := zA BK118.out 0; have hfz15_1 := zA BK118.out 1; have hfz15_2 := zA BK118.out 2; have hfz15_3 := zA BK118.out 3; have hfz15_4 := zA BK118.out 4; have hfz15_5 := zA BK118.out 5; have hfz15_6 := zA BK118.out 6; have hfz15_7 := zA BK118.out 7))
  go_loopg [3, 12] k (fun kq v3 v12 w' => ∃ (x3_1 : List (S27)) (x12_1 : Int), v12 = .int .i64 x12_1 ∧ Aside0 (core_simple.l0 kq x3_1 l0_5 (l0_5.length : Int) x12_1 a0_0 a0_1 a0_2 a0_3 a0_4 l0_5 a0_6 a0_7 = some (r1, r2, r3, r4, r5, r6, r7, r8)) ∧ Aside0 (kq ≤ k) ∧ Aside0 (Kd.N k27 27 w' w.heap.size (fun k_ => (P0_5_ k_ ∨ w.heap.size ≤ k_) ∧ k_ ≠ gb118 ∧ k_ ≠ gb119) v3 x3_1) ∧ Aside0 (Kd.V k27 27 w' w.heap.size (fun k_ => (P0_5_ k_ ∨ w.heap.size ≤ k_) ∧ some k_ ≠ (v3 : Value).ownBlock ∧ k_ ≠ gb118 ∧ k_ ≠ gb119) (.slice A0_5 l0_5.length c0_5) l0_5) ∧ Aside0 (Kd.V k27 27 w' w.heap.size (fun k_ => (P0_5_ k_ ∨ w.heap.size ≤ k_) ∧ some k_ ≠ (v3 : Value).ownBlock ∧ k_ ≠ gb118 ∧ k_ ≠ gb119) (.slice A0_5 l0_5.length c0_5) l0_5) ∧ Aside0 (w'.heap[gb118]? = some (.cells #[.int .i64 a0_0, .int .u64 a0_1, .int .u64 a0_2, .int .u64 a0_3, .int .u64 a0_4, (.slice A0_5 l0_5.length c0_5), .int .i64 a0_6, .int .i64 a0_7] 27 (0, 0))) ∧ Aside0 (w'.heap[gb119]? = some (.cells #[.int .i64 0, .int .u64 0, .int .u64 0, .int .u64 0, .int .u64 0, (.slice none 0 0), .int .i64 0, .int .i64 0] 27 (0, 0))) ∧ Aside0 (Below w.heap.size w w'))
  case atStart => exact ⟨(([] : List (S27))), (0), (by first | rfl | (simp; done) | (simp [*]; done)), H', ⟨Nat.le_refl _⟩, ⟨by first | exact Kd.R_nil _ _ _ _ _ | exact Kd.N_nil _ _ _ _ _ | exact Kd.V_nil _ _ _ _ _ | exact Kd.Q_nil _ _ _ _ _ | exact Kd.S_nil _ _ _ _ _⟩, ⟨by (with_reducible repeat (first | apply Kd.V_alloc | apply Kd.V_drewN | apply Kd.V_drew)); exact Kd.V_mono HO0_5.out (fun _ hk => ⟨hk.1.1, ⟨(by simp [Value.ownBlock]), ⟨hk.1.2, hk.2⟩⟩⟩)⟩, ⟨by (with_reducible repeat (first | apply Kd.V_alloc | apply Kd.V_drewN | apply Kd.V_drew)); exact Kd.V_mono HO0_5.out (fun _ hk => ⟨hk.1.1, ⟨(by simp [Value.ownBlock]), ⟨hk.1.2, hk.2⟩⟩⟩)⟩, ⟨by (with_reducible repeat (first | refine zH ?_ _ | refine zI ?_ | refine zG ?_ _)); exact BK118.out⟩, ⟨by (with_reducible repeat (first | refine zH ?_ _ | refine zI ?_ | refine zG ?_ _)); exact BK119.out⟩, ⟨by repeat (first | (with_reducible first | exact HB.out | apply zE | apply zC | apply zD | refine zF ?_ GE118.out | refine zF ?_ GE119.out) | exact HB.out)⟩⟩
  case round =>
   clear H'
   (try clear c1); (try clear c2); (try clear p2); (try clear c3); (try clear c6); (try clear c12); (try clear hcz13_0 hcz13_1 hcz13_2 hcz13_3 hcz13_4 hcz13_5 hcz13_6 hcz13_7); (try clear hcz15_0 hcz15_1 hcz15_2 hcz15_3 hcz15_4 hcz15_5 hcz15_6 hcz15_7); (try clear hcz7_0 hcz7_1 hcz7_2 hcz7_3 hcz7_4 hcz7_5 hcz7_6 hcz7_7); (try clear hcz9_0 hcz9_1 hcz9_2 hcz9_3 hcz9_4 hcz9_5 hcz9_6 hcz9_7); (try clear hfz13_0 hfz13_1 hfz13_2 hfz13_3 hfz13_4 hfz13_5 hfz13_6 hfz13_7); (try clear hfz15_0 hfz15_1 hfz15_2 hfz15_3 hfz15_4 hfz15_5 hfz15_6 hfz15_7); (try clear hfz7_0 hfz7_1 hfz7_2 hfz7_3 hfz7_4 hfz7_5 hfz7_6 hfz7_7); (try clear hfz9_0 hfz9_1 hfz9_2 hfz9_3 hfz9_4 hfz9_5 hfz9_6 hfz9_7)
   obtain ⟨x3_1, x12_1, rfl, HA, HK1, HO_3, HO_10, HO_119005, BK118, BK119, HB⟩ := hrel
   cases gk with
   | zero => exact absurd HA.out (by simp [core_simple.l0])
   | succ k1 =>
    have H := HA.out
    clear HA
    simp only [core_simple.l0] at H
    by_cases c16 : x12_1 < (l0_5.length : Int)
    ·
     rw [if_pos c16] at H
     have c16b0 : decide (x12_1 < (l0_5.length : Int)) = true := decide_eq_true c16
     clear c16
     by_cases c17 : 0 ≤ x12_1
     ·
      rw [if_pos c17] at H
      have c17b0 : decide (0 ≤ x12_1) = true := decide_eq_true c17
      clear c17
      by_cases c18 : x12_1 < (l0_5.length : Int)
      ·
       rw [if_pos c18] at H
       have c18b0 : decide (x12_1 < (l0_5.length : Int)) = true := decide_eq_true c18
       clear c18
       replace H := Option.bind_eq_some_iff.mp H
       obtain ⟨⟨t123, t124, t125, t126, t127, t128, t131, t132⟩, A190, H⟩ := H
       replace H : (if x3_1.length < 1759218604441 then (core_simple.l0 k1 (x3_1 ++ [(⟨t123, (⟨t124, t125, t126, t127⟩ : S24), t128, t131, t132⟩ : S27)]) l0_5 (l0_5.length : Int) (wrap64 (x12_1 + 1)) a0_0 a0_1 a0_2 a0_3 a0_4 l0_5 a0_6 a0_7) else (none)) = some (r1, r2, r3, r4, r5, r6, r7, r8) := H
       have A19 := zN A190
       clear A190
       by_cases c20 : x3_1.length < 1759218604441
       ·
        rw [if_pos c20] at H
        have LMc20 := zN c20
        clear c20
        obtain ⟨y133, hy133⟩ : ∃ y_ : List (S27), y_ = (x3_1 ++ [(⟨t123, (⟨t124, t125, t126, t127⟩ : S24), t128, t131, t132⟩ : S27)]) := ⟨_, rfl⟩
        replace H : (core_simple.l0 k1 y133 l0_5 (l0_5.length : Int) (wrap64 (x12_1 + 1)) a0_0 a0_1 a0_2 a0_3 a0_4 l0_5 a0_6 a0_7) = some (r1, r2, r3, r4, r5, r6, r7, r8) := by first | (rw [hy133]; with_reducible exact H) | (have H2_ := (Option.bind_some _ _).symm.trans H; rw [hy133]; with_reducible exact H2_) | (have H2_ := (Option.bind_some _ _).symm.trans H; with_reducible exact H2_) | with_reducible exact H | (rw [hy133]; exact H) | exact H
        have Ny133 := zN hy133
        clear hy133
        have H' := zN H
        clear H
        have p121 : 0 ≤ (x12_1 : Int) := of_decide_eq_true (by first | (with_reducible assumption) | assumption)
        have q121 : x12_1 < (l0_5.length : Int) := of_decide_eq_true (by first | (with_reducible assumption) | assumption)
        obtain ⟨ad121, A121_5, c121_5, e121, hx121_0, hx121_1, hx121_2, hx121_3, hx121_4, hx121_5, hx121_6, hx121_7, hl121_5, hi121_5⟩ := at_T27 (Kd.V_reads' HO_10.out).2.2 x12_1 p121 q121
        cases e121
        obtain ⟨ce121, hce121, hMe121, hcc121⟩ := Kd.V_get HO_10.out z27 x12_1 p121 (by first | exact q121 | exact of_decide_eq_true (by first | (with_reducible assumption) | assumption) | (have e_ := (Kd.V_reads' HO_10.out).1; omega))
        obtain ⟨ua121_5, uc121_5, rfl, ul121_5, ge121_5⟩ := k27_openF hMe121
        have hv121_5 := hcc121 5 _ rfl
        rw [add_field _ _ 5 (by omega)] at hv121_5
        replace hv121_5 := Option.some.inj (hv121_5.symm.trans hx121_5)
        injection hv121_5 with hva_ hvn_ hvc_
        rw [hva_] at ge121_5
        rw [hvc_] at ul121_5
        have HL121_5 := zN (show Kd.V k27 27 _ w.heap.size _ _ ((rd_T27 l0_5 x12_1).f2) from Kd.V_mk ul121_5 ge121_5)
        clear hva_ hvn_ hvc_ ge121_5 ul121_5 hcc121 hce121
        have HR121_5 := zN hi121_5
        have HC121_5 := zN hl121_5
        clear hi121_5 hl121_5
        replace p121 := eq_true p121
        replace q121 := eq_true q121
        go_wp2_with (first | ((with_reducible refine gate_dst (N := 5) rfl ?_); refine box_event ?hg (N := 5) ?hd (cs := #[.int .i64 0, .int .u64 0, .int .u64 0, .int .u64 0, .int .u64 0, .slice none 0 0, .int .i64 0, .int .i64 0]) (t := 27) ?hr ?_; (case hd => rfl); (case hg => rfl); (case hr => first | (go_simp; done) | (go_simp; rfl)); intro gb122 hg w21 hbox hb; have n0_ := zN (Kd.N_below (Kd.N_elderB (by (with_reducible repeat (first | apply Kd.N_alloc | apply Kd.N_drewN | apply Kd.N_drew)); exact HO_3.out) gb122 (Nat.le_of_eq hg.symm)) hb); have n1_ := zN (Kd.V_below (Kd.V_elderB (by (with_reducible repeat (first | apply Kd.V_alloc | apply Kd.V_drewN | apply Kd.V_drew)); exact HO_10.out) gb122 (Nat.le_of_eq hg.symm)) hb); have n2_ := zN (Kd.V_below (Kd.V_elderB (by (with_reducible repeat (first | apply Kd.V_alloc | apply Kd.V_drewN | apply Kd.V_drew)); exact HO_119005.out) gb122 (Nat.le_of_eq hg.symm)) hb); have n3_ := zN (Kd.V_below (Kd.V_elderB (by (with_reducible repeat (first | apply Kd.V_alloc | apply Kd.V_drewN | apply Kd.V_drew)); exact HL121_5.out) gb122 (Nat.le_of_eq hg.symm)) hb); have n4_ := zN (zM (g := gb118) (o := .cells #[.int .i64 a0_0, .int .u64 a0_1, .int .u64 a0_2, .int .u64 a0_3, .int .u64 a0_4, .slice (some ad121) l0_5.length c0_5, .int .i64 a0_6, .int .i64 a0_7] 27 (0, 0)) (by (with_reducible repeat (first | refine zH ?_ _ | refine zI ?_ | refine zG ?_ _)); exact BK118.out) hb); have n5_ := zN (zM (g := gb119) (o := .cells #[.int .i64 0, .int .u64 0, .int .u64 0, .int .u64 0, .int .u64 0, .slice none 0 0, .int .i64 0, .int .i64 0] 27 (0, 0)) (by (with_reducible repeat (first | refine zH ?_ _ | refine zI ?_ | refine zG ?_ _)); exact BK119.out) hb); have n6_ := zN (Kd.C_below (by repeat (first | (with_reducible exact HR121_5.out) | (with_reducible refine Kd.C_alloc ?_ _) | (with_reducible refine Kd.C_drewN ?_ _) | (with_reducible refine Kd.C_drew ?_) | exact HR121_5.out)) hb); have n7_ := zN (zJ (by repeat (first | (with_reducible first | exact HB.out | apply zE | apply zC | apply zD | refine zF ?_ GE118.out | refine zF ?_ GE119.out) | exact HB.out)) hb); have n8_ := zN (hbox); have n9_ := zN ((by rw [hg]; exact (zK (by repeat (first | (with_reducible first | exact HB.out | apply zE | apply zC | apply zD | refine zF ?_ GE118.out | refine zF ?_ GE119.out) | exact HB.out))) : w.heap.size ≤ gb122)); have n10_ := zN ((by rw [hg]; exact (zK (by repeat (first | (with_reducible first | exact HB.out | apply zE | apply zC | apply zD | refine zF ?_ GE118.out | refine zF ?_ GE119.out) | exact HB.out))) : w.heap.size ≤ gb122)); have n11_ := zN ((by rw [hg]; exact Nat.ne_of_lt (blk_lt (g := gb118) (o := .cells #[.int .i64 a0_0, .int .u64 a0_1, .int .u64 a0_2, .int .u64 a0_3, .int .u64 a0_4, .slice (some ad121) l0_5.length c0_5, .int .i64 a0_6, .int .i64 a0_7] 27 (0, 0)) (by (with_reducible repeat (first | refine zH ?_ _ | refine zI ?_ | refine zG ?_ _)); exact BK118.out)) : gb118 ≠ gb122)); have n12_ := zN ((by rw [hg]; exact Nat.ne_of_gt (blk_lt (g := gb118) (o := .cells #[.int .i64 a0_0, .int .u64 a0_1, .int .u64 a0_2, .int .u64 a0_3, .int .u64 a0_4, .slice (some ad121) l0_5.length c0_5, .int .i64 a0_6, .int .i64 a0_7] 27 (0, 0)) (by (with_reducible repeat (first | refine zH ?_ _ | refine zI ?_ | refine zG ?_ _)); exact BK118.out)) : gb122 ≠ gb118)); have n13_ := zN ((by rw [hg]; exact Nat.ne_of_lt (blk_lt (g := gb119) (o := .cells #[.int .i64 0, .int .u64 0, .int .u64 0, .int .u64 0, .int .u64 0, .slice none 0 0, .int .i64 0, .int .i64 0] 27 (0, 0)) (by (with_reducible repeat (first | refine zH ?_ _ | refine zI ?_ | refine zG ?_ _)); exact BK119.out)) : gb119 ≠ gb122)); have n14_ := zN ((by rw [hg]; exact Nat.ne_of_gt (blk_lt (g := gb119) (o := .cells #[.int .i64 0, .int .u64 0, .int .u64 0, .int .u64 0, .int .u64 0, .slice none 0 0, .int .i64 0, .int .i64 0] 27 (0, 0)) (by (with_reducible repeat (first | refine zH ?_ _ | refine zI ?_ | refine zG ?_ _)); exact BK119.out)) : gb122 ≠ gb119)); clear HO_3; clear HO_10; clear HO_119005; clear HL121_5; clear BK118; clear BK119; clear HR121_5; clear HB; have HO_3 := n0_; have HO_10 := n1_; have HO_119005 := n2_; have HL121_5 := n3_; have BK118 := n4_; have BK119 := n5_; have HR121_5 := n6_; have HB := n7_; have BK122 := n8_; have GW122 := n9_; have GE122 := n10_; have NB118_122 := n11_; have NB122_118 := n12_; have NB119_122 := n13_; have NB122_119 := n14_; clear n0_ n1_ n2_ n3_ n4_ n5_ n6_ n7_ n8_ n9_ n10_ n11_ n12_ n13_ n14_; clear hb hbox hg; have hnb22 := NB122_118.out; have hnc22 := NB118_122.out; have hnb23 := NB122_119.out; have hnc23 := NB119_122.out; have hcz24_0 : w21.cell? ⟨gb122, 0, none⟩ = some (.int .i64 0) := (zB BK122.out 0).trans rfl; have hcz24_1 : w21.cell? ⟨gb122, 1, none⟩ = some (.int .u64 0) := (zB BK122.out 1).trans rfl; have hcz24_2 : w21.cell? ⟨gb122, 2, none⟩ = some (.int .u64 0) := (zB BK122.out 2).trans rfl; have hcz24_3 : w21.cell? ⟨gb122, 3, none⟩ = some (.int .u64 0) := (zB BK122.out 3).trans rfl; have hcz24_4 : w21.cell? ⟨gb122, 4, none⟩ = some (.int .u64 0) := (zB BK122.out 4).trans rfl; have hcz24_5 : w21.cell? ⟨gb122, 5, none⟩ = some (.slice none 0 0) := (zB BK122.out 5).trans rfl; have hcz24_6 : w21.cell? ⟨gb122, 6, none⟩ = some (.int .i64 0) := (zB BK122.out 6).trans rfl; have hcz24_7 : w21.cell? ⟨gb122, 7, none⟩ = some (.int .i64 0) := (zB BK122.out 7).trans rfl; have hfz24_0 := zA BK122.out 0; have hfz24_1 := zA BK122.out 1; have hfz24_2 := zA BK122.out 2; have hfz24_3 := zA BK122.out 3; have hfz24_4 := zA BK122.out 4; have hfz24_5 := zA BK122.out 5; have hfz24_6 := zA BK122.out 6; have hfz24_7 := zA BK122.out 7) | ((with_reducible refine gate_store (t := 27) (p := 5) rfl ?_); refine store_event (t := 27) (p := 5) (v := ?vo_w25) (w1 := ((((((((w21.setCell ⟨gb122, 0, none⟩ (.int .i64 ((rd_T27 l0_5 x12_1).f0))).setCell ⟨gb122, 1, none⟩ (.int .u64 ((rd_T27 l0_5 x12_1).f1.f0))).setCell ⟨gb122, 2, none⟩ (.int .u64 ((rd_T27 l0_5 x12_1).f1.f1))).setCell ⟨gb122, 3, none⟩ (.int .u64 ((rd_T27 l0_5 x12_1).f1.f2))).setCell ⟨gb122, 4, none⟩ (.int .u64 ((rd_T27 l0_5 x12_1).f1.f3))).setCell ⟨gb122, 5, none⟩ (.slice A121_5 ((rd_T27 l0_5 x12_1).f2).length c121_5)).setCell ⟨gb122, 6, none⟩ (.int .i64 ((rd_T27 l0_5 x12_1).f3))).setCell ⟨gb122, 7, none⟩ (.int .i64 ((rd_T27 l0_5 x12_1).f4)))) ?hg ?ho ?hn ?hr ?_; (case ho => rfl); (case hg => rfl); (case hn => rfl); (case hr => first | (go_simp; done) | (go_simp; rfl)); intro w25 hw; have n0_ : Aside0 (Kd.N k27 27 w25 w.heap.size (fun k_ => (P0_5_ k_ ∨ w.heap.size ≤ k_) ∧ k_ ≠ gb118 ∧ k_ ≠ gb119 ∧ k_ ≠ gb122) u3 x3_1) := ⟨(by rw [hw]; exact (by (with_reducible repeat (first | apply Kd.N_alloc | apply Kd.N_drewN | apply Kd.N_drew)); exact Kd.N_mono (Kd.N_far (p := ⟨gb122, 7, none⟩) (Kd.N_far (p := ⟨gb122, 6, none⟩) (Kd.N_far (p := ⟨gb122, 5, none⟩) (Kd.N_far (p := ⟨gb122, 4, none⟩) (Kd.N_far (p := ⟨gb122, 3, none⟩) (Kd.N_far (p := ⟨gb122, 2, none⟩) (Kd.N_far (p := ⟨gb122, 1, none⟩) (Kd.N_far (p := ⟨gb122, 0, none⟩) (Kd.N_mono HO_3.out (fun k_ hk => (⟨hk, hk.2⟩ : _ ∧ k_ ≠ gb122))) (fun _ hk => hk.2) (.int .i64 ((rd_T27 l0_5 x12_1).f0))) (fun _ hk => hk.2) (.int .u64 ((rd_T27 l0_5 x12_1).f1.f0))) (fun _ hk => hk.2) (.int .u64 ((rd_T27 l0_5 x12_1).f1.f1))) (fun _ hk => hk.2) (.int .u64 ((rd_T27 l0_5 x12_1).f1.f2))) (fun _ hk => hk.2) (.int .u64 ((rd_T27 l0_5 x12_1).f1.f3))) (fun _ hk => hk.2) (.slice A121_5 ((rd_T27 l0_5 x12_1).f2).length c121_5)) (fun _ hk => hk.2) (.int .i64 ((rd_T27 l0_5 x12_1).f3))) (fun _ hk => hk.2) (.int .i64 ((rd_T27 l0_5 x12_1).f4))) (fun _ hk => ⟨hk.1.1.1, ⟨hk.1.1.2.1, ⟨hk.1.1.2.2, hk.1.2⟩⟩⟩)))⟩; have n1_ : Aside0 (Kd.V k27 27 w25 w.heap.size (fun k_ => (P0_5_ k_ ∨ w.heap.size ≤ k_) ∧ some k_ ≠ (u3 : Value).ownBlock ∧ k_ ≠ gb118 ∧ k_ ≠ gb119 ∧ k_ ≠ gb122) (.slice (some ad121) l0_5.length c0_5) l0_5) := ⟨(by rw [hw]; exact (by (with_reducible repeat (first | apply Kd.V_alloc | apply Kd.V_drewN | apply Kd.V_drew)); exact Kd.V_mono (Kd.V_far (p := ⟨gb122, 7, none⟩) (Kd.V_far (p := ⟨gb122, 6, none⟩) (Kd.V_far (p := ⟨gb122, 5, none⟩) (Kd.V_far (p := ⟨gb122, 4, none⟩) (Kd.V_far (p := ⟨gb122, 3, none⟩) (Kd.V_far (p := ⟨gb122, 2, none⟩) (Kd.V_far (p := ⟨gb122, 1, none⟩) (Kd.V_far (p := ⟨gb122, 0, none⟩) (Kd.V_mono HO_10.out (fun k_ hk => (⟨hk, hk.2⟩ : _ ∧ k_ ≠ gb122))) (fun _ hk => hk.2) (.int .i64 ((rd_T27 l0_5 x12_1).f0))) (fun _ hk => hk.2) (.int .u64 ((rd_T27 l0_5 x12_1).f1.f0))) (fun _ hk => hk.2) (.int .u64 ((rd_T27 l0_5 x12_1).f1.f1))) (fun _ hk => hk.2) (.int .u64 ((rd_T27 l0_5 x12_1).f1.f2))) (fun _ hk => hk.2) (.int .u64 ((rd_T27 l0_5 x12_1).f1.f3))) (fun _ hk => hk.2) (.slice A121_5 ((rd_T27 l0_5 x12_1).f2).length c121_5)) (fun _ hk => hk.2) (.int .i64 ((rd_T27 l0_5 x12_1).f3))) (fun _ hk => hk.2) (.int .i64 ((rd_T27 l0_5 x12_1).f4))) (fun _ hk => ⟨hk.1.1.1, ⟨hk.1.1.2.1, ⟨hk.1.1.2.2.1, ⟨hk.1.1.2.2.2, hk.1.2⟩⟩⟩⟩)))⟩; have n2_ : Aside0 (Kd.V k27 27 w25 w.heap.size (fun k_ => (P0_5_ k_ ∨ w.heap.size ≤ k_) ∧ some k_ ≠ (u3 : Value).ownBlock ∧ k_ ≠ gb118 ∧ k_ ≠ gb119 ∧ k_ ≠ gb122) (.slice (some ad121) l0_5.length c0_5) l0_5) := ⟨(by rw [hw]; exact (by (with_reducible repeat (first | apply Kd.V_alloc | apply Kd.V_drewN | apply Kd.V_drew)); exact Kd.V_mono (Kd.V_far (p := ⟨gb122, 7, none⟩) (Kd.V_far (p := ⟨gb122, 6, none⟩) (Kd.V_far (p := ⟨gb122, 5, none⟩) (Kd.V_far (p := ⟨gb122, 4, none⟩) (Kd.V_far (p := ⟨gb122, 3, none⟩) (Kd.V_far (p := ⟨gb122, 2, none⟩) (Kd.V_far (p := ⟨gb122, 1, none⟩) (Kd.V_far (p := ⟨gb122, 0, none⟩) (Kd.V_mono HO_119005.out (fun k_ hk => (⟨hk, hk.2⟩ : _ ∧ k_ ≠ gb122))) (fun _ hk => hk.2) (.int .i64 ((rd_T27 l0_5 x12_1).f0))) (fun _ hk => hk.2) (.int .u64 ((rd_T27 l0_5 x12_1).f1.f0))) (fun _ hk => hk.2) (.int .u64 ((rd_T27 l0_5 x12_1).f1.f1))) (fun _ hk => hk.2) (.int .u64 ((rd_T27 l0_5 x12_1).f1.f2))) (fun _ hk => hk.2) (.int .u64 ((rd_T27 l0_5 x12_1).f1.f3))) (fun _ hk => hk.2) (.slice A121_5 ((rd_T27 l0_5 x12_1).f2).length c121_5)) (fun _ hk => hk.2) (.int .i64 ((rd_T27 l0_5 x12_1).f3))) (fun _ hk => hk.2) (.int .i64 ((rd_T27 l0_5 x12_1).f4))) (fun _ hk => ⟨hk.1.1.1, ⟨hk.1.1.2.1, ⟨hk.1.1.2.2.1, ⟨hk.1.1.2.2.2, hk.1.2⟩⟩⟩⟩)))⟩; have n3_ : Aside0 (Kd.V k27 27 w25 w.heap.size (fun k_ => (P0_5_ k_ ∨ w.heap.size ≤ k_) ∧ some k_ ≠ (u3 : Value).ownBlock ∧ k_ ≠ gb118 ∧ k_ ≠ gb119 ∧ k_ ≠ gb122) (.slice A121_5 ((rd_T27 l0_5 x12_1).f2).length c121_5) ((rd_T27 l0_5 x12_1).f2)) := ⟨(by rw [hw]; exact (by (with_reducible repeat (first | apply Kd.V_alloc | apply Kd.V_drewN | apply Kd.V_drew)); exact Kd.V_mono (Kd.V_far (p := ⟨gb122, 7, none⟩) (Kd.V_far (p := ⟨gb122, 6, none⟩) (Kd.V_far (p := ⟨gb122, 5, none⟩) (Kd.V_far (p := ⟨gb122, 4, none⟩) (Kd.V_far (p := ⟨gb122, 3, none⟩) (Kd.V_far (p := ⟨gb122, 2, none⟩) (Kd.V_far (p := ⟨gb122, 1, none⟩) (Kd.V_far (p := ⟨gb122, 0, none⟩) (Kd.V_mono HL121_5.out (fun k_ hk => (⟨hk, hk.2⟩ : _ ∧ k_ ≠ gb122))) (fun _ hk => hk.2) (.int .i64 ((rd_T27 l0_5 x12_1).f0))) (fun _ hk => hk.2) (.int .u64 ((rd_T27 l0_5 x12_1).f1.f0))) (fun _ hk => hk.2) (.int .u64 ((rd_T27 l0_5 x12_1).f1.f1))) (fun _ hk => hk.2) (.int .u64 ((rd_T27 l0_5 x12_1).f1.f2))) (fun _ hk => hk.2) (.int .u64 ((rd_T27 l0_5 x12_1).f1.f3))) (fun _ hk => hk.2) (.slice A121_5 ((rd_T27 l0_5 x12_1).f2).length c121_5)) (fun _ hk => hk.2) (.int .i64 ((rd_T27 l0_5 x12_1).f3))) (fun _ hk => hk.2) (.int .i64 ((rd_T27 l0_5 x12_1).f4))) (fun _ hk => ⟨hk.1.1.1, ⟨hk.1.1.2.1, ⟨hk.1.1.2.2.1, ⟨hk.1.1.2.2.2, hk.1.2⟩⟩⟩⟩)))⟩; have n4_ : Aside0 (w25.heap[gb118]? = some (.cells #[.int .i64 a0_0, .int .u64 a0_1, .int .u64 a0_2, .int .u64 a0_3, .int .u64 a0_4, .slice (some ad121) l0_5.length c0_5, .int .i64 a0_6, .int .i64 a0_7] 27 (0, 0))) := ⟨(by rw [hw]; exact (by (with_reducible repeat (first | refine zH ?_ _ | refine zI ?_ | refine zG ?_ _)); refine blk_far ?_ NB118_122.out _; (with_reducible repeat (first | refine zH ?_ _ | refine zI ?_ | refine zG ?_ _)); refine blk_far ?_ NB118_122.out _; (with_reducible repeat (first | refine zH ?_ _ | refine zI ?_ | refine zG ?_ _)); refine blk_far ?_ NB118_122.out _; (with_reducible repeat (first | refine zH ?_ _ | refine zI ?_ | refine zG ?_ _)); refine blk_far ?_ NB118_122.out _; (with_reducible repeat (first | refine zH ?_ _ | refine zI ?_ | refine zG ?_ _)); refine blk_far ?_ NB118_122.out _; (with_reducible repeat (first | refine zH ?_ _ | refine zI ?_ | refine zG ?_ _)); refine blk_far ?_ NB118_122.out _; (with_reducible repeat (first | refine zH ?_ _ | refine zI ?_ | refine zG ?_ _)); refine blk_far ?_ NB118_122.out _; (with_reducible repeat (first | refine zH ?_ _ | refine zI ?_ | refine zG ?_ _)); refine blk_far ?_ NB118_122.out _; (with_reducible repeat (first | refine zH ?_ _ | refine zI ?_ | refine zG ?_ _)); exact BK118.out))⟩; have n5_ : Aside0 (w25.heap[gb119]? = some (.cells #[.int .i64 0, .int .u64 0, .int .u64 0, .int .u64 0, .int .u64 0, .slice none 0 0, .int .i64 0, .int .i64 0] 27 (0, 0))) := ⟨(by rw [hw]; exact (by (with_reducible repeat (first | refine zH ?_ _ | refine zI ?_ | refine zG ?_ _)); refine blk_far ?_ NB119_122.out _; (with_reducible repeat (first | refine zH ?_ _ | refine zI ?_ | refine zG ?_ _)); refine blk_far ?_ NB119_122.out _; (with_reducible repeat (first | refine zH ?_ _ | refine zI ?_ | refine zG ?_ _)); refine blk_far ?_ NB119_122.out _; (with_reducible repeat (first | refine zH ?_ _ | refine zI ?_ | refine zG ?_ _)); refine blk_far ?_ NB119_122.out _; (with_reducible repeat (first | refine zH ?_ _ | refine zI ?_ | refine zG ?_ _)); refine blk_far ?_ NB119_122.out _; (with_reducible repeat (first | refine zH ?_ _ | refine zI ?_ | refine zG ?_ _)); refine blk_far ?_ NB119_122.out _; (with_reducible repeat (first | refine zH ?_ _ | refine zI ?_ | refine zG ?_ _)); refine blk_far ?_ NB119_122.out _; (with_reducible repeat (first | refine zH ?_ _ | refine zI ?_ | refine zG ?_ _)); refine blk_far ?_ NB119_122.out _; (with_reducible repeat (first | refine zH ?_ _ | refine zI ?_ | refine zG ?_ _)); exact BK119.out))⟩; have n6_ : Aside0 (w25.heap[gb122]? = some (.cells #[.int .i64 ((rd_T27 l0_5 x12_1).f0), .int .u64 ((rd_T27 l0_5 x12_1).f1.f0), .int .u64 ((rd_T27 l0_5 x12_1).f1.f1), .int .u64 ((rd_T27 l0_5 x12_1).f1.f2), .int .u64 ((rd_T27 l0_5 x12_1).f1.f3), .slice A121_5 ((rd_T27 l0_5 x12_1).f2).length c121_5, .int .i64 ((rd_T27 l0_5 x12_1).f3), .int .i64 ((rd_T27 l0_5 x12_1).f4)] 27 (0, 0))) := ⟨(by rw [hw]; exact (by (with_reducible repeat (first | refine zH ?_ _ | refine zI ?_ | refine zG ?_ _)); refine blk_put (cs := #[.int .i64 ((rd_T27 l0_5 x12_1).f0), .int .u64 ((rd_T27 l0_5 x12_1).f1.f0), .int .u64 ((rd_T27 l0_5 x12_1).f1.f1), .int .u64 ((rd_T27 l0_5 x12_1).f1.f2), .int .u64 ((rd_T27 l0_5 x12_1).f1.f3), .slice A121_5 ((rd_T27 l0_5 x12_1).f2).length c121_5, .int .i64 ((rd_T27 l0_5 x12_1).f3), .int .i64 0]) ?_ 7 _ rfl; (with_reducible repeat (first | refine zH ?_ _ | refine zI ?_ | refine zG ?_ _)); refine blk_put (cs := #[.int .i64 ((rd_T27 l0_5 x12_1).f0), .int .u64 ((rd_T27 l0_5 x12_1).f1.f0), .int .u64 ((rd_T27 l0_5 x12_1).f1.f1), .int .u64 ((rd_T27 l0_5 x12_1).f1.f2), .int .u64 ((rd_T27 l0_5 x12_1).f1.f3), .slice A121_5 ((rd_T27 l0_5 x12_1).f2).length c121_5, .int .i64 0, .int .i64 0]) ?_ 6 _ rfl; (with_reducible repeat (first | refine zH ?_ _ | refine zI ?_ | refine zG ?_ _)); refine blk_put (cs := #[.int .i64 ((rd_T27 l0_5 x12_1).f0), .int .u64 ((rd_T27 l0_5 x12_1).f1.f0), .int .u64 ((rd_T27 l0_5 x12_1).f1.f1), .int .u64 ((rd_T27 l0_5 x12_1).f1.f2), .int .u64 ((rd_T27 l0_5 x12_1).f1.f3), .slice none 0 0, .int .i64 0, .int .i64 0]) ?_ 5 _ rfl; (with_reducible repeat (first | refine zH ?_ _ | refine zI ?_ | refine zG ?_ _)); refine blk_put (cs := #[.int .i64 ((rd_T27 l0_5 x12_1).f0), .int .u64 ((rd_T27 l0_5 x12_1).f1.f0), .int .u64 ((rd_T27 l0_5 x12_1).f1.f1), .int .u64 ((rd_T27 l0_5 x12_1).f1.f2), .int .u64 0, .slice none 0 0, .int .i64 0, .int .i64 0]) ?_ 4 _ rfl; (with_reducible repeat (first | refine zH ?_ _ | refine zI ?_ | refine zG ?_ _)); refine blk_put (cs := #[.int .i64 ((rd_T27 l0_5 x12_1).f0), .int .u64 ((rd_T27 l0_5 x12_1).f1.f0), .int .u64 ((rd_T27 l0_5 x12_1).f1.f1), .int .u64 0, .int .u64 0, .slice none 0 0, .int .i64 0, .int .i64 0]) ?_ 3 _ rfl; (with_reducible repeat (first | refine zH ?_ _ | refine zI ?_ | refine zG ?_ _)); refine blk_put (cs := #[.int .i64 ((rd_T27 l0_5 x12_1).f0), .int .u64 ((rd_T27 l0_5 x12_1).f1.f0), .int .u64 0, .int .u64 0, .int .u64 0, .slice none 0 0, .int .i64 0, .int .i64 0]) ?_ 2 _ rfl; (with_reducible repeat (first | refine zH ?_ _ | refine zI ?_ | refine zG ?_ _)); refine blk_put (cs := #[.int .i64 ((rd_T27 l0_5 x12_1).f0), .int .u64 0, .int .u64 0, .int .u64 0, .int .u64 0, .slice none 0 0, .int .i64 0, .int .i64 0]) ?_ 1 _ rfl; (with_reducible repeat (first | refine zH ?_ _ | refine zI ?_ | refine zG ?_ _)); refine blk_put (cs := #[.int .i64 0, .int .u64 0, .int .u64 0, .int .u64 0, .int .u64 0, .slice none 0 0, .int .i64 0, .int .i64 0]) ?_ 0 _ rfl; (with_reducible repeat (first | refine zH ?_ _ | refine zI ?_ | refine zG ?_ _)); exact BK122.out))⟩; have n7_ : Aside0 (Below w.heap.size w w25) := ⟨(by rw [hw]; exact (by repeat (first | (with_reducible first | exact HB.out | apply zE | apply zC | apply zD | refine zF ?_ GE118.out | refine zF ?_ GE119.out | refine zF ?_ GE122.out) | exact HB.out)))⟩; clear hw; clear HO_3; clear HO_10; clear HO_119005; clear HL121_5; clear BK118; clear BK119; clear BK122; clear HB; have HO_3 := n0_; have HO_10 := n1_; have HO_119005 := n2_; have HL121_5 := n3_; have BK118 := n4_; have BK119 := n5_; have BK122 := n6_; have HB := n7_; clear n0_ n1_ n2_ n3_ n4_ n5_ n6_ n7_; have hcz26_0 : w25.cell? ⟨gb122, 0, none⟩ = some (.int .i64 ((rd_T27 l0_5 x12_1).f0)) := (zB BK122.out 0).trans rfl; have hcz26_1 : w25.cell? ⟨gb122, 1, none⟩ = some (.int .u64 ((rd_T27 l0_5 x12_1).f1.f0)) := (zB BK122.out 1).trans rfl; have hcz26_2 : w25.cell? ⟨gb122, 2, none⟩ = some (.int .u64 ((rd_T27 l0_5 x12_1).f1.f1)) := (zB BK122.out 2).trans rfl; have hcz26_3 : w25.cell? ⟨gb122, 3, none⟩ = some (.int .u64 ((rd_T27 l0_5 x12_1).f1.f2)) := (zB BK122.out 3).trans rfl; have hcz26_4 : w25.cell? ⟨gb122, 4, none⟩ = some (.int .u64 ((rd_T27 l0_5 x12_1).f1.f3)) := (zB BK122.out 4).trans rfl; have hcz26_5 : w25.cell? ⟨gb122, 5, none⟩ = some (.slice A121_5 ((rd_T27 l0_5 x12_1).f2).length c121_5) := (zB BK122.out 5).trans rfl; have hcz26_6 : w25.cell? ⟨gb122, 6, none⟩ = some (.int .i64 ((rd_T27 l0_5 x12_1).f3)) := (zB BK122.out 6).trans rfl; have hcz26_7 : w25.cell? ⟨gb122, 7, none⟩ = some (.int .i64 ((rd_T27 l0_5 x12_1).f4)) := (zB BK122.out 7).trans rfl; have hfz26_0 := zA BK122.out 0; have hfz26_1 := zA BK122.out 1; have hfz26_2 := zA BK122.out 2; have hfz26_3 := zA BK122.out 3; have hfz26_4 := zA BK122.out 4; have hfz26_5 := zA BK122.out 5; have hfz26_6 := zA BK122.out 6; have hfz26_7 := zA BK122.out 7) | ((with_reducible refine gate_callee (f := 23) rfl ?_); refine goesL_ (some 18) rfl rfl Try.func23 (by kernel_rfl) rfl #[.agg #[.int .i64 ((rd_T27 l0_5 x12_1).f0), .int .u64 ((rd_T27 l0_5 x12_1).f1.f0), .int .u64 ((rd_T27 l0_5 x12_1).f1.f1), .int .u64 ((rd_T27 l0_5 x12_1).f1.f2), .int .u64 ((rd_T27 l0_5 x12_1).f1.f3), .slice A121_5 ((rd_T27 l0_5 x12_1).f2).length c121_5, .int .i64 ((rd_T27 l0_5 x12_1).f3), .int .i64 ((rd_T27 l0_5 x12_1).f4)]] rfl (by (try simp only [List.map_toArray, List.map_cons, List.map_nil]); first | done | rfl | (simp only [List.length_drop, List.length_take]; rfl)) ?_; (with_reducible refine (ih k1 (by have := HK1.out; omega) ((rd_T27 l0_5 x12_1).f0) ((rd_T27 l0_5 x12_1).f1.f0) ((rd_T27 l0_5 x12_1).f1.f1) ((rd_T27 l0_5 x12_1).f1.f2) ((rd_T27 l0_5 x12_1).f1.f3) (fun k_ => ((P0_5_ k_ ∨ w.heap.size ≤ k_) ∧ (some k_ ≠ (u3 : Value).ownBlock ∧ (k_ ≠ gb118 ∧ (k_ ≠ gb119 ∧ k_ ≠ gb122))))) _ _ ((rd_T27 l0_5 x12_1).f2) ((rd_T27 l0_5 x12_1).f3) ((rd_T27 l0_5 x12_1).f4) t123 t124 t125 t126 t127 t128 t131 t132 _ ?side1 A19.out).mono ?_); (case side1 => exact HL121_5.out); rintro e w27 ⟨v129, rfl, ho0, hb⟩; refine ⟨_, rfl, ?_⟩; have n0_ := zN (Kd.N_below (by (with_reducible repeat (first | apply Kd.N_alloc | apply Kd.N_drewN | apply Kd.N_drew)); exact HO_3.out) hb); have n1_ := zN (Kd.V_below (by (with_reducible repeat (first | apply Kd.V_alloc | apply Kd.V_drewN | apply Kd.V_drew)); exact HO_10.out) hb); have n2_ := zN (Kd.V_below (by (with_reducible repeat (first | apply Kd.V_alloc | apply Kd.V_drewN | apply Kd.V_drew)); exact HO_119005.out) hb); have n3_ := zN (Kd.V_below (by (with_reducible repeat (first | apply Kd.V_alloc | apply Kd.V_drewN | apply Kd.V_drew)); exact HL121_5.out) hb); have n4_ := zN (Kd.V_lower (Kd.V_mono (ok' := fun k_ => (P0_5_ k_ ∨ w.heap.size ≤ k_) ∧ some k_ ≠ (u3 : Value).ownBlock ∧ k_ ≠ gb118 ∧ k_ ≠ gb119 ∧ k_ ≠ gb122) ho0 (fun k_ hk_ => ⟨Or.elim hk_ (fun hs_ => hs_.1) (fun hn_ => (.inr (Nat.le_trans (zK (by repeat (first | (with_reducible first | exact HB.out | apply zE | apply zC | apply zD | refine zF ?_ GE118.out | refine zF ?_ GE119.out | refine zF ?_ GE122.out) | exact HB.out))) hn_))), Or.elim hk_ (fun hs_ => hs_.2.1) (fun hn_ => (Kd.fresh' (Kd.N_lt (by (with_reducible repeat (first | apply Kd.N_alloc | apply Kd.N_drewN | apply Kd.N_drew)); exact HO_3.out)) k_ hn_)), Or.elim hk_ (fun hs_ => hs_.2.2.1) (fun hn_ => (Kd.freshB (g := gb118) (o := .cells #[.int .i64 a0_0, .int .u64 a0_1, .int .u64 a0_2, .int .u64 a0_3, .int .u64 a0_4, .slice (some ad121) l0_5.length c0_5, .int .i64 a0_6, .int .i64 a0_7] 27 (0, 0)) (by (with_reducible repeat (first | refine zH ?_ _ | refine zI ?_ | refine zG ?_ _)); exact BK118.out) k_ hn_)), Or.elim hk_ (fun hs_ => hs_.2.2.2.1) (fun hn_ => (Kd.freshB (g := gb119) (o := .cells #[.int .i64 0, .int .u64 0, .int .u64 0, .int .u64 0, .int .u64 0, .slice none 0 0, .int .i64 0, .int .i64 0] 27 (0, 0)) (by (with_reducible repeat (first | refine zH ?_ _ | refine zI ?_ | refine zG ?_ _)); exact BK119.out) k_ hn_)), Or.elim hk_ (fun hs_ => hs_.2.2.2.2) (fun hn_ => (Kd.freshB (g := gb122) (o := .cells #[.int .i64 ((rd_T27 l0_5 x12_1).f0), .int .u64 ((rd_T27 l0_5 x12_1).f1.f0), .int .u64 ((rd_T27 l0_5 x12_1).f1.f1), .int .u64 ((rd_T27 l0_5 x12_1).f1.f2), .int .u64 ((rd_T27 l0_5 x12_1).f1.f3), .slice A121_5 ((rd_T27 l0_5 x12_1).f2).length c121_5, .int .i64 ((rd_T27 l0_5 x12_1).f3), .int .i64 ((rd_T27 l0_5 x12_1).f4)] 27 (0, 0)) (by (with_reducible repeat (first | refine zH ?_ _ | refine zI ?_ | refine zG ?_ _)); exact BK122.out) k_ hn_))⟩)) (zK (by repeat (first | (with_reducible first | exact HB.out | apply zE | apply zC | apply zD | refine zF ?_ GE118.out | refine zF ?_ GE119.out | refine zF ?_ GE122.out) | exact HB.out)))); have n5_ := zN (zM (g := gb118) (o := .cells #[.int .i64 a0_0, .int .u64 a0_1, .int .u64 a0_2, .int .u64 a0_3, .int .u64 a0_4, .slice (some ad121) l0_5.length c0_5, .int .i64 a0_6, .int .i64 a0_7] 27 (0, 0)) (by (with_reducible repeat (first | refine zH ?_ _ | refine zI ?_ | refine zG ?_ _)); exact BK118.out) hb); have n6_ := zN (zM (g := gb119) (o := .cells #[.int .i64 0, .int .u64 0, .int .u64 0, .int .u64 0, .int .u64 0, .slice none 0 0, .int .i64 0, .int .i64 0] 27 (0, 0)) (by (with_reducible repeat (first | refine zH ?_ _ | refine zI ?_ | refine zG ?_ _)); exact BK119.out) hb); (first | have n7_ := zN (Kd.C_below (by repeat (first | (with_reducible exact HR121_5.out) | (with_reducible refine Kd.C_alloc ?_ _) | (with_reducible refine Kd.C_drewN ?_ _) | (with_reducible refine Kd.C_drew ?_) | exact HR121_5.out)) hb) | have n7_ := zN (Kd.V_reads' n3_.out).2.2); have n8_ := zN (zM (g := gb122) (o := .cells #[.int .i64 ((rd_T27 l0_5 x12_1).f0), .int .u64 ((rd_T27 l0_5 x12_1).f1.f0), .int .u64 ((rd_T27 l0_5 x12_1).f1.f1), .int .u64 ((rd_T27 l0_5 x12_1).f1.f2), .int .u64 ((rd_T27 l0_5 x12_1).f1.f3), .slice A121_5 ((rd_T27 l0_5 x12_1).f2).length c121_5, .int .i64 ((rd_T27 l0_5 x12_1).f3), .int .i64 ((rd_T27 l0_5 x12_1).f4)] 27 (0, 0)) (by (with_reducible repeat (first | refine zH ?_ _ | refine zI ?_ | refine zG ?_ _)); exact BK122.out) hb); have n9_ := zN (zJ (by repeat (first | (with_reducible first | exact HB.out | apply zE | apply zC | apply zD | refine zF ?_ GE118.out | refine zF ?_ GE119.out | refine zF ?_ GE122.out) | exact HB.out)) hb); clear HO_3; clear HO_10; clear HO_119005; clear HL121_5; clear BK118; clear BK119; clear HR121_5; clear BK122; clear HB; have HO_3 := n0_; have HO_10 := n1_; have HO_119005 := n2_; have HL121_5 := n3_; have HO130 := n4_; have BK118 := n5_; have BK119 := n6_; have HR121_5 := n7_; have BK122 := n8_; have HB := n9_; clear n0_ n1_ n2_ n3_ n4_ n5_ n6_ n7_ n8_ n9_; (try clear hb); (try clear hb2); (try clear hk); (try clear hi); (try clear ho0); obtain ⟨Ao29, co29, eo29⟩ := Kd.V_slice HO130.out; subst eo29) | ((with_reducible refine gate_builtin (b := .append) (xs := #[.tmp 16, .tmp 19]) rfl ?_); at_builtin; refine Kd.N_append k27 (w0 := w) w.heap.size rfl (.tmp 16) (.tmp 19) 25 27 (.agg #[(.int .i64 0), (.int .u64 0), (.int .u64 0), (.int .u64 0), (.int .u64 0), (.slice none 0 0), (.int .i64 0), (.int .i64 0)]) 80 rfl Try.underlying25 info27 rfl (by decide) (by omega) u3 x3_1 (⟨t123, (⟨t124, t125, t126, t127⟩ : S24), t128, t131, t132⟩ : S27) [.int .i64 t123, .int .u64 t124, .int .u64 t125, .int .u64 t126, .int .u64 t127, .slice Ao29 t128.length co29, .int .i64 t131, .int .i64 t132] (fun k_ => (P0_5_ k_ ∨ w.heap.size ≤ k_) ∧ k_ ≠ gb118 ∧ k_ ≠ gb119 ∧ k_ ≠ gb122) (fun k_ => ((fun k_ => (P0_5_ k_ ∨ w.heap.size ≤ k_) ∧ k_ ≠ gb118 ∧ k_ ≠ gb119 ∧ k_ ≠ gb122)) k_ ∧ some k_ ≠ (u3 : Value).ownBlock) rfl rfl ?aP (fun _ hk => hk) ?aF ?aO ?aB ?aS ?aL ?_; (case aP => exact (k27_mkF _ _ (⟨t123, (⟨t124, t125, t126, t127⟩ : S24), t128, t131, t132⟩ : S27) (Kd.V_reads' (Kd.V_mono (ok' := (fun k_ => ((fun k_ => (P0_5_ k_ ∨ w.heap.size ≤ k_) ∧ k_ ≠ gb118 ∧ k_ ≠ gb119 ∧ k_ ≠ gb122)) k_ ∧ some k_ ≠ (u3 : Value).ownBlock)) (HO130.out) (fun k_ hk => ⟨⟨hk.1, ⟨hk.2.2.1, ⟨hk.2.2.2.1, hk.2.2.2.2⟩⟩⟩, hk.2.1⟩))).2.1 (Kd.V_F (Kd.V_mono (ok' := (fun k_ => ((fun k_ => (P0_5_ k_ ∨ w.heap.size ≤ k_) ∧ k_ ≠ gb118 ∧ k_ ≠ gb119 ∧ k_ ≠ gb122)) k_ ∧ some k_ ≠ (u3 : Value).ownBlock)) (HO130.out) (fun k_ hk => ⟨⟨hk.1, ⟨hk.2.2.1, ⟨hk.2.2.2.1, hk.2.2.2.2⟩⟩⟩, hk.2.1⟩))))); (case aB => exact (by repeat (first | (with_reducible first | exact HB.out | apply zE | apply zC | apply zD | refine zF ?_ GE118.out | refine zF ?_ GE119.out | refine zF ?_ GE122.out) | exact HB.out))); (case aF => exact (fun k_ hk => ⟨(.inr (Nat.le_trans (zK (by repeat (first | (with_reducible first | exact HB.out | apply zE | apply zC | apply zD | refine zF ?_ GE118.out | refine zF ?_ GE119.out | refine zF ?_ GE122.out) | exact HB.out))) hk)), Kd.freshB (g := gb118) (o := .cells #[.int .i64 a0_0, .int .u64 a0_1, .int .u64 a0_2, .int .u64 a0_3, .int .u64 a0_4, .slice (some ad121) l0_5.length c0_5, .int .i64 a0_6, .int .i64 a0_7] 27 (0, 0)) (by (with_reducible repeat (first | refine zH ?_ _ | refine zI ?_ | refine zG ?_ _)); exact BK118.out) k_ hk, Kd.freshB (g := gb119) (o := .cells #[.int .i64 0, .int .u64 0, .int .u64 0, .int .u64 0, .int .u64 0, .slice none 0 0, .int .i64 0, .int .i64 0] 27 (0, 0)) (by (with_reducible repeat (first | refine zH ?_ _ | refine zI ?_ | refine zG ?_ _)); exact BK119.out) k_ hk, Kd.freshB (g := gb122) (o := .cells #[.int .i64 ((rd_T27 l0_5 x12_1).f0), .int .u64 ((rd_T27 l0_5 x12_1).f1.f0), .int .u64 ((rd_T27 l0_5 x12_1).f1.f1), .int .u64 ((rd_T27 l0_5 x12_1).f1.f2), .int .u64 ((rd_T27 l0_5 x12_1).f1.f3), .slice A121_5 ((rd_T27 l0_5 x12_1).f2).length c121_5, .int .i64 ((rd_T27 l0_5 x12_1).f3), .int .i64 ((rd_T27 l0_5 x12_1).f4)] 27 (0, 0)) (by (with_reducible repeat (first | refine zH ?_ _ | refine zI ?_ | refine zG ?_ _)); exact BK122.out) k_ hk⟩)); (case aO => exact (by (with_reducible repeat (first | apply Kd.N_alloc | apply Kd.N_drewN | apply Kd.N_drew)); exact HO_3.out)); (case aS => exact (zK (by repeat (first | (with_reducible first | exact HB.out | apply zE | apply zC | apply zD | refine zF ?_ GE118.out | refine zF ?_ GE119.out | refine zF ?_ GE122.out) | exact HB.out)))); (case aL => have := LMc20.out; omega); intro v134 w28 ho hb hg hat; rw [← Ny133.out] at ho; have n0_ := zN (Kd.V_afterv (ok := (fun k_ => (P0_5_ k_ ∨ w.heap.size ≤ k_) ∧ k_ ≠ gb118 ∧ k_ ≠ gb119 ∧ k_ ≠ gb122)) (by (with_reducible repeat (first | apply Kd.V_alloc | apply Kd.V_drewN | apply Kd.V_drew)); exact Kd.V_mono HO_10.out (fun _ hk => ⟨⟨hk.1, ⟨hk.2.2.1, ⟨hk.2.2.2.1, hk.2.2.2.2⟩⟩⟩, hk.2.1⟩)) hg hat); have n1_ := zN (Kd.V_afterv (ok := (fun k_ => (P0_5_ k_ ∨ w.heap.size ≤ k_) ∧ k_ ≠ gb118 ∧ k_ ≠ gb119 ∧ k_ ≠ gb122)) (by (with_reducible repeat (first | apply Kd.V_alloc | apply Kd.V_drewN | apply Kd.V_drew)); exact Kd.V_mono HO_119005.out (fun _ hk => ⟨⟨hk.1, ⟨hk.2.2.1, ⟨hk.2.2.2.1, hk.2.2.2.2⟩⟩⟩, hk.2.1⟩)) hg hat); have n2_ := zN (blk_grown (g := gb118) (o := .cells #[.int .i64 a0_0, .int .u64 a0_1, .int .u64 a0_2, .int .u64 a0_3, .int .u64 a0_4, .slice (some ad121) l0_5.length c0_5, .int .i64 a0_6, .int .i64 a0_7] 27 (0, 0)) (by (with_reducible repeat (first | refine zH ?_ _ | refine zI ?_ | refine zG ?_ _)); exact BK118.out) hg (Kd.N_away HO_3.out (fun _ hk => hk.2.1))); have n3_ := zN (blk_grown (g := gb119) (o := .cells #[.int .i64 0, .int .u64 0, .int .u64 0, .int .u64 0, .int .u64 0, .slice none 0 0, .int .i64 0, .int .i64 0] 27 (0, 0)) (by (with_reducible repeat (first | refine zH ?_ _ | refine zI ?_ | refine zG ?_ _)); exact BK119.out) hg (Kd.N_away HO_3.out (fun _ hk => hk.2.2.1))); have n4_ := zN (Kd.V_afterv (ok := (fun k_ => (P0_5_ k_ ∨ w.heap.size ≤ k_) ∧ k_ ≠ gb118 ∧ k_ ≠ gb119 ∧ k_ ≠ gb122)) (by (with_reducible repeat (first | apply Kd.V_alloc | apply Kd.V_drewN | apply Kd.V_drew)); exact Kd.V_mono HL121_5.out (fun _ hk => ⟨⟨hk.1, ⟨hk.2.2.1, ⟨hk.2.2.2.1, hk.2.2.2.2⟩⟩⟩, hk.2.1⟩)) hg hat); have n5_ := zN (blk_grown (g := gb122) (o := .cells #[.int .i64 ((rd_T27 l0_5 x12_1).f0), .int .u64 ((rd_T27 l0_5 x12_1).f1.f0), .int .u64 ((rd_T27 l0_5 x12_1).f1.f1), .int .u64 ((rd_T27 l0_5 x12_1).f1.f2), .int .u64 ((rd_T27 l0_5 x12_1).f1.f3), .slice A121_5 ((rd_T27 l0_5 x12_1).f2).length c121_5, .int .i64 ((rd_T27 l0_5 x12_1).f3), .int .i64 ((rd_T27 l0_5 x12_1).f4)] 27 (0, 0)) (by (with_reducible repeat (first | refine zH ?_ _ | refine zI ?_ | refine zG ?_ _)); exact BK122.out) hg (Kd.N_away HO_3.out (fun _ hk => hk.2.2.2))); have n6_ := zN (Kd.V_afterv (ok := (fun k_ => (P0_5_ k_ ∨ w.heap.size ≤ k_) ∧ k_ ≠ gb118 ∧ k_ ≠ gb119 ∧ k_ ≠ gb122)) (by (with_reducible repeat (first | apply Kd.V_alloc | apply Kd.V_drewN | apply Kd.V_drew)); exact Kd.V_mono HO130.out (fun _ hk => ⟨⟨hk.1, ⟨hk.2.2.1, ⟨hk.2.2.2.1, hk.2.2.2.2⟩⟩⟩, hk.2.1⟩)) hg hat); have n7_ := zN (hb); have n8_ := zN (ho); clear HO_10; clear HO_119005; clear BK118; clear BK119; clear HL121_5; clear BK122; clear HO130; clear HB; clear HO_3; have HO_10 := n0_; have HO_119005 := n1_; have BK118 := n2_; have BK119 := n3_; have HL121_5 := n4_; have BK122 := n5_; have HO130 := n6_; have HB := n7_; have HO135 := n8_; clear n0_ n1_ n2_ n3_ n4_ n5_ n6_ n7_ n8_; clear ho hb hg hat))
        go_roundg k1
        case measure => have := HK1.out; omega
        case rel => exact ⟨(y133), (wrap64 (x12_1 + 1)), (by first | rfl | (simp; done) | (simp [*]; done)), H', ⟨by have := HK1.out; omega⟩, ⟨by (with_reducible repeat (first | apply Kd.N_alloc | apply Kd.N_drewN | apply Kd.N_drew)); exact Kd.N_mono HO135.out (fun _ hk => ⟨hk.1, ⟨hk.2.1, hk.2.2.1⟩⟩)⟩, ⟨by (with_reducible repeat (first | apply Kd.V_alloc | apply Kd.V_drewN | apply Kd.V_drew)); exact Kd.V_mono HO_10.out (fun _ hk => ⟨hk.1.1, ⟨hk.2, ⟨hk.1.2.1, hk.1.2.2.1⟩⟩⟩)⟩, ⟨by (with_reducible repeat (first | apply Kd.V_alloc | apply Kd.V_drewN | apply Kd.V_drew)); exact Kd.V_mono HO_119005.out (fun _ hk => ⟨hk.1.1, ⟨hk.2, ⟨hk.1.2.1, hk.1.2.2.1⟩⟩⟩)⟩, ⟨by (with_reducible repeat (first | refine zH ?_ _ | refine zI ?_ | refine zG ?_ _)); exact BK118.out⟩, ⟨by (with_reducible repeat (first | refine zH ?_ _ | refine zI ?_ | refine zG ?_ _)); exact BK119.out⟩, ⟨by repeat (first | (with_reducible first | exact HB.out | apply zE | apply zC | apply zD | refine zF ?_ GE118.out | refine zF ?_ GE119.out | refine zF ?_ GE122.out) | exact HB.out)⟩⟩
       ·
        rw [if_neg c20] at H
        exact absurd H (by simp)
      ·
       rw [if_neg c18] at H
       exact absurd H (by simp)
     ·
      rw [if_neg c17] at H
      exact absurd H (by simp)
    ·
     rw [if_neg c16] at H
     have c16b0 : decide (x12_1 < (l0_5.length : Int)) = false := decide_eq_false c16
     clear c16
     have HC30 := zN H
     clear H
     have hnb31 := NB118_119.out
     have hnc31 := NB119_118.out
     have hcz32_0 : wr.cell? ⟨gb118, 0, none⟩ = some (.int .i64 a0_0) := (zB BK118.out 0).trans rfl
     have hcz32_1 : wr.cell? ⟨gb118, 1, none⟩ = some (.int .u64 a0_1) := (zB BK118.out 1).trans rfl
     have hcz32_2 : wr.cell? ⟨gb118, 2, none⟩ = some (.int .u64 a0_2) := (zB BK118.out 2).trans rfl
     have hcz32_3 : wr.cell? ⟨gb118, 3, none⟩ = some (.int .u64 a0_3) := (zB BK118.out 3).trans rfl
     have hcz32_4 : wr.cell? ⟨gb118, 4, none⟩ = some (.int .u64 a0_4) := (zB BK118.out 4).trans rfl
     have hcz32_5 : wr.cell? ⟨gb118, 5, none⟩ = some (.slice A0_5 l0_5.length c0_5) := (zB BK118.out 5).trans rfl
     have hcz32_6 : wr.cell? ⟨gb118, 6, none⟩ = some (.int .i64 a0_6) := (zB BK118.out 6).trans rfl
     have hcz32_7 : wr.cell? ⟨gb118, 7, none⟩ = some (.int .i64 a0_7) := (zB BK118.out 7).trans rfl
     have hfz32_0 := zA BK118.out 0
     have hfz32_1 := zA BK118.out 1
     have hfz32_2 := zA BK118.out 2
     have hfz32_3 := zA BK118.out 3
     have hfz32_4 := zA BK118.out 4
     have hfz32_5 := zA BK118.out 5
     have hfz32_6 := zA BK118.out 6
     have hfz32_7 := zA BK118.out 7
     go_upto_if 24 with (fail)
     go_cut [24] (fun v24 wc => ∃ (kq : Nat) (x24_29 : Bool), v24 = .bool x24_29 ∧ Aside0 (core_simple.j1 kq x3_1 a0_0 x24_29 a0_0 a0_1 a0_2 a0_3 a0_4 l0_5 a0_6 a0_7 = some (r1, r2, r3, r4, r5, r6, r7, r8)) ∧ Aside0 (kq ≤ k1) ∧ Aside0 (Kd.N k27 27 wc w.heap.size (fun k_ => (P0_5_ k_ ∨ w.heap.size ≤ k_) ∧ k_ ≠ gb118 ∧ k_ ≠ gb119) u3 x3_1) ∧ Aside0 (Kd.V k27 27 wc w.heap.size (fun k_ => (P0_5_ k_ ∨ w.heap.size ≤ k_) ∧ some k_ ≠ (u3 : Value).ownBlock ∧ k_ ≠ gb118 ∧ k_ ≠ gb119) (.slice A0_5 l0_5.length c0_5) l0_5) ∧ Aside0 (wc.heap[gb118]? = some (.cells #[.int .i64 a0_0, .int .u64 a0_1, .int .u64 a0_2, .int .u64 a0_3, .int .u64 a0_4, (.slice A0_5 l0_5.length c0_5), .int .i64 a0_6, .int .i64 a0_7] 27 (0, 0))) ∧ Aside0 (wc.heap[gb119]? = some (.cells #[.int .i64 0, .int .u64 0, .int .u64 0, .int .u64 0, .int .u64 0, (.slice none 0 0), .int .i64 0, .int .i64 0] 27 (0, 0))) ∧ Aside0 (Below w.heap.size w wc))
     case first =>
      have H := HC30.out
      clear HC30
      by_cases c33 : a0_0 = 2
      ·
       rw [if_pos c33] at H
       have c33b0 : (a0_0 == 2) = true := beq_iff_eq.mpr c33
       have c33b1 : (a0_0 != 2) = false := bne_eq_false_iff_eq.mpr c33
       clear c33
       (first | rw [c33b0] | (simp only [i64_w, i32_w]; rw [c33b0]) | skip)
       have H' := zN H
       clear H
       go_wp2
       go_meet
       case rel => exact ⟨_, ((a0_0 == 2)), (by first | rfl | (simp; done) | (simp [*]; done)), H', ⟨by have := HK1.out; first | omega | exact Nat.le_refl _⟩, ⟨by (with_reducible repeat (first | apply Kd.N_alloc | apply Kd.N_drewN | apply Kd.N_drew)); exact HO_3.out⟩, ⟨by (with_reducible repeat (first | apply Kd.V_alloc | apply Kd.V_drewN | apply Kd.V_drew)); exact HO_119005.out⟩, ⟨by (with_reducible repeat (first | refine zH ?_ _ | refine zI ?_ | refine zG ?_ _)); exact BK118.out⟩, ⟨by (with_reducible repeat (first | refine zH ?_ _ | refine zI ?_ | refine zG ?_ _)); exact BK119.out⟩, ⟨by repeat (first | (with_reducible first | exact HB.out | apply zE | apply zC | apply zD | refine zF ?_ GE118.out | refine zF ?_ GE119.out) | exact HB.out)⟩⟩
      ·
       rw [if_neg c33] at H
       have c33b0 : (a0_0 == 2) = false := beq_eq_false_iff_ne.mpr c33
       have c33b1 : (a0_0 != 2) = true := bne_iff_ne.mpr c33
       (first | rw [c33b0] | (simp only [i64_w, i32_w]; rw [c33b0]) | skip)
       have H' := zN H
       clear H
       go_wp2
       go_meet
       case rel => exact ⟨_, ((a0_0 == 3)), (by first | rfl | (simp; done) | (simp [*]; done)), H', ⟨by have := HK1.out; first | omega | exact Nat.le_refl _⟩, ⟨by (with_reducible repeat (first | apply Kd.N_alloc | apply Kd.N_drewN | apply Kd.N_drew)); exact HO_3.out⟩, ⟨by (with_reducible repeat (first | apply Kd.V_alloc | apply Kd.V_drewN | apply Kd.V_drew)); exact HO_119005.out⟩, ⟨by (with_reducible repeat (first | refine zH ?_ _ | refine zI ?_ | refine zG ?_ _)); exact BK118.out⟩, ⟨by (with_reducible repeat (first | refine zH ?_ _ | refine zI ?_ | refine zG ?_ _)); exact BK119.out⟩, ⟨by repeat (first | (with_reducible first | exact HB.out | apply zE | apply zC | apply zD | refine zF ?_ GE118.out | refine zF ?_ GE119.out) | exact HB.out)⟩⟩
     case rest =>
      clear HC30
      (try clear c1); (try clear p1); (try clear q1); (try clear hx1); (try clear c2); (try clear p2 p2); (try clear c3); (try clear c6); (try clear p6); (try clear c12); (try clear p12); (try clear q12); (try clear hx12); (try clear c16); (try clear c16b0); (try clear c17); (try clear c17b0); (try clear c18); (try clear c18b0); (try clear c20); (try clear c22); (try clear c23); (try clear c31); (try clear c32); (try clear c33); (try clear c33b0); (try clear c33b1); (try clear hcz13_0 hcz13_1 hcz13_2 hcz13_3 hcz13_4 hcz13_5 hcz13_6 hcz13_7); (try clear hcz15_0 hcz15_1 hcz15_2 hcz15_3 hcz15_4 hcz15_5 hcz15_6 hcz15_7); (try clear hcz24_0 hcz24_1 hcz24_2 hcz24_3 hcz24_4 hcz24_5 hcz24_6 hcz24_7); (try clear hcz26_0 hcz26_1 hcz26_2 hcz26_3 hcz26_4 hcz26_5 hcz26_6 hcz26_7); (try clear hcz32_0 hcz32_1 hcz32_2 hcz32_3 hcz32_4 hcz32_5 hcz32_6 hcz32_7); (try clear hcz7_0 hcz7_1 hcz7_2 hcz7_3 hcz7_4 hcz7_5 hcz7_6 hcz7_7); (try clear hcz9_0 hcz9_1 hcz9_2 hcz9_3 hcz9_4 hcz9_5 hcz9_6 hcz9_7); (try clear hfz13_0 hfz13_1 hfz13_2 hfz13_3 hfz13_4 hfz13_5 hfz13_6 hfz13_7); (try clear hfz15_0 hfz15_1 hfz15_2 hfz15_3 hfz15_4 hfz15_5 hfz15_6 hfz15_7); (try clear hfz24_0 hfz24_1 hfz24_2 hfz24_3 hfz24_4 hfz24_5 hfz24_6 hfz24_7); (try clear hfz26_0 hfz26_1 hfz26_2 hfz26_3 hfz26_4 hfz26_5 hfz26_6 hfz26_7); (try clear hfz32_0 hfz32_1 hfz32_2 hfz32_3 hfz32_4 hfz32_5 hfz32_6 hfz32_7); (try clear hfz7_0 hfz7_1 hfz7_2 hfz7_3 hfz7_4 hfz7_5 hfz7_6 hfz7_7); (try clear hfz9_0 hfz9_1 hfz9_2 hfz9_3 hfz9_4 hfz9_5 hfz9_6 hfz9_7); (try clear hx121_0 hx121_1 hx121_2 hx121_3 hx121_4 hx121_5 hx121_6 hx121_7); (try clear p121); (try clear q121)
      obtain ⟨kq, x24_29, rfl, HA, HJ29, HO_3, HO_119005, BK118, BK119, HB⟩ := hcut
      cases kq with
      | zero => exact absurd HA.out (by simp [core_simple.j1])
      | succ kj29 =>
       have H := HA.out
       clear HA
       simp only [core_simple.j1] at H
       by_cases c34 : x24_29 = true
       ·
        subst c34
        have H1 : ((core_put.f a0_0 ([] : List (S27)) x3_1).bind fun t136 => ((core_one.f a0_0 t136).bind fun bt139 => (some (bt139.1, bt139.2.1, bt139.2.2.1, bt139.2.2.2.1, bt139.2.2.2.2.1, bt139.2.2.2.2.2.1, bt139.2.2.2.2.2.2.1, bt139.2.2.2.2.2.2.2)))) = some (r1, r2, r3, r4, r5, r6, r7, r8) := by rw [if_pos rfl] at H; exact H
        clear H
        have H := H1
        clear H1
        replace H := Option.bind_eq_some_iff.mp H
        obtain ⟨t136, A350, H⟩ := H
        replace H : ((core_one.f a0_0 t136).bind fun bt139 => (some (bt139.1, bt139.2.1, bt139.2.2.1, bt139.2.2.2.1, bt139.2.2.2.2.1, bt139.2.2.2.2.2.1, bt139.2.2.2.2.2.2.1, bt139.2.2.2.2.2.2.2))) = some (r1, r2, r3, r4, r5, r6, r7, r8) := H
        have A35 := zN A350
        clear A350
        replace H := Option.bind_eq_some_iff.mp H
        obtain ⟨⟨t139, t140, t141, t142, t143, t144, t147, t148⟩, A360, H⟩ := H
        replace H : (some (t139, t140, t141, t142, t143, t144, t147, t148)) = some (r1, r2, r3, r4, r5, r6, r7, r8) := H
        have A36 := zN A360
        clear A360
        simp only [Option.some.injEq, Prod.mk.injEq] at H
        obtain ⟨rfl, rfl, rfl, rfl, rfl, rfl, rfl, rfl⟩ := H
        try go_wp2
        have n0_ := zN (Kd.N_drew HO_3.out)
        have n1_ := zN (Kd.V_drew HO_119005.out)
        have n2_ := zN (zI BK118.out)
        have n3_ := zN (zI BK119.out)
        have n4_ := zN (zD HB.out)
        clear HO_3 HO_119005 BK118 BK119 HB
        have HO_3 := n0_
        have HO_119005 := n1_
        have BK118 := n2_
        have BK119 := n3_
        have HB := n4_
        clear n0_ n1_ n2_ n3_ n4_
        obtain ⟨Ao38, co38, eo38⟩ := Kd.N_slice HO_3.out
        (first | subst eo38 | (injection eo38 with f1_ f2_ f3_; have f4_ := f1_.symm; have f5_ := f3_.symm; clear f1_ f2_ f3_; subst f4_; subst f5_))
        refine start_ (n := 8) (S := fun w' => w'.cell? ⟨gb118, 0, none⟩ = some (.int .i64 a0_0) ∧ w'.cell? ⟨gb118, 1, none⟩ = some (.int .u64 a0_1) ∧ w'.cell? ⟨gb118, 2, none⟩ = some (.int .u64 a0_2) ∧ w'.cell? ⟨gb118, 3, none⟩ = some (.int .u64 a0_3) ∧ w'.cell? ⟨gb118, 4, none⟩ = some (.int .u64 a0_4) ∧ w'.cell? ⟨gb118, 5, none⟩ = some (.slice A0_5 l0_5.length c0_5) ∧ w'.cell? ⟨gb118, 6, none⟩ = some (.int .i64 a0_6) ∧ w'.cell? ⟨gb118, 7, none⟩ = some (.int .i64 a0_7)) (ds := []) #[false, false, false, false, false, false, false, false] (by kernel_rfl) rfl rfl ⟨(zB BK118.out 0).trans rfl, (zB BK118.out 1).trans rfl, (zB BK118.out 2).trans rfl, (zB BK118.out 3).trans rfl, (zB BK118.out 4).trans rfl, (zB BK118.out 5).trans rfl, (zB BK118.out 6).trans rfl, (zB BK118.out 7).trans rfl⟩ (fun hHeld => ?_); refine with_tabW core_simple.tab12 core_simple.bits12 (fun HT_ HW_ => ?_)
        generalize wc.drew = w37 at HO_3 HO_119005 BK118 BK119 HB hHeld ⊢
        refine pure_ (i := 0) (N := some 27) (v := ?_) (a' := ?_) #[true, false, false, false, false, false, false, false] rfl rfl (any_of HT_.out (by kernel_rfl)) (fun _ _ _ h => h) (Or.inl ⟨by rfl, ?_⟩) ?_ ?_
        rotate_left
        ·
         intro w'
         go_simp
         with_reducible rfl
        rotate_left
        ·
         simp only [Act.put, zP, zQ, zR, i64_w, i32_w]
         rfl
        refine pure_ (i := 2) (N := some 29) (v := ?_) (a' := ?_) #[true, false, true, false, false, false, false, false] rfl rfl (any_of HT_.out (by kernel_rfl)) (fun _ _ _ h => h) (Or.inl ⟨by rfl, ?_⟩) ?_ ?_
        rotate_left
        ·
         intro w'
         go_simp
         with_reducible rfl
        rotate_left
        ·
         simp only [Act.put, zP, zQ, zR, i64_w, i32_w]
         rfl
        refine pure_ (i := 4) (N := some 31) (v := ?_) (a' := ?_) #[true, false, true, false, true, false, false, false] rfl rfl (any_of HT_.out (by kernel_rfl)) (fun _ _ _ h => h) (Or.inl ⟨by rfl, ?_⟩) ?_ ?_
        rotate_left
        ·
         intro w'
         go_simp
         with_reducible rfl
        rotate_left
        ·
         simp only [Act.put, zP, zQ, zR, i64_w, i32_w]
         rfl
        refine take_ (i := 1) (N := some 28) (v := ?_) (a' := ?_) #[true, true, true, false, true, false, false, false] rfl rfl (take_ofW HT_.out HW_.out (by kernel_rfl)) (fun _ _ _ h => h) (Or.inl ⟨by rfl, ?_⟩) hHeld ?_ ?_
        rotate_left
        ·
         rintro w' ⟨s0, s1, s2, s3, s4, s5, s6, s7⟩
         go_simp
         with_reducible rfl
        rotate_left
        ·
         simp only [Act.put, zP, zQ, zR, i64_w, i32_w]
         rfl
        refine take_ (i := 3) (N := some 30) (v := ?_) (a' := ?_) #[true, true, true, true, true, false, false, false] rfl rfl (take_ofW HT_.out HW_.out (by kernel_rfl)) (fun _ _ _ h => h) (Or.inl ⟨by rfl, ?_⟩) hHeld ?_ ?_
        rotate_left
        ·
         rintro w' ⟨s0, s1, s2, s3, s4, s5, s6, s7⟩
         go_simp
         with_reducible rfl
        rotate_left
        ·
         simp only [Act.put, zP, zQ, zR, i64_w, i32_w]
         rfl
        refine one_ (i := 5) (N := some 32) #[true, true, true, true, true, true, false, false] rfl rfl (one_of HT_.out (by kernel_rfl)) (by decide) (fun K hK => ?_)
        refine goes_ Try.func34 (by kernel_rfl) rfl #[.int .i64 a0_0, .slice none 0 0, .slice Ao38 x3_1.length co38] (by rfl) rfl rfl (by (try simp only [List.map_toArray, List.map_cons, List.map_nil]); first | done | rfl | (simp only [List.length_drop, List.length_take]; rfl)) ?_
        refine (core_put.calls a0_0 _ _ ([] : List (S27)) (fun k_ => ((P0_5_ k_ ∨ w.heap.size ≤ k_) ∧ (k_ ≠ gb118 ∧ k_ ≠ gb119))) _ _ x3_1 t136 _ ?side1 ?side2 ?side3 A35.out).mono ?_
        (case side1 => exact Kd.C_nil _ _)
        (case side2 => exact Nat.le_refl _)
        (case side3 => exact Kd.N_V (HO_3.out))
        rintro e w39 ⟨v137, rfl, ho0, hb⟩
        refine ⟨_, rfl, ?_⟩
        have n0_ := zN (Kd.N_elder' (by (with_reducible repeat (first | apply Kd.N_alloc | apply Kd.N_drewN | apply Kd.N_drew)); exact HO_3.out) (Kd.N_base ho0) hb)
        have n1_ := zN (Kd.V_elder' (by (with_reducible repeat (first | apply Kd.V_alloc | apply Kd.V_drewN | apply Kd.V_drew)); exact HO_119005.out) (Kd.N_base ho0) hb)
        have n2_ := zN (Kd.N_lower (Kd.N_mono (ok' := fun k_ => (P0_5_ k_ ∨ w.heap.size ≤ k_) ∧ k_ ≠ gb118 ∧ k_ ≠ gb119) ho0 (fun k_ hk_ => ⟨Or.elim hk_ (fun hs_ => hs_.1) (fun hn_ => (.inr (Nat.le_trans (zK (by repeat (first | (with_reducible first | exact HB.out | apply zE | apply zC | apply zD | refine zF ?_ GE118.out | refine zF ?_ GE119.out) | exact HB.out))) hn_))), Or.elim hk_ (fun hs_ => hs_.2.1) (fun hn_ => (Kd.freshB (g := gb118) (o := .cells #[.int .i64 a0_0, .int .u64 a0_1, .int .u64 a0_2, .int .u64 a0_3, .int .u64 a0_4, .slice A0_5 l0_5.length c0_5, .int .i64 a0_6, .int .i64 a0_7] 27 (0, 0)) (by (with_reducible repeat (first | refine zH ?_ _ | refine zI ?_ | refine zG ?_ _)); exact BK118.out) k_ hn_)), Or.elim hk_ (fun hs_ => hs_.2.2) (fun hn_ => (Kd.freshB (g := gb119) (o := .cells #[.int .i64 0, .int .u64 0, .int .u64 0, .int .u64 0, .int .u64 0, .slice none 0 0, .int .i64 0, .int .i64 0] 27 (0, 0)) (by (with_reducible repeat (first | refine zH ?_ _ | refine zI ?_ | refine zG ?_ _)); exact BK119.out) k_ hn_))⟩)) (zK (by repeat (first | (with_reducible first | exact HB.out | apply zE | apply zC | apply zD | refine zF ?_ GE118.out | refine zF ?_ GE119.out) | exact HB.out))))
        have n3_ := zN (zM (g := gb118) (o := .cells #[.int .i64 a0_0, .int .u64 a0_1, .int .u64 a0_2, .int .u64 a0_3, .int .u64 a0_4, .slice A0_5 l0_5.length c0_5, .int .i64 a0_6, .int .i64 a0_7] 27 (0, 0)) (by (with_reducible repeat (first | refine zH ?_ _ | refine zI ?_ | refine zG ?_ _)); exact BK118.out) hb)
        have n4_ := zN (zM (g := gb119) (o := .cells #[.int .i64 0, .int .u64 0, .int .u64 0, .int .u64 0, .int .u64 0, .slice none 0 0, .int .i64 0, .int .i64 0] 27 (0, 0)) (by (with_reducible repeat (first | refine zH ?_ _ | refine zI ?_ | refine zG ?_ _)); exact BK119.out) hb)
        have n5_ := zN (zJ (by repeat (first | (with_reducible first | exact HB.out | apply zE | apply zC | apply zD | refine zF ?_ GE118.out | refine zF ?_ GE119.out) | exact HB.out)) hb)
        clear HO_3 HO_119005 BK118 BK119 HB
        have HO_3 := n0_
        have HO_119005 := n1_
        have HO138 := n2_
        have BK118 := n3_
        have BK119 := n4_
        have HB := n5_
        clear n0_ n1_ n2_ n3_ n4_ n5_
        (try clear hb)
        (try clear hb2)
        (try clear hk)
        (try clear hi)
        (try clear ho0)
        obtain ⟨Ao40, co40, eo40⟩ := Kd.N_slice HO138.out
        (first | subst eo40 | (injection eo40 with f1_ f2_ f3_; have f4_ := f1_.symm; have f5_ := f3_.symm; clear f1_ f2_ f3_; subst f4_; subst f5_))
        refine hK.out _ _ ⟨(zB BK118.out 0).trans rfl, (zB BK118.out 1).trans rfl, (zB BK118.out 2).trans rfl, (zB BK118.out 3).trans rfl, (zB BK118.out 4).trans rfl, (zB BK118.out 5).trans rfl, (zB BK118.out 6).trans rfl, (zB BK118.out 7).trans rfl⟩ (fun hHeld => ?_)
        clear hK K
        refine norm_ (a' := ?_) ?_ ?_
        rotate_left
        ·
         show Act.put _ (some 32) _ = _
         simp only [Act.put, zP, zQ, zR, i64_w, i32_w]
         rfl
        refine one_ (i := 6) (N := some 33) #[true, true, true, true, true, true, true, false] rfl rfl (one_of HT_.out (by kernel_rfl)) (by decide) (fun K hK => ?_)
        refine goes_ Try.func33 (by kernel_rfl) rfl #[.int .i64 a0_0, .slice Ao40 t136.length co40] (by rfl) rfl rfl (by (try simp only [List.map_toArray, List.map_cons, List.map_nil]); first | done | rfl | (simp only [List.length_drop, List.length_take]; rfl)) ?_
        with_reducible refine (core_one.calls a0_0 (fun k_ => ((P0_5_ k_ ∨ w.heap.size ≤ k_) ∧ (k_ ≠ gb118 ∧ k_ ≠ gb119))) _ _ t136 t139 t140 t141 t142 t143 t144 t147 t148 _ ?side1 A36.out).mono ?_
        (case side1 => exact Kd.N_V (HO138.out))
        rintro e w41 ⟨v145, rfl, ho0, hb⟩
        refine ⟨_, rfl, ?_⟩
        have n0_ := zN (Kd.N_below (by (with_reducible repeat (first | apply Kd.N_alloc | apply Kd.N_drewN | apply Kd.N_drew)); exact HO_3.out) hb)
        have n1_ := zN (Kd.V_below (by (with_reducible repeat (first | apply Kd.V_alloc | apply Kd.V_drewN | apply Kd.V_drew)); exact HO_119005.out) hb)
        have n2_ := zN (Kd.N_below (by (with_reducible repeat (first | apply Kd.N_alloc | apply Kd.N_drewN | apply Kd.N_drew)); exact HO138.out) hb)
        have n3_ := zN (Kd.V_lower (Kd.V_mono (ok' := fun k_ => (P0_5_ k_ ∨ w.heap.size ≤ k_) ∧ k_ ≠ gb118 ∧ k_ ≠ gb119) ho0 (fun k_ hk_ => ⟨Or.elim hk_ (fun hs_ => hs_.1) (fun hn_ => (.inr (Nat.le_trans (zK (by repeat (first | (with_reducible first | exact HB.out | apply zE | apply zC | apply zD | refine zF ?_ GE118.out | refine zF ?_ GE119.out) | exact HB.out))) hn_))), Or.elim hk_ (fun hs_ => hs_.2.1) (fun hn_ => (Kd.freshB (g := gb118) (o := .cells #[.int .i64 a0_0, .int .u64 a0_1, .int .u64 a0_2, .int .u64 a0_3, .int .u64 a0_4, .slice A0_5 l0_5.length c0_5, .int .i64 a0_6, .int .i64 a0_7] 27 (0, 0)) (by (with_reducible repeat (first | refine zH ?_ _ | refine zI ?_ | refine zG ?_ _)); exact BK118.out) k_ hn_)), Or.elim hk_ (fun hs_ => hs_.2.2) (fun hn_ => (Kd.freshB (g := gb119) (o := .cells #[.int .i64 0, .int .u64 0, .int .u64 0, .int .u64 0, .int .u64 0, .slice none 0 0, .int .i64 0, .int .i64 0] 27 (0, 0)) (by (with_reducible repeat (first | refine zH ?_ _ | refine zI ?_ | refine zG ?_ _)); exact BK119.out) k_ hn_))⟩)) (zK (by repeat (first | (with_reducible first | exact HB.out | apply zE | apply zC | apply zD | refine zF ?_ GE118.out | refine zF ?_ GE119.out) | exact HB.out))))
        have n4_ := zN (zM (g := gb118) (o := .cells #[.int .i64 a0_0, .int .u64 a0_1, .int .u64 a0_2, .int .u64 a0_3, .int .u64 a0_4, .slice A0_5 l0_5.length c0_5, .int .i64 a0_6, .int .i64 a0_7] 27 (0, 0)) (by (with_reducible repeat (first | refine zH ?_ _ | refine zI ?_ | refine zG ?_ _)); exact BK118.out) hb)
        have n5_ := zN (zM (g := gb119) (o := .cells #[.int .i64 0, .int .u64 0, .int .u64 0, .int .u64 0, .int .u64 0, .slice none 0 0, .int .i64 0, .int .i64 0] 27 (0, 0)) (by (with_reducible repeat (first | refine zH ?_ _ | refine zI ?_ | refine zG ?_ _)); exact BK119.out) hb)
        have n6_ := zN (zJ (by repeat (first | (with_reducible first | exact HB.out | apply zE | apply zC | apply zD | refine zF ?_ GE118.out | refine zF ?_ GE119.out) | exact HB.out)) hb)
        clear HO_3 HO_119005 HO138 BK118 BK119 HB
        have HO_3 := n0_
        have HO_119005 := n1_
        have HO138 := n2_
        have HO146 := n3_
        have BK118 := n4_
        have BK119 := n5_
        have HB := n6_
        clear n0_ n1_ n2_ n3_ n4_ n5_ n6_
        (try clear hb)
        (try clear hb2)
        (try clear hk)
        (try clear hi)
        (try clear ho0)
        obtain ⟨Ao47, co47, eo47⟩ := Kd.V_slice HO146.out
        (first | subst eo47 | (injection eo47 with f1_ f2_ f3_; have f4_ := f1_.symm; have f5_ := f3_.symm; clear f1_ f2_ f3_; subst f4_; subst f5_))
        refine hK.out _ _ ⟨(zB BK118.out 0).trans rfl, (zB BK118.out 1).trans rfl, (zB BK118.out 2).trans rfl, (zB BK118.out 3).trans rfl, (zB BK118.out 4).trans rfl, (zB BK118.out 5).trans rfl, (zB BK118.out 6).trans rfl, (zB BK118.out 7).trans rfl⟩ (fun hHeld => ?_)
        clear hK K
        refine norm_ (a' := ?_) ?_ ?_
        rotate_left
        ·
         show Act.put _ (some 33) _ = _
         simp only [Act.put, zP, zQ, zR, i64_w, i32_w]
         rfl
        refine one_ (i := 7) (N := none) #[true, true, true, true, true, true, true, true] rfl rfl (one_of HT_.out (by kernel_rfl)) (by decide) (fun K hK => ?_)
        have hs42 : w41.cell? ⟨gb119, 0, none⟩ = some (.int .i64 0) := (zB BK119.out 0).trans rfl
        have hfs42 := zA BK119.out 0
        have hns42_0 := NB118_119.out
        have hms42_0 := NB119_118.out
        have hs43 : w41.cell? ⟨gb119, 1, none⟩ = some (.int .u64 0) := (zB BK119.out 1).trans rfl
        have hfs43 := zA BK119.out 1
        have hns43_0 := NB118_119.out
        have hms43_0 := NB119_118.out
        have hs44 : w41.cell? ⟨gb119, 2, none⟩ = some (.int .u64 0) := (zB BK119.out 2).trans rfl
        have hfs44 := zA BK119.out 2
        have hns44_0 := NB118_119.out
        have hms44_0 := NB119_118.out
        have hs45 : w41.cell? ⟨gb119, 3, none⟩ = some (.int .u64 0) := (zB BK119.out 3).trans rfl
        have hfs45 := zA BK119.out 3
        have hns45_0 := NB118_119.out
        have hms45_0 := NB119_118.out
        have hs46 : w41.cell? ⟨gb119, 4, none⟩ = some (.int .u64 0) := (zB BK119.out 4).trans rfl
        have hfs46 := zA BK119.out 4
        have hns46_0 := NB118_119.out
        have hms46_0 := NB119_118.out
        have hs48 : w41.cell? ⟨gb119, 5, none⟩ = some (.slice none 0 0) := (zB BK119.out 5).trans rfl
        have hfs48 := zA BK119.out 5
        have hns48_0 := NB118_119.out
        have hms48_0 := NB119_118.out
        have hs49 : w41.cell? ⟨gb119, 6, none⟩ = some (.int .i64 0) := (zB BK119.out 6).trans rfl
        have hfs49 := zA BK119.out 6
        have hns49_0 := NB118_119.out
        have hms49_0 := NB119_118.out
        have hs50 : w41.cell? ⟨gb119, 7, none⟩ = some (.int .i64 0) := (zB BK119.out 7).trans rfl
        have hfs50 := zA BK119.out 7
        have hns50_0 := NB118_119.out
        have hms50_0 := NB119_118.out
        refine skip_ (w1 := ?_) (by rfl) rfl ?_ ?_
        rotate_left
        ·
         go_simp
         rfl
        refine hK.out _ _ ⟨((zL (p := ⟨gb119, _, none⟩) NB118_119.out _).trans (((zL (p := ⟨gb119, _, none⟩) NB118_119.out _).trans (((zL (p := ⟨gb119, _, none⟩) NB118_119.out _).trans (((zL (p := ⟨gb119, _, none⟩) NB118_119.out _).trans (((zL (p := ⟨gb119, _, none⟩) NB118_119.out _).trans (((zL (p := ⟨gb119, _, none⟩) NB118_119.out _).trans (((zL (p := ⟨gb119, _, none⟩) NB118_119.out _).trans (((zL (p := ⟨gb119, _, none⟩) NB118_119.out _).trans (hHeld.1)))))))))))))))), ((zL (p := ⟨gb119, _, none⟩) NB118_119.out _).trans (((zL (p := ⟨gb119, _, none⟩) NB118_119.out _).trans (((zL (p := ⟨gb119, _, none⟩) NB118_119.out _).trans (((zL (p := ⟨gb119, _, none⟩) NB118_119.out _).trans (((zL (p := ⟨gb119, _, none⟩) NB118_119.out _).trans (((zL (p := ⟨gb119, _, none⟩) NB118_119.out _).trans (((zL (p := ⟨gb119, _, none⟩) NB118_119.out _).trans (((zL (p := ⟨gb119, _, none⟩) NB118_119.out _).trans (hHeld.2.1)))))))))))))))), ((zL (p := ⟨gb119, _, none⟩) NB118_119.out _).trans (((zL (p := ⟨gb119, _, none⟩) NB118_119.out _).trans (((zL (p := ⟨gb119, _, none⟩) NB118_119.out _).trans (((zL (p := ⟨gb119, _, none⟩) NB118_119.out _).trans (((zL (p := ⟨gb119, _, none⟩) NB118_119.out _).trans (((zL (p := ⟨gb119, _, none⟩) NB118_119.out _).trans (((zL (p := ⟨gb119, _, none⟩) NB118_119.out _).trans (((zL (p := ⟨gb119, _, none⟩) NB118_119.out _).trans (hHeld.2.2.1)))))))))))))))), ((zL (p := ⟨gb119, _, none⟩) NB118_119.out _).trans (((zL (p := ⟨gb119, _, none⟩) NB118_119.out _).trans (((zL (p := ⟨gb119, _, none⟩) NB118_119.out _).trans (((zL (p := ⟨gb119, _, none⟩) NB118_119.out _).trans (((zL (p := ⟨gb119, _, none⟩) NB118_119.out _).trans (((zL (p := ⟨gb119, _, none⟩) NB118_119.out _).trans (((zL (p := ⟨gb119, _, none⟩) NB118_119.out _).trans (((zL (p := ⟨gb119, _, none⟩) NB118_119.out _).trans (hHeld.2.2.2.1)))))))))))))))), ((zL (p := ⟨gb119, _, none⟩) NB118_119.out _).trans (((zL (p := ⟨gb119, _, none⟩) NB118_119.out _).trans (((zL (p := ⟨gb119, _, none⟩) NB118_119.out _).trans (((zL (p := ⟨gb119, _, none⟩) NB118_119.out _).trans (((zL (p := ⟨gb119, _, none⟩) NB118_119.out _).trans (((zL (p := ⟨gb119, _, none⟩) NB118_119.out _).trans (((zL (p := ⟨gb119, _, none⟩) NB118_119.out _).trans (((zL (p := ⟨gb119, _, none⟩) NB118_119.out _).trans (hHeld.2.2.2.2.1)))))))))))))))), ((zL (p := ⟨gb119, _, none⟩) NB118_119.out _).trans (((zL (p := ⟨gb119, _, none⟩) NB118_119.out _).trans (((zL (p := ⟨gb119, _, none⟩) NB118_119.out _).trans (((zL (p := ⟨gb119, _, none⟩) NB118_119.out _).trans (((zL (p := ⟨gb119, _, none⟩) NB118_119.out _).trans (((zL (p := ⟨gb119, _, none⟩) NB118_119.out _).trans (((zL (p := ⟨gb119, _, none⟩) NB118_119.out _).trans (((zL (p := ⟨gb119, _, none⟩) NB118_119.out _).trans (hHeld.2.2.2.2.2.1)))))))))))))))), ((zL (p := ⟨gb119, _, none⟩) NB118_119.out _).trans (((zL (p := ⟨gb119, _, none⟩) NB118_119.out _).trans (((zL (p := ⟨gb119, _, none⟩) NB118_119.out _).trans (((zL (p := ⟨gb119, _, none⟩) NB118_119.out _).trans (((zL (p := ⟨gb119, _, none⟩) NB118_119.out _).trans (((zL (p := ⟨gb119, _, none⟩) NB118_119.out _).trans (((zL (p := ⟨gb119, _, none⟩) NB118_119.out _).trans (((zL (p := ⟨gb119, _, none⟩) NB118_119.out _).trans (hHeld.2.2.2.2.2.2.1)))))))))))))))), ((zL (p := ⟨gb119, _, none⟩) NB118_119.out _).trans (((zL (p := ⟨gb119, _, none⟩) NB118_119.out _).trans (((zL (p := ⟨gb119, _, none⟩) NB118_119.out _).trans (((zL (p := ⟨gb119, _, none⟩) NB118_119.out _).trans (((zL (p := ⟨gb119, _, none⟩) NB118_119.out _).trans (((zL (p := ⟨gb119, _, none⟩) NB118_119.out _).trans (((zL (p := ⟨gb119, _, none⟩) NB118_119.out _).trans (((zL (p := ⟨gb119, _, none⟩) NB118_119.out _).trans (hHeld.2.2.2.2.2.2.2))))))))))))))))⟩ (fun hHeld => ?_)
        clear hK K
        refine done_ (done_of HT_.out (by kernel_rfl)) ?_
        try go_wp2
        refine bodyPost_ret (results_cell_row rfl _ _ gb119 27 #[.int .i64 t139, .int .u64 t140, .int .u64 t141, .int .u64 t142, .int .u64 t143, .slice Ao47 t144.length co47, .int .i64 t147, .int .i64 t148] (0, 0) _ rfl (by (with_reducible repeat (first | refine zH ?_ _ | refine zI ?_ | refine zG ?_ _)); refine blk_put (cs := #[.int .i64 t139, .int .u64 t140, .int .u64 t141, .int .u64 t142, .int .u64 t143, .slice Ao47 t144.length co47, .int .i64 t147, .int .i64 0]) ?_ 7 _ rfl; (with_reducible repeat (first | refine zH ?_ _ | refine zI ?_ | refine zG ?_ _)); refine blk_put (cs := #[.int .i64 t139, .int .u64 t140, .int .u64 t141, .int .u64 t142, .int .u64 t143, .slice Ao47 t144.length co47, .int .i64 0, .int .i64 0]) ?_ 6 _ rfl; (with_reducible repeat (first | refine zH ?_ _ | refine zI ?_ | refine zG ?_ _)); refine blk_put (cs := #[.int .i64 t139, .int .u64 t140, .int .u64 t141, .int .u64 t142, .int .u64 t143, .slice none 0 0, .int .i64 0, .int .i64 0]) ?_ 5 _ rfl; (with_reducible repeat (first | refine zH ?_ _ | refine zI ?_ | refine zG ?_ _)); refine blk_put (cs := #[.int .i64 t139, .int .u64 t140, .int .u64 t141, .int .u64 t142, .int .u64 0, .slice none 0 0, .int .i64 0, .int .i64 0]) ?_ 4 _ rfl; (with_reducible repeat (first | refine zH ?_ _ | refine zI ?_ | refine zG ?_ _)); refine blk_put (cs := #[.int .i64 t139, .int .u64 t140, .int .u64 t141, .int .u64 0, .int .u64 0, .slice none 0 0, .int .i64 0, .int .i64 0]) ?_ 3 _ rfl; (with_reducible repeat (first | refine zH ?_ _ | refine zI ?_ | refine zG ?_ _)); refine blk_put (cs := #[.int .i64 t139, .int .u64 t140, .int .u64 0, .int .u64 0, .int .u64 0, .slice none 0 0, .int .i64 0, .int .i64 0]) ?_ 2 _ rfl; (with_reducible repeat (first | refine zH ?_ _ | refine zI ?_ | refine zG ?_ _)); refine blk_put (cs := #[.int .i64 t139, .int .u64 0, .int .u64 0, .int .u64 0, .int .u64 0, .slice none 0 0, .int .i64 0, .int .i64 0]) ?_ 1 _ rfl; (with_reducible repeat (first | refine zH ?_ _ | refine zI ?_ | refine zG ?_ _)); refine blk_put (cs := #[.int .i64 0, .int .u64 0, .int .u64 0, .int .u64 0, .int .u64 0, .slice none 0 0, .int .i64 0, .int .i64 0]) ?_ 0 _ rfl; (with_reducible repeat (first | refine zH ?_ _ | refine zI ?_ | refine zG ?_ _)); exact BK119.out) Try.underlying27 rfl (by kernel_rfl)) rfl ?_
        exact ⟨_, by first | rfl | (simp [errW_none, errW_some] <;> rfl) | (simp [*, errW_none, errW_some] <;> rfl), by (with_reducible repeat (first | apply Kd.V_alloc | apply Kd.V_drewN | apply Kd.V_drew)); exact Kd.V_mono (Kd.V_far (p := ⟨gb119, 7, none⟩) (Kd.V_far (p := ⟨gb119, 6, none⟩) (Kd.V_far (p := ⟨gb119, 5, none⟩) (Kd.V_far (p := ⟨gb119, 4, none⟩) (Kd.V_far (p := ⟨gb119, 3, none⟩) (Kd.V_far (p := ⟨gb119, 2, none⟩) (Kd.V_far (p := ⟨gb119, 1, none⟩) (Kd.V_far (p := ⟨gb119, 0, none⟩) (Kd.V_mono HO146.out (fun k_ hk => (⟨hk, hk.2.2⟩ : _ ∧ k_ ≠ gb119))) (fun _ hk => hk.2) (.int .i64 t139)) (fun _ hk => hk.2) (.int .u64 t140)) (fun _ hk => hk.2) (.int .u64 t141)) (fun _ hk => hk.2) (.int .u64 t142)) (fun _ hk => hk.2) (.int .u64 t143)) (fun _ hk => hk.2) (.slice Ao47 t144.length co47)) (fun _ hk => hk.2) (.int .i64 t147)) (fun _ hk => hk.2) (.int .i64 t148)) (fun _ hk => hk.1.1), by repeat (first | (with_reducible first | exact HB.out | apply zE | apply zC | apply zD | refine zF ?_ GE118.out | refine zF ?_ GE119.out) | exact HB.out)⟩
       ·
        replace c34 := Bool.eq_false_iff.mpr c34
        subst c34
        have H1 : (if a0_0 = 4 then (if 0 < (x3_1.length : Int) then ((core_times.f kj29 ((rd_T27 x3_1 0).f0) ((rd_T27 x3_1 0).f1.f0) ((rd_T27 x3_1 0).f1.f1) ((rd_T27 x3_1 0).f1.f2) ((rd_T27 x3_1 0).f1.f3) ((rd_T27 x3_1 0).f2) ((rd_T27 x3_1 0).f3) ((rd_T27 x3_1 0).f4) a0_6 a0_7).bind fun bt150 => (some (bt150.1, bt150.2.1, bt150.2.2.1, bt150.2.2.2.1, bt150.2.2.2.2.1, bt150.2.2.2.2.2.1, bt150.2.2.2.2.2.2.1, bt150.2.2.2.2.2.2.2))) else (none)) else (some (a0_0, a0_1, a0_2, a0_3, a0_4, l0_5, a0_6, a0_7))) = some (r1, r2, r3, r4, r5, r6, r7, r8) := by rw [if_neg (show ¬ (false = true) by decide)] at H; exact H
        clear H
        have H := H1
        clear H1
        by_cases c51 : a0_0 = 4
        ·
         rw [if_pos c51] at H
         have c51b0 : (a0_0 == 4) = true := beq_iff_eq.mpr c51
         have c51b1 : (a0_0 != 4) = false := bne_eq_false_iff_eq.mpr c51
         clear c51
         by_cases c52 : 0 < (x3_1.length : Int)
         ·
          rw [if_pos c52] at H
          have c52b0 : decide (0 < (x3_1.length : Int)) = true := decide_eq_true c52
          have c52b1 : decide (0 < x3_1.length) = true := decide_eq_true (by omega)
          clear c52
          replace H := Option.bind_eq_some_iff.mp H
          obtain ⟨⟨t150, t151, t152, t153, t154, t155, t158, t159⟩, A530, H⟩ := H
          replace H : (some (t150, t151, t152, t153, t154, t155, t158, t159)) = some (r1, r2, r3, r4, r5, r6, r7, r8) := H
          have A53 := zN A530
          clear A530
          simp only [Option.some.injEq, Prod.mk.injEq] at H
          obtain ⟨rfl, rfl, rfl, rfl, rfl, rfl, rfl, rfl⟩ := H
          try go_wp2
          have n0_ := zN (Kd.N_drew HO_3.out)
          have n1_ := zN (Kd.V_drew HO_119005.out)
          have n2_ := zN (zI BK118.out)
          have n3_ := zN (zI BK119.out)
          have n4_ := zN (zD HB.out)
          clear HO_3 HO_119005 BK118 BK119 HB
          have HO_3 := n0_
          have HO_119005 := n1_
          have BK118 := n2_
          have BK119 := n3_
          have HB := n4_
          clear n0_ n1_ n2_ n3_ n4_
          obtain ⟨Ao55, co55, eo55⟩ := Kd.N_slice HO_3.out
          (first | subst eo55 | (injection eo55 with f1_ f2_ f3_; have f4_ := f1_.symm; have f5_ := f3_.symm; clear f1_ f2_ f3_; subst f4_; subst f5_))
          have p149 : 0 ≤ (0 : Int) := (by omega)
          have q149 : 0 < (x3_1.length : Int) := of_decide_eq_true (by first | (with_reducible assumption) | assumption)
          obtain ⟨ad149, A149_5, c149_5, e149, hx149_0, hx149_1, hx149_2, hx149_3, hx149_4, hx149_5, hx149_6, hx149_7, hl149_5, hi149_5⟩ := at_T27 (Kd.N_reads' HO_3.out).2.2 0 p149 q149
          cases e149
          obtain ⟨ce149, hce149, hMe149, hcc149⟩ := Kd.N_get HO_3.out z27 0 p149 (by first | exact q149 | exact of_decide_eq_true (by first | (with_reducible assumption) | assumption) | (have e_ := (Kd.N_reads' HO_3.out).1; omega))
          obtain ⟨ua149_5, uc149_5, rfl, ul149_5, ge149_5⟩ := k27_openF hMe149
          have hv149_5 := hcc149 5 _ rfl
          rw [add_field _ _ 5 (by omega)] at hv149_5
          replace hv149_5 := Option.some.inj (hv149_5.symm.trans hx149_5)
          injection hv149_5 with hva_ hvn_ hvc_
          rw [hva_] at ge149_5
          rw [hvc_] at ul149_5
          have HL149_5 := zN (show Kd.V k27 27 _ w.heap.size _ _ ((rd_T27 x3_1 0).f2) from Kd.V_mk ul149_5 ge149_5)
          clear hva_ hvn_ hvc_ ge149_5 ul149_5 hcc149 hce149
          have qi149 : (0 < x3_1.length) = True := eq_true (by omega)
          (try rw [show ((0 : Int)).toNat = 0 from rfl] at hx149_0)
          (try rw [show 0 * 8 = 0 from rfl] at hx149_0)
          (try rw [Addr.add_zero'] at hx149_0)
          (try rw [show ((0 : Int)).toNat = 0 from rfl] at hx149_1)
          (try rw [show 0 * 8 = 0 from rfl] at hx149_1)
          (try rw [Addr.add_zero'] at hx149_1)
          (try rw [show ((0 : Int)).toNat = 0 from rfl] at hx149_2)
          (try rw [show 0 * 8 = 0 from rfl] at hx149_2)
          (try rw [Addr.add_zero'] at hx149_2)
          (try rw [show ((0 : Int)).toNat = 0 from rfl] at hx149_3)
          (try rw [show 0 * 8 = 0 from rfl] at hx149_3)
          (try rw [Addr.add_zero'] at hx149_3)
          (try rw [show ((0 : Int)).toNat = 0 from rfl] at hx149_4)
          (try rw [show 0 * 8 = 0 from rfl] at hx149_4)
          (try rw [Addr.add_zero'] at hx149_4)
          (try rw [show ((0 : Int)).toNat = 0 from rfl] at hx149_5)
          (try rw [show 0 * 8 = 0 from rfl] at hx149_5)
          (try rw [Addr.add_zero'] at hx149_5)
          (try rw [show ((0 : Int)).toNat = 0 from rfl] at hx149_6)
          (try rw [show 0 * 8 = 0 from rfl] at hx149_6)
          (try rw [Addr.add_zero'] at hx149_6)
          (try rw [show ((0 : Int)).toNat = 0 from rfl] at hx149_7)
          (try rw [show 0 * 8 = 0 from rfl] at hx149_7)
          (try rw [Addr.add_zero'] at hx149_7)
          have HR149_5 := zN hi149_5
          have HC149_5 := zN hl149_5
          clear hi149_5 hl149_5
          replace p149 := eq_true p149
          replace q149 := eq_true q149
          refine start_ (n := 9) (S := fun w' => w'.cell? ⟨gb118, 0, none⟩ = some (.int .i64 a0_0) ∧ w'.cell? ⟨gb118, 1, none⟩ = some (.int .u64 a0_1) ∧ w'.cell? ⟨gb118, 2, none⟩ = some (.int .u64 a0_2) ∧ w'.cell? ⟨gb118, 3, none⟩ = some (.int .u64 a0_3) ∧ w'.cell? ⟨gb118, 4, none⟩ = some (.int .u64 a0_4) ∧ w'.cell? ⟨gb118, 5, none⟩ = some (.slice A0_5 l0_5.length c0_5) ∧ w'.cell? ⟨gb118, 6, none⟩ = some (.int .i64 a0_6) ∧ w'.cell? ⟨gb118, 7, none⟩ = some (.int .i64 a0_7) ∧ w'.cell? ad149 = some (.int .i64 ((rd_T27 x3_1 0).f0)) ∧ w'.cell? ⟨ad149.block, ad149.off + 1, none⟩ = some (.int .u64 ((rd_T27 x3_1 0).f1.f0)) ∧ w'.cell? ⟨ad149.block, ad149.off + 2, none⟩ = some (.int .u64 ((rd_T27 x3_1 0).f1.f1)) ∧ w'.cell? ⟨ad149.block, ad149.off + 3, none⟩ = some (.int .u64 ((rd_T27 x3_1 0).f1.f2)) ∧ w'.cell? ⟨ad149.block, ad149.off + 4, none⟩ = some (.int .u64 ((rd_T27 x3_1 0).f1.f3)) ∧ w'.cell? ⟨ad149.block, ad149.off + 5, none⟩ = some (.slice A149_5 ((rd_T27 x3_1 0).f2).length c149_5) ∧ w'.cell? ⟨ad149.block, ad149.off + 6, none⟩ = some (.int .i64 ((rd_T27 x3_1 0).f3)) ∧ w'.cell? ⟨ad149.block, ad149.off + 7, none⟩ = some (.int .i64 ((rd_T27 x3_1 0).f4))) (ds := []) #[false, false, false, false, false, false, false, false, false] (by kernel_rfl) rfl rfl ⟨(zB BK118.out 0).trans rfl, (zB BK118.out 1).trans rfl, (zB BK118.out 2).trans rfl, (zB BK118.out 3).trans rfl, (zB BK118.out 4).trans rfl, (zB BK118.out 5).trans rfl, (zB BK118.out 6).trans rfl, (zB BK118.out 7).trans rfl, hx149_0, hx149_1, hx149_2, hx149_3, hx149_4, hx149_5, hx149_6, hx149_7⟩ (fun hHeld => ?_); refine with_tabW core_simple.tab14 core_simple.bits14 (fun HT_ HW_ => ?_)
          generalize wc.drew = w54 at HO_3 HO_119005 BK118 BK119 HB HL149_5 HR149_5 hx149_0 hx149_1 hx149_2 hx149_3 hx149_4 hx149_5 hx149_6 hx149_7 hHeld ⊢
          refine pure_ (i := 0) (N := some 36) (v := ?_) (a' := ?_) #[true, false, false, false, false, false, false, false, false] rfl rfl (any_of HT_.out (by kernel_rfl)) (fun _ _ _ h => h) (Or.inl ⟨by rfl, ?_⟩) ?_ ?_
          rotate_left
          ·
           intro w'
           go_simp
           with_reducible rfl
          rotate_left
          ·
           simp only [Act.put, zP, zQ, zR, i64_w, i32_w]
           rfl
          refine pure_ (i := 1) (N := some 37) (v := ?_) (a' := ?_) #[true, true, false, false, false, false, false, false, false] rfl rfl (any_of HT_.out (by kernel_rfl)) (fun _ _ _ h => h) (Or.inl ⟨by rfl, ?_⟩) ?_ ?_
          rotate_left
          ·
           intro w'
           go_simp
           with_reducible rfl
          rotate_left
          ·
           simp only [Act.put, zP, zQ, zR, i64_w, i32_w]
           rfl
          refine pure_ (i := 3) (N := some 39) (v := ?_) (a' := ?_) #[true, true, false, true, false, false, false, false, false] rfl rfl (any_of HT_.out (by kernel_rfl)) (fun _ _ _ h => h) (Or.inl ⟨by rfl, ?_⟩) ?_ ?_
          rotate_left
          ·
           intro w'
           go_simp
           with_reducible rfl
          rotate_left
          ·
           simp only [Act.put, zP, zQ, zR, i64_w, i32_w]
           rfl
          refine pure_ (i := 5) (N := some 41) (v := ?_) (a' := ?_) #[true, true, false, true, false, true, false, false, false] rfl rfl (any_of HT_.out (by kernel_rfl)) (fun _ _ _ h => h) (Or.inl ⟨by rfl, ?_⟩) ?_ ?_
          rotate_left
          ·
           intro w'
           go_simp
           with_reducible rfl
          rotate_left
          ·
           simp only [Act.put, zP, zQ, zR, i64_w, i32_w]
           rfl
          refine take_ (i := 2) (N := some 38) (v := ?_) (a' := ?_) #[true, true, true, true, false, true, false, false, false] rfl rfl (take_ofW HT_.out HW_.out (by kernel_rfl)) (fun _ _ _ h => h) (Or.inl ⟨by rfl, ?_⟩) hHeld ?_ ?_
          rotate_left
          ·
           rintro w' ⟨s0, s1, s2, s3, s4, s5, s6, s7, s8, s9, s10, s11, s12, s13, s14, s15⟩
           go_simp
           with_reducible rfl
          rotate_left
          ·
           simp only [Act.put, zP, zQ, zR, i64_w, i32_w]
           rfl
          refine take_ (i := 4) (N := some 40) (v := ?_) (a' := ?_) #[true, true, true, true, true, true, false, false, false] rfl rfl (take_ofW HT_.out HW_.out (by kernel_rfl)) (fun _ _ _ h => h) (Or.inl ⟨by rfl, ?_⟩) hHeld ?_ ?_
          rotate_left
          ·
           rintro w' ⟨s0, s1, s2, s3, s4, s5, s6, s7, s8, s9, s10, s11, s12, s13, s14, s15⟩
           go_simp
           with_reducible rfl
          rotate_left
          ·
           simp only [Act.put, zP, zQ, zR, i64_w, i32_w]
           rfl
          refine take_ (i := 6) (N := some 42) (v := ?_) (a' := ?_) #[true, true, true, true, true, true, true, false, false] rfl rfl (take_ofW HT_.out HW_.out (by kernel_rfl)) (fun _ _ _ h => h) (Or.inl ⟨by rfl, ?_⟩) hHeld ?_ ?_
          rotate_left
          ·
           rintro w' ⟨s0, s1, s2, s3, s4, s5, s6, s7, s8, s9, s10, s11, s12, s13, s14, s15⟩
           go_simp
           with_reducible rfl
          rotate_left
          ·
           simp only [Act.put, zP, zQ, zR, i64_w, i32_w]
           rfl
          refine one_ (i := 7) (N := some 43) #[true, true, true, true, true, true, true, true, false] rfl rfl (one_of HT_.out (by kernel_rfl)) (by decide) (fun K hK => ?_)
          refine goes_ Try.func35 (by kernel_rfl) rfl #[.agg #[.int .i64 ((rd_T27 x3_1 0).f0), .int .u64 ((rd_T27 x3_1 0).f1.f0), .int .u64 ((rd_T27 x3_1 0).f1.f1), .int .u64 ((rd_T27 x3_1 0).f1.f2), .int .u64 ((rd_T27 x3_1 0).f1.f3), .slice A149_5 ((rd_T27 x3_1 0).f2).length c149_5, .int .i64 ((rd_T27 x3_1 0).f3), .int .i64 ((rd_T27 x3_1 0).f4)], .int .i64 a0_6, .int .i64 a0_7] (by rfl) rfl rfl (by (try simp only [List.map_toArray, List.map_cons, List.map_nil]); first | done | rfl | (simp only [List.length_drop, List.length_take]; rfl)) ?_
          with_reducible refine (core_times.calls kj29 ((rd_T27 x3_1 0).f0) ((rd_T27 x3_1 0).f1.f0) ((rd_T27 x3_1 0).f1.f1) ((rd_T27 x3_1 0).f1.f2) ((rd_T27 x3_1 0).f1.f3) (fun k_ => (((P0_5_ k_ ∨ w.heap.size ≤ k_) ∧ (k_ ≠ gb118 ∧ k_ ≠ gb119)) ∧ some k_ ≠ (.slice (some ad149) x3_1.length co55 : Value).ownBlock)) _ _ ((rd_T27 x3_1 0).f2) ((rd_T27 x3_1 0).f3) ((rd_T27 x3_1 0).f4) a0_6 a0_7 t150 t151 t152 t153 t154 t155 t158 t159 _ ?side1 A53.out).mono ?_
          (case side1 => exact HL149_5.out)
          rintro e w56 ⟨v156, rfl, ho0, hb⟩
          have HS8_ := (hb.cell (zO _ _ (hHeld.2.2.2.2.2.2.2.2.1))).trans (hHeld.2.2.2.2.2.2.2.2.1)
          have HS9_ := (hb.cell (zO _ _ (hHeld.2.2.2.2.2.2.2.2.2.1))).trans (hHeld.2.2.2.2.2.2.2.2.2.1)
          have HS10_ := (hb.cell (zO _ _ (hHeld.2.2.2.2.2.2.2.2.2.2.1))).trans (hHeld.2.2.2.2.2.2.2.2.2.2.1)
          have HS11_ := (hb.cell (zO _ _ (hHeld.2.2.2.2.2.2.2.2.2.2.2.1))).trans (hHeld.2.2.2.2.2.2.2.2.2.2.2.1)
          have HS12_ := (hb.cell (zO _ _ (hHeld.2.2.2.2.2.2.2.2.2.2.2.2.1))).trans (hHeld.2.2.2.2.2.2.2.2.2.2.2.2.1)
          have HS13_ := (hb.cell (zO _ _ (hHeld.2.2.2.2.2.2.2.2.2.2.2.2.2.1))).trans (hHeld.2.2.2.2.2.2.2.2.2.2.2.2.2.1)
          have HS14_ := (hb.cell (zO _ _ (hHeld.2.2.2.2.2.2.2.2.2.2.2.2.2.2.1))).trans (hHeld.2.2.2.2.2.2.2.2.2.2.2.2.2.2.1)
          have HS15_ := (hb.cell (zO _ _ (hHeld.2.2.2.2.2.2.2.2.2.2.2.2.2.2.2))).trans (hHeld.2.2.2.2.2.2.2.2.2.2.2.2.2.2.2)
          refine ⟨_, rfl, ?_⟩
          have n0_ := zN (Kd.N_below (by (with_reducible repeat (first | apply Kd.N_alloc | apply Kd.N_drewN | apply Kd.N_drew)); exact HO_3.out) hb)
          have n1_ := zN (Kd.V_below (by (with_reducible repeat (first | apply Kd.V_alloc | apply Kd.V_drewN | apply Kd.V_drew)); exact HO_119005.out) hb)
          have n2_ := zN (Kd.V_below (by (with_reducible repeat (first | apply Kd.V_alloc | apply Kd.V_drewN | apply Kd.V_drew)); exact HL149_5.out) hb)
          have n3_ := zN (Kd.V_lower (Kd.V_mono (ok' := fun k_ => (P0_5_ k_ ∨ w.heap.size ≤ k_) ∧ some k_ ≠ (.slice (some ad149) x3_1.length co55 : Value).ownBlock ∧ k_ ≠ gb118 ∧ k_ ≠ gb119) ho0 (fun k_ hk_ => ⟨Or.elim hk_ (fun hs_ => hs_.1.1) (fun hn_ => (.inr (Nat.le_trans (zK (by repeat (first | (with_reducible first | exact HB.out | apply zE | apply zC | apply zD | refine zF ?_ GE118.out | refine zF ?_ GE119.out) | exact HB.out))) hn_))), Or.elim hk_ (fun hs_ => hs_.2) (fun hn_ => (Kd.fresh' (Kd.N_lt (by (with_reducible repeat (first | apply Kd.N_alloc | apply Kd.N_drewN | apply Kd.N_drew)); exact HO_3.out)) k_ hn_)), Or.elim hk_ (fun hs_ => hs_.1.2.1) (fun hn_ => (Kd.freshB (g := gb118) (o := .cells #[.int .i64 a0_0, .int .u64 a0_1, .int .u64 a0_2, .int .u64 a0_3, .int .u64 a0_4, .slice A0_5 l0_5.length c0_5, .int .i64 a0_6, .int .i64 a0_7] 27 (0, 0)) (by (with_reducible repeat (first | refine zH ?_ _ | refine zI ?_ | refine zG ?_ _)); exact BK118.out) k_ hn_)), Or.elim hk_ (fun hs_ => hs_.1.2.2) (fun hn_ => (Kd.freshB (g := gb119) (o := .cells #[.int .i64 0, .int .u64 0, .int .u64 0, .int .u64 0, .int .u64 0, .slice none 0 0, .int .i64 0, .int .i64 0] 27 (0, 0)) (by (with_reducible repeat (first | refine zH ?_ _ | refine zI ?_ | refine zG ?_ _)); exact BK119.out) k_ hn_))⟩)) (zK (by repeat (first | (with_reducible first | exact HB.out | apply zE | apply zC | apply zD | refine zF ?_ GE118.out | refine zF ?_ GE119.out) | exact HB.out))))
          have n4_ := zN (zM (g := gb118) (o := .cells #[.int .i64 a0_0, .int .u64 a0_1, .int .u64 a0_2, .int .u64 a0_3, .int .u64 a0_4, .slice A0_5 l0_5.length c0_5, .int .i64 a0_6, .int .i64 a0_7] 27 (0, 0)) (by (with_reducible repeat (first | refine zH ?_ _ | refine zI ?_ | refine zG ?_ _)); exact BK118.out) hb)
          have n5_ := zN (zM (g := gb119) (o := .cells #[.int .i64 0, .int .u64 0, .int .u64 0, .int .u64 0, .int .u64 0, .slice none 0 0, .int .i64 0, .int .i64 0] 27 (0, 0)) (by (with_reducible repeat (first | refine zH ?_ _ | refine zI ?_ | refine zG ?_ _)); exact BK119.out) hb)
          have n6_ := zN (Kd.C_below (by repeat (first | (with_reducible exact HR149_5.out) | (with_reducible refine Kd.C_alloc ?_ _) | (with_reducible refine Kd.C_drewN ?_ _) | (with_reducible refine Kd.C_drew ?_) | exact HR149_5.out)) hb)
          have n7_ := zN (zJ (by repeat (first | (with_reducible first | exact HB.out | apply zE | apply zC | apply zD | refine zF ?_ GE118.out | refine zF ?_ GE119.out) | exact HB.out)) hb)
          clear HO_3 HO_119005 HL149_5 BK118 BK119 HR149_5 HB
          have HO_3 := n0_
          have HO_119005 := n1_
          have HL149_5 := n2_
          have HO157 := n3_
          have BK118 := n4_
          have BK119 := n5_
          have HR149_5 := n6_
          have HB := n7_
          clear n0_ n1_ n2_ n3_ n4_ n5_ n6_ n7_
          (try clear hb)
          (try clear hb2)
          (try clear hk)
          (try clear hi)
          (try clear ho0)
          obtain ⟨Ao62, co62, eo62⟩ := Kd.V_slice HO157.out
          (first | subst eo62 | (injection eo62 with f1_ f2_ f3_; have f4_ := f1_.symm; have f5_ := f3_.symm; clear f1_ f2_ f3_; subst f4_; subst f5_))
          refine hK.out _ _ ⟨(zB BK118.out 0).trans rfl, (zB BK118.out 1).trans rfl, (zB BK118.out 2).trans rfl, (zB BK118.out 3).trans rfl, (zB BK118.out 4).trans rfl, (zB BK118.out 5).trans rfl, (zB BK118.out 6).trans rfl, (zB BK118.out 7).trans rfl, HS8_, HS9_, HS10_, HS11_, HS12_, HS13_, HS14_, HS15_⟩ (fun hHeld => ?_)
          clear hK K
          refine norm_ (a' := ?_) ?_ ?_
          rotate_left
          ·
           show Act.put _ (some 43) _ = _
           simp only [Act.put, zP, zQ, zR, i64_w, i32_w]
           rfl
          refine one_ (i := 8) (N := none) #[true, true, true, true, true, true, true, true, true] rfl rfl (one_of HT_.out (by kernel_rfl)) (by decide) (fun K hK => ?_)
          have hs57 : w56.cell? ⟨gb119, 0, none⟩ = some (.int .i64 0) := (zB BK119.out 0).trans rfl
          have hfs57 := zA BK119.out 0
          have hns57_0 := NB118_119.out
          have hms57_0 := NB119_118.out
          have hs58 : w56.cell? ⟨gb119, 1, none⟩ = some (.int .u64 0) := (zB BK119.out 1).trans rfl
          have hfs58 := zA BK119.out 1
          have hns58_0 := NB118_119.out
          have hms58_0 := NB119_118.out
          have hs59 : w56.cell? ⟨gb119, 2, none⟩ = some (.int .u64 0) := (zB BK119.out 2).trans rfl
          have hfs59 := zA BK119.out 2
          have hns59_0 := NB118_119.out
          have hms59_0 := NB119_118.out
          have hs60 : w56.cell? ⟨gb119, 3, none⟩ = some (.int .u64 0) := (zB BK119.out 3).trans rfl
          have hfs60 := zA BK119.out 3
          have hns60_0 := NB118_119.out
          have hms60_0 := NB119_118.out
          have hs61 : w56.cell? ⟨gb119, 4, none⟩ = some (.int .u64 0) := (zB BK119.out 4).trans rfl
          have hfs61 := zA BK119.out 4
          have hns61_0 := NB118_119.out
          have hms61_0 := NB119_118.out
          have hs63 : w56.cell? ⟨gb119, 5, none⟩ = some (.slice none 0 0) := (zB BK119.out 5).trans rfl
          have hfs63 := zA BK119.out 5
          have hns63_0 := NB118_119.out
          have hms63_0 := NB119_118.out
          have hs64 : w56.cell? ⟨gb119, 6, none⟩ = some (.int .i64 0) := (zB BK119.out 6).trans rfl
          have hfs64 := zA BK119.out 6
          have hns64_0 := NB118_119.out
          have hms64_0 := NB119_118.out
          have hs65 : w56.cell? ⟨gb119, 7, none⟩ = some (.int .i64 0) := (zB BK119.out 7).trans rfl
          have hfs65 := zA BK119.out 7
          have hns65_0 := NB118_119.out
          have hms65_0 := NB119_118.out
          refine skip_ (w1 := ?_) (by rfl) rfl ?_ ?_
          rotate_left
          ·
           go_simp
           rfl
          refine hK.out _ _ ⟨((zL (p := ⟨gb119, _, none⟩) NB118_119.out _).trans (((zL (p := ⟨gb119, _, none⟩) NB118_119.out _).trans (((zL (p := ⟨gb119, _, none⟩) NB118_119.out _).trans (((zL (p := ⟨gb119, _, none⟩) NB118_119.out _).trans (((zL (p := ⟨gb119, _, none⟩) NB118_119.out _).trans (((zL (p := ⟨gb119, _, none⟩) NB118_119.out _).trans (((zL (p := ⟨gb119, _, none⟩) NB118_119.out _).trans (((zL (p := ⟨gb119, _, none⟩) NB118_119.out _).trans (hHeld.1)))))))))))))))), ((zL (p := ⟨gb119, _, none⟩) NB118_119.out _).trans (((zL (p := ⟨gb119, _, none⟩) NB118_119.out _).trans (((zL (p := ⟨gb119, _, none⟩) NB118_119.out _).trans (((zL (p := ⟨gb119, _, none⟩) NB118_119.out _).trans (((zL (p := ⟨gb119, _, none⟩) NB118_119.out _).trans (((zL (p := ⟨gb119, _, none⟩) NB118_119.out _).trans (((zL (p := ⟨gb119, _, none⟩) NB118_119.out _).trans (((zL (p := ⟨gb119, _, none⟩) NB118_119.out _).trans (hHeld.2.1)))))))))))))))), ((zL (p := ⟨gb119, _, none⟩) NB118_119.out _).trans (((zL (p := ⟨gb119, _, none⟩) NB118_119.out _).trans (((zL (p := ⟨gb119, _, none⟩) NB118_119.out _).trans (((zL (p := ⟨gb119, _, none⟩) NB118_119.out _).trans (((zL (p := ⟨gb119, _, none⟩) NB118_119.out _).trans (((zL (p := ⟨gb119, _, none⟩) NB118_119.out _).trans (((zL (p := ⟨gb119, _, none⟩) NB118_119.out _).trans (((zL (p := ⟨gb119, _, none⟩) NB118_119.out _).trans (hHeld.2.2.1)))))))))))))))), ((zL (p := ⟨gb119, _, none⟩) NB118_119.out _).trans (((zL (p := ⟨gb119, _, none⟩) NB118_119.out _).trans (((zL (p := ⟨gb119, _, none⟩) NB118_119.out _).trans (((zL (p := ⟨gb119, _, none⟩) NB118_119.out _).trans (((zL (p := ⟨gb119, _, none⟩) NB118_119.out _).trans (((zL (p := ⟨gb119, _, none⟩) NB118_119.out _).trans (((zL (p := ⟨gb119, _, none⟩) NB118_119.out _).trans (((zL (p := ⟨gb119, _, none⟩) NB118_119.out _).trans (hHeld.2.2.2.1)))))))))))))))), ((zL (p := ⟨gb119, _, none⟩) NB118_119.out _).trans (((zL (p := ⟨gb119, _, none⟩) NB118_119.out _).trans (((zL (p := ⟨gb119, _, none⟩) NB118_119.out _).trans (((zL (p := ⟨gb119, _, none⟩) NB118_119.out _).trans (((zL (p := ⟨gb119, _, none⟩) NB118_119.out _).trans (((zL (p := ⟨gb119, _, none⟩) NB118_119.out _).trans (((zL (p := ⟨gb119, _, none⟩) NB118_119.out _).trans (((zL (p := ⟨gb119, _, none⟩) NB118_119.out _).trans (hHeld.2.2.2.2.1)))))))))))))))), ((zL (p := ⟨gb119, _, none⟩) NB118_119.out _).trans (((zL (p := ⟨gb119, _, none⟩) NB118_119.out _).trans (((zL (p := ⟨gb119, _, none⟩) NB118_119.out _).trans (((zL (p := ⟨gb119, _, none⟩) NB118_119.out _).trans (((zL (p := ⟨gb119, _, none⟩) NB118_119.out _).trans (((zL (p := ⟨gb119, _, none⟩) NB118_119.out _).trans (((zL (p := ⟨gb119, _, none⟩) NB118_119.out _).trans (((zL (p := ⟨gb119, _, none⟩) NB118_119.out _).trans (hHeld.2.2.2.2.2.1)))))))))))))))), ((zL (p := ⟨gb119, _, none⟩) NB118_119.out _).trans (((zL (p := ⟨gb119, _, none⟩) NB118_119.out _).trans (((zL (p := ⟨gb119, _, none⟩) NB118_119.out _).trans (((zL (p := ⟨gb119, _, none⟩) NB118_119.out _).trans (((zL (p := ⟨gb119, _, none⟩) NB118_119.out _).trans (((zL (p := ⟨gb119, _, none⟩) NB118_119.out _).trans (((zL (p := ⟨gb119, _, none⟩) NB118_119.out _).trans (((zL (p := ⟨gb119, _, none⟩) NB118_119.out _).trans (hHeld.2.2.2.2.2.2.1)))))))))))))))), ((zL (p := ⟨gb119, _, none⟩) NB118_119.out _).trans (((zL (p := ⟨gb119, _, none⟩) NB118_119.out _).trans (((zL (p := ⟨gb119, _, none⟩) NB118_119.out _).trans (((zL (p := ⟨gb119, _, none⟩) NB118_119.out _).trans (((zL (p := ⟨gb119, _, none⟩) NB118_119.out _).trans (((zL (p := ⟨gb119, _, none⟩) NB118_119.out _).trans (((zL (p := ⟨gb119, _, none⟩) NB118_119.out _).trans (((zL (p := ⟨gb119, _, none⟩) NB118_119.out _).trans (hHeld.2.2.2.2.2.2.2.1)))))))))))))))), ((zL (p := ⟨gb119, _, none⟩) (by first | exact Kd.own_blk (Kd.N_away HO_3.out (fun _ hk => hk.2.2)) | (rw [add_block]; exact Kd.own_blk (Kd.N_away HO_3.out (fun _ hk => hk.2.2))) | (show (Addr.add _ _).block ≠ _; rw [add_block]; exact Kd.own_blk (Kd.N_away HO_3.out (fun _ hk => hk.2.2))) | (dsimp only; exact Kd.own_blk (Kd.N_away HO_3.out (fun _ hk => hk.2.2)))) _).trans (((zL (p := ⟨gb119, _, none⟩) (by first | exact Kd.own_blk (Kd.N_away HO_3.out (fun _ hk => hk.2.2)) | (rw [add_block]; exact Kd.own_blk (Kd.N_away HO_3.out (fun _ hk => hk.2.2))) | (show (Addr.add _ _).block ≠ _; rw [add_block]; exact Kd.own_blk (Kd.N_away HO_3.out (fun _ hk => hk.2.2))) | (dsimp only; exact Kd.own_blk (Kd.N_away HO_3.out (fun _ hk => hk.2.2)))) _).trans (((zL (p := ⟨gb119, _, none⟩) (by first | exact Kd.own_blk (Kd.N_away HO_3.out (fun _ hk => hk.2.2)) | (rw [add_block]; exact Kd.own_blk (Kd.N_away HO_3.out (fun _ hk => hk.2.2))) | (show (Addr.add _ _).block ≠ _; rw [add_block]; exact Kd.own_blk (Kd.N_away HO_3.out (fun _ hk => hk.2.2))) | (dsimp only; exact Kd.own_blk (Kd.N_away HO_3.out (fun _ hk => hk.2.2)))) _).trans (((zL (p := ⟨gb119, _, none⟩) (by first | exact Kd.own_blk (Kd.N_away HO_3.out (fun _ hk => hk.2.2)) | (rw [add_block]; exact Kd.own_blk (Kd.N_away HO_3.out (fun _ hk => hk.2.2))) | (show (Addr.add _ _).block ≠ _; rw [add_block]; exact Kd.own_blk (Kd.N_away HO_3.out (fun _ hk => hk.2.2))) | (dsimp only; exact Kd.own_blk (Kd.N_away HO_3.out (fun _ hk => hk.2.2)))) _).trans (((zL (p := ⟨gb119, _, none⟩) (by first | exact Kd.own_blk (Kd.N_away HO_3.out (fun _ hk => hk.2.2)) | (rw [add_block]; exact Kd.own_blk (Kd.N_away HO_3.out (fun _ hk => hk.2.2))) | (show (Addr.add _ _).block ≠ _; rw [add_block]; exact Kd.own_blk (Kd.N_away HO_3.out (fun _ hk => hk.2.2))) | (dsimp only; exact Kd.own_blk (Kd.N_away HO_3.out (fun _ hk => hk.2.2)))) _).trans (((zL (p := ⟨gb119, _, none⟩) (by first | exact Kd.own_blk (Kd.N_away HO_3.out (fun _ hk => hk.2.2)) | (rw [add_block]; exact Kd.own_blk (Kd.N_away HO_3.out (fun _ hk => hk.2.2))) | (show (Addr.add _ _).block ≠ _; rw [add_block]; exact Kd.own_blk (Kd.N_away HO_3.out (fun _ hk => hk.2.2))) | (dsimp only; exact Kd.own_blk (Kd.N_away HO_3.out (fun _ hk => hk.2.2)))) _).trans (((zL (p := ⟨gb119, _, none⟩) (by first | exact Kd.own_blk (Kd.N_away HO_3.out (fun _ hk => hk.2.2)) | (rw [add_block]; exact Kd.own_blk (Kd.N_away HO_3.out (fun _ hk => hk.2.2))) | (show (Addr.add _ _).block ≠ _; rw [add_block]; exact Kd.own_blk (Kd.N_away HO_3.out (fun _ hk => hk.2.2))) | (dsimp only; exact Kd.own_blk (Kd.N_away HO_3.out (fun _ hk => hk.2.2)))) _).trans (((zL (p := ⟨gb119, _, none⟩) (by first | exact Kd.own_blk (Kd.N_away HO_3.out (fun _ hk => hk.2.2)) | (rw [add_block]; exact Kd.own_blk (Kd.N_away HO_3.out (fun _ hk => hk.2.2))) | (show (Addr.add _ _).block ≠ _; rw [add_block]; exact Kd.own_blk (Kd.N_away HO_3.out (fun _ hk => hk.2.2))) | (dsimp only; exact Kd.own_blk (Kd.N_away HO_3.out (fun _ hk => hk.2.2)))) _).trans (hHeld.2.2.2.2.2.2.2.2.1)))))))))))))))), ((zL (p := ⟨gb119, _, none⟩) (by first | exact Kd.own_blk (Kd.N_away HO_3.out (fun _ hk => hk.2.2)) | (rw [add_block]; exact Kd.own_blk (Kd.N_away HO_3.out (fun _ hk => hk.2.2))) | (show (Addr.add _ _).block ≠ _; rw [add_block]; exact Kd.own_blk (Kd.N_away HO_3.out (fun _ hk => hk.2.2))) | (dsimp only; exact Kd.own_blk (Kd.N_away HO_3.out (fun _ hk => hk.2.2)))) _).trans (((zL (p := ⟨gb119, _, none⟩) (by first | exact Kd.own_blk (Kd.N_away HO_3.out (fun _ hk => hk.2.2)) | (rw [add_block]; exact Kd.own_blk (Kd.N_away HO_3.out (fun _ hk => hk.2.2))) | (show (Addr.add _ _).block ≠ _; rw [add_block]; exact Kd.own_blk (Kd.N_away HO_3.out (fun _ hk => hk.2.2))) | (dsimp only; exact Kd.own_blk (Kd.N_away HO_3.out (fun _ hk => hk.2.2)))) _).trans (((zL (p := ⟨gb119, _, none⟩) (by first | exact Kd.own_blk (Kd.N_away HO_3.out (fun _ hk => hk.2.2)) | (rw [add_block]; exact Kd.own_blk (Kd.N_away HO_3.out (fun _ hk => hk.2.2))) | (show (Addr.add _ _).block ≠ _; rw [add_block]; exact Kd.own_blk (Kd.N_away HO_3.out (fun _ hk => hk.2.2))) | (dsimp only; exact Kd.own_blk (Kd.N_away HO_3.out (fun _ hk => hk.2.2)))) _).trans (((zL (p := ⟨gb119, _, none⟩) (by first | exact Kd.own_blk (Kd.N_away HO_3.out (fun _ hk => hk.2.2)) | (rw [add_block]; exact Kd.own_blk (Kd.N_away HO_3.out (fun _ hk => hk.2.2))) | (show (Addr.add _ _).block ≠ _; rw [add_block]; exact Kd.own_blk (Kd.N_away HO_3.out (fun _ hk => hk.2.2))) | (dsimp only; exact Kd.own_blk (Kd.N_away HO_3.out (fun _ hk => hk.2.2)))) _).trans (((zL (p := ⟨gb119, _, none⟩) (by first | exact Kd.own_blk (Kd.N_away HO_3.out (fun _ hk => hk.2.2)) | (rw [add_block]; exact Kd.own_blk (Kd.N_away HO_3.out (fun _ hk => hk.2.2))) | (show (Addr.add _ _).block ≠ _; rw [add_block]; exact Kd.own_blk (Kd.N_away HO_3.out (fun _ hk => hk.2.2))) | (dsimp only; exact Kd.own_blk (Kd.N_away HO_3.out (fun _ hk => hk.2.2)))) _).trans (((zL (p := ⟨gb119, _, none⟩) (by first | exact Kd.own_blk (Kd.N_away HO_3.out (fun _ hk => hk.2.2)) | (rw [add_block]; exact Kd.own_blk (Kd.N_away HO_3.out (fun _ hk => hk.2.2))) | (show (Addr.add _ _).block ≠ _; rw [add_block]; exact Kd.own_blk (Kd.N_away HO_3.out (fun _ hk => hk.2.2))) | (dsimp only; exact Kd.own_blk (Kd.N_away HO_3.out (fun _ hk => hk.2.2)))) _).trans (((zL (p := ⟨gb119, _, none⟩) (by first | exact Kd.own_blk (Kd.N_away HO_3.out (fun _ hk => hk.2.2)) | (rw [add_block]; exact Kd.own_blk (Kd.N_away HO_3.out (fun _ hk => hk.2.2))) | (show (Addr.add _ _).block ≠ _; rw [add_block]; exact Kd.own_blk (Kd.N_away HO_3.out (fun _ hk => hk.2.2))) | (dsimp only; exact Kd.own_blk (Kd.N_away HO_3.out (fun _ hk => hk.2.2)))) _).trans (((zL (p := ⟨gb119, _, none⟩) (by first | exact Kd.own_blk (Kd.N_away HO_3.out (fun _ hk => hk.2.2)) | (rw [add_block]; exact Kd.own_blk (Kd.N_away HO_3.out (fun _ hk => hk.2.2))) | (show (Addr.add _ _).block ≠ _; rw [add_block]; exact Kd.own_blk (Kd.N_away HO_3.out (fun _ hk => hk.2.2))) | (dsimp only; exact Kd.own_blk (Kd.N_away HO_3.out (fun _ hk => hk.2.2)))) _).trans (hHeld.2.2.2.2.2.2.2.2.2.1)))))))))))))))), ((zL (p := ⟨gb119, _, none⟩) (by first | exact Kd.own_blk (Kd.N_away HO_3.out (fun _ hk => hk.2.2)) | (rw [add_block]; exact Kd.own_blk (Kd.N_away HO_3.out (fun _ hk => hk.2.2))) | (show (Addr.add _ _).block ≠ _; rw [add_block]; exact Kd.own_blk (Kd.N_away HO_3.out (fun _ hk => hk.2.2))) | (dsimp only; exact Kd.own_blk (Kd.N_away HO_3.out (fun _ hk => hk.2.2)))) _).trans (((zL (p := ⟨gb119, _, none⟩) (by first | exact Kd.own_blk (Kd.N_away HO_3.out (fun _ hk => hk.2.2)) | (rw [add_block]; exact Kd.own_blk (Kd.N_away HO_3.out (fun _ hk => hk.2.2))) | (show (Addr.add _ _).block ≠ _; rw [add_block]; exact Kd.own_blk (Kd.N_away HO_3.out (fun _ hk => hk.2.2))) | (dsimp only; exact Kd.own_blk (Kd.N_away HO_3.out (fun _ hk => hk.2.2)))) _).trans (((zL (p := ⟨gb119, _, none⟩) (by first | exact Kd.own_blk (Kd.N_away HO_3.out (fun _ hk => hk.2.2)) | (rw [add_block]; exact Kd.own_blk (Kd.N_away HO_3.out (fun _ hk => hk.2.2))) | (show (Addr.add _ _).block ≠ _; rw [add_block]; exact Kd.own_blk (Kd.N_away HO_3.out (fun _ hk => hk.2.2))) | (dsimp only; exact Kd.own_blk (Kd.N_away HO_3.out (fun _ hk => hk.2.2)))) _).trans (((zL (p := ⟨gb119, _, none⟩) (by first | exact Kd.own_blk (Kd.N_away HO_3.out (fun _ hk => hk.2.2)) | (rw [add_block]; exact Kd.own_blk (Kd.N_away HO_3.out (fun _ hk => hk.2.2))) | (show (Addr.add _ _).block ≠ _; rw [add_block]; exact Kd.own_blk (Kd.N_away HO_3.out (fun _ hk => hk.2.2))) | (dsimp only; exact Kd.own_blk (Kd.N_away HO_3.out (fun _ hk => hk.2.2)))) _).trans (((zL (p := ⟨gb119, _, none⟩) (by first | exact Kd.own_blk (Kd.N_away HO_3.out (fun _ hk => hk.2.2)) | (rw [add_block]; exact Kd.own_blk (Kd.N_away HO_3.out (fun _ hk => hk.2.2))) | (show (Addr.add _ _).block ≠ _; rw [add_block]; exact Kd.own_blk (Kd.N_away HO_3.out (fun _ hk => hk.2.2))) | (dsimp only; exact Kd.own_blk (Kd.N_away HO_3.out (fun _ hk => hk.2.2)))) _).trans (((zL (p := ⟨gb119, _, none⟩) (by first | exact Kd.own_blk (Kd.N_away HO_3.out (fun _ hk => hk.2.2)) | (rw [add_block]; exact Kd.own_blk (Kd.N_away HO_3.out (fun _ hk => hk.2.2))) | (show (Addr.add _ _).block ≠ _; rw [add_block]; exact Kd.own_blk (Kd.N_away HO_3.out (fun _ hk => hk.2.2))) | (dsimp only; exact Kd.own_blk (Kd.N_away HO_3.out (fun _ hk => hk.2.2)))) _).trans (((zL (p := ⟨gb119, _, none⟩) (by first | exact Kd.own_blk (Kd.N_away HO_3.out (fun _ hk => hk.2.2)) | (rw [add_block]; exact Kd.own_blk (Kd.N_away HO_3.out (fun _ hk => hk.2.2))) | (show (Addr.add _ _).block ≠ _; rw [add_block]; exact Kd.own_blk (Kd.N_away HO_3.out (fun _ hk => hk.2.2))) | (dsimp only; exact Kd.own_blk (Kd.N_away HO_3.out (fun _ hk => hk.2.2)))) _).trans (((zL (p := ⟨gb119, _, none⟩) (by first | exact Kd.own_blk (Kd.N_away HO_3.out (fun _ hk => hk.2.2)) | (rw [add_block]; exact Kd.own_blk (Kd.N_away HO_3.out (fun _ hk => hk.2.2))) | (show (Addr.add _ _).block ≠ _; rw [add_block]; exact Kd.own_blk (Kd.N_away HO_3.out (fun _ hk => hk.2.2))) | (dsimp only; exact Kd.own_blk (Kd.N_away HO_3.out (fun _ hk => hk.2.2)))) _).trans (hHeld.2.2.2.2.2.2.2.2.2.2.1)))))))))))))))), ((zL (p := ⟨gb119, _, none⟩) (by first | exact Kd.own_blk (Kd.N_away HO_3.out (fun _ hk => hk.2.2)) | (rw [add_block]; exact Kd.own_blk (Kd.N_away HO_3.out (fun _ hk => hk.2.2))) | (show (Addr.add _ _).block ≠ _; rw [add_block]; exact Kd.own_blk (Kd.N_away HO_3.out (fun _ hk => hk.2.2))) | (dsimp only; exact Kd.own_blk (Kd.N_away HO_3.out (fun _ hk => hk.2.2)))) _).trans (((zL (p := ⟨gb119, _, none⟩) (by first | exact Kd.own_blk (Kd.N_away HO_3.out (fun _ hk => hk.2.2)) | (rw [add_block]; exact Kd.own_blk (Kd.N_away HO_3.out (fun _ hk => hk.2.2))) | (show (Addr.add _ _).block ≠ _; rw [add_block]; exact Kd.own_blk (Kd.N_away HO_3.out (fun _ hk => hk.2.2))) | (dsimp only; exact Kd.own_blk (Kd.N_away HO_3.out (fun _ hk => hk.2.2)))) _).trans (((zL (p := ⟨gb119, _, none⟩) (by first | exact Kd.own_blk (Kd.N_away HO_3.out (fun _ hk => hk.2.2)) | (rw [add_block]; exact Kd.own_blk (Kd.N_away HO_3.out (fun _ hk => hk.2.2))) | (show (Addr.add _ _).block ≠ _; rw [add_block]; exact Kd.own_blk (Kd.N_away HO_3.out (fun _ hk => hk.2.2))) | (dsimp only; exact Kd.own_blk (Kd.N_away HO_3.out (fun _ hk => hk.2.2)))) _).trans (((zL (p := ⟨gb119, _, none⟩) (by first | exact Kd.own_blk (Kd.N_away HO_3.out (fun _ hk => hk.2.2)) | (rw [add_block]; exact Kd.own_blk (Kd.N_away HO_3.out (fun _ hk => hk.2.2))) | (show (Addr.add _ _).block ≠ _; rw [add_block]; exact Kd.own_blk (Kd.N_away HO_3.out (fun _ hk => hk.2.2))) | (dsimp only; exact Kd.own_blk (Kd.N_away HO_3.out (fun _ hk => hk.2.2)))) _).trans (((zL (p := ⟨gb119, _, none⟩) (by first | exact Kd.own_blk (Kd.N_away HO_3.out (fun _ hk => hk.2.2)) | (rw [add_block]; exact Kd.own_blk (Kd.N_away HO_3.out (fun _ hk => hk.2.2))) | (show (Addr.add _ _).block ≠ _; rw [add_block]; exact Kd.own_blk (Kd.N_away HO_3.out (fun _ hk => hk.2.2))) | (dsimp only; exact Kd.own_blk (Kd.N_away HO_3.out (fun _ hk => hk.2.2)))) _).trans (((zL (p := ⟨gb119, _, none⟩) (by first | exact Kd.own_blk (Kd.N_away HO_3.out (fun _ hk => hk.2.2)) | (rw [add_block]; exact Kd.own_blk (Kd.N_away HO_3.out (fun _ hk => hk.2.2))) | (show (Addr.add _ _).block ≠ _; rw [add_block]; exact Kd.own_blk (Kd.N_away HO_3.out (fun _ hk => hk.2.2))) | (dsimp only; exact Kd.own_blk (Kd.N_away HO_3.out (fun _ hk => hk.2.2)))) _).trans (((zL (p := ⟨gb119, _, none⟩) (by first | exact Kd.own_blk (Kd.N_away HO_3.out (fun _ hk => hk.2.2)) | (rw [add_block]; exact Kd.own_blk (Kd.N_away HO_3.out (fun _ hk => hk.2.2))) | (show (Addr.add _ _).block ≠ _; rw [add_block]; exact Kd.own_blk (Kd.N_away HO_3.out (fun _ hk => hk.2.2))) | (dsimp only; exact Kd.own_blk (Kd.N_away HO_3.out (fun _ hk => hk.2.2)))) _).trans (((zL (p := ⟨gb119, _, none⟩) (by first | exact Kd.own_blk (Kd.N_away HO_3.out (fun _ hk => hk.2.2)) | (rw [add_block]; exact Kd.own_blk (Kd.N_away HO_3.out (fun _ hk => hk.2.2))) | (show (Addr.add _ _).block ≠ _; rw [add_block]; exact Kd.own_blk (Kd.N_away HO_3.out (fun _ hk => hk.2.2))) | (dsimp only; exact Kd.own_blk (Kd.N_away HO_3.out (fun _ hk => hk.2.2)))) _).trans (hHeld.2.2.2.2.2.2.2.2.2.2.2.1)))))))))))))))), ((zL (p := ⟨gb119, _, none⟩) (by first | exact Kd.own_blk (Kd.N_away HO_3.out (fun _ hk => hk.2.2)) | (rw [add_block]; exact Kd.own_blk (Kd.N_away HO_3.out (fun _ hk => hk.2.2))) | (show (Addr.add _ _).block ≠ _; rw [add_block]; exact Kd.own_blk (Kd.N_away HO_3.out (fun _ hk => hk.2.2))) | (dsimp only; exact Kd.own_blk (Kd.N_away HO_3.out (fun _ hk => hk.2.2)))) _).trans (((zL (p := ⟨gb119, _, none⟩) (by first | exact Kd.own_blk (Kd.N_away HO_3.out (fun _ hk => hk.2.2)) | (rw [add_block]; exact Kd.own_blk (Kd.N_away HO_3.out (fun _ hk => hk.2.2))) | (show (Addr.add _ _).block ≠ _; rw [add_block]; exact Kd.own_blk (Kd.N_away HO_3.out (fun _ hk => hk.2.2))) | (dsimp only; exact Kd.own_blk (Kd.N_away HO_3.out (fun _ hk => hk.2.2)))) _).trans (((zL (p := ⟨gb119, _, none⟩) (by first | exact Kd.own_blk (Kd.N_away HO_3.out (fun _ hk => hk.2.2)) | (rw [add_block]; exact Kd.own_blk (Kd.N_away HO_3.out (fun _ hk => hk.2.2))) | (show (Addr.add _ _).block ≠ _; rw [add_block]; exact Kd.own_blk (Kd.N_away HO_3.out (fun _ hk => hk.2.2))) | (dsimp only; exact Kd.own_blk (Kd.N_away HO_3.out (fun _ hk => hk.2.2)))) _).trans (((zL (p := ⟨gb119, _, none⟩) (by first | exact Kd.own_blk (Kd.N_away HO_3.out (fun _ hk => hk.2.2)) | (rw [add_block]; exact Kd.own_blk (Kd.N_away HO_3.out (fun _ hk => hk.2.2))) | (show (Addr.add _ _).block ≠ _; rw [add_block]; exact Kd.own_blk (Kd.N_away HO_3.out (fun _ hk => hk.2.2))) | (dsimp only; exact Kd.own_blk (Kd.N_away HO_3.out (fun _ hk => hk.2.2)))) _).trans (((zL (p := ⟨gb119, _, none⟩) (by first | exact Kd.own_blk (Kd.N_away HO_3.out (fun _ hk => hk.2.2)) | (rw [add_block]; exact Kd.own_blk (Kd.N_away HO_3.out (fun _ hk => hk.2.2))) | (show (Addr.add _ _).block ≠ _; rw [add_block]; exact Kd.own_blk (Kd.N_away HO_3.out (fun _ hk => hk.2.2))) | (dsimp only; exact Kd.own_blk (Kd.N_away HO_3.out (fun _ hk => hk.2.2)))) _).trans (((zL (p := ⟨gb119, _, none⟩) (by first | exact Kd.own_blk (Kd.N_away HO_3.out (fun _ hk => hk.2.2)) | (rw [add_block]; exact Kd.own_blk (Kd.N_away HO_3.out (fun _ hk => hk.2.2))) | (show (Addr.add _ _).block ≠ _; rw [add_block]; exact Kd.own_blk (Kd.N_away HO_3.out (fun _ hk => hk.2.2))) | (dsimp only; exact Kd.own_blk (Kd.N_away HO_3.out (fun _ hk => hk.2.2)))) _).trans (((zL (p := ⟨gb119, _, none⟩) (by first | exact Kd.own_blk (Kd.N_away HO_3.out (fun _ hk => hk.2.2)) | (rw [add_block]; exact Kd.own_blk (Kd.N_away HO_3.out (fun _ hk => hk.2.2))) | (show (Addr.add _ _).block ≠ _; rw [add_block]; exact Kd.own_blk (Kd.N_away HO_3.out (fun _ hk => hk.2.2))) | (dsimp only; exact Kd.own_blk (Kd.N_away HO_3.out (fun _ hk => hk.2.2)))) _).trans (((zL (p := ⟨gb119, _, none⟩) (by first | exact Kd.own_blk (Kd.N_away HO_3.out (fun _ hk => hk.2.2)) | (rw [add_block]; exact Kd.own_blk (Kd.N_away HO_3.out (fun _ hk => hk.2.2))) | (show (Addr.add _ _).block ≠ _; rw [add_block]; exact Kd.own_blk (Kd.N_away HO_3.out (fun _ hk => hk.2.2))) | (dsimp only; exact Kd.own_blk (Kd.N_away HO_3.out (fun _ hk => hk.2.2)))) _).trans (hHeld.2.2.2.2.2.2.2.2.2.2.2.2.1)))))))))))))))), ((zL (p := ⟨gb119, _, none⟩) (by first | exact Kd.own_blk (Kd.N_away HO_3.out (fun _ hk => hk.2.2)) | (rw [add_block]; exact Kd.own_blk (Kd.N_away HO_3.out (fun _ hk => hk.2.2))) | (show (Addr.add _ _).block ≠ _; rw [add_block]; exact Kd.own_blk (Kd.N_away HO_3.out (fun _ hk => hk.2.2))) | (dsimp only; exact Kd.own_blk (Kd.N_away HO_3.out (fun _ hk => hk.2.2)))) _).trans (((zL (p := ⟨gb119, _, none⟩) (by first | exact Kd.own_blk (Kd.N_away HO_3.out (fun _ hk => hk.2.2)) | (rw [add_block]; exact Kd.own_blk (Kd.N_away HO_3.out (fun _ hk => hk.2.2))) | (show (Addr.add _ _).block ≠ _; rw [add_block]; exact Kd.own_blk (Kd.N_away HO_3.out (fun _ hk => hk.2.2))) | (dsimp only; exact Kd.own_blk (Kd.N_away HO_3.out (fun _ hk => hk.2.2)))) _).trans (((zL (p := ⟨gb119, _, none⟩) (by first | exact Kd.own_blk (Kd.N_away HO_3.out (fun _ hk => hk.2.2)) | (rw [add_block]; exact Kd.own_blk (Kd.N_away HO_3.out (fun _ hk => hk.2.2))) | (show (Addr.add _ _).block ≠ _; rw [add_block]; exact Kd.own_blk (Kd.N_away HO_3.out (fun _ hk => hk.2.2))) | (dsimp only; exact Kd.own_blk (Kd.N_away HO_3.out (fun _ hk => hk.2.2)))) _).trans (((zL (p := ⟨gb119, _, none⟩) (by first | exact Kd.own_blk (Kd.N_away HO_3.out (fun _ hk => hk.2.2)) | (rw [add_block]; exact Kd.own_blk (Kd.N_away HO_3.out (fun _ hk => hk.2.2))) | (show (Addr.add _ _).block ≠ _; rw [add_block]; exact Kd.own_blk (Kd.N_away HO_3.out (fun _ hk => hk.2.2))) | (dsimp only; exact Kd.own_blk (Kd.N_away HO_3.out (fun _ hk => hk.2.2)))) _).trans (((zL (p := ⟨gb119, _, none⟩) (by first | exact Kd.own_blk (Kd.N_away HO_3.out (fun _ hk => hk.2.2)) | (rw [add_block]; exact Kd.own_blk (Kd.N_away HO_3.out (fun _ hk => hk.2.2))) | (show (Addr.add _ _).block ≠ _; rw [add_block]; exact Kd.own_blk (Kd.N_away HO_3.out (fun _ hk => hk.2.2))) | (dsimp only; exact Kd.own_blk (Kd.N_away HO_3.out (fun _ hk => hk.2.2)))) _).trans (((zL (p := ⟨gb119, _, none⟩) (by first | exact Kd.own_blk (Kd.N_away HO_3.out (fun _ hk => hk.2.2)) | (rw [add_block]; exact Kd.own_blk (Kd.N_away HO_3.out (fun _ hk => hk.2.2))) | (show (Addr.add _ _).block ≠ _; rw [add_block]; exact Kd.own_blk (Kd.N_away HO_3.out (fun _ hk => hk.2.2))) | (dsimp only; exact Kd.own_blk (Kd.N_away HO_3.out (fun _ hk => hk.2.2)))) _).trans (((zL (p := ⟨gb119, _, none⟩) (by first | exact Kd.own_blk (Kd.N_away HO_3.out (fun _ hk => hk.2.2)) | (rw [add_block]; exact Kd.own_blk (Kd.N_away HO_3.out (fun _ hk => hk.2.2))) | (show (Addr.add _ _).block ≠ _; rw [add_block]; exact Kd.own_blk (Kd.N_away HO_3.out (fun _ hk => hk.2.2))) | (dsimp only; exact Kd.own_blk (Kd.N_away HO_3.out (fun _ hk => hk.2.2)))) _).trans (((zL (p := ⟨gb119, _, none⟩) (by first | exact Kd.own_blk (Kd.N_away HO_3.out (fun _ hk => hk.2.2)) | (rw [add_block]; exact Kd.own_blk (Kd.N_away HO_3.out (fun _ hk => hk.2.2))) | (show (Addr.add _ _).block ≠ _; rw [add_block]; exact Kd.own_blk (Kd.N_away HO_3.out (fun _ hk => hk.2.2))) | (dsimp only; exact Kd.own_blk (Kd.N_away HO_3.out (fun _ hk => hk.2.2)))) _).trans (hHeld.2.2.2.2.2.2.2.2.2.2.2.2.2.1)))))))))))))))), ((zL (p := ⟨gb119, _, none⟩) (by first | exact Kd.own_blk (Kd.N_away HO_3.out (fun _ hk => hk.2.2)) | (rw [add_block]; exact Kd.own_blk (Kd.N_away HO_3.out (fun _ hk => hk.2.2))) | (show (Addr.add _ _).block ≠ _; rw [add_block]; exact Kd.own_blk (Kd.N_away HO_3.out (fun _ hk => hk.2.2))) | (dsimp only; exact Kd.own_blk (Kd.N_away HO_3.out (fun _ hk => hk.2.2)))) _).trans (((zL (p := ⟨gb119, _, none⟩) (by first | exact Kd.own_blk (Kd.N_away HO_3.out (fun _ hk => hk.2.2)) | (rw [add_block]; exact Kd.own_blk (Kd.N_away HO_3.out (fun _ hk => hk.2.2))) | (show (Addr.add _ _).block ≠ _; rw [add_block]; exact Kd.own_blk (Kd.N_away HO_3.out (fun _ hk => hk.2.2))) | (dsimp only; exact Kd.own_blk (Kd.N_away HO_3.out (fun _ hk => hk.2.2)))) _).trans (((zL (p := ⟨gb119, _, none⟩) (by first | exact Kd.own_blk (Kd.N_away HO_3.out (fun _ hk => hk.2.2)) | (rw [add_block]; exact Kd.own_blk (Kd.N_away HO_3.out (fun _ hk => hk.2.2))) | (show (Addr.add _ _).block ≠ _; rw [add_block]; exact Kd.own_blk (Kd.N_away HO_3.out (fun _ hk => hk.2.2))) | (dsimp only; exact Kd.own_blk (Kd.N_away HO_3.out (fun _ hk => hk.2.2)))) _).trans (((zL (p := ⟨gb119, _, none⟩) (by first | exact Kd.own_blk (Kd.N_away HO_3.out (fun _ hk => hk.2.2)) | (rw [add_block]; exact Kd.own_blk (Kd.N_away HO_3.out (fun _ hk => hk.2.2))) | (show (Addr.add _ _).block ≠ _; rw [add_block]; exact Kd.own_blk (Kd.N_away HO_3.out (fun _ hk => hk.2.2))) | (dsimp only; exact Kd.own_blk (Kd.N_away HO_3.out (fun _ hk => hk.2.2)))) _).trans (((zL (p := ⟨gb119, _, none⟩) (by first | exact Kd.own_blk (Kd.N_away HO_3.out (fun _ hk => hk.2.2)) | (rw [add_block]; exact Kd.own_blk (Kd.N_away HO_3.out (fun _ hk => hk.2.2))) | (show (Addr.add _ _).block ≠ _; rw [add_block]; exact Kd.own_blk (Kd.N_away HO_3.out (fun _ hk => hk.2.2))) | (dsimp only; exact Kd.own_blk (Kd.N_away HO_3.out (fun _ hk => hk.2.2)))) _).trans (((zL (p := ⟨gb119, _, none⟩) (by first | exact Kd.own_blk (Kd.N_away HO_3.out (fun _ hk => hk.2.2)) | (rw [add_block]; exact Kd.own_blk (Kd.N_away HO_3.out (fun _ hk => hk.2.2))) | (show (Addr.add _ _).block ≠ _; rw [add_block]; exact Kd.own_blk (Kd.N_away HO_3.out (fun _ hk => hk.2.2))) | (dsimp only; exact Kd.own_blk (Kd.N_away HO_3.out (fun _ hk => hk.2.2)))) _).trans (((zL (p := ⟨gb119, _, none⟩) (by first | exact Kd.own_blk (Kd.N_away HO_3.out (fun _ hk => hk.2.2)) | (rw [add_block]; exact Kd.own_blk (Kd.N_away HO_3.out (fun _ hk => hk.2.2))) | (show (Addr.add _ _).block ≠ _; rw [add_block]; exact Kd.own_blk (Kd.N_away HO_3.out (fun _ hk => hk.2.2))) | (dsimp only; exact Kd.own_blk (Kd.N_away HO_3.out (fun _ hk => hk.2.2)))) _).trans (((zL (p := ⟨gb119, _, none⟩) (by first | exact Kd.own_blk (Kd.N_away HO_3.out (fun _ hk => hk.2.2)) | (rw [add_block]; exact Kd.own_blk (Kd.N_away HO_3.out (fun _ hk => hk.2.2))) | (show (Addr.add _ _).block ≠ _; rw [add_block]; exact Kd.own_blk (Kd.N_away HO_3.out (fun _ hk => hk.2.2))) | (dsimp only; exact Kd.own_blk (Kd.N_away HO_3.out (fun _ hk => hk.2.2)))) _).trans (hHeld.2.2.2.2.2.2.2.2.2.2.2.2.2.2.1)))))))))))))))), ((zL (p := ⟨gb119, _, none⟩) (by first | exact Kd.own_blk (Kd.N_away HO_3.out (fun _ hk => hk.2.2)) | (rw [add_block]; exact Kd.own_blk (Kd.N_away HO_3.out (fun _ hk => hk.2.2))) | (show (Addr.add _ _).block ≠ _; rw [add_block]; exact Kd.own_blk (Kd.N_away HO_3.out (fun _ hk => hk.2.2))) | (dsimp only; exact Kd.own_blk (Kd.N_away HO_3.out (fun _ hk => hk.2.2)))) _).trans (((zL (p := ⟨gb119, _, none⟩) (by first | exact Kd.own_blk (Kd.N_away HO_3.out (fun _ hk => hk.2.2)) | (rw [add_block]; exact Kd.own_blk (Kd.N_away HO_3.out (fun _ hk => hk.2.2))) | (show (Addr.add _ _).block ≠ _; rw [add_block]; exact Kd.own_blk (Kd.N_away HO_3.out (fun _ hk => hk.2.2))) | (dsimp only; exact Kd.own_blk (Kd.N_away HO_3.out (fun _ hk => hk.2.2)))) _).trans (((zL (p := ⟨gb119, _, none⟩) (by first | exact Kd.own_blk (Kd.N_away HO_3.out (fun _ hk => hk.2.2)) | (rw [add_block]; exact Kd.own_blk (Kd.N_away HO_3.out (fun _ hk => hk.2.2))) | (show (Addr.add _ _).block ≠ _; rw [add_block]; exact Kd.own_blk (Kd.N_away HO_3.out (fun _ hk => hk.2.2))) | (dsimp only; exact Kd.own_blk (Kd.N_away HO_3.out (fun _ hk => hk.2.2)))) _).trans (((zL (p := ⟨gb119, _, none⟩) (by first | exact Kd.own_blk (Kd.N_away HO_3.out (fun _ hk => hk.2.2)) | (rw [add_block]; exact Kd.own_blk (Kd.N_away HO_3.out (fun _ hk => hk.2.2))) | (show (Addr.add _ _).block ≠ _; rw [add_block]; exact Kd.own_blk (Kd.N_away HO_3.out (fun _ hk => hk.2.2))) | (dsimp only; exact Kd.own_blk (Kd.N_away HO_3.out (fun _ hk => hk.2.2)))) _).trans (((zL (p := ⟨gb119, _, none⟩) (by first | exact Kd.own_blk (Kd.N_away HO_3.out (fun _ hk => hk.2.2)) | (rw [add_block]; exact Kd.own_blk (Kd.N_away HO_3.out (fun _ hk => hk.2.2))) | (show (Addr.add _ _).block ≠ _; rw [add_block]; exact Kd.own_blk (Kd.N_away HO_3.out (fun _ hk => hk.2.2))) | (dsimp only; exact Kd.own_blk (Kd.N_away HO_3.out (fun _ hk => hk.2.2)))) _).trans (((zL (p := ⟨gb119, _, none⟩) (by first | exact Kd.own_blk (Kd.N_away HO_3.out (fun _ hk => hk.2.2)) | (rw [add_block]; exact Kd.own_blk (Kd.N_away HO_3.out (fun _ hk => hk.2.2))) | (show (Addr.add _ _).block ≠ _; rw [add_block]; exact Kd.own_blk (Kd.N_away HO_3.out (fun _ hk => hk.2.2))) | (dsimp only; exact Kd.own_blk (Kd.N_away HO_3.out (fun _ hk => hk.2.2)))) _).trans (((zL (p := ⟨gb119, _, none⟩) (by first | exact Kd.own_blk (Kd.N_away HO_3.out (fun _ hk => hk.2.2)) | (rw [add_block]; exact Kd.own_blk (Kd.N_away HO_3.out (fun _ hk => hk.2.2))) | (show (Addr.add _ _).block ≠ _; rw [add_block]; exact Kd.own_blk (Kd.N_away HO_3.out (fun _ hk => hk.2.2))) | (dsimp only; exact Kd.own_blk (Kd.N_away HO_3.out (fun _ hk => hk.2.2)))) _).trans (((zL (p := ⟨gb119, _, none⟩) (by first | exact Kd.own_blk (Kd.N_away HO_3.out (fun _ hk => hk.2.2)) | (rw [add_block]; exact Kd.own_blk (Kd.N_away HO_3.out (fun _ hk => hk.2.2))) | (show (Addr.add _ _).block ≠ _; rw [add_block]; exact Kd.own_blk (Kd.N_away HO_3.out (fun _ hk => hk.2.2))) | (dsimp only; exact Kd.own_blk (Kd.N_away HO_3.out (fun _ hk => hk.2.2)))) _).trans (hHeld.2.2.2.2.2.2.2.2.2.2.2.2.2.2.2))))))))))))))))⟩ (fun hHeld => ?_)
          clear hK K
          refine done_ (done_of HT_.out (by kernel_rfl)) ?_
          try go_wp2
          refine bodyPost_ret (results_cell_row rfl _ _ gb119 27 #[.int .i64 t150, .int .u64 t151, .int .u64 t152, .int .u64 t153, .int .u64 t154, .slice Ao62 t155.length co62, .int .i64 t158, .int .i64 t159] (0, 0) _ rfl (by (with_reducible repeat (first | refine zH ?_ _ | refine zI ?_ | refine zG ?_ _)); refine blk_put (cs := #[.int .i64 t150, .int .u64 t151, .int .u64 t152, .int .u64 t153, .int .u64 t154, .slice Ao62 t155.length co62, .int .i64 t158, .int .i64 0]) ?_ 7 _ rfl; (with_reducible repeat (first | refine zH ?_ _ | refine zI ?_ | refine zG ?_ _)); refine blk_put (cs := #[.int .i64 t150, .int .u64 t151, .int .u64 t152, .int .u64 t153, .int .u64 t154, .slice Ao62 t155.length co62, .int .i64 0, .int .i64 0]) ?_ 6 _ rfl; (with_reducible repeat (first | refine zH ?_ _ | refine zI ?_ | refine zG ?_ _)); refine blk_put (cs := #[.int .i64 t150, .int .u64 t151, .int .u64 t152, .int .u64 t153, .int .u64 t154, .slice none 0 0, .int .i64 0, .int .i64 0]) ?_ 5 _ rfl; (with_reducible repeat (first | refine zH ?_ _ | refine zI ?_ | refine zG ?_ _)); refine blk_put (cs := #[.int .i64 t150, .int .u64 t151, .int .u64 t152, .int .u64 t153, .int .u64 0, .slice none 0 0, .int .i64 0, .int .i64 0]) ?_ 4 _ rfl; (with_reducible repeat (first | refine zH ?_ _ | refine zI ?_ | refine zG ?_ _)); refine blk_put (cs := #[.int .i64 t150, .int .u64 t151, .int .u64 t152, .int .u64 0, .int .u64 0, .slice none 0 0, .int .i64 0, .int .i64 0]) ?_ 3 _ rfl; (with_reducible repeat (first | refine zH ?_ _ | refine zI ?_ | refine zG ?_ _)); refine blk_put (cs := #[.int .i64 t150, .int .u64 t151, .int .u64 0, .int .u64 0, .int .u64 0, .slice none 0 0, .int .i64 0, .int .i64 0]) ?_ 2 _ rfl; (with_reducible repeat (first | refine zH ?_ _ | refine zI ?_ | refine zG ?_ _)); refine blk_put (cs := #[.int .i64 t150, .int .u64 0, .int .u64 0, .int .u64 0, .int .u64 0, .slice none 0 0, .int .i64 0, .int .i64 0]) ?_ 1 _ rfl; (with_reducible repeat (first | refine zH ?_ _ | refine zI ?_ | refine zG ?_ _)); refine blk_put (cs := #[.int .i64 0, .int .u64 0, .int .u64 0, .int .u64 0, .int .u64 0, .slice none 0 0, .int .i64 0, .int .i64 0]) ?_ 0 _ rfl; (with_reducible repeat (first | refine zH ?_ _ | refine zI ?_ | refine zG ?_ _)); exact BK119.out) Try.underlying27 rfl (by kernel_rfl)) rfl ?_
          exact ⟨_, by first | rfl | (simp [errW_none, errW_some] <;> rfl) | (simp [*, errW_none, errW_some] <;> rfl), by (with_reducible repeat (first | apply Kd.V_alloc | apply Kd.V_drewN | apply Kd.V_drew)); exact Kd.V_mono (Kd.V_far (p := ⟨gb119, 7, none⟩) (Kd.V_far (p := ⟨gb119, 6, none⟩) (Kd.V_far (p := ⟨gb119, 5, none⟩) (Kd.V_far (p := ⟨gb119, 4, none⟩) (Kd.V_far (p := ⟨gb119, 3, none⟩) (Kd.V_far (p := ⟨gb119, 2, none⟩) (Kd.V_far (p := ⟨gb119, 1, none⟩) (Kd.V_far (p := ⟨gb119, 0, none⟩) (Kd.V_mono HO157.out (fun k_ hk => (⟨hk, hk.2.2.2⟩ : _ ∧ k_ ≠ gb119))) (fun _ hk => hk.2) (.int .i64 t150)) (fun _ hk => hk.2) (.int .u64 t151)) (fun _ hk => hk.2) (.int .u64 t152)) (fun _ hk => hk.2) (.int .u64 t153)) (fun _ hk => hk.2) (.int .u64 t154)) (fun _ hk => hk.2) (.slice Ao62 t155.length co62)) (fun _ hk => hk.2) (.int .i64 t158)) (fun _ hk => hk.2) (.int .i64 t159)) (fun _ hk => hk.1.1), by repeat (first | (with_reducible first | exact HB.out | apply zE | apply zC | apply zD | refine zF ?_ GE118.out | refine zF ?_ GE119.out) | exact HB.out)⟩
         ·
          rw [if_neg c52] at H
          exact absurd H (by simp)
        ·
         rw [if_neg c51] at H
         have c51b0 : (a0_0 == 4) = false := beq_eq_false_iff_ne.mpr c51
         have c51b1 : (a0_0 != 4) = true := bne_iff_ne.mpr c51
         simp only [Option.some.injEq, Prod.mk.injEq] at H
         obtain ⟨rfl, rfl, rfl, rfl, rfl, rfl, rfl, rfl⟩ := H
         have hnb66 := NB118_119.out
         have hnc66 := NB119_118.out
         have hcz67_0 : wc.cell? ⟨gb118, 0, none⟩ = some (.int .i64 a0_0) := (zB BK118.out 0).trans rfl
         have hcz67_1 : wc.cell? ⟨gb118, 1, none⟩ = some (.int .u64 a0_1) := (zB BK118.out 1).trans rfl
         have hcz67_2 : wc.cell? ⟨gb118, 2, none⟩ = some (.int .u64 a0_2) := (zB BK118.out 2).trans rfl
         have hcz67_3 : wc.cell? ⟨gb118, 3, none⟩ = some (.int .u64 a0_3) := (zB BK118.out 3).trans rfl
         have hcz67_4 : wc.cell? ⟨gb118, 4, none⟩ = some (.int .u64 a0_4) := (zB BK118.out 4).trans rfl
         have hcz67_5 : wc.cell? ⟨gb118, 5, none⟩ = some (.slice A0_5 l0_5.length c0_5) := (zB BK118.out 5).trans rfl
         have hcz67_6 : wc.cell? ⟨gb118, 6, none⟩ = some (.int .i64 a0_6) := (zB BK118.out 6).trans rfl
         have hcz67_7 : wc.cell? ⟨gb118, 7, none⟩ = some (.int .i64 a0_7) := (zB BK118.out 7).trans rfl
         have hfz67_0 := zA BK118.out 0
         have hfz67_1 := zA BK118.out 1
         have hfz67_2 := zA BK118.out 2
         have hfz67_3 := zA BK118.out 3
         have hfz67_4 := zA BK118.out 4
         have hfz67_5 := zA BK118.out 5
         have hfz67_6 := zA BK118.out 6
         have hfz67_7 := zA BK118.out 7
         have hcz68_0 : wc.cell? ⟨gb119, 0, none⟩ = some (.int .i64 0) := (zB BK119.out 0).trans rfl
         have hcz68_1 : wc.cell? ⟨gb119, 1, none⟩ = some (.int .u64 0) := (zB BK119.out 1).trans rfl
         have hcz68_2 : wc.cell? ⟨gb119, 2, none⟩ = some (.int .u64 0) := (zB BK119.out 2).trans rfl
         have hcz68_3 : wc.cell? ⟨gb119, 3, none⟩ = some (.int .u64 0) := (zB BK119.out 3).trans rfl
         have hcz68_4 : wc.cell? ⟨gb119, 4, none⟩ = some (.int .u64 0) := (zB BK119.out 4).trans rfl
         have hcz68_5 : wc.cell? ⟨gb119, 5, none⟩ = some (.slice none 0 0) := (zB BK119.out 5).trans rfl
         have hcz68_6 : wc.cell? ⟨gb119, 6, none⟩ = some (.int .i64 0) := (zB BK119.out 6).trans rfl
         have hcz68_7 : wc.cell? ⟨gb119, 7, none⟩ = some (.int .i64 0) := (zB BK119.out 7).trans rfl
         have hfz68_0 := zA BK119.out 0
         have hfz68_1 := zA BK119.out 1
         have hfz68_2 := zA BK119.out 2
         have hfz68_3 := zA BK119.out 3
         have hfz68_4 := zA BK119.out 4
         have hfz68_5 := zA BK119.out 5
         have hfz68_6 := zA BK119.out 6
         have hfz68_7 := zA BK119.out 7
         go_wp2
         refine bodyPost_ret (results_cell_row rfl _ _ gb119 27 #[.int .i64 a0_0, .int .u64 a0_1, .int .u64 a0_2, .int .u64 a0_3, .int .u64 a0_4, .slice A0_5 l0_5.length c0_5, .int .i64 a0_6, .int .i64 a0_7] (0, 0) _ rfl (by (with_reducible repeat (first | refine zH ?_ _ | refine zI ?_ | refine zG ?_ _)); refine blk_put (cs := #[.int .i64 a0_0, .int .u64 a0_1, .int .u64 a0_2, .int .u64 a0_3, .int .u64 a0_4, .slice A0_5 l0_5.length c0_5, .int .i64 a0_6, .int .i64 0]) ?_ 7 _ rfl; (with_reducible repeat (first | refine zH ?_ _ | refine zI ?_ | refine zG ?_ _)); refine blk_put (cs := #[.int .i64 a0_0, .int .u64 a0_1, .int .u64 a0_2, .int .u64 a0_3, .int .u64 a0_4, .slice A0_5 l0_5.length c0_5, .int .i64 0, .int .i64 0]) ?_ 6 _ rfl; (with_reducible repeat (first | refine zH ?_ _ | refine zI ?_ | refine zG ?_ _)); refine blk_put (cs := #[.int .i64 a0_0, .int .u64 a0_1, .int .u64 a0_2, .int .u64 a0_3, .int .u64 a0_4, .slice none 0 0, .int .i64 0, .int .i64 0]) ?_ 5 _ rfl; (with_reducible repeat (first | refine zH ?_ _ | refine zI ?_ | refine zG ?_ _)); refine blk_put (cs := #[.int .i64 a0_0, .int .u64 a0_1, .int .u64 a0_2, .int .u64 a0_3, .int .u64 0, .slice none 0 0, .int .i64 0, .int .i64 0]) ?_ 4 _ rfl; (with_reducible repeat (first | refine zH ?_ _ | refine zI ?_ | refine zG ?_ _)); refine blk_put (cs := #[.int .i64 a0_0, .int .u64 a0_1, .int .u64 a0_2, .int .u64 0, .int .u64 0, .slice none 0 0, .int .i64 0, .int .i64 0]) ?_ 3 _ rfl; (with_reducible repeat (first | refine zH ?_ _ | refine zI ?_ | refine zG ?_ _)); refine blk_put (cs := #[.int .i64 a0_0, .int .u64 a0_1, .int .u64 0, .int .u64 0, .int .u64 0, .slice none 0 0, .int .i64 0, .int .i64 0]) ?_ 2 _ rfl; (with_reducible repeat (first | refine zH ?_ _ | refine zI ?_ | refine zG ?_ _)); refine blk_put (cs := #[.int .i64 a0_0, .int .u64 0, .int .u64 0, .int .u64 0, .int .u64 0, .slice none 0 0, .int .i64 0, .int .i64 0]) ?_ 1 _ rfl; (with_reducible repeat (first | refine zH ?_ _ | refine zI ?_ | refine zG ?_ _)); refine blk_put (cs := #[.int .i64 0, .int .u64 0, .int .u64 0, .int .u64 0, .int .u64 0, .slice none 0 0, .int .i64 0, .int .i64 0]) ?_ 0 _ rfl; (with_reducible repeat (first | refine zH ?_ _ | refine zI ?_ | refine zG ?_ _)); exact BK119.out) Try.underlying27 rfl (by kernel_rfl)) rfl ?_
         exact ⟨_, by first | rfl | (simp [errW_none, errW_some] <;> rfl) | (simp [*, errW_none, errW_some] <;> rfl), by (with_reducible repeat (first | apply Kd.V_alloc | apply Kd.V_drewN | apply Kd.V_drew)); exact Kd.V_mono (Kd.V_far (p := ⟨gb119, 7, none⟩) (Kd.V_far (p := ⟨gb119, 6, none⟩) (Kd.V_far (p := ⟨gb119, 5, none⟩) (Kd.V_far (p := ⟨gb119, 4, none⟩) (Kd.V_far (p := ⟨gb119, 3, none⟩) (Kd.V_far (p := ⟨gb119, 2, none⟩) (Kd.V_far (p := ⟨gb119, 1, none⟩) (Kd.V_far (p := ⟨gb119, 0, none⟩) (Kd.V_mono HO_119005.out (fun k_ hk => (⟨hk, hk.2.2.2⟩ : _ ∧ k_ ≠ gb119))) (fun _ hk => hk.2) (.int .i64 a0_0)) (fun _ hk => hk.2) (.int .u64 a0_1)) (fun _ hk => hk.2) (.int .u64 a0_2)) (fun _ hk => hk.2) (.int .u64 a0_3)) (fun _ hk => hk.2) (.int .u64 a0_4)) (fun _ hk => hk.2) (.slice A0_5 l0_5.length c0_5)) (fun _ hk => hk.2) (.int .i64 a0_6)) (fun _ hk => hk.2) (.int .i64 a0_7)) (fun _ hk => hk.1.1), by repeat (first | (with_reducible first | exact HB.out | apply zE | apply zC | apply zD | refine zF ?_ GE118.out | refine zF ?_ GE119.out) | exact HB.out)⟩

end Go.Proofs.Ytlnhiogpjdhhbaa.P
