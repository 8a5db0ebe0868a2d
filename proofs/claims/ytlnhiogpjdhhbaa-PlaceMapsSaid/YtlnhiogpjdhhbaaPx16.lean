import Derived.Test.YtlnhiogpjdhhbaaPx0
import Derived.Test.YtlnhiogpjdhhbaaPx1
-- Written by wip/xp.
namespace Go.Proofs.Ytlnhiogpjdhhbaa.P
open Go.RowKit Go.Proofs.YtlnhiogpjdhhbaaW.PrintWords Go.Proofs.YtlnhiogpjdhhbaaW.PrintLast Go.Proofs.YtlnhiogpjdhhbaaW.PrintMore
open Go.Proofs.YtlnhiogpjdhhbaaW.PrintWords renaming blk_frozen → zA, blk_cell → zB, pw_below_drewN → zC, below_drew1 → zD, below_alloc → zE, below_set → zF, blk_alloc → zG, blk_drewN → zH, blk_drew → zI
open Go.Proofs.YtlnhiogpjdhhbaaW.PrintWords.Aside0 renaming mk → zJ
open Go.World renaming block_lt_of_cell? → zK
open List renaming setIfInBounds_toArray → zL, set_cons_zero → zM, set_cons_succ → zN
attribute [local go_sem] max2_int min2_int max_two min_two max_three min_three max_four min_four   -- for this text's walks alone
set_option linter.unusedVariables false
set_option linter.unusedSimpArgs false

attribute [local go_sem high] eqA24
mutual
def ostinatoref02_Same.j0 : Nat → Bool → Int → Int → Int → Int → Int → List (S27) → Int → Int → Int → Int → Int → Int → Int → List (S27) → Int → Int → Option (Bool)
  | 0, _, _, _, _, _, _, _, _, _, _, _, _, _, _, _, _, _ => none
  | k + 1, x40, x214000, x214001, x214002, x214003, x214004, x214005, x214006, x214007, x215000, x215001, x215002, x215003, x215004, x215005, x215006, x215007 => if x40 = true then (some false) else (ostinatoref02_Same.l0 k 0 x214000 x214001 x214002 x214003 x214004 x214005 x214006 x214007 x215000 x215001 x215002 x215003 x215004 x215005 x215006 x215007)
def ostinatoref02_Same.l0 : Nat → Int → Int → Int → Int → Int → Int → List (S27) → Int → Int → Int → Int → Int → Int → Int → List (S27) → Int → Int → Option (Bool)
  | 0, _, _, _, _, _, _, _, _, _, _, _, _, _, _, _, _, _ => none
  | k + 1, x5, x214000, x214001, x214002, x214003, x214004, x214005, x214006, x214007, x215000, x215001, x215002, x215003, x215004, x215005, x215006, x215007 => if x5 < (x214005.length : Int) then (if 0 ≤ x5 then (if x5 < (x215005.length : Int) then ((ostinatoref02_Same.f k ((rd_T27 x214005 x5).f0) ((rd_T27 x214005 x5).f1.f0) ((rd_T27 x214005 x5).f1.f1) ((rd_T27 x214005 x5).f1.f2) ((rd_T27 x214005 x5).f1.f3) ((rd_T27 x214005 x5).f2) ((rd_T27 x214005 x5).f3) ((rd_T27 x214005 x5).f4) ((rd_T27 x215005 x5).f0) ((rd_T27 x215005 x5).f1.f0) ((rd_T27 x215005 x5).f1.f1) ((rd_T27 x215005 x5).f1.f2) ((rd_T27 x215005 x5).f1.f3) ((rd_T27 x215005 x5).f2) ((rd_T27 x215005 x5).f3) ((rd_T27 x215005 x5).f4)).bind fun t217 => (if t217 = true then (ostinatoref02_Same.l0 k (wrap64 (x5 + 1)) x214000 x214001 x214002 x214003 x214004 x214005 x214006 x214007 x215000 x215001 x215002 x215003 x215004 x215005 x215006 x215007) else (some false))) else (none)) else (none)) else (some true)
def ostinatoref02_Same.f : Nat → Int → Int → Int → Int → Int → List (S27) → Int → Int → Int → Int → Int → Int → Int → List (S27) → Int → Int → Option (Bool)
  | 0, _, _, _, _, _, _, _, _, _, _, _, _, _, _, _, _ => none
  | k + 1, a0_0, a0_1, a0_2, a0_3, a0_4, l0_5, a0_6, a0_7, a1_0, a1_1, a1_2, a1_3, a1_4, l1_5, a1_6, a1_7 => if a0_0 = a1_0 then (if (!(a0_1 == a1_1) || (!(a0_2 == a1_2) || (!(a0_3 == a1_3) || (!(a0_4 == a1_4))))) = true then (ostinatoref02_Same.j0 k true a0_0 a0_1 a0_2 a0_3 a0_4 l0_5 a0_6 a0_7 a1_0 a1_1 a1_2 a1_3 a1_4 l1_5 a1_6 a1_7) else (if a0_6 = a1_6 then (if a0_7 = a1_7 then (ostinatoref02_Same.j0 k ((l0_5.length : Int) != (l1_5.length : Int)) a0_0 a0_1 a0_2 a0_3 a0_4 l0_5 a0_6 a0_7 a1_0 a1_1 a1_2 a1_3 a1_4 l1_5 a1_6 a1_7) else (ostinatoref02_Same.j0 k true a0_0 a0_1 a0_2 a0_3 a0_4 l0_5 a0_6 a0_7 a1_0 a1_1 a1_2 a1_3 a1_4 l1_5 a1_6 a1_7)) else (ostinatoref02_Same.j0 k true a0_0 a0_1 a0_2 a0_3 a0_4 l0_5 a0_6 a0_7 a1_0 a1_1 a1_2 a1_3 a1_4 l1_5 a1_6 a1_7))) else (ostinatoref02_Same.j0 k true a0_0 a0_1 a0_2 a0_3 a0_4 l0_5 a0_6 a0_7 a1_0 a1_1 a1_2 a1_3 a1_4 l1_5 a1_6 a1_7)
end
theorem ostinatoref02_Same.mono_l : ∀ k, (∀ y0 y1 y2 y3 y4 y5 y6 y7 y8 y9 y10 y11 y12 y13 y14 y15, LeO (ostinatoref02_Same.f k y0 y1 y2 y3 y4 y5 y6 y7 y8 y9 y10 y11 y12 y13 y14 y15) (ostinatoref02_Same.f (k + 1) y0 y1 y2 y3 y4 y5 y6 y7 y8 y9 y10 y11 y12 y13 y14 y15)) ∧ (∀ y0 y1 y2 y3 y4 y5 y6 y7 y8 y9 y10 y11 y12 y13 y14 y15 y16, LeO (ostinatoref02_Same.j0 k y0 y1 y2 y3 y4 y5 y6 y7 y8 y9 y10 y11 y12 y13 y14 y15 y16) (ostinatoref02_Same.j0 (k + 1) y0 y1 y2 y3 y4 y5 y6 y7 y8 y9 y10 y11 y12 y13 y14 y15 y16)) ∧ (∀ y0 y1 y2 y3 y4 y5 y6 y7 y8 y9 y10 y11 y12 y13 y14 y15 y16, LeO (ostinatoref02_Same.l0 k y0 y1 y2 y3 y4 y5 y6 y7 y8 y9 y10 y11 y12 y13 y14 y15 y16) (ostinatoref02_Same.l0 (k + 1) y0 y1 y2 y3 y4 y5 y6 y7 y8 y9 y10 y11 y12 y13 y14 y15 y16))
  | 0 => ⟨fun _ _ _ _ _ _ _ _ _ _ _ _ _ _ _ _ r h => by simp [ostinatoref02_Same.f] at h, fun _ _ _ _ _ _ _ _ _ _ _ _ _ _ _ _ _ r h => by simp [ostinatoref02_Same.j0] at h, fun _ _ _ _ _ _ _ _ _ _ _ _ _ _ _ _ _ r h => by simp [ostinatoref02_Same.l0] at h⟩
  | k + 1 => by
    obtain ⟨ih0, ih1, ih2⟩ := ostinatoref02_Same.mono_l k
    refine ⟨?_, ?_, ?_⟩
    · intro y0 y1 y2 y3 y4 y5 y6 y7 y8 y9 y10 y11 y12 y13 y14 y15
      unfold ostinatoref02_Same.f
      repeat' first
      | (with_reducible exact ih0 _ _ _ _ _ _ _ _ _ _ _ _ _ _ _ _)
      | (with_reducible exact ih1 _ _ _ _ _ _ _ _ _ _ _ _ _ _ _ _ _)
      | (with_reducible exact ih2 _ _ _ _ _ _ _ _ _ _ _ _ _ _ _ _ _)
      | (with_reducible exact LeO.refl _)
      | (with_reducible exact LeO.none _)
      | (with_reducible refine LeO.ite ?_ ?_)
      | (with_reducible refine LeO.bind ?_ (fun _ => ?_))
      | exact ih0 _ _ _ _ _ _ _ _ _ _ _ _ _ _ _ _
      | exact ih1 _ _ _ _ _ _ _ _ _ _ _ _ _ _ _ _ _
      | exact ih2 _ _ _ _ _ _ _ _ _ _ _ _ _ _ _ _ _
      | exact LeO.none _
      | refine LeO.ite ?_ ?_
      | refine LeO.bind ?_ (fun _ => ?_)
    · intro y0 y1 y2 y3 y4 y5 y6 y7 y8 y9 y10 y11 y12 y13 y14 y15 y16
      unfold ostinatoref02_Same.j0
      repeat' first
      | (with_reducible exact ih0 _ _ _ _ _ _ _ _ _ _ _ _ _ _ _ _)
      | (with_reducible exact ih1 _ _ _ _ _ _ _ _ _ _ _ _ _ _ _ _ _)
      | (with_reducible exact ih2 _ _ _ _ _ _ _ _ _ _ _ _ _ _ _ _ _)
      | (with_reducible exact LeO.refl _)
      | (with_reducible exact LeO.none _)
      | (with_reducible refine LeO.ite ?_ ?_)
      | (with_reducible refine LeO.bind ?_ (fun _ => ?_))
      | exact ih0 _ _ _ _ _ _ _ _ _ _ _ _ _ _ _ _
      | exact ih1 _ _ _ _ _ _ _ _ _ _ _ _ _ _ _ _ _
      | exact ih2 _ _ _ _ _ _ _ _ _ _ _ _ _ _ _ _ _
      | exact LeO.none _
      | refine LeO.ite ?_ ?_
      | refine LeO.bind ?_ (fun _ => ?_)
    · intro y0 y1 y2 y3 y4 y5 y6 y7 y8 y9 y10 y11 y12 y13 y14 y15 y16
      unfold ostinatoref02_Same.l0
      repeat' first
      | (with_reducible exact ih0 _ _ _ _ _ _ _ _ _ _ _ _ _ _ _ _)
      | (with_reducible exact ih1 _ _ _ _ _ _ _ _ _ _ _ _ _ _ _ _ _)
      | (with_reducible exact ih2 _ _ _ _ _ _ _ _ _ _ _ _ _ _ _ _ _)
      | (with_reducible exact LeO.refl _)
      | (with_reducible exact LeO.none _)
      | (with_reducible refine LeO.ite ?_ ?_)
      | (with_reducible refine LeO.bind ?_ (fun _ => ?_))
      | exact ih0 _ _ _ _ _ _ _ _ _ _ _ _ _ _ _ _
      | exact ih1 _ _ _ _ _ _ _ _ _ _ _ _ _ _ _ _ _
      | exact ih2 _ _ _ _ _ _ _ _ _ _ _ _ _ _ _ _ _
      | exact LeO.none _
      | refine LeO.ite ?_ ?_
      | refine LeO.bind ?_ (fun _ => ?_)
theorem ostinatoref02_Same.mono : ∀ a0 a1 a2 a3 a4 a5 a6 a7 a8 a9 a10 a11 a12 a13 a14 a15 k, LeO (ostinatoref02_Same.f k a0 a1 a2 a3 a4 a5 a6 a7 a8 a9 a10 a11 a12 a13 a14 a15) (ostinatoref02_Same.f (k + 1) a0 a1 a2 a3 a4 a5 a6 a7 a8 a9 a10 a11 a12 a13 a14 a15) := by
  intro a0 a1 a2 a3 a4 a5 a6 a7 a8 a9 a10 a11 a12 a13 a14 a15 k
  obtain ⟨ih0, ih1, ih2⟩ := ostinatoref02_Same.mono_l k
  exact ih0 a0 a1 a2 a3 a4 a5 a6 a7 a8 a9 a10 a11 a12 a13 a14 a15
def ostinatoref02_Same.T6 : Bool × List (List Nat × List Nat) := (true, [([], []), ([0], [0]), ([], []), ([1, 2], [1, 2]), ([3], [3]), ([], []), ([5], [5]), ([], []), ([6, 7], [6, 7]), ([8], [8]), ([4, 9], [4, 9]), ([10], [10])])
def ostinatoref02_Same.B6 : List Nat := [0, 1, 0, 7, 15, 0, 32, 0, 224, 480, 1023, 2047]
theorem ostinatoref02_Same.tab6 : rtab .any (opsOf Try.f11 6) = ostinatoref02_Same.T6 := by kernel_rfl
theorem ostinatoref02_Same.bits6 : waitsOk ostinatoref02_Same.T6.2 ostinatoref02_Same.B6 = true := by kernel_rfl
set_option maxHeartbeats 8000000 in
set_option maxRecDepth 100000 in
theorem ostinatoref02_Same.calls (k : Nat) : ∀ (a0_0 : Int) (a0_1 : Int) (a0_2 : Int) (a0_3 : Int) (a0_4 : Int) (A0_5 : Option Addr) (c0_5 : Nat) (l0_5 : List (S27)) (a0_6 : Int) (a0_7 : Int) (a1_0 : Int) (a1_1 : Int) (a1_2 : Int) (a1_3 : Int) (a1_4 : Int) (A1_5 : Option Addr) (c1_5 : Nat) (l1_5 : List (S27)) (a1_6 : Int) (a1_7 : Int) (r : Bool) (w : World) (hr0_5 : Kd.C k27 w A0_5 l0_5.length l0_5) (hc0_5 : l0_5.length ≤ c0_5) (hr1_5 : Kd.C k27 w A1_5 l1_5.length l1_5) (hc1_5 : l1_5.length ≤ c1_5) (h : ostinatoref02_Same.f k a0_0 a0_1 a0_2 a0_3 a0_4 l0_5 a0_6 a0_7 a1_0 a1_1 a1_2 a1_3 a1_4 l1_5 a1_6 a1_7 = some r),
  Calls Try.prog 11 #[.agg #[.int .i64 a0_0, .int .u64 a0_1, .int .u64 a0_2, .int .u64 a0_3, .int .u64 a0_4, .slice A0_5 l0_5.length c0_5, .int .i64 a0_6, .int .i64 a0_7], .agg #[.int .i64 a1_0, .int .u64 a1_1, .int .u64 a1_2, .int .u64 a1_3, .int .u64 a1_4, .slice A1_5 l1_5.length c1_5, .int .i64 a1_6, .int .i64 a1_7]] w fun e w' => e = .returned (.bool r) ∧ Below w.heap.size w w' := by
 induction k using Nat.strongRecOn with
 | _ k ih =>
 intro a0_0 a0_1 a0_2 a0_3 a0_4 A0_5 c0_5 l0_5 a0_6 a0_7 a1_0 a1_1 a1_2 a1_3 a1_4 A1_5 c1_5 l1_5 a1_6 a1_7 r w hr0_5 hc0_5 hr1_5 hc1_5 h
 cases k with
 | zero => exact absurd h (by simp [ostinatoref02_Same.f])
 | succ k =>
 simp only [ostinatoref02_Same.f] at h
 have hu27 := Try.underlying27
 have hu24 := Try.underlying24
 have HR0_5 := zJ hr0_5
 have HC0_5 := zJ hc0_5
 clear hr0_5 hc0_5
 have HR1_5 := zJ hr1_5
 have HC1_5 := zJ hc1_5
 clear hr1_5 hc1_5
 have HB := zJ (Below.refl w.heap.size w)
 have H : (if a0_0 = a1_0 then (if (!(a0_1 == a1_1) || (!(a0_2 == a1_2) || (!(a0_3 == a1_3) || (!(a0_4 == a1_4))))) = true then (ostinatoref02_Same.j0 k true a0_0 a0_1 a0_2 a0_3 a0_4 l0_5 a0_6 a0_7 a1_0 a1_1 a1_2 a1_3 a1_4 l1_5 a1_6 a1_7) else (if a0_6 = a1_6 then (if a0_7 = a1_7 then (ostinatoref02_Same.j0 k ((l0_5.length : Int) != (l1_5.length : Int)) a0_0 a0_1 a0_2 a0_3 a0_4 l0_5 a0_6 a0_7 a1_0 a1_1 a1_2 a1_3 a1_4 l1_5 a1_6 a1_7) else (ostinatoref02_Same.j0 k true a0_0 a0_1 a0_2 a0_3 a0_4 l0_5 a0_6 a0_7 a1_0 a1_1 a1_2 a1_3 a1_4 l1_5 a1_6 a1_7)) else (ostinatoref02_Same.j0 k true a0_0 a0_1 a0_2 a0_3 a0_4 l0_5 a0_6 a0_7 a1_0 a1_1 a1_2 a1_3 a1_4 l1_5 a1_6 a1_7))) else (ostinatoref02_Same.j0 k true a0_0 a0_1 a0_2 a0_3 a0_4 l0_5 a0_6 a0_7 a1_0 a1_1 a1_2 a1_3 a1_4 l1_5 a1_6 a1_7)) = some r := h
 clear h
 have HC3 := zJ H
 clear H
 go_enter Try.func11, Try.ntmps11
 go_upto_region 1 with (first | ((with_reducible refine gate_dst (N := 2) rfl ?_); (try (refine gate_guard (by rfl) ?_; dsimp only)); refine box_event ?hg (N := 2) ?hd (cs := #[.int .i64 a0_0, .int .u64 a0_1, .int .u64 a0_2, .int .u64 a0_3, .int .u64 a0_4, .slice A0_5 l0_5.length c0_5, .int .i64 a0_6, .int .i64 a0_7]) (t := 27) ?hr ?_; (case hd => rfl); (case hg => rfl); (case hr => first | (go_simp; done) | (go_simp; rfl)); intro gb213 hg w4 hbox hb; have n0_ := zJ (below_step (by repeat (first | (with_reducible first | exact HB.out | apply zE | apply zC | apply zD) | exact HB.out)) hb); have n1_ := zJ (hbox); have n2_ := zJ ((by rw [hg]; exact (below_size (by repeat (first | (with_reducible first | exact HB.out | apply zE | apply zC | apply zD) | exact HB.out))) : w.heap.size ≤ gb213)); have n3_ := zJ ((by rw [hg]; exact (below_size (by repeat (first | (with_reducible first | exact HB.out | apply zE | apply zC | apply zD) | exact HB.out))) : w.heap.size ≤ gb213)); clear HB; have HB := n0_; have BK213 := n1_; have GW213 := n2_; have GE213 := n3_; clear n0_ n1_ n2_ n3_; clear hb hbox hg) | ((with_reducible refine gate_dst (N := 3) rfl ?_); (try (refine gate_guard (by rfl) ?_; dsimp only)); refine box_event ?hg (N := 3) ?hd (cs := #[.int .i64 a1_0, .int .u64 a1_1, .int .u64 a1_2, .int .u64 a1_3, .int .u64 a1_4, .slice A1_5 l1_5.length c1_5, .int .i64 a1_6, .int .i64 a1_7]) (t := 27) ?hr ?_; (case hd => rfl); (case hg => rfl); (case hr => first | (go_simp; done) | (go_simp; rfl)); intro gb214 hg w5 hbox hb; have n0_ := zJ (blk_below (g := gb213) (o := .cells #[.int .i64 a0_0, .int .u64 a0_1, .int .u64 a0_2, .int .u64 a0_3, .int .u64 a0_4, .slice A0_5 l0_5.length c0_5, .int .i64 a0_6, .int .i64 a0_7] 27 (0, 0)) (by (with_reducible repeat (first | refine zH ?_ _ | refine zI ?_ | refine zG ?_ _)); exact BK213.out) hb); have n1_ := zJ (below_step (by repeat (first | (with_reducible first | exact HB.out | apply zE | apply zC | apply zD | refine zF ?_ GE213.out) | exact HB.out)) hb); have n2_ := zJ (hbox); have n3_ := zJ ((by rw [hg]; exact (below_size (by repeat (first | (with_reducible first | exact HB.out | apply zE | apply zC | apply zD | refine zF ?_ GE213.out) | exact HB.out))) : w.heap.size ≤ gb214)); have n4_ := zJ ((by rw [hg]; exact (below_size (by repeat (first | (with_reducible first | exact HB.out | apply zE | apply zC | apply zD | refine zF ?_ GE213.out) | exact HB.out))) : w.heap.size ≤ gb214)); have n5_ := zJ ((by rw [hg]; exact Nat.ne_of_lt (blk_lt (g := gb213) (o := .cells #[.int .i64 a0_0, .int .u64 a0_1, .int .u64 a0_2, .int .u64 a0_3, .int .u64 a0_4, .slice A0_5 l0_5.length c0_5, .int .i64 a0_6, .int .i64 a0_7] 27 (0, 0)) (by (with_reducible repeat (first | refine zH ?_ _ | refine zI ?_ | refine zG ?_ _)); exact BK213.out)) : gb213 ≠ gb214)); have n6_ := zJ ((by rw [hg]; exact Nat.ne_of_gt (blk_lt (g := gb213) (o := .cells #[.int .i64 a0_0, .int .u64 a0_1, .int .u64 a0_2, .int .u64 a0_3, .int .u64 a0_4, .slice A0_5 l0_5.length c0_5, .int .i64 a0_6, .int .i64 a0_7] 27 (0, 0)) (by (with_reducible repeat (first | refine zH ?_ _ | refine zI ?_ | refine zG ?_ _)); exact BK213.out)) : gb214 ≠ gb213)); clear BK213; clear HB; have BK213 := n0_; have HB := n1_; have BK214 := n2_; have GW214 := n3_; have GE214 := n4_; have NB213_214 := n5_; have NB214_213 := n6_; clear n0_ n1_ n2_ n3_ n4_ n5_ n6_; clear hb hbox hg))
 (try simp only [Act.put, zL, zM, zN])
 go_cut [40] (fun v40 wc => ∃ (kq : Nat) (x40_2 : Bool), v40 = .bool x40_2 ∧ Aside0 (ostinatoref02_Same.j0 kq x40_2 a0_0 a0_1 a0_2 a0_3 a0_4 l0_5 a0_6 a0_7 a1_0 a1_1 a1_2 a1_3 a1_4 l1_5 a1_6 a1_7 = some r) ∧ Aside0 (kq ≤ k) ∧ Aside0 (wc.heap[gb213]? = some (.cells #[.int .i64 a0_0, .int .u64 a0_1, .int .u64 a0_2, .int .u64 a0_3, .int .u64 a0_4, (.slice A0_5 l0_5.length c0_5), .int .i64 a0_6, .int .i64 a0_7] 27 (0, 0))) ∧ Aside0 (wc.heap[gb214]? = some (.cells #[.int .i64 a1_0, .int .u64 a1_1, .int .u64 a1_2, .int .u64 a1_3, .int .u64 a1_4, (.slice A1_5 l1_5.length c1_5), .int .i64 a1_6, .int .i64 a1_7] 27 (0, 0))) ∧ Aside0 (Below w.heap.size w wc))
 case first =>
  have H := HC3.out
  clear HC3
  by_cases c6 : a0_0 = a1_0
  ·
   rw [if_pos c6] at H
   have c6b0 : (a0_0 == a1_0) = true := beq_iff_eq.mpr c6
   have c6b1 : (a0_0 != a1_0) = false := bne_eq_false_iff_eq.mpr c6
   clear c6
   (first | rw [c6b0] | (simp only [i64_w, i32_w]; rw [c6b0]) | skip)
   obtain ⟨bj7, hbj7⟩ : ∃ b_ : Bool, (!(a0_1 == a1_1) || (!(a0_2 == a1_2) || (!(a0_3 == a1_3) || (!(a0_4 == a1_4))))) = b_ := ⟨_, rfl⟩
   replace H : (if bj7 = true then (ostinatoref02_Same.j0 k true a0_0 a0_1 a0_2 a0_3 a0_4 l0_5 a0_6 a0_7 a1_0 a1_1 a1_2 a1_3 a1_4 l1_5 a1_6 a1_7) else (if a0_6 = a1_6 then (if a0_7 = a1_7 then (ostinatoref02_Same.j0 k ((l0_5.length : Int) != (l1_5.length : Int)) a0_0 a0_1 a0_2 a0_3 a0_4 l0_5 a0_6 a0_7 a1_0 a1_1 a1_2 a1_3 a1_4 l1_5 a1_6 a1_7) else (ostinatoref02_Same.j0 k true a0_0 a0_1 a0_2 a0_3 a0_4 l0_5 a0_6 a0_7 a1_0 a1_1 a1_2 a1_3 a1_4 l1_5 a1_6 a1_7)) else (ostinatoref02_Same.j0 k true a0_0 a0_1 a0_2 a0_3 a0_4 l0_5 a0_6 a0_7 a1_0 a1_1 a1_2 a1_3 a1_4 l1_5 a1_6 a1_7))) = some r := by (try rw [hbj7] at H); exact H
   by_cases c8 : bj7 = true
   ·
    subst c8
    have H1 : (ostinatoref02_Same.j0 k true a0_0 a0_1 a0_2 a0_3 a0_4 l0_5 a0_6 a0_7 a1_0 a1_1 a1_2 a1_3 a1_4 l1_5 a1_6 a1_7) = some r := by rw [if_pos rfl] at H; exact H
    clear H
    have H := H1
    clear H1
    have H' := zJ H
    clear H
    have hnb9 := NB213_214.out
    have hnc9 := NB214_213.out
    have hcz10_0 : w5.cell? ⟨gb213, 0, none⟩ = some (.int .i64 a0_0) := (zB BK213.out 0).trans rfl
    have hcz10_1 : w5.cell? ⟨gb213, 1, none⟩ = some (.int .u64 a0_1) := (zB BK213.out 1).trans rfl
    have hcz10_2 : w5.cell? ⟨gb213, 2, none⟩ = some (.int .u64 a0_2) := (zB BK213.out 2).trans rfl
    have hcz10_3 : w5.cell? ⟨gb213, 3, none⟩ = some (.int .u64 a0_3) := (zB BK213.out 3).trans rfl
    have hcz10_4 : w5.cell? ⟨gb213, 4, none⟩ = some (.int .u64 a0_4) := (zB BK213.out 4).trans rfl
    have hcz10_5 : w5.cell? ⟨gb213, 5, none⟩ = some (.slice A0_5 l0_5.length c0_5) := (zB BK213.out 5).trans rfl
    have hcz10_6 : w5.cell? ⟨gb213, 6, none⟩ = some (.int .i64 a0_6) := (zB BK213.out 6).trans rfl
    have hcz10_7 : w5.cell? ⟨gb213, 7, none⟩ = some (.int .i64 a0_7) := (zB BK213.out 7).trans rfl
    have hfz10_0 := zA BK213.out 0
    have hfz10_1 := zA BK213.out 1
    have hfz10_2 := zA BK213.out 2
    have hfz10_3 := zA BK213.out 3
    have hfz10_4 := zA BK213.out 4
    have hfz10_5 := zA BK213.out 5
    have hfz10_6 := zA BK213.out 6
    have hfz10_7 := zA BK213.out 7
    have hcz11_0 : w5.cell? ⟨gb214, 0, none⟩ = some (.int .i64 a1_0) := (zB BK214.out 0).trans rfl
    have hcz11_1 : w5.cell? ⟨gb214, 1, none⟩ = some (.int .u64 a1_1) := (zB BK214.out 1).trans rfl
    have hcz11_2 : w5.cell? ⟨gb214, 2, none⟩ = some (.int .u64 a1_2) := (zB BK214.out 2).trans rfl
    have hcz11_3 : w5.cell? ⟨gb214, 3, none⟩ = some (.int .u64 a1_3) := (zB BK214.out 3).trans rfl
    have hcz11_4 : w5.cell? ⟨gb214, 4, none⟩ = some (.int .u64 a1_4) := (zB BK214.out 4).trans rfl
    have hcz11_5 : w5.cell? ⟨gb214, 5, none⟩ = some (.slice A1_5 l1_5.length c1_5) := (zB BK214.out 5).trans rfl
    have hcz11_6 : w5.cell? ⟨gb214, 6, none⟩ = some (.int .i64 a1_6) := (zB BK214.out 6).trans rfl
    have hcz11_7 : w5.cell? ⟨gb214, 7, none⟩ = some (.int .i64 a1_7) := (zB BK214.out 7).trans rfl
    have hfz11_0 := zA BK214.out 0
    have hfz11_1 := zA BK214.out 1
    have hfz11_2 := zA BK214.out 2
    have hfz11_3 := zA BK214.out 3
    have hfz11_4 := zA BK214.out 4
    have hfz11_5 := zA BK214.out 5
    have hfz11_6 := zA BK214.out 6
    have hfz11_7 := zA BK214.out 7
    go_wp2
    go_meet
    case rel => exact ⟨_, (true), (by first | rfl | (simp; done) | (simp [*]; done)), H', ⟨by first | omega | exact Nat.le_refl _⟩, ⟨by (with_reducible repeat (first | refine zH ?_ _ | refine zI ?_ | refine zG ?_ _)); exact BK213.out⟩, ⟨by (with_reducible repeat (first | refine zH ?_ _ | refine zI ?_ | refine zG ?_ _)); exact BK214.out⟩, ⟨by repeat (first | (with_reducible first | exact HB.out | apply zE | apply zC | apply zD | refine zF ?_ GE213.out | refine zF ?_ GE214.out) | exact HB.out)⟩⟩
   ·
    replace c8 := Bool.eq_false_iff.mpr c8
    subst c8
    have H1 : (if a0_6 = a1_6 then (if a0_7 = a1_7 then (ostinatoref02_Same.j0 k ((l0_5.length : Int) != (l1_5.length : Int)) a0_0 a0_1 a0_2 a0_3 a0_4 l0_5 a0_6 a0_7 a1_0 a1_1 a1_2 a1_3 a1_4 l1_5 a1_6 a1_7) else (ostinatoref02_Same.j0 k true a0_0 a0_1 a0_2 a0_3 a0_4 l0_5 a0_6 a0_7 a1_0 a1_1 a1_2 a1_3 a1_4 l1_5 a1_6 a1_7)) else (ostinatoref02_Same.j0 k true a0_0 a0_1 a0_2 a0_3 a0_4 l0_5 a0_6 a0_7 a1_0 a1_1 a1_2 a1_3 a1_4 l1_5 a1_6 a1_7)) = some r := by rw [if_neg (show ¬ (false = true) by decide)] at H; exact H
    clear H
    have H := H1
    clear H1
    by_cases c12 : a0_6 = a1_6
    ·
     rw [if_pos c12] at H
     have c12b0 : (a0_6 == a1_6) = true := beq_iff_eq.mpr c12
     have c12b1 : (a0_6 != a1_6) = false := bne_eq_false_iff_eq.mpr c12
     clear c12
     by_cases c13 : a0_7 = a1_7
     ·
      rw [if_pos c13] at H
      have c13b0 : (a0_7 == a1_7) = true := beq_iff_eq.mpr c13
      have c13b1 : (a0_7 != a1_7) = false := bne_eq_false_iff_eq.mpr c13
      clear c13
      have H' := zJ H
      clear H
      have hnb14 := NB213_214.out
      have hnc14 := NB214_213.out
      have hcz15_0 : w5.cell? ⟨gb213, 0, none⟩ = some (.int .i64 a0_0) := (zB BK213.out 0).trans rfl
      have hcz15_1 : w5.cell? ⟨gb213, 1, none⟩ = some (.int .u64 a0_1) := (zB BK213.out 1).trans rfl
      have hcz15_2 : w5.cell? ⟨gb213, 2, none⟩ = some (.int .u64 a0_2) := (zB BK213.out 2).trans rfl
      have hcz15_3 : w5.cell? ⟨gb213, 3, none⟩ = some (.int .u64 a0_3) := (zB BK213.out 3).trans rfl
      have hcz15_4 : w5.cell? ⟨gb213, 4, none⟩ = some (.int .u64 a0_4) := (zB BK213.out 4).trans rfl
      have hcz15_5 : w5.cell? ⟨gb213, 5, none⟩ = some (.slice A0_5 l0_5.length c0_5) := (zB BK213.out 5).trans rfl
      have hcz15_6 : w5.cell? ⟨gb213, 6, none⟩ = some (.int .i64 a0_6) := (zB BK213.out 6).trans rfl
      have hcz15_7 : w5.cell? ⟨gb213, 7, none⟩ = some (.int .i64 a0_7) := (zB BK213.out 7).trans rfl
      have hfz15_0 := zA BK213.out 0
      have hfz15_1 := zA BK213.out 1
      have hfz15_2 := zA BK213.out 2
      have hfz15_3 := zA BK213.out 3
      have hfz15_4 := zA BK213.out 4
      have hfz15_5 := zA BK213.out 5
      have hfz15_6 := zA BK213.out 6
      have hfz15_7 := zA BK213.out 7
      have hcz16_0 : w5.cell? ⟨gb214, 0, none⟩ = some (.int .i64 a1_0) := (zB BK214.out 0).trans rfl
      have hcz16_1 : w5.cell? ⟨gb214, 1, none⟩ = some (.int .u64 a1_1) := (zB BK214.out 1).trans rfl
      have hcz16_2 : w5.cell? ⟨gb214, 2, none⟩ = some (.int .u64 a1_2) := (zB BK214.out 2).trans rfl
      have hcz16_3 : w5.cell? ⟨gb214, 3, none⟩ = some (.int .u64 a1_3) := (zB BK214.out 3).trans rfl
      have hcz16_4 : w5.cell? ⟨gb214, 4, none⟩ = some (.int .u64 a1_4) := (zB BK214.out 4).trans rfl
      have hcz16_5 : w5.cell? ⟨gb214, 5, none⟩ = some (.slice A1_5 l1_5.length c1_5) := (zB BK214.out 5).trans rfl
      have hcz16_6 : w5.cell? ⟨gb214, 6, none⟩ = some (.int .i64 a1_6) := (zB BK214.out 6).trans rfl
      have hcz16_7 : w5.cell? ⟨gb214, 7, none⟩ = some (.int .i64 a1_7) := (zB BK214.out 7).trans rfl
      have hfz16_0 := zA BK214.out 0
      have hfz16_1 := zA BK214.out 1
      have hfz16_2 := zA BK214.out 2
      have hfz16_3 := zA BK214.out 3
      have hfz16_4 := zA BK214.out 4
      have hfz16_5 := zA BK214.out 5
      have hfz16_6 := zA BK214.out 6
      have hfz16_7 := zA BK214.out 7
      go_wp2
      go_meet
      case rel => exact ⟨_, (((l0_5.length : Int) != (l1_5.length : Int))), (by first | rfl | (simp; done) | (simp [*]; done)), H', ⟨by first | omega | exact Nat.le_refl _⟩, ⟨by (with_reducible repeat (first | refine zH ?_ _ | refine zI ?_ | refine zG ?_ _)); exact BK213.out⟩, ⟨by (with_reducible repeat (first | refine zH ?_ _ | refine zI ?_ | refine zG ?_ _)); exact BK214.out⟩, ⟨by repeat (first | (with_reducible first | exact HB.out | apply zE | apply zC | apply zD | refine zF ?_ GE213.out | refine zF ?_ GE214.out) | exact HB.out)⟩⟩
     ·
      rw [if_neg c13] at H
      have c13b0 : (a0_7 == a1_7) = false := beq_eq_false_iff_ne.mpr c13
      have c13b1 : (a0_7 != a1_7) = true := bne_iff_ne.mpr c13
      have H' := zJ H
      clear H
      have hnb17 := NB213_214.out
      have hnc17 := NB214_213.out
      have hcz18_0 : w5.cell? ⟨gb213, 0, none⟩ = some (.int .i64 a0_0) := (zB BK213.out 0).trans rfl
      have hcz18_1 : w5.cell? ⟨gb213, 1, none⟩ = some (.int .u64 a0_1) := (zB BK213.out 1).trans rfl
      have hcz18_2 : w5.cell? ⟨gb213, 2, none⟩ = some (.int .u64 a0_2) := (zB BK213.out 2).trans rfl
      have hcz18_3 : w5.cell? ⟨gb213, 3, none⟩ = some (.int .u64 a0_3) := (zB BK213.out 3).trans rfl
      have hcz18_4 : w5.cell? ⟨gb213, 4, none⟩ = some (.int .u64 a0_4) := (zB BK213.out 4).trans rfl
      have hcz18_5 : w5.cell? ⟨gb213, 5, none⟩ = some (.slice A0_5 l0_5.length c0_5) := (zB BK213.out 5).trans rfl
      have hcz18_6 : w5.cell? ⟨gb213, 6, none⟩ = some (.int .i64 a0_6) := (zB BK213.out 6).trans rfl
      have hcz18_7 : w5.cell? ⟨gb213, 7, none⟩ = some (.int .i64 a0_7) := (zB BK213.out 7).trans rfl
      have hfz18_0 := zA BK213.out 0
      have hfz18_1 := zA BK213.out 1
      have hfz18_2 := zA BK213.out 2
      have hfz18_3 := zA BK213.out 3
      have hfz18_4 := zA BK213.out 4
      have hfz18_5 := zA BK213.out 5
      have hfz18_6 := zA BK213.out 6
      have hfz18_7 := zA BK213.out 7
      have hcz19_0 : w5.cell? ⟨gb214, 0, none⟩ = some (.int .i64 a1_0) := (zB BK214.out 0).trans rfl
      have hcz19_1 : w5.cell? ⟨gb214, 1, none⟩ = some (.int .u64 a1_1) := (zB BK214.out 1).trans rfl
      have hcz19_2 : w5.cell? ⟨gb214, 2, none⟩ = some (.int .u64 a1_2) := (zB BK214.out 2).trans rfl
      have hcz19_3 : w5.cell? ⟨gb214, 3, none⟩ = some (.int .u64 a1_3) := (zB BK214.out 3).trans rfl
      have hcz19_4 : w5.cell? ⟨gb214, 4, none⟩ = some (.int .u64 a1_4) := (zB BK214.out 4).trans rfl
      have hcz19_5 : w5.cell? ⟨gb214, 5, none⟩ = some (.slice A1_5 l1_5.length c1_5) := (zB BK214.out 5).trans rfl
      have hcz19_6 : w5.cell? ⟨gb214, 6, none⟩ = some (.int .i64 a1_6) := (zB BK214.out 6).trans rfl
      have hcz19_7 : w5.cell? ⟨gb214, 7, none⟩ = some (.int .i64 a1_7) := (zB BK214.out 7).trans rfl
      have hfz19_0 := zA BK214.out 0
      have hfz19_1 := zA BK214.out 1
      have hfz19_2 := zA BK214.out 2
      have hfz19_3 := zA BK214.out 3
      have hfz19_4 := zA BK214.out 4
      have hfz19_5 := zA BK214.out 5
      have hfz19_6 := zA BK214.out 6
      have hfz19_7 := zA BK214.out 7
      go_wp2
      go_meet
      case rel => exact ⟨_, (true), (by first | rfl | (simp; done) | (simp [*]; done)), H', ⟨by first | omega | exact Nat.le_refl _⟩, ⟨by (with_reducible repeat (first | refine zH ?_ _ | refine zI ?_ | refine zG ?_ _)); exact BK213.out⟩, ⟨by (with_reducible repeat (first | refine zH ?_ _ | refine zI ?_ | refine zG ?_ _)); exact BK214.out⟩, ⟨by repeat (first | (with_reducible first | exact HB.out | apply zE | apply zC | apply zD | refine zF ?_ GE213.out | refine zF ?_ GE214.out) | exact HB.out)⟩⟩
    ·
     rw [if_neg c12] at H
     have c12b0 : (a0_6 == a1_6) = false := beq_eq_false_iff_ne.mpr c12
     have c12b1 : (a0_6 != a1_6) = true := bne_iff_ne.mpr c12
     have H' := zJ H
     clear H
     have hnb20 := NB213_214.out
     have hnc20 := NB214_213.out
     have hcz21_0 : w5.cell? ⟨gb213, 0, none⟩ = some (.int .i64 a0_0) := (zB BK213.out 0).trans rfl
     have hcz21_1 : w5.cell? ⟨gb213, 1, none⟩ = some (.int .u64 a0_1) := (zB BK213.out 1).trans rfl
     have hcz21_2 : w5.cell? ⟨gb213, 2, none⟩ = some (.int .u64 a0_2) := (zB BK213.out 2).trans rfl
     have hcz21_3 : w5.cell? ⟨gb213, 3, none⟩ = some (.int .u64 a0_3) := (zB BK213.out 3).trans rfl
     have hcz21_4 : w5.cell? ⟨gb213, 4, none⟩ = some (.int .u64 a0_4) := (zB BK213.out 4).trans rfl
     have hcz21_5 : w5.cell? ⟨gb213, 5, none⟩ = some (.slice A0_5 l0_5.length c0_5) := (zB BK213.out 5).trans rfl
     have hcz21_6 : w5.cell? ⟨gb213, 6, none⟩ = some (.int .i64 a0_6) := (zB BK213.out 6).trans rfl
     have hcz21_7 : w5.cell? ⟨gb213, 7, none⟩ = some (.int .i64 a0_7) := (zB BK213.out 7).trans rfl
     have hfz21_0 := zA BK213.out 0
     have hfz21_1 := zA BK213.out 1
     have hfz21_2 := zA BK213.out 2
     have hfz21_3 := zA BK213.out 3
     have hfz21_4 := zA BK213.out 4
     have hfz21_5 := zA BK213.out 5
     have hfz21_6 := zA BK213.out 6
     have hfz21_7 := zA BK213.out 7
     have hcz22_0 : w5.cell? ⟨gb214, 0, none⟩ = some (.int .i64 a1_0) := (zB BK214.out 0).trans rfl
     have hcz22_1 : w5.cell? ⟨gb214, 1, none⟩ = some (.int .u64 a1_1) := (zB BK214.out 1).trans rfl
     have hcz22_2 : w5.cell? ⟨gb214, 2, none⟩ = some (.int .u64 a1_2) := (zB BK214.out 2).trans rfl
     have hcz22_3 : w5.cell? ⟨gb214, 3, none⟩ = some (.int .u64 a1_3) := (zB BK214.out 3).trans rfl
     have hcz22_4 : w5.cell? ⟨gb214, 4, none⟩ = some (.int .u64 a1_4) := (zB BK214.out 4).trans rfl
     have hcz22_5 : w5.cell? ⟨gb214, 5, none⟩ = some (.slice A1_5 l1_5.length c1_5) := (zB BK214.out 5).trans rfl
     have hcz22_6 : w5.cell? ⟨gb214, 6, none⟩ = some (.int .i64 a1_6) := (zB BK214.out 6).trans rfl
     have hcz22_7 : w5.cell? ⟨gb214, 7, none⟩ = some (.int .i64 a1_7) := (zB BK214.out 7).trans rfl
     have hfz22_0 := zA BK214.out 0
     have hfz22_1 := zA BK214.out 1
     have hfz22_2 := zA BK214.out 2
     have hfz22_3 := zA BK214.out 3
     have hfz22_4 := zA BK214.out 4
     have hfz22_5 := zA BK214.out 5
     have hfz22_6 := zA BK214.out 6
     have hfz22_7 := zA BK214.out 7
     go_wp2
     go_meet
     case rel => exact ⟨_, (true), (by first | rfl | (simp; done) | (simp [*]; done)), H', ⟨by first | omega | exact Nat.le_refl _⟩, ⟨by (with_reducible repeat (first | refine zH ?_ _ | refine zI ?_ | refine zG ?_ _)); exact BK213.out⟩, ⟨by (with_reducible repeat (first | refine zH ?_ _ | refine zI ?_ | refine zG ?_ _)); exact BK214.out⟩, ⟨by repeat (first | (with_reducible first | exact HB.out | apply zE | apply zC | apply zD | refine zF ?_ GE213.out | refine zF ?_ GE214.out) | exact HB.out)⟩⟩
  ·
   rw [if_neg c6] at H
   have c6b0 : (a0_0 == a1_0) = false := beq_eq_false_iff_ne.mpr c6
   have c6b1 : (a0_0 != a1_0) = true := bne_iff_ne.mpr c6
   (first | rw [c6b0] | (simp only [i64_w, i32_w]; rw [c6b0]) | skip)
   have H' := zJ H
   clear H
   have hnb23 := NB213_214.out
   have hnc23 := NB214_213.out
   have hcz24_0 : w5.cell? ⟨gb213, 0, none⟩ = some (.int .i64 a0_0) := (zB BK213.out 0).trans rfl
   have hcz24_1 : w5.cell? ⟨gb213, 1, none⟩ = some (.int .u64 a0_1) := (zB BK213.out 1).trans rfl
   have hcz24_2 : w5.cell? ⟨gb213, 2, none⟩ = some (.int .u64 a0_2) := (zB BK213.out 2).trans rfl
   have hcz24_3 : w5.cell? ⟨gb213, 3, none⟩ = some (.int .u64 a0_3) := (zB BK213.out 3).trans rfl
   have hcz24_4 : w5.cell? ⟨gb213, 4, none⟩ = some (.int .u64 a0_4) := (zB BK213.out 4).trans rfl
   have hcz24_5 : w5.cell? ⟨gb213, 5, none⟩ = some (.slice A0_5 l0_5.length c0_5) := (zB BK213.out 5).trans rfl
   have hcz24_6 : w5.cell? ⟨gb213, 6, none⟩ = some (.int .i64 a0_6) := (zB BK213.out 6).trans rfl
   have hcz24_7 : w5.cell? ⟨gb213, 7, none⟩ = some (.int .i64 a0_7) := (zB BK213.out 7).trans rfl
   have hfz24_0 := zA BK213.out 0
   have hfz24_1 := zA BK213.out 1
   have hfz24_2 := zA BK213.out 2
   have hfz24_3 := zA BK213.out 3
   have hfz24_4 := zA BK213.out 4
   have hfz24_5 := zA BK213.out 5
   have hfz24_6 := zA BK213.out 6
   have hfz24_7 := zA BK213.out 7
   have hcz25_0 : w5.cell? ⟨gb214, 0, none⟩ = some (.int .i64 a1_0) := (zB BK214.out 0).trans rfl
   have hcz25_1 : w5.cell? ⟨gb214, 1, none⟩ = some (.int .u64 a1_1) := (zB BK214.out 1).trans rfl
   have hcz25_2 : w5.cell? ⟨gb214, 2, none⟩ = some (.int .u64 a1_2) := (zB BK214.out 2).trans rfl
   have hcz25_3 : w5.cell? ⟨gb214, 3, none⟩ = some (.int .u64 a1_3) := (zB BK214.out 3).trans rfl
   have hcz25_4 : w5.cell? ⟨gb214, 4, none⟩ = some (.int .u64 a1_4) := (zB BK214.out 4).trans rfl
   have hcz25_5 : w5.cell? ⟨gb214, 5, none⟩ = some (.slice A1_5 l1_5.length c1_5) := (zB BK214.out 5).trans rfl
   have hcz25_6 : w5.cell? ⟨gb214, 6, none⟩ = some (.int .i64 a1_6) := (zB BK214.out 6).trans rfl
   have hcz25_7 : w5.cell? ⟨gb214, 7, none⟩ = some (.int .i64 a1_7) := (zB BK214.out 7).trans rfl
   have hfz25_0 := zA BK214.out 0
   have hfz25_1 := zA BK214.out 1
   have hfz25_2 := zA BK214.out 2
   have hfz25_3 := zA BK214.out 3
   have hfz25_4 := zA BK214.out 4
   have hfz25_5 := zA BK214.out 5
   have hfz25_6 := zA BK214.out 6
   have hfz25_7 := zA BK214.out 7
   go_wp2
   go_meet
   case rel => exact ⟨_, (true), (by first | rfl | (simp; done) | (simp [*]; done)), H', ⟨by first | omega | exact Nat.le_refl _⟩, ⟨by (with_reducible repeat (first | refine zH ?_ _ | refine zI ?_ | refine zG ?_ _)); exact BK213.out⟩, ⟨by (with_reducible repeat (first | refine zH ?_ _ | refine zI ?_ | refine zG ?_ _)); exact BK214.out⟩, ⟨by repeat (first | (with_reducible first | exact HB.out | apply zE | apply zC | apply zD | refine zF ?_ GE213.out | refine zF ?_ GE214.out) | exact HB.out)⟩⟩
 case rest =>
  clear HC3
  (try clear c1); (try clear c2); (try clear p2); (try clear c6); (try clear c6b0); (try clear c6b1); (try clear c8); (try clear c9); (try clear c11); (try clear c12); (try clear c12b0); (try clear c12b1); (try clear c13); (try clear c13b0); (try clear c13b1); (try clear c14); (try clear c17); (try clear c20); (try clear c23); (try clear hcz10_0 hcz10_1 hcz10_2 hcz10_3 hcz10_4 hcz10_5 hcz10_6 hcz10_7); (try clear hcz11_0 hcz11_1 hcz11_2 hcz11_3 hcz11_4 hcz11_5 hcz11_6 hcz11_7); (try clear hcz15_0 hcz15_1 hcz15_2 hcz15_3 hcz15_4 hcz15_5 hcz15_6 hcz15_7); (try clear hcz16_0 hcz16_1 hcz16_2 hcz16_3 hcz16_4 hcz16_5 hcz16_6 hcz16_7); (try clear hcz18_0 hcz18_1 hcz18_2 hcz18_3 hcz18_4 hcz18_5 hcz18_6 hcz18_7); (try clear hcz19_0 hcz19_1 hcz19_2 hcz19_3 hcz19_4 hcz19_5 hcz19_6 hcz19_7); (try clear hcz21_0 hcz21_1 hcz21_2 hcz21_3 hcz21_4 hcz21_5 hcz21_6 hcz21_7); (try clear hcz22_0 hcz22_1 hcz22_2 hcz22_3 hcz22_4 hcz22_5 hcz22_6 hcz22_7); (try clear hcz24_0 hcz24_1 hcz24_2 hcz24_3 hcz24_4 hcz24_5 hcz24_6 hcz24_7); (try clear hcz25_0 hcz25_1 hcz25_2 hcz25_3 hcz25_4 hcz25_5 hcz25_6 hcz25_7); (try clear hfz10_0 hfz10_1 hfz10_2 hfz10_3 hfz10_4 hfz10_5 hfz10_6 hfz10_7); (try clear hfz11_0 hfz11_1 hfz11_2 hfz11_3 hfz11_4 hfz11_5 hfz11_6 hfz11_7); (try clear hfz15_0 hfz15_1 hfz15_2 hfz15_3 hfz15_4 hfz15_5 hfz15_6 hfz15_7); (try clear hfz16_0 hfz16_1 hfz16_2 hfz16_3 hfz16_4 hfz16_5 hfz16_6 hfz16_7); (try clear hfz18_0 hfz18_1 hfz18_2 hfz18_3 hfz18_4 hfz18_5 hfz18_6 hfz18_7); (try clear hfz19_0 hfz19_1 hfz19_2 hfz19_3 hfz19_4 hfz19_5 hfz19_6 hfz19_7); (try clear hfz21_0 hfz21_1 hfz21_2 hfz21_3 hfz21_4 hfz21_5 hfz21_6 hfz21_7); (try clear hfz22_0 hfz22_1 hfz22_2 hfz22_3 hfz22_4 hfz22_5 hfz22_6 hfz22_7); (try clear hfz24_0 hfz24_1 hfz24_2 hfz24_3 hfz24_4 hfz24_5 hfz24_6 hfz24_7); (try clear hfz25_0 hfz25_1 hfz25_2 hfz25_3 hfz25_4 hfz25_5 hfz25_6 hfz25_7)
  obtain ⟨kq, x40_2, rfl, HA, HJ2, BK213, BK214, HB⟩ := hcut
  cases kq with
  | zero => exact absurd HA.out (by simp [ostinatoref02_Same.j0])
  | succ kj2 =>
   have H := HA.out
   clear HA
   simp only [ostinatoref02_Same.j0] at H
   by_cases c26 : x40_2 = true
   ·
    subst c26
    have H1 : (some false) = some r := by rw [if_pos rfl] at H; exact H
    clear H
    have H := H1
    clear H1
    obtain rfl := Option.some.inj H
    go_wp2
    go_ret
    exact ⟨by first | rfl | (simp [errW_none, errW_some] <;> rfl) | (simp [*, errW_none, errW_some] <;> rfl), by repeat (first | (with_reducible first | exact HB.out | apply zE | apply zC | apply zD | refine zF ?_ GE213.out | refine zF ?_ GE214.out) | exact HB.out)⟩
   ·
    replace c26 := Bool.eq_false_iff.mpr c26
    subst c26
    have H1 : (ostinatoref02_Same.l0 kj2 0 a0_0 a0_1 a0_2 a0_3 a0_4 l0_5 a0_6 a0_7 a1_0 a1_1 a1_2 a1_3 a1_4 l1_5 a1_6 a1_7) = some r := by rw [if_neg (show ¬ (false = true) by decide)] at H; exact H
    clear H
    have H := H1
    clear H1
    have H' := zJ H
    clear H
    go_wp2
    go_loopg [5] kj2 (fun kq v5 w' => ∃ (x5_2 : Int), v5 = .int .i64 x5_2 ∧ Aside0 (ostinatoref02_Same.l0 kq x5_2 a0_0 a0_1 a0_2 a0_3 a0_4 l0_5 a0_6 a0_7 a1_0 a1_1 a1_2 a1_3 a1_4 l1_5 a1_6 a1_7 = some r) ∧ Aside0 (kq ≤ kj2) ∧ Aside0 (w'.heap[gb213]? = some (.cells #[.int .i64 a0_0, .int .u64 a0_1, .int .u64 a0_2, .int .u64 a0_3, .int .u64 a0_4, (.slice A0_5 l0_5.length c0_5), .int .i64 a0_6, .int .i64 a0_7] 27 (0, 0))) ∧ Aside0 (w'.heap[gb214]? = some (.cells #[.int .i64 a1_0, .int .u64 a1_1, .int .u64 a1_2, .int .u64 a1_3, .int .u64 a1_4, (.slice A1_5 l1_5.length c1_5), .int .i64 a1_6, .int .i64 a1_7] 27 (0, 0))) ∧ Aside0 (Below w.heap.size w w'))
    case atStart => exact ⟨(0), (by first | rfl | (simp; done) | (simp [*]; done)), H', ⟨Nat.le_refl _⟩, ⟨by (with_reducible repeat (first | refine zH ?_ _ | refine zI ?_ | refine zG ?_ _)); exact BK213.out⟩, ⟨by (with_reducible repeat (first | refine zH ?_ _ | refine zI ?_ | refine zG ?_ _)); exact BK214.out⟩, ⟨by repeat (first | (with_reducible first | exact HB.out | apply zE | apply zC | apply zD | refine zF ?_ GE213.out | refine zF ?_ GE214.out) | exact HB.out)⟩⟩
    case round =>
     clear H'
     (try clear c1); (try clear c2); (try clear p2 p2); (try clear c6); (try clear c6b0); (try clear c6b1); (try clear c8); (try clear c9); (try clear c11); (try clear c12); (try clear c12b0); (try clear c12b1); (try clear c13); (try clear c13b0); (try clear c13b1); (try clear c14); (try clear c17); (try clear c20); (try clear c23); (try clear c26); (try clear hcz10_0 hcz10_1 hcz10_2 hcz10_3 hcz10_4 hcz10_5 hcz10_6 hcz10_7); (try clear hcz11_0 hcz11_1 hcz11_2 hcz11_3 hcz11_4 hcz11_5 hcz11_6 hcz11_7); (try clear hcz15_0 hcz15_1 hcz15_2 hcz15_3 hcz15_4 hcz15_5 hcz15_6 hcz15_7); (try clear hcz16_0 hcz16_1 hcz16_2 hcz16_3 hcz16_4 hcz16_5 hcz16_6 hcz16_7); (try clear hcz18_0 hcz18_1 hcz18_2 hcz18_3 hcz18_4 hcz18_5 hcz18_6 hcz18_7); (try clear hcz19_0 hcz19_1 hcz19_2 hcz19_3 hcz19_4 hcz19_5 hcz19_6 hcz19_7); (try clear hcz21_0 hcz21_1 hcz21_2 hcz21_3 hcz21_4 hcz21_5 hcz21_6 hcz21_7); (try clear hcz22_0 hcz22_1 hcz22_2 hcz22_3 hcz22_4 hcz22_5 hcz22_6 hcz22_7); (try clear hcz24_0 hcz24_1 hcz24_2 hcz24_3 hcz24_4 hcz24_5 hcz24_6 hcz24_7); (try clear hcz25_0 hcz25_1 hcz25_2 hcz25_3 hcz25_4 hcz25_5 hcz25_6 hcz25_7); (try clear hfz10_0 hfz10_1 hfz10_2 hfz10_3 hfz10_4 hfz10_5 hfz10_6 hfz10_7); (try clear hfz11_0 hfz11_1 hfz11_2 hfz11_3 hfz11_4 hfz11_5 hfz11_6 hfz11_7); (try clear hfz15_0 hfz15_1 hfz15_2 hfz15_3 hfz15_4 hfz15_5 hfz15_6 hfz15_7); (try clear hfz16_0 hfz16_1 hfz16_2 hfz16_3 hfz16_4 hfz16_5 hfz16_6 hfz16_7); (try clear hfz18_0 hfz18_1 hfz18_2 hfz18_3 hfz18_4 hfz18_5 hfz18_6 hfz18_7); (try clear hfz19_0 hfz19_1 hfz19_2 hfz19_3 hfz19_4 hfz19_5 hfz19_6 hfz19_7); (try clear hfz21_0 hfz21_1 hfz21_2 hfz21_3 hfz21_4 hfz21_5 hfz21_6 hfz21_7); (try clear hfz22_0 hfz22_1 hfz22_2 hfz22_3 hfz22_4 hfz22_5 hfz22_6 hfz22_7); (try clear hfz24_0 hfz24_1 hfz24_2 hfz24_3 hfz24_4 hfz24_5 hfz24_6 hfz24_7); (try clear hfz25_0 hfz25_1 hfz25_2 hfz25_3 hfz25_4 hfz25_5 hfz25_6 hfz25_7)
     obtain ⟨x5_2, rfl, HA, HK2, BK213, BK214, HB⟩ := hrel
     cases gk with
     | zero => exact absurd HA.out (by simp [ostinatoref02_Same.l0])
     | succ k2 =>
      have H := HA.out
      clear HA
      simp only [ostinatoref02_Same.l0] at H
      by_cases c27 : x5_2 < (l0_5.length : Int)
      ·
       rw [if_pos c27] at H
       have c27b0 : decide (x5_2 < (l0_5.length : Int)) = true := decide_eq_true c27
       clear c27
       by_cases c28 : 0 ≤ x5_2
       ·
        rw [if_pos c28] at H
        have c28b0 : decide (0 ≤ x5_2) = true := decide_eq_true c28
        clear c28
        by_cases c29 : x5_2 < (l1_5.length : Int)
        ·
         rw [if_pos c29] at H
         have c29b0 : decide (x5_2 < (l1_5.length : Int)) = true := decide_eq_true c29
         clear c29
         replace H := Option.bind_eq_some_iff.mp H
         obtain ⟨t217, A300, H⟩ := H
         replace H : (if t217 = true then (ostinatoref02_Same.l0 k2 (wrap64 (x5_2 + 1)) a0_0 a0_1 a0_2 a0_3 a0_4 l0_5 a0_6 a0_7 a1_0 a1_1 a1_2 a1_3 a1_4 l1_5 a1_6 a1_7) else (some false)) = some r := H
         have A30 := zJ A300
         clear A300
         by_cases c31 : t217 = true
         ·
          subst c31
          have H1 : (ostinatoref02_Same.l0 k2 (wrap64 (x5_2 + 1)) a0_0 a0_1 a0_2 a0_3 a0_4 l0_5 a0_6 a0_7 a1_0 a1_1 a1_2 a1_3 a1_4 l1_5 a1_6 a1_7) = some r := by rw [if_pos rfl] at H; exact H
          clear H
          have H := H1
          clear H1
          have H' := zJ H
          clear H
          have hnb32 := NB213_214.out
          have hnc32 := NB214_213.out
          have hcz33_0 : wr.cell? ⟨gb213, 0, none⟩ = some (.int .i64 a0_0) := (zB BK213.out 0).trans rfl
          have hcz33_1 : wr.cell? ⟨gb213, 1, none⟩ = some (.int .u64 a0_1) := (zB BK213.out 1).trans rfl
          have hcz33_2 : wr.cell? ⟨gb213, 2, none⟩ = some (.int .u64 a0_2) := (zB BK213.out 2).trans rfl
          have hcz33_3 : wr.cell? ⟨gb213, 3, none⟩ = some (.int .u64 a0_3) := (zB BK213.out 3).trans rfl
          have hcz33_4 : wr.cell? ⟨gb213, 4, none⟩ = some (.int .u64 a0_4) := (zB BK213.out 4).trans rfl
          have hcz33_5 : wr.cell? ⟨gb213, 5, none⟩ = some (.slice A0_5 l0_5.length c0_5) := (zB BK213.out 5).trans rfl
          have hcz33_6 : wr.cell? ⟨gb213, 6, none⟩ = some (.int .i64 a0_6) := (zB BK213.out 6).trans rfl
          have hcz33_7 : wr.cell? ⟨gb213, 7, none⟩ = some (.int .i64 a0_7) := (zB BK213.out 7).trans rfl
          have hfz33_0 := zA BK213.out 0
          have hfz33_1 := zA BK213.out 1
          have hfz33_2 := zA BK213.out 2
          have hfz33_3 := zA BK213.out 3
          have hfz33_4 := zA BK213.out 4
          have hfz33_5 := zA BK213.out 5
          have hfz33_6 := zA BK213.out 6
          have hfz33_7 := zA BK213.out 7
          try go_wp2
          have n0_ := zJ (zI BK213.out)
          have n1_ := zJ (zI BK214.out)
          have n2_ := zJ (zD HB.out)
          clear BK213 BK214 HB
          have BK213 := n0_
          have BK214 := n1_
          have HB := n2_
          clear n0_ n1_ n2_
          have p215 : 0 ≤ (x5_2 : Int) := of_decide_eq_true (by first | (with_reducible assumption) | assumption)
          have q215 : x5_2 < (l0_5.length : Int) := of_decide_eq_true (by first | (with_reducible assumption) | assumption)
          obtain ⟨ad215, A215_5, c215_5, e215, hx215_0, hx215_1, hx215_2, hx215_3, hx215_4, hx215_5, hx215_6, hx215_7, hl215_5, hi215_5⟩ := at_T27 HR0_5.out x5_2 p215 q215
          have hw215_7 := hx215_7
          have hw215_6 := hx215_6
          have hw215_5 := hx215_5
          have hw215_4 := hx215_4
          have hw215_3 := hx215_3
          have hw215_2 := hx215_2
          have hw215_1 := hx215_1
          have hw215_0 := hx215_0
          cases e215
          replace hx215_0 := (HB.out.cell (zK w _ hx215_0)).trans hx215_0
          replace hx215_1 := (HB.out.cell (zK w _ hx215_1)).trans hx215_1
          replace hx215_2 := (HB.out.cell (zK w _ hx215_2)).trans hx215_2
          replace hx215_3 := (HB.out.cell (zK w _ hx215_3)).trans hx215_3
          replace hx215_4 := (HB.out.cell (zK w _ hx215_4)).trans hx215_4
          replace hx215_5 := (HB.out.cell (zK w _ hx215_5)).trans hx215_5
          replace hx215_6 := (HB.out.cell (zK w _ hx215_6)).trans hx215_6
          replace hx215_7 := (HB.out.cell (zK w _ hx215_7)).trans hx215_7
          have HR215_5 := zJ hi215_5
          have HC215_5 := zJ hl215_5
          clear hi215_5 hl215_5
          replace p215 := eq_true p215
          replace q215 := eq_true q215
          have p216 : 0 ≤ (x5_2 : Int) := of_decide_eq_true (by first | (with_reducible assumption) | assumption)
          have q216 : x5_2 < (l1_5.length : Int) := of_decide_eq_true (by first | (with_reducible assumption) | assumption)
          obtain ⟨ad216, A216_5, c216_5, e216, hx216_0, hx216_1, hx216_2, hx216_3, hx216_4, hx216_5, hx216_6, hx216_7, hl216_5, hi216_5⟩ := at_T27 HR1_5.out x5_2 p216 q216
          have hw216_7 := hx216_7
          have hw216_6 := hx216_6
          have hw216_5 := hx216_5
          have hw216_4 := hx216_4
          have hw216_3 := hx216_3
          have hw216_2 := hx216_2
          have hw216_1 := hx216_1
          have hw216_0 := hx216_0
          cases e216
          replace hx216_0 := (HB.out.cell (zK w _ hx216_0)).trans hx216_0
          replace hx216_1 := (HB.out.cell (zK w _ hx216_1)).trans hx216_1
          replace hx216_2 := (HB.out.cell (zK w _ hx216_2)).trans hx216_2
          replace hx216_3 := (HB.out.cell (zK w _ hx216_3)).trans hx216_3
          replace hx216_4 := (HB.out.cell (zK w _ hx216_4)).trans hx216_4
          replace hx216_5 := (HB.out.cell (zK w _ hx216_5)).trans hx216_5
          replace hx216_6 := (HB.out.cell (zK w _ hx216_6)).trans hx216_6
          replace hx216_7 := (HB.out.cell (zK w _ hx216_7)).trans hx216_7
          have HR216_5 := zJ hi216_5
          have HC216_5 := zJ hl216_5
          clear hi216_5 hl216_5
          replace p216 := eq_true p216
          replace q216 := eq_true q216
          refine start_ (n := 12) (S := fun w' => w'.cell? ⟨gb213, 0, none⟩ = some (.int .i64 a0_0) ∧ w'.cell? ⟨gb213, 1, none⟩ = some (.int .u64 a0_1) ∧ w'.cell? ⟨gb213, 2, none⟩ = some (.int .u64 a0_2) ∧ w'.cell? ⟨gb213, 3, none⟩ = some (.int .u64 a0_3) ∧ w'.cell? ⟨gb213, 4, none⟩ = some (.int .u64 a0_4) ∧ w'.cell? ⟨gb213, 5, none⟩ = some (.slice (some ad215) l0_5.length c0_5) ∧ w'.cell? ⟨gb213, 6, none⟩ = some (.int .i64 a0_6) ∧ w'.cell? ⟨gb213, 7, none⟩ = some (.int .i64 a0_7) ∧ w'.cell? ⟨gb214, 0, none⟩ = some (.int .i64 a1_0) ∧ w'.cell? ⟨gb214, 1, none⟩ = some (.int .u64 a1_1) ∧ w'.cell? ⟨gb214, 2, none⟩ = some (.int .u64 a1_2) ∧ w'.cell? ⟨gb214, 3, none⟩ = some (.int .u64 a1_3) ∧ w'.cell? ⟨gb214, 4, none⟩ = some (.int .u64 a1_4) ∧ w'.cell? ⟨gb214, 5, none⟩ = some (.slice (some ad216) l1_5.length c1_5) ∧ w'.cell? ⟨gb214, 6, none⟩ = some (.int .i64 a1_6) ∧ w'.cell? ⟨gb214, 7, none⟩ = some (.int .i64 a1_7) ∧ w'.cell? (ad215.add ((x5_2).toNat * 8)) = some (.int .i64 ((rd_T27 l0_5 x5_2).f0)) ∧ w'.cell? ⟨(ad215.add ((x5_2).toNat * 8)).block, (ad215.add ((x5_2).toNat * 8)).off + 1, none⟩ = some (.int .u64 ((rd_T27 l0_5 x5_2).f1.f0)) ∧ w'.cell? ⟨(ad215.add ((x5_2).toNat * 8)).block, (ad215.add ((x5_2).toNat * 8)).off + 2, none⟩ = some (.int .u64 ((rd_T27 l0_5 x5_2).f1.f1)) ∧ w'.cell? ⟨(ad215.add ((x5_2).toNat * 8)).block, (ad215.add ((x5_2).toNat * 8)).off + 3, none⟩ = some (.int .u64 ((rd_T27 l0_5 x5_2).f1.f2)) ∧ w'.cell? ⟨(ad215.add ((x5_2).toNat * 8)).block, (ad215.add ((x5_2).toNat * 8)).off + 4, none⟩ = some (.int .u64 ((rd_T27 l0_5 x5_2).f1.f3)) ∧ w'.cell? ⟨(ad215.add ((x5_2).toNat * 8)).block, (ad215.add ((x5_2).toNat * 8)).off + 5, none⟩ = some (.slice A215_5 ((rd_T27 l0_5 x5_2).f2).length c215_5) ∧ w'.cell? ⟨(ad215.add ((x5_2).toNat * 8)).block, (ad215.add ((x5_2).toNat * 8)).off + 6, none⟩ = some (.int .i64 ((rd_T27 l0_5 x5_2).f3)) ∧ w'.cell? ⟨(ad215.add ((x5_2).toNat * 8)).block, (ad215.add ((x5_2).toNat * 8)).off + 7, none⟩ = some (.int .i64 ((rd_T27 l0_5 x5_2).f4)) ∧ w'.cell? (ad216.add ((x5_2).toNat * 8)) = some (.int .i64 ((rd_T27 l1_5 x5_2).f0)) ∧ w'.cell? ⟨(ad216.add ((x5_2).toNat * 8)).block, (ad216.add ((x5_2).toNat * 8)).off + 1, none⟩ = some (.int .u64 ((rd_T27 l1_5 x5_2).f1.f0)) ∧ w'.cell? ⟨(ad216.add ((x5_2).toNat * 8)).block, (ad216.add ((x5_2).toNat * 8)).off + 2, none⟩ = some (.int .u64 ((rd_T27 l1_5 x5_2).f1.f1)) ∧ w'.cell? ⟨(ad216.add ((x5_2).toNat * 8)).block, (ad216.add ((x5_2).toNat * 8)).off + 3, none⟩ = some (.int .u64 ((rd_T27 l1_5 x5_2).f1.f2)) ∧ w'.cell? ⟨(ad216.add ((x5_2).toNat * 8)).block, (ad216.add ((x5_2).toNat * 8)).off + 4, none⟩ = some (.int .u64 ((rd_T27 l1_5 x5_2).f1.f3)) ∧ w'.cell? ⟨(ad216.add ((x5_2).toNat * 8)).block, (ad216.add ((x5_2).toNat * 8)).off + 5, none⟩ = some (.slice A216_5 ((rd_T27 l1_5 x5_2).f2).length c216_5) ∧ w'.cell? ⟨(ad216.add ((x5_2).toNat * 8)).block, (ad216.add ((x5_2).toNat * 8)).off + 6, none⟩ = some (.int .i64 ((rd_T27 l1_5 x5_2).f3)) ∧ w'.cell? ⟨(ad216.add ((x5_2).toNat * 8)).block, (ad216.add ((x5_2).toNat * 8)).off + 7, none⟩ = some (.int .i64 ((rd_T27 l1_5 x5_2).f4))) (ds := []) #[false, false, false, false, false, false, false, false, false, false, false, false] (by kernel_rfl) rfl rfl ⟨(zB BK213.out 0).trans rfl, (zB BK213.out 1).trans rfl, (zB BK213.out 2).trans rfl, (zB BK213.out 3).trans rfl, (zB BK213.out 4).trans rfl, (zB BK213.out 5).trans rfl, (zB BK213.out 6).trans rfl, (zB BK213.out 7).trans rfl, (zB BK214.out 0).trans rfl, (zB BK214.out 1).trans rfl, (zB BK214.out 2).trans rfl, (zB BK214.out 3).trans rfl, (zB BK214.out 4).trans rfl, (zB BK214.out 5).trans rfl, (zB BK214.out 6).trans rfl, (zB BK214.out 7).trans rfl, ((HB.out.cell (zK w _ hw215_0)).trans hw215_0), ((HB.out.cell (zK w _ hw215_1)).trans hw215_1), ((HB.out.cell (zK w _ hw215_2)).trans hw215_2), ((HB.out.cell (zK w _ hw215_3)).trans hw215_3), ((HB.out.cell (zK w _ hw215_4)).trans hw215_4), ((HB.out.cell (zK w _ hw215_5)).trans hw215_5), ((HB.out.cell (zK w _ hw215_6)).trans hw215_6), ((HB.out.cell (zK w _ hw215_7)).trans hw215_7), ((HB.out.cell (zK w _ hw216_0)).trans hw216_0), ((HB.out.cell (zK w _ hw216_1)).trans hw216_1), ((HB.out.cell (zK w _ hw216_2)).trans hw216_2), ((HB.out.cell (zK w _ hw216_3)).trans hw216_3), ((HB.out.cell (zK w _ hw216_4)).trans hw216_4), ((HB.out.cell (zK w _ hw216_5)).trans hw216_5), ((HB.out.cell (zK w _ hw216_6)).trans hw216_6), ((HB.out.cell (zK w _ hw216_7)).trans hw216_7)⟩ (fun hHeld => ?_); refine with_tabW ostinatoref02_Same.tab6 ostinatoref02_Same.bits6 (fun HT_ HW_ => ?_)
          generalize wr.drew = w34 at BK213 BK214 HB HR215_5 HR216_5 hx215_0 hx215_1 hx215_2 hx215_3 hx215_4 hx215_5 hx215_6 hx215_7 hx216_0 hx216_1 hx216_2 hx216_3 hx216_4 hx216_5 hx216_6 hx216_7 hHeld ⊢
          refine pure_ (i := 0) (N := some 48) (v := ?_) (a' := ?_) #[true, false, false, false, false, false, false, false, false, false, false, false] rfl rfl (any_of HT_.out (by kernel_rfl)) (fun _ _ _ h => h) (Or.inl ⟨by rfl, ?_⟩) ?_ ?_
          rotate_left
          ·
           intro w'
           go_simp
           with_reducible rfl
          rotate_left
          ·
           simp only [Act.put, zL, zM, zN, i64_w, i32_w]
           rfl
          refine pure_ (i := 2) (N := some 50) (v := ?_) (a' := ?_) #[true, false, true, false, false, false, false, false, false, false, false, false] rfl rfl (any_of HT_.out (by kernel_rfl)) (fun _ _ _ h => h) (Or.inl ⟨by rfl, ?_⟩) ?_ ?_
          rotate_left
          ·
           intro w'
           go_simp
           with_reducible rfl
          rotate_left
          ·
           simp only [Act.put, zL, zM, zN, i64_w, i32_w]
           rfl
          refine pure_ (i := 5) (N := some 53) (v := ?_) (a' := ?_) #[true, false, true, false, false, true, false, false, false, false, false, false] rfl rfl (any_of HT_.out (by kernel_rfl)) (fun _ _ _ h => h) (Or.inl ⟨by rfl, ?_⟩) ?_ ?_
          rotate_left
          ·
           intro w'
           go_simp
           with_reducible rfl
          rotate_left
          ·
           simp only [Act.put, zL, zM, zN, i64_w, i32_w]
           rfl
          refine pure_ (i := 7) (N := some 55) (v := ?_) (a' := ?_) #[true, false, true, false, false, true, false, true, false, false, false, false] rfl rfl (any_of HT_.out (by kernel_rfl)) (fun _ _ _ h => h) (Or.inl ⟨by rfl, ?_⟩) ?_ ?_
          rotate_left
          ·
           intro w'
           go_simp
           with_reducible rfl
          rotate_left
          ·
           simp only [Act.put, zL, zM, zN, i64_w, i32_w]
           rfl
          refine take_ (i := 1) (N := some 49) (v := ?_) (a' := ?_) #[true, true, true, false, false, true, false, true, false, false, false, false] rfl rfl (take_ofW HT_.out HW_.out (by kernel_rfl)) (fun _ _ _ h => h) (Or.inl ⟨by rfl, ?_⟩) hHeld ?_ ?_
          rotate_left
          ·
           rintro w' ⟨s0, s1, s2, s3, s4, s5, s6, s7, s8, s9, s10, s11, s12, s13, s14, s15, s16, s17, s18, s19, s20, s21, s22, s23, s24, s25, s26, s27, s28, s29, s30, s31⟩
           go_simp
           with_reducible rfl
          rotate_left
          ·
           simp only [Act.put, zL, zM, zN, i64_w, i32_w]
           rfl
          refine pure_ (i := 3) (N := some 51) (v := ?_) (a' := ?_) #[true, true, true, true, false, true, false, true, false, false, false, false] rfl rfl (any_of HT_.out (by kernel_rfl)) (fun _ _ _ h => h) (Or.inl ⟨by rfl, ?_⟩) ?_ ?_
          rotate_left
          ·
           intro w'
           go_simp
           with_reducible rfl
          rotate_left
          ·
           simp only [Act.put, zL, zM, zN, i64_w, i32_w]
           rfl
          refine take_ (i := 4) (N := some 52) (v := ?_) (a' := ?_) #[true, true, true, true, true, true, false, true, false, false, false, false] rfl rfl (take_ofW HT_.out HW_.out (by kernel_rfl)) (fun _ _ _ h => h) (Or.inl ⟨by rfl, ?_⟩) hHeld ?_ ?_
          rotate_left
          ·
           rintro w' ⟨s0, s1, s2, s3, s4, s5, s6, s7, s8, s9, s10, s11, s12, s13, s14, s15, s16, s17, s18, s19, s20, s21, s22, s23, s24, s25, s26, s27, s28, s29, s30, s31⟩
           go_simp
           with_reducible rfl
          rotate_left
          ·
           simp only [Act.put, zL, zM, zN, i64_w, i32_w]
           rfl
          refine take_ (i := 6) (N := some 54) (v := ?_) (a' := ?_) #[true, true, true, true, true, true, true, true, false, false, false, false] rfl rfl (take_ofW HT_.out HW_.out (by kernel_rfl)) (fun _ _ _ h => h) (Or.inl ⟨by rfl, ?_⟩) hHeld ?_ ?_
          rotate_left
          ·
           rintro w' ⟨s0, s1, s2, s3, s4, s5, s6, s7, s8, s9, s10, s11, s12, s13, s14, s15, s16, s17, s18, s19, s20, s21, s22, s23, s24, s25, s26, s27, s28, s29, s30, s31⟩
           go_simp
           with_reducible rfl
          rotate_left
          ·
           simp only [Act.put, zL, zM, zN, i64_w, i32_w]
           rfl
          refine pure_ (i := 8) (N := some 56) (v := ?_) (a' := ?_) #[true, true, true, true, true, true, true, true, true, false, false, false] rfl rfl (any_of HT_.out (by kernel_rfl)) (fun _ _ _ h => h) (Or.inl ⟨by rfl, ?_⟩) ?_ ?_
          rotate_left
          ·
           intro w'
           go_simp
           with_reducible rfl
          rotate_left
          ·
           simp only [Act.put, zL, zM, zN, i64_w, i32_w]
           rfl
          refine take_ (i := 9) (N := some 57) (v := ?_) (a' := ?_) #[true, true, true, true, true, true, true, true, true, true, false, false] rfl rfl (take_ofW HT_.out HW_.out (by kernel_rfl)) (fun _ _ _ h => h) (Or.inl ⟨by rfl, ?_⟩) hHeld ?_ ?_
          rotate_left
          ·
           rintro w' ⟨s0, s1, s2, s3, s4, s5, s6, s7, s8, s9, s10, s11, s12, s13, s14, s15, s16, s17, s18, s19, s20, s21, s22, s23, s24, s25, s26, s27, s28, s29, s30, s31⟩
           go_simp
           with_reducible rfl
          rotate_left
          ·
           simp only [Act.put, zL, zM, zN, i64_w, i32_w]
           rfl
          refine one_ (i := 10) (N := some 58) #[true, true, true, true, true, true, true, true, true, true, true, false] rfl rfl (one_of HT_.out (by kernel_rfl)) (by decide) (fun K hK => ?_)
          refine goes_ Try.func11 (by kernel_rfl) rfl #[.agg #[.int .i64 ((rd_T27 l0_5 x5_2).f0), .int .u64 ((rd_T27 l0_5 x5_2).f1.f0), .int .u64 ((rd_T27 l0_5 x5_2).f1.f1), .int .u64 ((rd_T27 l0_5 x5_2).f1.f2), .int .u64 ((rd_T27 l0_5 x5_2).f1.f3), .slice A215_5 ((rd_T27 l0_5 x5_2).f2).length c215_5, .int .i64 ((rd_T27 l0_5 x5_2).f3), .int .i64 ((rd_T27 l0_5 x5_2).f4)], .agg #[.int .i64 ((rd_T27 l1_5 x5_2).f0), .int .u64 ((rd_T27 l1_5 x5_2).f1.f0), .int .u64 ((rd_T27 l1_5 x5_2).f1.f1), .int .u64 ((rd_T27 l1_5 x5_2).f1.f2), .int .u64 ((rd_T27 l1_5 x5_2).f1.f3), .slice A216_5 ((rd_T27 l1_5 x5_2).f2).length c216_5, .int .i64 ((rd_T27 l1_5 x5_2).f3), .int .i64 ((rd_T27 l1_5 x5_2).f4)]] (by rfl) rfl rfl (by (try simp only [List.map_toArray, List.map_cons, List.map_nil]); first | done | rfl | (simp only [List.length_drop, List.length_take]; rfl)) ?_
          with_reducible refine (ih k2 (by have := HJ2.out; have := HK2.out; omega) ((rd_T27 l0_5 x5_2).f0) ((rd_T27 l0_5 x5_2).f1.f0) ((rd_T27 l0_5 x5_2).f1.f1) ((rd_T27 l0_5 x5_2).f1.f2) ((rd_T27 l0_5 x5_2).f1.f3) _ _ ((rd_T27 l0_5 x5_2).f2) ((rd_T27 l0_5 x5_2).f3) ((rd_T27 l0_5 x5_2).f4) ((rd_T27 l1_5 x5_2).f0) ((rd_T27 l1_5 x5_2).f1.f0) ((rd_T27 l1_5 x5_2).f1.f1) ((rd_T27 l1_5 x5_2).f1.f2) ((rd_T27 l1_5 x5_2).f1.f3) _ _ ((rd_T27 l1_5 x5_2).f2) ((rd_T27 l1_5 x5_2).f3) ((rd_T27 l1_5 x5_2).f4) true _ ?side1 ?side2 ?side3 ?side4 A30.out).mono ?_
          (case side1 => repeat (first | exact (Kd.C_below HR215_5.out HB.out) | (with_reducible refine Kd.C_alloc ?_ _) | (with_reducible refine Kd.C_drewN ?_ _) | (with_reducible refine Kd.C_drew ?_)))
          (case side2 => exact HC215_5.out)
          (case side3 => repeat (first | exact (Kd.C_below HR216_5.out HB.out) | (with_reducible refine Kd.C_alloc ?_ _) | (with_reducible refine Kd.C_drewN ?_ _) | (with_reducible refine Kd.C_drew ?_)))
          (case side4 => exact HC216_5.out)
          rintro e w35 ⟨rfl, hb⟩
          refine ⟨_, rfl, ?_⟩
          have n0_ := zJ (blk_below (g := gb213) (o := .cells #[.int .i64 a0_0, .int .u64 a0_1, .int .u64 a0_2, .int .u64 a0_3, .int .u64 a0_4, .slice (some ad215) l0_5.length c0_5, .int .i64 a0_6, .int .i64 a0_7] 27 (0, 0)) (by (with_reducible repeat (first | refine zH ?_ _ | refine zI ?_ | refine zG ?_ _)); exact BK213.out) hb)
          have n1_ := zJ (blk_below (g := gb214) (o := .cells #[.int .i64 a1_0, .int .u64 a1_1, .int .u64 a1_2, .int .u64 a1_3, .int .u64 a1_4, .slice (some ad216) l1_5.length c1_5, .int .i64 a1_6, .int .i64 a1_7] 27 (0, 0)) (by (with_reducible repeat (first | refine zH ?_ _ | refine zI ?_ | refine zG ?_ _)); exact BK214.out) hb)
          have n2_ := zJ (below_step (by repeat (first | (with_reducible first | exact HB.out | apply zE | apply zC | apply zD | refine zF ?_ GE213.out | refine zF ?_ GE214.out) | exact HB.out)) hb)
          clear BK213 BK214 HB
          have BK213 := n0_
          have BK214 := n1_
          have HB := n2_
          clear n0_ n1_ n2_
          (try clear hb)
          (try clear hb2)
          (try clear hk)
          (try clear hi)
          refine hK.out _ _ ⟨(zB BK213.out 0).trans rfl, (zB BK213.out 1).trans rfl, (zB BK213.out 2).trans rfl, (zB BK213.out 3).trans rfl, (zB BK213.out 4).trans rfl, (zB BK213.out 5).trans rfl, (zB BK213.out 6).trans rfl, (zB BK213.out 7).trans rfl, (zB BK214.out 0).trans rfl, (zB BK214.out 1).trans rfl, (zB BK214.out 2).trans rfl, (zB BK214.out 3).trans rfl, (zB BK214.out 4).trans rfl, (zB BK214.out 5).trans rfl, (zB BK214.out 6).trans rfl, (zB BK214.out 7).trans rfl, ((HB.out.cell (zK w _ hw215_0)).trans hw215_0), ((HB.out.cell (zK w _ hw215_1)).trans hw215_1), ((HB.out.cell (zK w _ hw215_2)).trans hw215_2), ((HB.out.cell (zK w _ hw215_3)).trans hw215_3), ((HB.out.cell (zK w _ hw215_4)).trans hw215_4), ((HB.out.cell (zK w _ hw215_5)).trans hw215_5), ((HB.out.cell (zK w _ hw215_6)).trans hw215_6), ((HB.out.cell (zK w _ hw215_7)).trans hw215_7), ((HB.out.cell (zK w _ hw216_0)).trans hw216_0), ((HB.out.cell (zK w _ hw216_1)).trans hw216_1), ((HB.out.cell (zK w _ hw216_2)).trans hw216_2), ((HB.out.cell (zK w _ hw216_3)).trans hw216_3), ((HB.out.cell (zK w _ hw216_4)).trans hw216_4), ((HB.out.cell (zK w _ hw216_5)).trans hw216_5), ((HB.out.cell (zK w _ hw216_6)).trans hw216_6), ((HB.out.cell (zK w _ hw216_7)).trans hw216_7)⟩ (fun hHeld => ?_)
          clear hK K
          refine norm_ (a' := ?_) ?_ ?_
          rotate_left
          ·
           show Act.put _ (some 58) _ = _
           simp only [Act.put, zL, zM, zN, i64_w, i32_w]
           rfl
          refine pure_ (i := 11) (N := some 59) (v := ?_) (a' := ?_) #[true, true, true, true, true, true, true, true, true, true, true, true] rfl rfl (any_of HT_.out (by kernel_rfl)) (fun _ _ _ h => h) (Or.inl ⟨by rfl, ?_⟩) ?_ ?_
          rotate_left
          ·
           intro w'
           go_simp
           with_reducible rfl
          rotate_left
          ·
           simp only [Act.put, zL, zM, zN, i64_w, i32_w]
           rfl
          refine done_ (done_of HT_.out (by kernel_rfl)) ?_
          try go_wp2
          go_roundg k2
          case measure => have := HJ2.out; have := HK2.out; omega
          case rel => exact ⟨(wrap64 (x5_2 + 1)), (by first | rfl | (simp; done) | (simp [*]; done)), H', ⟨by have := HJ2.out; have := HK2.out; omega⟩, ⟨by (with_reducible repeat (first | refine zH ?_ _ | refine zI ?_ | refine zG ?_ _)); exact BK213.out⟩, ⟨by (with_reducible repeat (first | refine zH ?_ _ | refine zI ?_ | refine zG ?_ _)); exact BK214.out⟩, ⟨by repeat (first | (with_reducible first | exact HB.out | apply zE | apply zC | apply zD | refine zF ?_ GE213.out | refine zF ?_ GE214.out) | exact HB.out)⟩⟩
         ·
          replace c31 := Bool.eq_false_iff.mpr c31
          subst c31
          have H1 : (some false) = some r := by rw [if_neg (show ¬ (false = true) by decide)] at H; exact H
          clear H
          have H := H1
          clear H1
          obtain rfl := Option.some.inj H
          have hnb36 := NB213_214.out
          have hnc36 := NB214_213.out
          have hcz37_0 : wr.cell? ⟨gb213, 0, none⟩ = some (.int .i64 a0_0) := (zB BK213.out 0).trans rfl
          have hcz37_1 : wr.cell? ⟨gb213, 1, none⟩ = some (.int .u64 a0_1) := (zB BK213.out 1).trans rfl
          have hcz37_2 : wr.cell? ⟨gb213, 2, none⟩ = some (.int .u64 a0_2) := (zB BK213.out 2).trans rfl
          have hcz37_3 : wr.cell? ⟨gb213, 3, none⟩ = some (.int .u64 a0_3) := (zB BK213.out 3).trans rfl
          have hcz37_4 : wr.cell? ⟨gb213, 4, none⟩ = some (.int .u64 a0_4) := (zB BK213.out 4).trans rfl
          have hcz37_5 : wr.cell? ⟨gb213, 5, none⟩ = some (.slice A0_5 l0_5.length c0_5) := (zB BK213.out 5).trans rfl
          have hcz37_6 : wr.cell? ⟨gb213, 6, none⟩ = some (.int .i64 a0_6) := (zB BK213.out 6).trans rfl
          have hcz37_7 : wr.cell? ⟨gb213, 7, none⟩ = some (.int .i64 a0_7) := (zB BK213.out 7).trans rfl
          have hfz37_0 := zA BK213.out 0
          have hfz37_1 := zA BK213.out 1
          have hfz37_2 := zA BK213.out 2
          have hfz37_3 := zA BK213.out 3
          have hfz37_4 := zA BK213.out 4
          have hfz37_5 := zA BK213.out 5
          have hfz37_6 := zA BK213.out 6
          have hfz37_7 := zA BK213.out 7
          try go_wp2
          have n0_ := zJ (zI BK213.out)
          have n1_ := zJ (zI BK214.out)
          have n2_ := zJ (zD HB.out)
          clear BK213 BK214 HB
          have BK213 := n0_
          have BK214 := n1_
          have HB := n2_
          clear n0_ n1_ n2_
          have p215 : 0 ≤ (x5_2 : Int) := of_decide_eq_true (by first | (with_reducible assumption) | assumption)
          have q215 : x5_2 < (l0_5.length : Int) := of_decide_eq_true (by first | (with_reducible assumption) | assumption)
          obtain ⟨ad215, A215_5, c215_5, e215, hx215_0, hx215_1, hx215_2, hx215_3, hx215_4, hx215_5, hx215_6, hx215_7, hl215_5, hi215_5⟩ := at_T27 HR0_5.out x5_2 p215 q215
          have hw215_7 := hx215_7
          have hw215_6 := hx215_6
          have hw215_5 := hx215_5
          have hw215_4 := hx215_4
          have hw215_3 := hx215_3
          have hw215_2 := hx215_2
          have hw215_1 := hx215_1
          have hw215_0 := hx215_0
          cases e215
          replace hx215_0 := (HB.out.cell (zK w _ hx215_0)).trans hx215_0
          replace hx215_1 := (HB.out.cell (zK w _ hx215_1)).trans hx215_1
          replace hx215_2 := (HB.out.cell (zK w _ hx215_2)).trans hx215_2
          replace hx215_3 := (HB.out.cell (zK w _ hx215_3)).trans hx215_3
          replace hx215_4 := (HB.out.cell (zK w _ hx215_4)).trans hx215_4
          replace hx215_5 := (HB.out.cell (zK w _ hx215_5)).trans hx215_5
          replace hx215_6 := (HB.out.cell (zK w _ hx215_6)).trans hx215_6
          replace hx215_7 := (HB.out.cell (zK w _ hx215_7)).trans hx215_7
          have HR215_5 := zJ hi215_5
          have HC215_5 := zJ hl215_5
          clear hi215_5 hl215_5
          replace p215 := eq_true p215
          replace q215 := eq_true q215
          have p216 : 0 ≤ (x5_2 : Int) := of_decide_eq_true (by first | (with_reducible assumption) | assumption)
          have q216 : x5_2 < (l1_5.length : Int) := of_decide_eq_true (by first | (with_reducible assumption) | assumption)
          obtain ⟨ad216, A216_5, c216_5, e216, hx216_0, hx216_1, hx216_2, hx216_3, hx216_4, hx216_5, hx216_6, hx216_7, hl216_5, hi216_5⟩ := at_T27 HR1_5.out x5_2 p216 q216
          have hw216_7 := hx216_7
          have hw216_6 := hx216_6
          have hw216_5 := hx216_5
          have hw216_4 := hx216_4
          have hw216_3 := hx216_3
          have hw216_2 := hx216_2
          have hw216_1 := hx216_1
          have hw216_0 := hx216_0
          cases e216
          replace hx216_0 := (HB.out.cell (zK w _ hx216_0)).trans hx216_0
          replace hx216_1 := (HB.out.cell (zK w _ hx216_1)).trans hx216_1
          replace hx216_2 := (HB.out.cell (zK w _ hx216_2)).trans hx216_2
          replace hx216_3 := (HB.out.cell (zK w _ hx216_3)).trans hx216_3
          replace hx216_4 := (HB.out.cell (zK w _ hx216_4)).trans hx216_4
          replace hx216_5 := (HB.out.cell (zK w _ hx216_5)).trans hx216_5
          replace hx216_6 := (HB.out.cell (zK w _ hx216_6)).trans hx216_6
          replace hx216_7 := (HB.out.cell (zK w _ hx216_7)).trans hx216_7
          have HR216_5 := zJ hi216_5
          have HC216_5 := zJ hl216_5
          clear hi216_5 hl216_5
          replace p216 := eq_true p216
          replace q216 := eq_true q216
          refine start_ (n := 12) (S := fun w' => w'.cell? ⟨gb213, 0, none⟩ = some (.int .i64 a0_0) ∧ w'.cell? ⟨gb213, 1, none⟩ = some (.int .u64 a0_1) ∧ w'.cell? ⟨gb213, 2, none⟩ = some (.int .u64 a0_2) ∧ w'.cell? ⟨gb213, 3, none⟩ = some (.int .u64 a0_3) ∧ w'.cell? ⟨gb213, 4, none⟩ = some (.int .u64 a0_4) ∧ w'.cell? ⟨gb213, 5, none⟩ = some (.slice (some ad215) l0_5.length c0_5) ∧ w'.cell? ⟨gb213, 6, none⟩ = some (.int .i64 a0_6) ∧ w'.cell? ⟨gb213, 7, none⟩ = some (.int .i64 a0_7) ∧ w'.cell? ⟨gb214, 0, none⟩ = some (.int .i64 a1_0) ∧ w'.cell? ⟨gb214, 1, none⟩ = some (.int .u64 a1_1) ∧ w'.cell? ⟨gb214, 2, none⟩ = some (.int .u64 a1_2) ∧ w'.cell? ⟨gb214, 3, none⟩ = some (.int .u64 a1_3) ∧ w'.cell? ⟨gb214, 4, none⟩ = some (.int .u64 a1_4) ∧ w'.cell? ⟨gb214, 5, none⟩ = some (.slice (some ad216) l1_5.length c1_5) ∧ w'.cell? ⟨gb214, 6, none⟩ = some (.int .i64 a1_6) ∧ w'.cell? ⟨gb214, 7, none⟩ = some (.int .i64 a1_7) ∧ w'.cell? (ad215.add ((x5_2).toNat * 8)) = some (.int .i64 ((rd_T27 l0_5 x5_2).f0)) ∧ w'.cell? ⟨(ad215.add ((x5_2).toNat * 8)).block, (ad215.add ((x5_2).toNat * 8)).off + 1, none⟩ = some (.int .u64 ((rd_T27 l0_5 x5_2).f1.f0)) ∧ w'.cell? ⟨(ad215.add ((x5_2).toNat * 8)).block, (ad215.add ((x5_2).toNat * 8)).off + 2, none⟩ = some (.int .u64 ((rd_T27 l0_5 x5_2).f1.f1)) ∧ w'.cell? ⟨(ad215.add ((x5_2).toNat * 8)).block, (ad215.add ((x5_2).toNat * 8)).off + 3, none⟩ = some (.int .u64 ((rd_T27 l0_5 x5_2).f1.f2)) ∧ w'.cell? ⟨(ad215.add ((x5_2).toNat * 8)).block, (ad215.add ((x5_2).toNat * 8)).off + 4, none⟩ = some (.int .u64 ((rd_T27 l0_5 x5_2).f1.f3)) ∧ w'.cell? ⟨(ad215.add ((x5_2).toNat * 8)).block, (ad215.add ((x5_2).toNat * 8)).off + 5, none⟩ = some (.slice A215_5 ((rd_T27 l0_5 x5_2).f2).length c215_5) ∧ w'.cell? ⟨(ad215.add ((x5_2).toNat * 8)).block, (ad215.add ((x5_2).toNat * 8)).off + 6, none⟩ = some (.int .i64 ((rd_T27 l0_5 x5_2).f3)) ∧ w'.cell? ⟨(ad215.add ((x5_2).toNat * 8)).block, (ad215.add ((x5_2).toNat * 8)).off + 7, none⟩ = some (.int .i64 ((rd_T27 l0_5 x5_2).f4)) ∧ w'.cell? (ad216.add ((x5_2).toNat * 8)) = some (.int .i64 ((rd_T27 l1_5 x5_2).f0)) ∧ w'.cell? ⟨(ad216.add ((x5_2).toNat * 8)).block, (ad216.add ((x5_2).toNat * 8)).off + 1, none⟩ = some (.int .u64 ((rd_T27 l1_5 x5_2).f1.f0)) ∧ w'.cell? ⟨(ad216.add ((x5_2).toNat * 8)).block, (ad216.add ((x5_2).toNat * 8)).off + 2, none⟩ = some (.int .u64 ((rd_T27 l1_5 x5_2).f1.f1)) ∧ w'.cell? ⟨(ad216.add ((x5_2).toNat * 8)).block, (ad216.add ((x5_2).toNat * 8)).off + 3, none⟩ = some (.int .u64 ((rd_T27 l1_5 x5_2).f1.f2)) ∧ w'.cell? ⟨(ad216.add ((x5_2).toNat * 8)).block, (ad216.add ((x5_2).toNat * 8)).off + 4, none⟩ = some (.int .u64 ((rd_T27 l1_5 x5_2).f1.f3)) ∧ w'.cell? ⟨(ad216.add ((x5_2).toNat * 8)).block, (ad216.add ((x5_2).toNat * 8)).off + 5, none⟩ = some (.slice A216_5 ((rd_T27 l1_5 x5_2).f2).length c216_5) ∧ w'.cell? ⟨(ad216.add ((x5_2).toNat * 8)).block, (ad216.add ((x5_2).toNat * 8)).off + 6, none⟩ = some (.int .i64 ((rd_T27 l1_5 x5_2).f3)) ∧ w'.cell? ⟨(ad216.add ((x5_2).toNat * 8)).block, (ad216.add ((x5_2).toNat * 8)).off + 7, none⟩ = some (.int .i64 ((rd_T27 l1_5 x5_2).f4))) (ds := []) #[false, false, false, false, false, false, false, false, false, false, false, false] (by kernel_rfl) rfl rfl ⟨(zB BK213.out 0).trans rfl, (zB BK213.out 1).trans rfl, (zB BK213.out 2).trans rfl, (zB BK213.out 3).trans rfl, (zB BK213.out 4).trans rfl, (zB BK213.out 5).trans rfl, (zB BK213.out 6).trans rfl, (zB BK213.out 7).trans rfl, (zB BK214.out 0).trans rfl, (zB BK214.out 1).trans rfl, (zB BK214.out 2).trans rfl, (zB BK214.out 3).trans rfl, (zB BK214.out 4).trans rfl, (zB BK214.out 5).trans rfl, (zB BK214.out 6).trans rfl, (zB BK214.out 7).trans rfl, ((HB.out.cell (zK w _ hw215_0)).trans hw215_0), ((HB.out.cell (zK w _ hw215_1)).trans hw215_1), ((HB.out.cell (zK w _ hw215_2)).trans hw215_2), ((HB.out.cell (zK w _ hw215_3)).trans hw215_3), ((HB.out.cell (zK w _ hw215_4)).trans hw215_4), ((HB.out.cell (zK w _ hw215_5)).trans hw215_5), ((HB.out.cell (zK w _ hw215_6)).trans hw215_6), ((HB.out.cell (zK w _ hw215_7)).trans hw215_7), ((HB.out.cell (zK w _ hw216_0)).trans hw216_0), ((HB.out.cell (zK w _ hw216_1)).trans hw216_1), ((HB.out.cell (zK w _ hw216_2)).trans hw216_2), ((HB.out.cell (zK w _ hw216_3)).trans hw216_3), ((HB.out.cell (zK w _ hw216_4)).trans hw216_4), ((HB.out.cell (zK w _ hw216_5)).trans hw216_5), ((HB.out.cell (zK w _ hw216_6)).trans hw216_6), ((HB.out.cell (zK w _ hw216_7)).trans hw216_7)⟩ (fun hHeld => ?_); refine with_tabW ostinatoref02_Same.tab6 ostinatoref02_Same.bits6 (fun HT_ HW_ => ?_)
          generalize wr.drew = w38 at BK213 BK214 HB HR215_5 HR216_5 hx215_0 hx215_1 hx215_2 hx215_3 hx215_4 hx215_5 hx215_6 hx215_7 hx216_0 hx216_1 hx216_2 hx216_3 hx216_4 hx216_5 hx216_6 hx216_7 hHeld ⊢
          refine pure_ (i := 0) (N := some 48) (v := ?_) (a' := ?_) #[true, false, false, false, false, false, false, false, false, false, false, false] rfl rfl (any_of HT_.out (by kernel_rfl)) (fun _ _ _ h => h) (Or.inl ⟨by rfl, ?_⟩) ?_ ?_
          rotate_left
          ·
           intro w'
           go_simp
           with_reducible rfl
          rotate_left
          ·
           simp only [Act.put, zL, zM, zN, i64_w, i32_w]
           rfl
          refine pure_ (i := 2) (N := some 50) (v := ?_) (a' := ?_) #[true, false, true, false, false, false, false, false, false, false, false, false] rfl rfl (any_of HT_.out (by kernel_rfl)) (fun _ _ _ h => h) (Or.inl ⟨by rfl, ?_⟩) ?_ ?_
          rotate_left
          ·
           intro w'
           go_simp
           with_reducible rfl
          rotate_left
          ·
           simp only [Act.put, zL, zM, zN, i64_w, i32_w]
           rfl
          refine pure_ (i := 5) (N := some 53) (v := ?_) (a' := ?_) #[true, false, true, false, false, true, false, false, false, false, false, false] rfl rfl (any_of HT_.out (by kernel_rfl)) (fun _ _ _ h => h) (Or.inl ⟨by rfl, ?_⟩) ?_ ?_
          rotate_left
          ·
           intro w'
           go_simp
           with_reducible rfl
          rotate_left
          ·
           simp only [Act.put, zL, zM, zN, i64_w, i32_w]
           rfl
          refine pure_ (i := 7) (N := some 55) (v := ?_) (a' := ?_) #[true, false, true, false, false, true, false, true, false, false, false, false] rfl rfl (any_of HT_.out (by kernel_rfl)) (fun _ _ _ h => h) (Or.inl ⟨by rfl, ?_⟩) ?_ ?_
          rotate_left
          ·
           intro w'
           go_simp
           with_reducible rfl
          rotate_left
          ·
           simp only [Act.put, zL, zM, zN, i64_w, i32_w]
           rfl
          refine take_ (i := 1) (N := some 49) (v := ?_) (a' := ?_) #[true, true, true, false, false, true, false, true, false, false, false, false] rfl rfl (take_ofW HT_.out HW_.out (by kernel_rfl)) (fun _ _ _ h => h) (Or.inl ⟨by rfl, ?_⟩) hHeld ?_ ?_
          rotate_left
          ·
           rintro w' ⟨s0, s1, s2, s3, s4, s5, s6, s7, s8, s9, s10, s11, s12, s13, s14, s15, s16, s17, s18, s19, s20, s21, s22, s23, s24, s25, s26, s27, s28, s29, s30, s31⟩
           go_simp
           with_reducible rfl
          rotate_left
          ·
           simp only [Act.put, zL, zM, zN, i64_w, i32_w]
           rfl
          refine pure_ (i := 3) (N := some 51) (v := ?_) (a' := ?_) #[true, true, true, true, false, true, false, true, false, false, false, false] rfl rfl (any_of HT_.out (by kernel_rfl)) (fun _ _ _ h => h) (Or.inl ⟨by rfl, ?_⟩) ?_ ?_
          rotate_left
          ·
           intro w'
           go_simp
           with_reducible rfl
          rotate_left
          ·
           simp only [Act.put, zL, zM, zN, i64_w, i32_w]
           rfl
          refine take_ (i := 4) (N := some 52) (v := ?_) (a' := ?_) #[true, true, true, true, true, true, false, true, false, false, false, false] rfl rfl (take_ofW HT_.out HW_.out (by kernel_rfl)) (fun _ _ _ h => h) (Or.inl ⟨by rfl, ?_⟩) hHeld ?_ ?_
          rotate_left
          ·
           rintro w' ⟨s0, s1, s2, s3, s4, s5, s6, s7, s8, s9, s10, s11, s12, s13, s14, s15, s16, s17, s18, s19, s20, s21, s22, s23, s24, s25, s26, s27, s28, s29, s30, s31⟩
           go_simp
           with_reducible rfl
          rotate_left
          ·
           simp only [Act.put, zL, zM, zN, i64_w, i32_w]
           rfl
          refine take_ (i := 6) (N := some 54) (v := ?_) (a' := ?_) #[true, true, true, true, true, true, true, true, false, false, false, false] rfl rfl (take_ofW HT_.out HW_.out (by kernel_rfl)) (fun _ _ _ h => h) (Or.inl ⟨by rfl, ?_⟩) hHeld ?_ ?_
          rotate_left
          ·
           rintro w' ⟨s0, s1, s2, s3, s4, s5, s6, s7, s8, s9, s10, s11, s12, s13, s14, s15, s16, s17, s18, s19, s20, s21, s22, s23, s24, s25, s26, s27, s28, s29, s30, s31⟩
           go_simp
           with_reducible rfl
          rotate_left
          ·
           simp only [Act.put, zL, zM, zN, i64_w, i32_w]
           rfl
          refine pure_ (i := 8) (N := some 56) (v := ?_) (a' := ?_) #[true, true, true, true, true, true, true, true, true, false, false, false] rfl rfl (any_of HT_.out (by kernel_rfl)) (fun _ _ _ h => h) (Or.inl ⟨by rfl, ?_⟩) ?_ ?_
          rotate_left
          ·
           intro w'
           go_simp
           with_reducible rfl
          rotate_left
          ·
           simp only [Act.put, zL, zM, zN, i64_w, i32_w]
           rfl
          refine take_ (i := 9) (N := some 57) (v := ?_) (a' := ?_) #[true, true, true, true, true, true, true, true, true, true, false, false] rfl rfl (take_ofW HT_.out HW_.out (by kernel_rfl)) (fun _ _ _ h => h) (Or.inl ⟨by rfl, ?_⟩) hHeld ?_ ?_
          rotate_left
          ·
           rintro w' ⟨s0, s1, s2, s3, s4, s5, s6, s7, s8, s9, s10, s11, s12, s13, s14, s15, s16, s17, s18, s19, s20, s21, s22, s23, s24, s25, s26, s27, s28, s29, s30, s31⟩
           go_simp
           with_reducible rfl
          rotate_left
          ·
           simp only [Act.put, zL, zM, zN, i64_w, i32_w]
           rfl
          refine one_ (i := 10) (N := some 58) #[true, true, true, true, true, true, true, true, true, true, true, false] rfl rfl (one_of HT_.out (by kernel_rfl)) (by decide) (fun K hK => ?_)
          refine goes_ Try.func11 (by kernel_rfl) rfl #[.agg #[.int .i64 ((rd_T27 l0_5 x5_2).f0), .int .u64 ((rd_T27 l0_5 x5_2).f1.f0), .int .u64 ((rd_T27 l0_5 x5_2).f1.f1), .int .u64 ((rd_T27 l0_5 x5_2).f1.f2), .int .u64 ((rd_T27 l0_5 x5_2).f1.f3), .slice A215_5 ((rd_T27 l0_5 x5_2).f2).length c215_5, .int .i64 ((rd_T27 l0_5 x5_2).f3), .int .i64 ((rd_T27 l0_5 x5_2).f4)], .agg #[.int .i64 ((rd_T27 l1_5 x5_2).f0), .int .u64 ((rd_T27 l1_5 x5_2).f1.f0), .int .u64 ((rd_T27 l1_5 x5_2).f1.f1), .int .u64 ((rd_T27 l1_5 x5_2).f1.f2), .int .u64 ((rd_T27 l1_5 x5_2).f1.f3), .slice A216_5 ((rd_T27 l1_5 x5_2).f2).length c216_5, .int .i64 ((rd_T27 l1_5 x5_2).f3), .int .i64 ((rd_T27 l1_5 x5_2).f4)]] (by rfl) rfl rfl (by (try simp only [List.map_toArray, List.map_cons, List.map_nil]); first | done | rfl | (simp only [List.length_drop, List.length_take]; rfl)) ?_
          with_reducible refine (ih k2 (by have := HJ2.out; have := HK2.out; omega) ((rd_T27 l0_5 x5_2).f0) ((rd_T27 l0_5 x5_2).f1.f0) ((rd_T27 l0_5 x5_2).f1.f1) ((rd_T27 l0_5 x5_2).f1.f2) ((rd_T27 l0_5 x5_2).f1.f3) _ _ ((rd_T27 l0_5 x5_2).f2) ((rd_T27 l0_5 x5_2).f3) ((rd_T27 l0_5 x5_2).f4) ((rd_T27 l1_5 x5_2).f0) ((rd_T27 l1_5 x5_2).f1.f0) ((rd_T27 l1_5 x5_2).f1.f1) ((rd_T27 l1_5 x5_2).f1.f2) ((rd_T27 l1_5 x5_2).f1.f3) _ _ ((rd_T27 l1_5 x5_2).f2) ((rd_T27 l1_5 x5_2).f3) ((rd_T27 l1_5 x5_2).f4) false _ ?side1 ?side2 ?side3 ?side4 A30.out).mono ?_
          (case side1 => repeat (first | exact (Kd.C_below HR215_5.out HB.out) | (with_reducible refine Kd.C_alloc ?_ _) | (with_reducible refine Kd.C_drewN ?_ _) | (with_reducible refine Kd.C_drew ?_)))
          (case side2 => exact HC215_5.out)
          (case side3 => repeat (first | exact (Kd.C_below HR216_5.out HB.out) | (with_reducible refine Kd.C_alloc ?_ _) | (with_reducible refine Kd.C_drewN ?_ _) | (with_reducible refine Kd.C_drew ?_)))
          (case side4 => exact HC216_5.out)
          rintro e w39 ⟨rfl, hb⟩
          refine ⟨_, rfl, ?_⟩
          have n0_ := zJ (blk_below (g := gb213) (o := .cells #[.int .i64 a0_0, .int .u64 a0_1, .int .u64 a0_2, .int .u64 a0_3, .int .u64 a0_4, .slice (some ad215) l0_5.length c0_5, .int .i64 a0_6, .int .i64 a0_7] 27 (0, 0)) (by (with_reducible repeat (first | refine zH ?_ _ | refine zI ?_ | refine zG ?_ _)); exact BK213.out) hb)
          have n1_ := zJ (blk_below (g := gb214) (o := .cells #[.int .i64 a1_0, .int .u64 a1_1, .int .u64 a1_2, .int .u64 a1_3, .int .u64 a1_4, .slice (some ad216) l1_5.length c1_5, .int .i64 a1_6, .int .i64 a1_7] 27 (0, 0)) (by (with_reducible repeat (first | refine zH ?_ _ | refine zI ?_ | refine zG ?_ _)); exact BK214.out) hb)
          have n2_ := zJ (below_step (by repeat (first | (with_reducible first | exact HB.out | apply zE | apply zC | apply zD | refine zF ?_ GE213.out | refine zF ?_ GE214.out) | exact HB.out)) hb)
          clear BK213 BK214 HB
          have BK213 := n0_
          have BK214 := n1_
          have HB := n2_
          clear n0_ n1_ n2_
          (try clear hb)
          (try clear hb2)
          (try clear hk)
          (try clear hi)
          refine hK.out _ _ ⟨(zB BK213.out 0).trans rfl, (zB BK213.out 1).trans rfl, (zB BK213.out 2).trans rfl, (zB BK213.out 3).trans rfl, (zB BK213.out 4).trans rfl, (zB BK213.out 5).trans rfl, (zB BK213.out 6).trans rfl, (zB BK213.out 7).trans rfl, (zB BK214.out 0).trans rfl, (zB BK214.out 1).trans rfl, (zB BK214.out 2).trans rfl, (zB BK214.out 3).trans rfl, (zB BK214.out 4).trans rfl, (zB BK214.out 5).trans rfl, (zB BK214.out 6).trans rfl, (zB BK214.out 7).trans rfl, ((HB.out.cell (zK w _ hw215_0)).trans hw215_0), ((HB.out.cell (zK w _ hw215_1)).trans hw215_1), ((HB.out.cell (zK w _ hw215_2)).trans hw215_2), ((HB.out.cell (zK w _ hw215_3)).trans hw215_3), ((HB.out.cell (zK w _ hw215_4)).trans hw215_4), ((HB.out.cell (zK w _ hw215_5)).trans hw215_5), ((HB.out.cell (zK w _ hw215_6)).trans hw215_6), ((HB.out.cell (zK w _ hw215_7)).trans hw215_7), ((HB.out.cell (zK w _ hw216_0)).trans hw216_0), ((HB.out.cell (zK w _ hw216_1)).trans hw216_1), ((HB.out.cell (zK w _ hw216_2)).trans hw216_2), ((HB.out.cell (zK w _ hw216_3)).trans hw216_3), ((HB.out.cell (zK w _ hw216_4)).trans hw216_4), ((HB.out.cell (zK w _ hw216_5)).trans hw216_5), ((HB.out.cell (zK w _ hw216_6)).trans hw216_6), ((HB.out.cell (zK w _ hw216_7)).trans hw216_7)⟩ (fun hHeld => ?_)
          clear hK K
          refine norm_ (a' := ?_) ?_ ?_
          rotate_left
          ·
           show Act.put _ (some 58) _ = _
           simp only [Act.put, zL, zM, zN, i64_w, i32_w]
           rfl
          refine pure_ (i := 11) (N := some 59) (v := ?_) (a' := ?_) #[true, true, true, true, true, true, true, true, true, true, true, true] rfl rfl (any_of HT_.out (by kernel_rfl)) (fun _ _ _ h => h) (Or.inl ⟨by rfl, ?_⟩) ?_ ?_
          rotate_left
          ·
           intro w'
           go_simp
           with_reducible rfl
          rotate_left
          ·
           simp only [Act.put, zL, zM, zN, i64_w, i32_w]
           rfl
          refine done_ (done_of HT_.out (by kernel_rfl)) ?_
          try go_wp2
          go_ret
          exact ⟨by first | rfl | (simp [errW_none, errW_some] <;> rfl) | (simp [*, errW_none, errW_some] <;> rfl), by repeat (first | (with_reducible first | exact HB.out | apply zE | apply zC | apply zD | refine zF ?_ GE213.out | refine zF ?_ GE214.out) | exact HB.out)⟩
        ·
         rw [if_neg c29] at H
         exact absurd H (by simp)
       ·
        rw [if_neg c28] at H
        exact absurd H (by simp)
      ·
       rw [if_neg c27] at H
       have c27b0 : decide (x5_2 < (l0_5.length : Int)) = false := decide_eq_false c27
       clear c27
       obtain rfl := Option.some.inj H
       have hnb40 := NB213_214.out
       have hnc40 := NB214_213.out
       have hcz41_0 : wr.cell? ⟨gb213, 0, none⟩ = some (.int .i64 a0_0) := (zB BK213.out 0).trans rfl
       have hcz41_1 : wr.cell? ⟨gb213, 1, none⟩ = some (.int .u64 a0_1) := (zB BK213.out 1).trans rfl
       have hcz41_2 : wr.cell? ⟨gb213, 2, none⟩ = some (.int .u64 a0_2) := (zB BK213.out 2).trans rfl
       have hcz41_3 : wr.cell? ⟨gb213, 3, none⟩ = some (.int .u64 a0_3) := (zB BK213.out 3).trans rfl
       have hcz41_4 : wr.cell? ⟨gb213, 4, none⟩ = some (.int .u64 a0_4) := (zB BK213.out 4).trans rfl
       have hcz41_5 : wr.cell? ⟨gb213, 5, none⟩ = some (.slice A0_5 l0_5.length c0_5) := (zB BK213.out 5).trans rfl
       have hcz41_6 : wr.cell? ⟨gb213, 6, none⟩ = some (.int .i64 a0_6) := (zB BK213.out 6).trans rfl
       have hcz41_7 : wr.cell? ⟨gb213, 7, none⟩ = some (.int .i64 a0_7) := (zB BK213.out 7).trans rfl
       have hfz41_0 := zA BK213.out 0
       have hfz41_1 := zA BK213.out 1
       have hfz41_2 := zA BK213.out 2
       have hfz41_3 := zA BK213.out 3
       have hfz41_4 := zA BK213.out 4
       have hfz41_5 := zA BK213.out 5
       have hfz41_6 := zA BK213.out 6
       have hfz41_7 := zA BK213.out 7
       go_wp2
       go_ret
       exact ⟨by first | rfl | (simp [errW_none, errW_some] <;> rfl) | (simp [*, errW_none, errW_some] <;> rfl), by repeat (first | (with_reducible first | exact HB.out | apply zE | apply zC | apply zD | refine zF ?_ GE213.out | refine zF ?_ GE214.out) | exact HB.out)⟩

end Go.Proofs.Ytlnhiogpjdhhbaa.P
