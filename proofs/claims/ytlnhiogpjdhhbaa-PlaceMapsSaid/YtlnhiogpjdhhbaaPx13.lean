import Derived.Test.YtlnhiogpjdhhbaaPx0
import Derived.Test.YtlnhiogpjdhhbaaPx1
-- Written by wip/xp.
namespace Go.Proofs.Ytlnhiogpjdhhbaa.P
open Go.RowKit Go.Proofs.YtlnhiogpjdhhbaaW.PrintWords Go.Proofs.YtlnhiogpjdhhbaaW.PrintLast Go.Proofs.YtlnhiogpjdhhbaaW.PrintMore
open Go.Proofs.YtlnhiogpjdhhbaaW.PrintWords renaming blk_frozen → zA, blk_cell → zB, pw_below_drewN → zC, below_drew1 → zD, below_alloc → zE, below_set → zF, blk_alloc → zG, blk_drewN → zH, blk_drew → zI
open Go.Proofs.YtlnhiogpjdhhbaaW.PrintWords.Aside0 renaming mk → zJ
open Go.World renaming block_lt_of_cell? → zK
attribute [local go_sem] max2_int min2_int max_two min_two max_three min_three max_four min_four   -- for this text's walks alone
set_option linter.unusedVariables false
set_option linter.unusedSimpArgs false

attribute [local go_sem high] eqA24
mutual
def ostinatoref02_Formed.j0 : Nat → Bool → Bool → Int → Int → Int → Int → Int → List (S27) → Int → Int → Option (Bool)
  | 0, _, _, _, _, _, _, _, _, _, _ => none
  | k + 1, x3, x4, x201000, x201001, x201002, x201003, x201004, x201005, x201006, x201007 => if x201000 = 0 then (if x3 = true then (if x4 = true then (ostinatoref02_Formed.j2 k ((x201005.length : Int) == 0) x201000 x201001 x201002 x201003 x201004 x201005 x201006 x201007) else (ostinatoref02_Formed.j2 k false x201000 x201001 x201002 x201003 x201004 x201005 x201006 x201007)) else (ostinatoref02_Formed.j2 k false x201000 x201001 x201002 x201003 x201004 x201005 x201006 x201007)) else (if x201000 = 1 then (if x4 = true then (ostinatoref02_Formed.j2 k ((x201005.length : Int) == 0) x201000 x201001 x201002 x201003 x201004 x201005 x201006 x201007) else (ostinatoref02_Formed.j2 k false x201000 x201001 x201002 x201003 x201004 x201005 x201006 x201007)) else (if x201000 = 2 then (ostinatoref02_Formed.j1 k x3 x4 false x201000 (x201000 == 2) x201000 x201001 x201002 x201003 x201004 x201005 x201006 x201007) else (ostinatoref02_Formed.j1 k x3 x4 false x201000 (x201000 == 3) x201000 x201001 x201002 x201003 x201004 x201005 x201006 x201007)))
def ostinatoref02_Formed.j2 : Nat → Bool → Int → Int → Int → Int → Int → List (S27) → Int → Int → Option (Bool)
  | 0, _, _, _, _, _, _, _, _, _ => none
  | k + 1, x5, x201000, x201001, x201002, x201003, x201004, x201005, x201006, x201007 => ostinatoref02_Formed.l0 k x5 0 x201000 x201001 x201002 x201003 x201004 x201005 x201006 x201007
def ostinatoref02_Formed.l0 : Nat → Bool → Int → Int → Int → Int → Int → Int → List (S27) → Int → Int → Option (Bool)
  | 0, _, _, _, _, _, _, _, _, _, _ => none
  | k + 1, x5, x6, x201000, x201001, x201002, x201003, x201004, x201005, x201006, x201007 => if x6 < (x201005.length : Int) then (if x5 = true then (if 0 ≤ x6 then ((ostinatoref02_Formed.f k ((rd_T27 x201005 x6).f0) ((rd_T27 x201005 x6).f1.f0) ((rd_T27 x201005 x6).f1.f1) ((rd_T27 x201005 x6).f1.f2) ((rd_T27 x201005 x6).f1.f3) ((rd_T27 x201005 x6).f2) ((rd_T27 x201005 x6).f3) ((rd_T27 x201005 x6).f4)).bind fun t202 => (ostinatoref02_Formed.l0 k t202 (wrap64 (x6 + 1)) x201000 x201001 x201002 x201003 x201004 x201005 x201006 x201007)) else (none)) else (some x5)) else (some x5)
def ostinatoref02_Formed.j1 : Nat → Bool → Bool → Bool → Int → Bool → Int → Int → Int → Int → Int → List (S27) → Int → Int → Option (Bool)
  | 0, _, _, _, _, _, _, _, _, _, _, _, _, _ => none
  | k + 1, x3, x4, x5, x20, x42, x201000, x201001, x201002, x201003, x201004, x201005, x201006, x201007 => if x42 = true then (if x3 = true then (if x4 = true then (ostinatoref02_Formed.j2 k (decide ((x201005.length : Int) > 1)) x201000 x201001 x201002 x201003 x201004 x201005 x201006 x201007) else (ostinatoref02_Formed.j2 k false x201000 x201001 x201002 x201003 x201004 x201005 x201006 x201007)) else (ostinatoref02_Formed.j2 k false x201000 x201001 x201002 x201003 x201004 x201005 x201006 x201007)) else (if x20 = 4 then (if x3 = true then (if (x201005.length : Int) = 1 then (if x201006 ≥ 0 then (if x201006 ≤ 2147483647 then (if x201007 ≤ 2147483647 then (if x201007 = (-1) then (ostinatoref02_Formed.j2 k true x201000 x201001 x201002 x201003 x201004 x201005 x201006 x201007) else (ostinatoref02_Formed.j2 k (decide (x201007 ≥ x201006)) x201000 x201001 x201002 x201003 x201004 x201005 x201006 x201007)) else (ostinatoref02_Formed.j2 k false x201000 x201001 x201002 x201003 x201004 x201005 x201006 x201007)) else (ostinatoref02_Formed.j2 k false x201000 x201001 x201002 x201003 x201004 x201005 x201006 x201007)) else (ostinatoref02_Formed.j2 k false x201000 x201001 x201002 x201003 x201004 x201005 x201006 x201007)) else (ostinatoref02_Formed.j2 k false x201000 x201001 x201002 x201003 x201004 x201005 x201006 x201007)) else (ostinatoref02_Formed.j2 k false x201000 x201001 x201002 x201003 x201004 x201005 x201006 x201007)) else (ostinatoref02_Formed.j2 k x5 x201000 x201001 x201002 x201003 x201004 x201005 x201006 x201007))
def ostinatoref02_Formed.f : Nat → Int → Int → Int → Int → Int → List (S27) → Int → Int → Option (Bool)
  | 0, _, _, _, _, _, _, _, _ => none
  | k + 1, a0_0, a0_1, a0_2, a0_3, a0_4, l0_5, a0_6, a0_7 => if a0_6 = 0 then (ostinatoref02_Formed.j0 k (a0_1 == 0 && (a0_2 == 0 && (a0_3 == 0 && (a0_4 == 0)))) (a0_7 == 0) a0_0 a0_1 a0_2 a0_3 a0_4 l0_5 a0_6 a0_7) else (ostinatoref02_Formed.j0 k (a0_1 == 0 && (a0_2 == 0 && (a0_3 == 0 && (a0_4 == 0)))) false a0_0 a0_1 a0_2 a0_3 a0_4 l0_5 a0_6 a0_7)
end
theorem ostinatoref02_Formed.mono_l : ∀ k, (∀ y0 y1 y2 y3 y4 y5 y6 y7, LeO (ostinatoref02_Formed.f k y0 y1 y2 y3 y4 y5 y6 y7) (ostinatoref02_Formed.f (k + 1) y0 y1 y2 y3 y4 y5 y6 y7)) ∧ (∀ y0 y1 y2 y3 y4 y5 y6 y7 y8 y9, LeO (ostinatoref02_Formed.j0 k y0 y1 y2 y3 y4 y5 y6 y7 y8 y9) (ostinatoref02_Formed.j0 (k + 1) y0 y1 y2 y3 y4 y5 y6 y7 y8 y9)) ∧ (∀ y0 y1 y2 y3 y4 y5 y6 y7 y8, LeO (ostinatoref02_Formed.j2 k y0 y1 y2 y3 y4 y5 y6 y7 y8) (ostinatoref02_Formed.j2 (k + 1) y0 y1 y2 y3 y4 y5 y6 y7 y8)) ∧ (∀ y0 y1 y2 y3 y4 y5 y6 y7 y8 y9, LeO (ostinatoref02_Formed.l0 k y0 y1 y2 y3 y4 y5 y6 y7 y8 y9) (ostinatoref02_Formed.l0 (k + 1) y0 y1 y2 y3 y4 y5 y6 y7 y8 y9)) ∧ (∀ y0 y1 y2 y3 y4 y5 y6 y7 y8 y9 y10 y11 y12, LeO (ostinatoref02_Formed.j1 k y0 y1 y2 y3 y4 y5 y6 y7 y8 y9 y10 y11 y12) (ostinatoref02_Formed.j1 (k + 1) y0 y1 y2 y3 y4 y5 y6 y7 y8 y9 y10 y11 y12))
  | 0 => ⟨fun _ _ _ _ _ _ _ _ r h => by simp [ostinatoref02_Formed.f] at h, fun _ _ _ _ _ _ _ _ _ _ r h => by simp [ostinatoref02_Formed.j0] at h, fun _ _ _ _ _ _ _ _ _ r h => by simp [ostinatoref02_Formed.j2] at h, fun _ _ _ _ _ _ _ _ _ _ r h => by simp [ostinatoref02_Formed.l0] at h, fun _ _ _ _ _ _ _ _ _ _ _ _ _ r h => by simp [ostinatoref02_Formed.j1] at h⟩
  | k + 1 => by
    obtain ⟨ih0, ih1, ih2, ih3, ih4⟩ := ostinatoref02_Formed.mono_l k
    refine ⟨?_, ?_, ?_, ?_, ?_⟩
    · intro y0 y1 y2 y3 y4 y5 y6 y7
      unfold ostinatoref02_Formed.f
      repeat' first
      | (with_reducible exact ih0 _ _ _ _ _ _ _ _)
      | (with_reducible exact ih1 _ _ _ _ _ _ _ _ _ _)
      | (with_reducible exact ih2 _ _ _ _ _ _ _ _ _)
      | (with_reducible exact ih3 _ _ _ _ _ _ _ _ _ _)
      | (with_reducible exact ih4 _ _ _ _ _ _ _ _ _ _ _ _ _)
      | (with_reducible exact LeO.refl _)
      | (with_reducible exact LeO.none _)
      | (with_reducible refine LeO.ite ?_ ?_)
      | (with_reducible refine LeO.bind ?_ (fun _ => ?_))
      | exact ih0 _ _ _ _ _ _ _ _
      | exact ih1 _ _ _ _ _ _ _ _ _ _
      | exact ih2 _ _ _ _ _ _ _ _ _
      | exact ih3 _ _ _ _ _ _ _ _ _ _
      | exact ih4 _ _ _ _ _ _ _ _ _ _ _ _ _
      | exact LeO.none _
      | refine LeO.ite ?_ ?_
      | refine LeO.bind ?_ (fun _ => ?_)
    · intro y0 y1 y2 y3 y4 y5 y6 y7 y8 y9
      unfold ostinatoref02_Formed.j0
      repeat' first
      | (with_reducible exact ih0 _ _ _ _ _ _ _ _)
      | (with_reducible exact ih1 _ _ _ _ _ _ _ _ _ _)
      | (with_reducible exact ih2 _ _ _ _ _ _ _ _ _)
      | (with_reducible exact ih3 _ _ _ _ _ _ _ _ _ _)
      | (with_reducible exact ih4 _ _ _ _ _ _ _ _ _ _ _ _ _)
      | (with_reducible exact LeO.refl _)
      | (with_reducible exact LeO.none _)
      | (with_reducible refine LeO.ite ?_ ?_)
      | (with_reducible refine LeO.bind ?_ (fun _ => ?_))
      | exact ih0 _ _ _ _ _ _ _ _
      | exact ih1 _ _ _ _ _ _ _ _ _ _
      | exact ih2 _ _ _ _ _ _ _ _ _
      | exact ih3 _ _ _ _ _ _ _ _ _ _
      | exact ih4 _ _ _ _ _ _ _ _ _ _ _ _ _
      | exact LeO.none _
      | refine LeO.ite ?_ ?_
      | refine LeO.bind ?_ (fun _ => ?_)
    · intro y0 y1 y2 y3 y4 y5 y6 y7 y8
      unfold ostinatoref02_Formed.j2
      repeat' first
      | (with_reducible exact ih0 _ _ _ _ _ _ _ _)
      | (with_reducible exact ih1 _ _ _ _ _ _ _ _ _ _)
      | (with_reducible exact ih2 _ _ _ _ _ _ _ _ _)
      | (with_reducible exact ih3 _ _ _ _ _ _ _ _ _ _)
      | (with_reducible exact ih4 _ _ _ _ _ _ _ _ _ _ _ _ _)
      | (with_reducible exact LeO.refl _)
      | (with_reducible exact LeO.none _)
      | (with_reducible refine LeO.ite ?_ ?_)
      | (with_reducible refine LeO.bind ?_ (fun _ => ?_))
      | exact ih0 _ _ _ _ _ _ _ _
      | exact ih1 _ _ _ _ _ _ _ _ _ _
      | exact ih2 _ _ _ _ _ _ _ _ _
      | exact ih3 _ _ _ _ _ _ _ _ _ _
      | exact ih4 _ _ _ _ _ _ _ _ _ _ _ _ _
      | exact LeO.none _
      | refine LeO.ite ?_ ?_
      | refine LeO.bind ?_ (fun _ => ?_)
    · intro y0 y1 y2 y3 y4 y5 y6 y7 y8 y9
      unfold ostinatoref02_Formed.l0
      repeat' first
      | (with_reducible exact ih0 _ _ _ _ _ _ _ _)
      | (with_reducible exact ih1 _ _ _ _ _ _ _ _ _ _)
      | (with_reducible exact ih2 _ _ _ _ _ _ _ _ _)
      | (with_reducible exact ih3 _ _ _ _ _ _ _ _ _ _)
      | (with_reducible exact ih4 _ _ _ _ _ _ _ _ _ _ _ _ _)
      | (with_reducible exact LeO.refl _)
      | (with_reducible exact LeO.none _)
      | (with_reducible refine LeO.ite ?_ ?_)
      | (with_reducible refine LeO.bind ?_ (fun _ => ?_))
      | exact ih0 _ _ _ _ _ _ _ _
      | exact ih1 _ _ _ _ _ _ _ _ _ _
      | exact ih2 _ _ _ _ _ _ _ _ _
      | exact ih3 _ _ _ _ _ _ _ _ _ _
      | exact ih4 _ _ _ _ _ _ _ _ _ _ _ _ _
      | exact LeO.none _
      | refine LeO.ite ?_ ?_
      | refine LeO.bind ?_ (fun _ => ?_)
    · intro y0 y1 y2 y3 y4 y5 y6 y7 y8 y9 y10 y11 y12
      unfold ostinatoref02_Formed.j1
      repeat' first
      | (with_reducible exact ih0 _ _ _ _ _ _ _ _)
      | (with_reducible exact ih1 _ _ _ _ _ _ _ _ _ _)
      | (with_reducible exact ih2 _ _ _ _ _ _ _ _ _)
      | (with_reducible exact ih3 _ _ _ _ _ _ _ _ _ _)
      | (with_reducible exact ih4 _ _ _ _ _ _ _ _ _ _ _ _ _)
      | (with_reducible exact LeO.refl _)
      | (with_reducible exact LeO.none _)
      | (with_reducible refine LeO.ite ?_ ?_)
      | (with_reducible refine LeO.bind ?_ (fun _ => ?_))
      | exact ih0 _ _ _ _ _ _ _ _
      | exact ih1 _ _ _ _ _ _ _ _ _ _
      | exact ih2 _ _ _ _ _ _ _ _ _
      | exact ih3 _ _ _ _ _ _ _ _ _ _
      | exact ih4 _ _ _ _ _ _ _ _ _ _ _ _ _
      | exact LeO.none _
      | refine LeO.ite ?_ ?_
      | refine LeO.bind ?_ (fun _ => ?_)
theorem ostinatoref02_Formed.mono : ∀ a0 a1 a2 a3 a4 a5 a6 a7 k, LeO (ostinatoref02_Formed.f k a0 a1 a2 a3 a4 a5 a6 a7) (ostinatoref02_Formed.f (k + 1) a0 a1 a2 a3 a4 a5 a6 a7) := by
  intro a0 a1 a2 a3 a4 a5 a6 a7 k
  obtain ⟨ih0, ih1, ih2, ih3, ih4⟩ := ostinatoref02_Formed.mono_l k
  exact ih0 a0 a1 a2 a3 a4 a5 a6 a7
set_option maxHeartbeats 8000000 in
set_option maxRecDepth 100000 in
theorem ostinatoref02_Formed.calls (k : Nat) : ∀ (a0_0 : Int) (a0_1 : Int) (a0_2 : Int) (a0_3 : Int) (a0_4 : Int) (A0_5 : Option Addr) (c0_5 : Nat) (l0_5 : List (S27)) (a0_6 : Int) (a0_7 : Int) (r : Bool) (w : World) (hr0_5 : Kd.C k27 w A0_5 l0_5.length l0_5) (hc0_5 : l0_5.length ≤ c0_5) (h : ostinatoref02_Formed.f k a0_0 a0_1 a0_2 a0_3 a0_4 l0_5 a0_6 a0_7 = some r),
  Calls Try.prog 13 #[.agg #[.int .i64 a0_0, .int .u64 a0_1, .int .u64 a0_2, .int .u64 a0_3, .int .u64 a0_4, .slice A0_5 l0_5.length c0_5, .int .i64 a0_6, .int .i64 a0_7]] w fun e w' => e = .returned (.bool r) ∧ Below w.heap.size w w' := by
 induction k using Nat.strongRecOn with
 | _ k ih =>
 intro a0_0 a0_1 a0_2 a0_3 a0_4 A0_5 c0_5 l0_5 a0_6 a0_7 r w hr0_5 hc0_5 h
 cases k with
 | zero => exact absurd h (by simp [ostinatoref02_Formed.f])
 | succ k =>
 simp only [ostinatoref02_Formed.f] at h
 have hu27 := Try.underlying27
 have hu24 := Try.underlying24
 have HR0_5 := zJ hr0_5
 have HC0_5 := zJ hc0_5
 clear hr0_5 hc0_5
 have HB := zJ (Below.refl w.heap.size w)
 have H : (if a0_6 = 0 then (ostinatoref02_Formed.j0 k (a0_1 == 0 && (a0_2 == 0 && (a0_3 == 0 && (a0_4 == 0)))) (a0_7 == 0) a0_0 a0_1 a0_2 a0_3 a0_4 l0_5 a0_6 a0_7) else (ostinatoref02_Formed.j0 k (a0_1 == 0 && (a0_2 == 0 && (a0_3 == 0 && (a0_4 == 0)))) false a0_0 a0_1 a0_2 a0_3 a0_4 l0_5 a0_6 a0_7)) = some r := h
 clear h
 obtain ⟨bj2, hbj2⟩ : ∃ b_ : Bool, (a0_1 == 0 && (a0_2 == 0 && (a0_3 == 0 && (a0_4 == 0)))) = b_ := ⟨_, rfl⟩
 replace H : (if a0_6 = 0 then (ostinatoref02_Formed.j0 k bj2 (a0_7 == 0) a0_0 a0_1 a0_2 a0_3 a0_4 l0_5 a0_6 a0_7) else (ostinatoref02_Formed.j0 k bj2 false a0_0 a0_1 a0_2 a0_3 a0_4 l0_5 a0_6 a0_7)) = some r := by (try rw [hbj2] at H); exact H
 have HC3 := zJ H
 clear H
 go_enter Try.func13, Try.ntmps13
 go_upto_region 2 with (first | ((with_reducible refine gate_dst (N := 1) rfl ?_); (try (refine gate_guard (by rfl) ?_; dsimp only)); refine box_event ?hg (N := 1) ?hd (cs := #[.int .i64 a0_0, .int .u64 a0_1, .int .u64 a0_2, .int .u64 a0_3, .int .u64 a0_4, .slice A0_5 l0_5.length c0_5, .int .i64 a0_6, .int .i64 a0_7]) (t := 27) ?hr ?_; (case hd => rfl); (case hg => rfl); (case hr => first | (go_simp; done) | (go_simp; rfl)); intro gb200 hg w4 hbox hb; have n0_ := zJ (below_step (by repeat (first | (with_reducible first | exact HB.out | apply zE | apply zC | apply zD) | exact HB.out)) hb); have n1_ := zJ (hbox); have n2_ := zJ ((by rw [hg]; exact (below_size (by repeat (first | (with_reducible first | exact HB.out | apply zE | apply zC | apply zD) | exact HB.out))) : w.heap.size ≤ gb200)); have n3_ := zJ ((by rw [hg]; exact (below_size (by repeat (first | (with_reducible first | exact HB.out | apply zE | apply zC | apply zD) | exact HB.out))) : w.heap.size ≤ gb200)); clear HB; have HB := n0_; have BK200 := n1_; have GW200 := n2_; have GE200 := n3_; clear n0_ n1_ n2_ n3_; clear hb hbox hg; have hcz5_0 : w4.cell? ⟨gb200, 0, none⟩ = some (.int .i64 a0_0) := (zB BK200.out 0).trans rfl; have hcz5_1 : w4.cell? ⟨gb200, 1, none⟩ = some (.int .u64 a0_1) := (zB BK200.out 1).trans rfl; have hcz5_2 : w4.cell? ⟨gb200, 2, none⟩ = some (.int .u64 a0_2) := (zB BK200.out 2).trans rfl; have hcz5_3 : w4.cell? ⟨gb200, 3, none⟩ = some (.int .u64 a0_3) := (zB BK200.out 3).trans rfl; have hcz5_4 : w4.cell? ⟨gb200, 4, none⟩ = some (.int .u64 a0_4) := (zB BK200.out 4).trans rfl; have hcz5_5 : w4.cell? ⟨gb200, 5, none⟩ = some (.slice A0_5 l0_5.length c0_5) := (zB BK200.out 5).trans rfl; have hcz5_6 : w4.cell? ⟨gb200, 6, none⟩ = some (.int .i64 a0_6) := (zB BK200.out 6).trans rfl; have hcz5_7 : w4.cell? ⟨gb200, 7, none⟩ = some (.int .i64 a0_7) := (zB BK200.out 7).trans rfl; have hfz5_0 := zA BK200.out 0; have hfz5_1 := zA BK200.out 1; have hfz5_2 := zA BK200.out 2; have hfz5_3 := zA BK200.out 3; have hfz5_4 := zA BK200.out 4; have hfz5_5 := zA BK200.out 5; have hfz5_6 := zA BK200.out 6; have hfz5_7 := zA BK200.out 7))
 (try simp only [Act.put, List.setIfInBounds_toArray, List.set_cons_zero, List.set_cons_succ])
 go_cut [4] (fun v4 wc => ∃ (kq : Nat) (x4_2 : Bool), v4 = .bool x4_2 ∧ Aside0 (ostinatoref02_Formed.j0 kq bj2 x4_2 a0_0 a0_1 a0_2 a0_3 a0_4 l0_5 a0_6 a0_7 = some r) ∧ Aside0 (kq ≤ k) ∧ Aside0 (wc.heap[gb200]? = some (.cells #[.int .i64 a0_0, .int .u64 a0_1, .int .u64 a0_2, .int .u64 a0_3, .int .u64 a0_4, (.slice A0_5 l0_5.length c0_5), .int .i64 a0_6, .int .i64 a0_7] 27 (0, 0))) ∧ Aside0 (Below w.heap.size w wc))
 case first =>
  have H := HC3.out
  clear HC3
  by_cases c6 : a0_6 = 0
  ·
   rw [if_pos c6] at H
   have c6b0 : (a0_6 == 0) = true := beq_iff_eq.mpr c6
   have c6b1 : (a0_6 != 0) = false := bne_eq_false_iff_eq.mpr c6
   clear c6
   (first | rw [c6b0] | (simp only [i64_w, i32_w]; rw [c6b0]) | skip)
   have H' := zJ H
   clear H
   have hcz7_0 : w4.cell? ⟨gb200, 0, none⟩ = some (.int .i64 a0_0) := (zB BK200.out 0).trans rfl
   have hcz7_1 : w4.cell? ⟨gb200, 1, none⟩ = some (.int .u64 a0_1) := (zB BK200.out 1).trans rfl
   have hcz7_2 : w4.cell? ⟨gb200, 2, none⟩ = some (.int .u64 a0_2) := (zB BK200.out 2).trans rfl
   have hcz7_3 : w4.cell? ⟨gb200, 3, none⟩ = some (.int .u64 a0_3) := (zB BK200.out 3).trans rfl
   have hcz7_4 : w4.cell? ⟨gb200, 4, none⟩ = some (.int .u64 a0_4) := (zB BK200.out 4).trans rfl
   have hcz7_5 : w4.cell? ⟨gb200, 5, none⟩ = some (.slice A0_5 l0_5.length c0_5) := (zB BK200.out 5).trans rfl
   have hcz7_6 : w4.cell? ⟨gb200, 6, none⟩ = some (.int .i64 a0_6) := (zB BK200.out 6).trans rfl
   have hcz7_7 : w4.cell? ⟨gb200, 7, none⟩ = some (.int .i64 a0_7) := (zB BK200.out 7).trans rfl
   have hfz7_0 := zA BK200.out 0
   have hfz7_1 := zA BK200.out 1
   have hfz7_2 := zA BK200.out 2
   have hfz7_3 := zA BK200.out 3
   have hfz7_4 := zA BK200.out 4
   have hfz7_5 := zA BK200.out 5
   have hfz7_6 := zA BK200.out 6
   have hfz7_7 := zA BK200.out 7
   go_wp2
   go_meet
   case rel => exact ⟨_, ((a0_7 == 0)), (by first | rfl | (simp; done) | (simp [*]; done)), H', ⟨by first | omega | exact Nat.le_refl _⟩, ⟨by (with_reducible repeat (first | refine zH ?_ _ | refine zI ?_ | refine zG ?_ _)); exact BK200.out⟩, ⟨by repeat (first | (with_reducible first | exact HB.out | apply zE | apply zC | apply zD | refine zF ?_ GE200.out) | exact HB.out)⟩⟩
  ·
   rw [if_neg c6] at H
   have c6b0 : (a0_6 == 0) = false := beq_eq_false_iff_ne.mpr c6
   have c6b1 : (a0_6 != 0) = true := bne_iff_ne.mpr c6
   (first | rw [c6b0] | (simp only [i64_w, i32_w]; rw [c6b0]) | skip)
   have H' := zJ H
   clear H
   have hcz8_0 : w4.cell? ⟨gb200, 0, none⟩ = some (.int .i64 a0_0) := (zB BK200.out 0).trans rfl
   have hcz8_1 : w4.cell? ⟨gb200, 1, none⟩ = some (.int .u64 a0_1) := (zB BK200.out 1).trans rfl
   have hcz8_2 : w4.cell? ⟨gb200, 2, none⟩ = some (.int .u64 a0_2) := (zB BK200.out 2).trans rfl
   have hcz8_3 : w4.cell? ⟨gb200, 3, none⟩ = some (.int .u64 a0_3) := (zB BK200.out 3).trans rfl
   have hcz8_4 : w4.cell? ⟨gb200, 4, none⟩ = some (.int .u64 a0_4) := (zB BK200.out 4).trans rfl
   have hcz8_5 : w4.cell? ⟨gb200, 5, none⟩ = some (.slice A0_5 l0_5.length c0_5) := (zB BK200.out 5).trans rfl
   have hcz8_6 : w4.cell? ⟨gb200, 6, none⟩ = some (.int .i64 a0_6) := (zB BK200.out 6).trans rfl
   have hcz8_7 : w4.cell? ⟨gb200, 7, none⟩ = some (.int .i64 a0_7) := (zB BK200.out 7).trans rfl
   have hfz8_0 := zA BK200.out 0
   have hfz8_1 := zA BK200.out 1
   have hfz8_2 := zA BK200.out 2
   have hfz8_3 := zA BK200.out 3
   have hfz8_4 := zA BK200.out 4
   have hfz8_5 := zA BK200.out 5
   have hfz8_6 := zA BK200.out 6
   have hfz8_7 := zA BK200.out 7
   go_wp2
   go_meet
   case rel => exact ⟨_, (false), (by first | rfl | (simp; done) | (simp [*]; done)), H', ⟨by first | omega | exact Nat.le_refl _⟩, ⟨by (with_reducible repeat (first | refine zH ?_ _ | refine zI ?_ | refine zG ?_ _)); exact BK200.out⟩, ⟨by repeat (first | (with_reducible first | exact HB.out | apply zE | apply zC | apply zD | refine zF ?_ GE200.out) | exact HB.out)⟩⟩
 case rest =>
  clear HC3
  (try clear c1); (try clear p2); (try clear c6); (try clear c6b0); (try clear c6b1); (try clear hcz5_0 hcz5_1 hcz5_2 hcz5_3 hcz5_4 hcz5_5 hcz5_6 hcz5_7); (try clear hcz7_0 hcz7_1 hcz7_2 hcz7_3 hcz7_4 hcz7_5 hcz7_6 hcz7_7); (try clear hcz8_0 hcz8_1 hcz8_2 hcz8_3 hcz8_4 hcz8_5 hcz8_6 hcz8_7); (try clear hfz5_0 hfz5_1 hfz5_2 hfz5_3 hfz5_4 hfz5_5 hfz5_6 hfz5_7); (try clear hfz7_0 hfz7_1 hfz7_2 hfz7_3 hfz7_4 hfz7_5 hfz7_6 hfz7_7); (try clear hfz8_0 hfz8_1 hfz8_2 hfz8_3 hfz8_4 hfz8_5 hfz8_6 hfz8_7)
  obtain ⟨kq, x4_2, rfl, HA, HJ2, BK200, HB⟩ := hcut
  cases kq with
  | zero => exact absurd HA.out (by simp [ostinatoref02_Formed.j0])
  | succ kj2 =>
   have H := HA.out
   clear HA
   simp only [ostinatoref02_Formed.j0] at H
   have HC9 := zJ H
   clear H
   have hcz10_0 : wc.cell? ⟨gb200, 0, none⟩ = some (.int .i64 a0_0) := (zB BK200.out 0).trans rfl
   have hcz10_1 : wc.cell? ⟨gb200, 1, none⟩ = some (.int .u64 a0_1) := (zB BK200.out 1).trans rfl
   have hcz10_2 : wc.cell? ⟨gb200, 2, none⟩ = some (.int .u64 a0_2) := (zB BK200.out 2).trans rfl
   have hcz10_3 : wc.cell? ⟨gb200, 3, none⟩ = some (.int .u64 a0_3) := (zB BK200.out 3).trans rfl
   have hcz10_4 : wc.cell? ⟨gb200, 4, none⟩ = some (.int .u64 a0_4) := (zB BK200.out 4).trans rfl
   have hcz10_5 : wc.cell? ⟨gb200, 5, none⟩ = some (.slice A0_5 l0_5.length c0_5) := (zB BK200.out 5).trans rfl
   have hcz10_6 : wc.cell? ⟨gb200, 6, none⟩ = some (.int .i64 a0_6) := (zB BK200.out 6).trans rfl
   have hcz10_7 : wc.cell? ⟨gb200, 7, none⟩ = some (.int .i64 a0_7) := (zB BK200.out 7).trans rfl
   have hfz10_0 := zA BK200.out 0
   have hfz10_1 := zA BK200.out 1
   have hfz10_2 := zA BK200.out 2
   have hfz10_3 := zA BK200.out 3
   have hfz10_4 := zA BK200.out 4
   have hfz10_5 := zA BK200.out 5
   have hfz10_6 := zA BK200.out 6
   have hfz10_7 := zA BK200.out 7
   go_upto_block 0 with (fail)
   go_cut [5] (fun v5 wc => ∃ (kq : Nat) (x5_8 : Bool), v5 = .bool x5_8 ∧ Aside0 (ostinatoref02_Formed.j2 kq x5_8 a0_0 a0_1 a0_2 a0_3 a0_4 l0_5 a0_6 a0_7 = some r) ∧ Aside0 (kq ≤ kj2) ∧ Aside0 (wc.heap[gb200]? = some (.cells #[.int .i64 a0_0, .int .u64 a0_1, .int .u64 a0_2, .int .u64 a0_3, .int .u64 a0_4, (.slice A0_5 l0_5.length c0_5), .int .i64 a0_6, .int .i64 a0_7] 27 (0, 0))) ∧ Aside0 (Below w.heap.size w wc))
   case first =>
    have H := HC9.out
    clear HC9
    by_cases c11 : a0_0 = 0
    ·
     rw [if_pos c11] at H
     have c11b0 : (a0_0 == 0) = true := beq_iff_eq.mpr c11
     have c11b1 : (a0_0 != 0) = false := bne_eq_false_iff_eq.mpr c11
     clear c11
     (first | rw [c11b0] | (simp only [i64_w, i32_w]; rw [c11b0]) | skip)
     by_cases c12 : bj2 = true
     ·
      subst c12
      have H1 : (if x4_2 = true then (ostinatoref02_Formed.j2 kj2 ((l0_5.length : Int) == 0) a0_0 a0_1 a0_2 a0_3 a0_4 l0_5 a0_6 a0_7) else (ostinatoref02_Formed.j2 kj2 false a0_0 a0_1 a0_2 a0_3 a0_4 l0_5 a0_6 a0_7)) = some r := by rw [if_pos rfl] at H; exact H
      clear H
      have H := H1
      clear H1
      by_cases c13 : x4_2 = true
      ·
       subst c13
       have H1 : (ostinatoref02_Formed.j2 kj2 ((l0_5.length : Int) == 0) a0_0 a0_1 a0_2 a0_3 a0_4 l0_5 a0_6 a0_7) = some r := by rw [if_pos rfl] at H; exact H
       clear H
       have H := H1
       clear H1
       have H' := zJ H
       clear H
       have hcz14_0 : wc.cell? ⟨gb200, 0, none⟩ = some (.int .i64 a0_0) := (zB BK200.out 0).trans rfl
       have hcz14_1 : wc.cell? ⟨gb200, 1, none⟩ = some (.int .u64 a0_1) := (zB BK200.out 1).trans rfl
       have hcz14_2 : wc.cell? ⟨gb200, 2, none⟩ = some (.int .u64 a0_2) := (zB BK200.out 2).trans rfl
       have hcz14_3 : wc.cell? ⟨gb200, 3, none⟩ = some (.int .u64 a0_3) := (zB BK200.out 3).trans rfl
       have hcz14_4 : wc.cell? ⟨gb200, 4, none⟩ = some (.int .u64 a0_4) := (zB BK200.out 4).trans rfl
       have hcz14_5 : wc.cell? ⟨gb200, 5, none⟩ = some (.slice A0_5 l0_5.length c0_5) := (zB BK200.out 5).trans rfl
       have hcz14_6 : wc.cell? ⟨gb200, 6, none⟩ = some (.int .i64 a0_6) := (zB BK200.out 6).trans rfl
       have hcz14_7 : wc.cell? ⟨gb200, 7, none⟩ = some (.int .i64 a0_7) := (zB BK200.out 7).trans rfl
       have hfz14_0 := zA BK200.out 0
       have hfz14_1 := zA BK200.out 1
       have hfz14_2 := zA BK200.out 2
       have hfz14_3 := zA BK200.out 3
       have hfz14_4 := zA BK200.out 4
       have hfz14_5 := zA BK200.out 5
       have hfz14_6 := zA BK200.out 6
       have hfz14_7 := zA BK200.out 7
       go_wp2
       go_meet
       case rel => exact ⟨_, (((l0_5.length : Int) == 0)), (by first | rfl | (simp; done) | (simp [*]; done)), H', ⟨by have := HJ2.out; first | omega | exact Nat.le_refl _⟩, ⟨by (with_reducible repeat (first | refine zH ?_ _ | refine zI ?_ | refine zG ?_ _)); exact BK200.out⟩, ⟨by repeat (first | (with_reducible first | exact HB.out | apply zE | apply zC | apply zD | refine zF ?_ GE200.out) | exact HB.out)⟩⟩
      ·
       replace c13 := Bool.eq_false_iff.mpr c13
       subst c13
       have H1 : (ostinatoref02_Formed.j2 kj2 false a0_0 a0_1 a0_2 a0_3 a0_4 l0_5 a0_6 a0_7) = some r := by rw [if_neg (show ¬ (false = true) by decide)] at H; exact H
       clear H
       have H := H1
       clear H1
       have H' := zJ H
       clear H
       go_wp2
       go_meet
       case rel => exact ⟨_, (false), (by first | rfl | (simp; done) | (simp [*]; done)), H', ⟨by have := HJ2.out; first | omega | exact Nat.le_refl _⟩, ⟨by (with_reducible repeat (first | refine zH ?_ _ | refine zI ?_ | refine zG ?_ _)); exact BK200.out⟩, ⟨by repeat (first | (with_reducible first | exact HB.out | apply zE | apply zC | apply zD | refine zF ?_ GE200.out) | exact HB.out)⟩⟩
     ·
      replace c12 := Bool.eq_false_iff.mpr c12
      subst c12
      have H1 : (ostinatoref02_Formed.j2 kj2 false a0_0 a0_1 a0_2 a0_3 a0_4 l0_5 a0_6 a0_7) = some r := by rw [if_neg (show ¬ (false = true) by decide)] at H; exact H
      clear H
      have H := H1
      clear H1
      have H' := zJ H
      clear H
      go_wp2
      go_meet
      case rel => exact ⟨_, (false), (by first | rfl | (simp; done) | (simp [*]; done)), H', ⟨by have := HJ2.out; first | omega | exact Nat.le_refl _⟩, ⟨by (with_reducible repeat (first | refine zH ?_ _ | refine zI ?_ | refine zG ?_ _)); exact BK200.out⟩, ⟨by repeat (first | (with_reducible first | exact HB.out | apply zE | apply zC | apply zD | refine zF ?_ GE200.out) | exact HB.out)⟩⟩
    ·
     rw [if_neg c11] at H
     have c11b0 : (a0_0 == 0) = false := beq_eq_false_iff_ne.mpr c11
     have c11b1 : (a0_0 != 0) = true := bne_iff_ne.mpr c11
     (first | rw [c11b0] | (simp only [i64_w, i32_w]; rw [c11b0]) | skip)
     by_cases c15 : a0_0 = 1
     ·
      rw [if_pos c15] at H
      have c15b0 : (a0_0 == 1) = true := beq_iff_eq.mpr c15
      have c15b1 : (a0_0 != 1) = false := bne_eq_false_iff_eq.mpr c15
      clear c15
      by_cases c16 : x4_2 = true
      ·
       subst c16
       have H1 : (ostinatoref02_Formed.j2 kj2 ((l0_5.length : Int) == 0) a0_0 a0_1 a0_2 a0_3 a0_4 l0_5 a0_6 a0_7) = some r := by rw [if_pos rfl] at H; exact H
       clear H
       have H := H1
       clear H1
       have H' := zJ H
       clear H
       have hcz17_0 : wc.cell? ⟨gb200, 0, none⟩ = some (.int .i64 a0_0) := (zB BK200.out 0).trans rfl
       have hcz17_1 : wc.cell? ⟨gb200, 1, none⟩ = some (.int .u64 a0_1) := (zB BK200.out 1).trans rfl
       have hcz17_2 : wc.cell? ⟨gb200, 2, none⟩ = some (.int .u64 a0_2) := (zB BK200.out 2).trans rfl
       have hcz17_3 : wc.cell? ⟨gb200, 3, none⟩ = some (.int .u64 a0_3) := (zB BK200.out 3).trans rfl
       have hcz17_4 : wc.cell? ⟨gb200, 4, none⟩ = some (.int .u64 a0_4) := (zB BK200.out 4).trans rfl
       have hcz17_5 : wc.cell? ⟨gb200, 5, none⟩ = some (.slice A0_5 l0_5.length c0_5) := (zB BK200.out 5).trans rfl
       have hcz17_6 : wc.cell? ⟨gb200, 6, none⟩ = some (.int .i64 a0_6) := (zB BK200.out 6).trans rfl
       have hcz17_7 : wc.cell? ⟨gb200, 7, none⟩ = some (.int .i64 a0_7) := (zB BK200.out 7).trans rfl
       have hfz17_0 := zA BK200.out 0
       have hfz17_1 := zA BK200.out 1
       have hfz17_2 := zA BK200.out 2
       have hfz17_3 := zA BK200.out 3
       have hfz17_4 := zA BK200.out 4
       have hfz17_5 := zA BK200.out 5
       have hfz17_6 := zA BK200.out 6
       have hfz17_7 := zA BK200.out 7
       go_wp2
       go_meet
       case rel => exact ⟨_, (((l0_5.length : Int) == 0)), (by first | rfl | (simp; done) | (simp [*]; done)), H', ⟨by have := HJ2.out; first | omega | exact Nat.le_refl _⟩, ⟨by (with_reducible repeat (first | refine zH ?_ _ | refine zI ?_ | refine zG ?_ _)); exact BK200.out⟩, ⟨by repeat (first | (with_reducible first | exact HB.out | apply zE | apply zC | apply zD | refine zF ?_ GE200.out) | exact HB.out)⟩⟩
      ·
       replace c16 := Bool.eq_false_iff.mpr c16
       subst c16
       have H1 : (ostinatoref02_Formed.j2 kj2 false a0_0 a0_1 a0_2 a0_3 a0_4 l0_5 a0_6 a0_7) = some r := by rw [if_neg (show ¬ (false = true) by decide)] at H; exact H
       clear H
       have H := H1
       clear H1
       have H' := zJ H
       clear H
       go_wp2
       go_meet
       case rel => exact ⟨_, (false), (by first | rfl | (simp; done) | (simp [*]; done)), H', ⟨by have := HJ2.out; first | omega | exact Nat.le_refl _⟩, ⟨by (with_reducible repeat (first | refine zH ?_ _ | refine zI ?_ | refine zG ?_ _)); exact BK200.out⟩, ⟨by repeat (first | (with_reducible first | exact HB.out | apply zE | apply zC | apply zD | refine zF ?_ GE200.out) | exact HB.out)⟩⟩
     ·
      rw [if_neg c15] at H
      have c15b0 : (a0_0 == 1) = false := beq_eq_false_iff_ne.mpr c15
      have c15b1 : (a0_0 != 1) = true := bne_iff_ne.mpr c15
      have HC18 := zJ H
      clear H
      go_upto_if 42 with (fail)
      go_cut [42] (fun v42 wc => ∃ (kq : Nat) (x42_17 : Bool), v42 = .bool x42_17 ∧ Aside0 (ostinatoref02_Formed.j1 kq bj2 x4_2 false a0_0 x42_17 a0_0 a0_1 a0_2 a0_3 a0_4 l0_5 a0_6 a0_7 = some r) ∧ Aside0 (kq ≤ kj2) ∧ Aside0 (wc.heap[gb200]? = some (.cells #[.int .i64 a0_0, .int .u64 a0_1, .int .u64 a0_2, .int .u64 a0_3, .int .u64 a0_4, (.slice A0_5 l0_5.length c0_5), .int .i64 a0_6, .int .i64 a0_7] 27 (0, 0))) ∧ Aside0 (Below w.heap.size w wc))
      case first =>
       have H := HC18.out
       clear HC18
       by_cases c19 : a0_0 = 2
       ·
        rw [if_pos c19] at H
        have c19b0 : (a0_0 == 2) = true := beq_iff_eq.mpr c19
        have c19b1 : (a0_0 != 2) = false := bne_eq_false_iff_eq.mpr c19
        clear c19
        (first | rw [c19b0] | (simp only [i64_w, i32_w]; rw [c19b0]) | skip)
        have H' := zJ H
        clear H
        go_wp2
        go_meet
        case rel => exact ⟨_, ((a0_0 == 2)), (by first | rfl | (simp; done) | (simp [*]; done)), H', ⟨by have := HJ2.out; first | omega | exact Nat.le_refl _⟩, ⟨by (with_reducible repeat (first | refine zH ?_ _ | refine zI ?_ | refine zG ?_ _)); exact BK200.out⟩, ⟨by repeat (first | (with_reducible first | exact HB.out | apply zE | apply zC | apply zD | refine zF ?_ GE200.out) | exact HB.out)⟩⟩
       ·
        rw [if_neg c19] at H
        have c19b0 : (a0_0 == 2) = false := beq_eq_false_iff_ne.mpr c19
        have c19b1 : (a0_0 != 2) = true := bne_iff_ne.mpr c19
        (first | rw [c19b0] | (simp only [i64_w, i32_w]; rw [c19b0]) | skip)
        have H' := zJ H
        clear H
        go_wp2
        go_meet
        case rel => exact ⟨_, ((a0_0 == 3)), (by first | rfl | (simp; done) | (simp [*]; done)), H', ⟨by have := HJ2.out; first | omega | exact Nat.le_refl _⟩, ⟨by (with_reducible repeat (first | refine zH ?_ _ | refine zI ?_ | refine zG ?_ _)); exact BK200.out⟩, ⟨by repeat (first | (with_reducible first | exact HB.out | apply zE | apply zC | apply zD | refine zF ?_ GE200.out) | exact HB.out)⟩⟩
      case rest =>
       clear HC18
       (try clear c1); (try clear p2 p2); (try clear c6); (try clear c6b0); (try clear c6b1); (try clear c11); (try clear c11b0); (try clear c11b1); (try clear c12); (try clear c13); (try clear c15); (try clear c15b0); (try clear c15b1); (try clear c16); (try clear c19); (try clear c19b0); (try clear c19b1); (try clear hcz10_0 hcz10_1 hcz10_2 hcz10_3 hcz10_4 hcz10_5 hcz10_6 hcz10_7); (try clear hcz14_0 hcz14_1 hcz14_2 hcz14_3 hcz14_4 hcz14_5 hcz14_6 hcz14_7); (try clear hcz17_0 hcz17_1 hcz17_2 hcz17_3 hcz17_4 hcz17_5 hcz17_6 hcz17_7); (try clear hcz5_0 hcz5_1 hcz5_2 hcz5_3 hcz5_4 hcz5_5 hcz5_6 hcz5_7); (try clear hcz7_0 hcz7_1 hcz7_2 hcz7_3 hcz7_4 hcz7_5 hcz7_6 hcz7_7); (try clear hcz8_0 hcz8_1 hcz8_2 hcz8_3 hcz8_4 hcz8_5 hcz8_6 hcz8_7); (try clear hfz10_0 hfz10_1 hfz10_2 hfz10_3 hfz10_4 hfz10_5 hfz10_6 hfz10_7); (try clear hfz14_0 hfz14_1 hfz14_2 hfz14_3 hfz14_4 hfz14_5 hfz14_6 hfz14_7); (try clear hfz17_0 hfz17_1 hfz17_2 hfz17_3 hfz17_4 hfz17_5 hfz17_6 hfz17_7); (try clear hfz5_0 hfz5_1 hfz5_2 hfz5_3 hfz5_4 hfz5_5 hfz5_6 hfz5_7); (try clear hfz7_0 hfz7_1 hfz7_2 hfz7_3 hfz7_4 hfz7_5 hfz7_6 hfz7_7); (try clear hfz8_0 hfz8_1 hfz8_2 hfz8_3 hfz8_4 hfz8_5 hfz8_6 hfz8_7)
       obtain ⟨kq, x42_17, rfl, HA, HJ17, BK200, HB⟩ := hcut
       cases kq with
       | zero => exact absurd HA.out (by simp [ostinatoref02_Formed.j1])
       | succ kj17 =>
        have H := HA.out
        clear HA
        simp only [ostinatoref02_Formed.j1] at H
        by_cases c20 : x42_17 = true
        ·
         subst c20
         have H1 : (if bj2 = true then (if x4_2 = true then (ostinatoref02_Formed.j2 kj17 (decide ((l0_5.length : Int) > 1)) a0_0 a0_1 a0_2 a0_3 a0_4 l0_5 a0_6 a0_7) else (ostinatoref02_Formed.j2 kj17 false a0_0 a0_1 a0_2 a0_3 a0_4 l0_5 a0_6 a0_7)) else (ostinatoref02_Formed.j2 kj17 false a0_0 a0_1 a0_2 a0_3 a0_4 l0_5 a0_6 a0_7)) = some r := by rw [if_pos rfl] at H; exact H
         clear H
         have H := H1
         clear H1
         by_cases c21 : bj2 = true
         ·
          subst c21
          have H1 : (if x4_2 = true then (ostinatoref02_Formed.j2 kj17 (decide ((l0_5.length : Int) > 1)) a0_0 a0_1 a0_2 a0_3 a0_4 l0_5 a0_6 a0_7) else (ostinatoref02_Formed.j2 kj17 false a0_0 a0_1 a0_2 a0_3 a0_4 l0_5 a0_6 a0_7)) = some r := by rw [if_pos rfl] at H; exact H
          clear H
          have H := H1
          clear H1
          by_cases c22 : x4_2 = true
          ·
           subst c22
           have H1 : (ostinatoref02_Formed.j2 kj17 (decide ((l0_5.length : Int) > 1)) a0_0 a0_1 a0_2 a0_3 a0_4 l0_5 a0_6 a0_7) = some r := by rw [if_pos rfl] at H; exact H
           clear H
           have H := H1
           clear H1
           have H' := zJ H
           clear H
           have hcz23_0 : wc.cell? ⟨gb200, 0, none⟩ = some (.int .i64 a0_0) := (zB BK200.out 0).trans rfl
           have hcz23_1 : wc.cell? ⟨gb200, 1, none⟩ = some (.int .u64 a0_1) := (zB BK200.out 1).trans rfl
           have hcz23_2 : wc.cell? ⟨gb200, 2, none⟩ = some (.int .u64 a0_2) := (zB BK200.out 2).trans rfl
           have hcz23_3 : wc.cell? ⟨gb200, 3, none⟩ = some (.int .u64 a0_3) := (zB BK200.out 3).trans rfl
           have hcz23_4 : wc.cell? ⟨gb200, 4, none⟩ = some (.int .u64 a0_4) := (zB BK200.out 4).trans rfl
           have hcz23_5 : wc.cell? ⟨gb200, 5, none⟩ = some (.slice A0_5 l0_5.length c0_5) := (zB BK200.out 5).trans rfl
           have hcz23_6 : wc.cell? ⟨gb200, 6, none⟩ = some (.int .i64 a0_6) := (zB BK200.out 6).trans rfl
           have hcz23_7 : wc.cell? ⟨gb200, 7, none⟩ = some (.int .i64 a0_7) := (zB BK200.out 7).trans rfl
           have hfz23_0 := zA BK200.out 0
           have hfz23_1 := zA BK200.out 1
           have hfz23_2 := zA BK200.out 2
           have hfz23_3 := zA BK200.out 3
           have hfz23_4 := zA BK200.out 4
           have hfz23_5 := zA BK200.out 5
           have hfz23_6 := zA BK200.out 6
           have hfz23_7 := zA BK200.out 7
           go_wp2
           go_meet
           case rel => exact ⟨_, (decide ((l0_5.length : Int) > 1)), (by first | rfl | (simp; done) | (simp [*]; done)), H', ⟨by have := HJ2.out; have := HJ17.out; first | omega | exact Nat.le_refl _⟩, ⟨by (with_reducible repeat (first | refine zH ?_ _ | refine zI ?_ | refine zG ?_ _)); exact BK200.out⟩, ⟨by repeat (first | (with_reducible first | exact HB.out | apply zE | apply zC | apply zD | refine zF ?_ GE200.out) | exact HB.out)⟩⟩
          ·
           replace c22 := Bool.eq_false_iff.mpr c22
           subst c22
           have H1 : (ostinatoref02_Formed.j2 kj17 false a0_0 a0_1 a0_2 a0_3 a0_4 l0_5 a0_6 a0_7) = some r := by rw [if_neg (show ¬ (false = true) by decide)] at H; exact H
           clear H
           have H := H1
           clear H1
           have H' := zJ H
           clear H
           go_wp2
           go_meet
           case rel => exact ⟨_, (false), (by first | rfl | (simp; done) | (simp [*]; done)), H', ⟨by have := HJ2.out; have := HJ17.out; first | omega | exact Nat.le_refl _⟩, ⟨by (with_reducible repeat (first | refine zH ?_ _ | refine zI ?_ | refine zG ?_ _)); exact BK200.out⟩, ⟨by repeat (first | (with_reducible first | exact HB.out | apply zE | apply zC | apply zD | refine zF ?_ GE200.out) | exact HB.out)⟩⟩
         ·
          replace c21 := Bool.eq_false_iff.mpr c21
          subst c21
          have H1 : (ostinatoref02_Formed.j2 kj17 false a0_0 a0_1 a0_2 a0_3 a0_4 l0_5 a0_6 a0_7) = some r := by rw [if_neg (show ¬ (false = true) by decide)] at H; exact H
          clear H
          have H := H1
          clear H1
          have H' := zJ H
          clear H
          go_wp2
          go_meet
          case rel => exact ⟨_, (false), (by first | rfl | (simp; done) | (simp [*]; done)), H', ⟨by have := HJ2.out; have := HJ17.out; first | omega | exact Nat.le_refl _⟩, ⟨by (with_reducible repeat (first | refine zH ?_ _ | refine zI ?_ | refine zG ?_ _)); exact BK200.out⟩, ⟨by repeat (first | (with_reducible first | exact HB.out | apply zE | apply zC | apply zD | refine zF ?_ GE200.out) | exact HB.out)⟩⟩
        ·
         replace c20 := Bool.eq_false_iff.mpr c20
         subst c20
         have H1 : (if a0_0 = 4 then (if bj2 = true then (if (l0_5.length : Int) = 1 then (if a0_6 ≥ 0 then (if a0_6 ≤ 2147483647 then (if a0_7 ≤ 2147483647 then (if a0_7 = (-1) then (ostinatoref02_Formed.j2 kj17 true a0_0 a0_1 a0_2 a0_3 a0_4 l0_5 a0_6 a0_7) else (ostinatoref02_Formed.j2 kj17 (decide (a0_7 ≥ a0_6)) a0_0 a0_1 a0_2 a0_3 a0_4 l0_5 a0_6 a0_7)) else (ostinatoref02_Formed.j2 kj17 false a0_0 a0_1 a0_2 a0_3 a0_4 l0_5 a0_6 a0_7)) else (ostinatoref02_Formed.j2 kj17 false a0_0 a0_1 a0_2 a0_3 a0_4 l0_5 a0_6 a0_7)) else (ostinatoref02_Formed.j2 kj17 false a0_0 a0_1 a0_2 a0_3 a0_4 l0_5 a0_6 a0_7)) else (ostinatoref02_Formed.j2 kj17 false a0_0 a0_1 a0_2 a0_3 a0_4 l0_5 a0_6 a0_7)) else (ostinatoref02_Formed.j2 kj17 false a0_0 a0_1 a0_2 a0_3 a0_4 l0_5 a0_6 a0_7)) else (ostinatoref02_Formed.j2 kj17 false a0_0 a0_1 a0_2 a0_3 a0_4 l0_5 a0_6 a0_7)) = some r := by rw [if_neg (show ¬ (false = true) by decide)] at H; exact H
         clear H
         have H := H1
         clear H1
         by_cases c24 : a0_0 = 4
         ·
          rw [if_pos c24] at H
          have c24b0 : (a0_0 == 4) = true := beq_iff_eq.mpr c24
          have c24b1 : (a0_0 != 4) = false := bne_eq_false_iff_eq.mpr c24
          clear c24
          by_cases c25 : bj2 = true
          ·
           subst c25
           have H1 : (if (l0_5.length : Int) = 1 then (if a0_6 ≥ 0 then (if a0_6 ≤ 2147483647 then (if a0_7 ≤ 2147483647 then (if a0_7 = (-1) then (ostinatoref02_Formed.j2 kj17 true a0_0 a0_1 a0_2 a0_3 a0_4 l0_5 a0_6 a0_7) else (ostinatoref02_Formed.j2 kj17 (decide (a0_7 ≥ a0_6)) a0_0 a0_1 a0_2 a0_3 a0_4 l0_5 a0_6 a0_7)) else (ostinatoref02_Formed.j2 kj17 false a0_0 a0_1 a0_2 a0_3 a0_4 l0_5 a0_6 a0_7)) else (ostinatoref02_Formed.j2 kj17 false a0_0 a0_1 a0_2 a0_3 a0_4 l0_5 a0_6 a0_7)) else (ostinatoref02_Formed.j2 kj17 false a0_0 a0_1 a0_2 a0_3 a0_4 l0_5 a0_6 a0_7)) else (ostinatoref02_Formed.j2 kj17 false a0_0 a0_1 a0_2 a0_3 a0_4 l0_5 a0_6 a0_7)) = some r := by rw [if_pos rfl] at H; exact H
           clear H
           have H := H1
           clear H1
           by_cases c26 : (l0_5.length : Int) = 1
           ·
            rw [if_pos c26] at H
            have c26b0 : ((l0_5.length : Int) == 1) = true := beq_iff_eq.mpr c26
            have c26b1 : ((l0_5.length : Int) != 1) = false := bne_eq_false_iff_eq.mpr c26
            clear c26
            by_cases c27 : a0_6 ≥ 0
            ·
             rw [if_pos c27] at H
             have c27b0 : decide (0 ≤ a0_6) = true := decide_eq_true c27
             clear c27
             by_cases c28 : a0_6 ≤ 2147483647
             ·
              rw [if_pos c28] at H
              have c28b0 : decide (a0_6 ≤ 2147483647) = true := decide_eq_true c28
              clear c28
              by_cases c29 : a0_7 ≤ 2147483647
              ·
               rw [if_pos c29] at H
               have c29b0 : decide (a0_7 ≤ 2147483647) = true := decide_eq_true c29
               clear c29
               by_cases c30 : a0_7 = (-1)
               ·
                rw [if_pos c30] at H
                have c30b0 : (a0_7 == (-1)) = true := beq_iff_eq.mpr c30
                have c30b1 : (a0_7 != (-1)) = false := bne_eq_false_iff_eq.mpr c30
                clear c30
                have H' := zJ H
                clear H
                have hcz31_0 : wc.cell? ⟨gb200, 0, none⟩ = some (.int .i64 a0_0) := (zB BK200.out 0).trans rfl
                have hcz31_1 : wc.cell? ⟨gb200, 1, none⟩ = some (.int .u64 a0_1) := (zB BK200.out 1).trans rfl
                have hcz31_2 : wc.cell? ⟨gb200, 2, none⟩ = some (.int .u64 a0_2) := (zB BK200.out 2).trans rfl
                have hcz31_3 : wc.cell? ⟨gb200, 3, none⟩ = some (.int .u64 a0_3) := (zB BK200.out 3).trans rfl
                have hcz31_4 : wc.cell? ⟨gb200, 4, none⟩ = some (.int .u64 a0_4) := (zB BK200.out 4).trans rfl
                have hcz31_5 : wc.cell? ⟨gb200, 5, none⟩ = some (.slice A0_5 l0_5.length c0_5) := (zB BK200.out 5).trans rfl
                have hcz31_6 : wc.cell? ⟨gb200, 6, none⟩ = some (.int .i64 a0_6) := (zB BK200.out 6).trans rfl
                have hcz31_7 : wc.cell? ⟨gb200, 7, none⟩ = some (.int .i64 a0_7) := (zB BK200.out 7).trans rfl
                have hfz31_0 := zA BK200.out 0
                have hfz31_1 := zA BK200.out 1
                have hfz31_2 := zA BK200.out 2
                have hfz31_3 := zA BK200.out 3
                have hfz31_4 := zA BK200.out 4
                have hfz31_5 := zA BK200.out 5
                have hfz31_6 := zA BK200.out 6
                have hfz31_7 := zA BK200.out 7
                go_wp2
                go_meet
                case rel => exact ⟨_, (true), (by first | rfl | (simp; done) | (simp [*]; done)), H', ⟨by have := HJ2.out; have := HJ17.out; first | omega | exact Nat.le_refl _⟩, ⟨by (with_reducible repeat (first | refine zH ?_ _ | refine zI ?_ | refine zG ?_ _)); exact BK200.out⟩, ⟨by repeat (first | (with_reducible first | exact HB.out | apply zE | apply zC | apply zD | refine zF ?_ GE200.out) | exact HB.out)⟩⟩
               ·
                rw [if_neg c30] at H
                have c30b0 : (a0_7 == (-1)) = false := beq_eq_false_iff_ne.mpr c30
                have c30b1 : (a0_7 != (-1)) = true := bne_iff_ne.mpr c30
                have H' := zJ H
                clear H
                have hcz32_0 : wc.cell? ⟨gb200, 0, none⟩ = some (.int .i64 a0_0) := (zB BK200.out 0).trans rfl
                have hcz32_1 : wc.cell? ⟨gb200, 1, none⟩ = some (.int .u64 a0_1) := (zB BK200.out 1).trans rfl
                have hcz32_2 : wc.cell? ⟨gb200, 2, none⟩ = some (.int .u64 a0_2) := (zB BK200.out 2).trans rfl
                have hcz32_3 : wc.cell? ⟨gb200, 3, none⟩ = some (.int .u64 a0_3) := (zB BK200.out 3).trans rfl
                have hcz32_4 : wc.cell? ⟨gb200, 4, none⟩ = some (.int .u64 a0_4) := (zB BK200.out 4).trans rfl
                have hcz32_5 : wc.cell? ⟨gb200, 5, none⟩ = some (.slice A0_5 l0_5.length c0_5) := (zB BK200.out 5).trans rfl
                have hcz32_6 : wc.cell? ⟨gb200, 6, none⟩ = some (.int .i64 a0_6) := (zB BK200.out 6).trans rfl
                have hcz32_7 : wc.cell? ⟨gb200, 7, none⟩ = some (.int .i64 a0_7) := (zB BK200.out 7).trans rfl
                have hfz32_0 := zA BK200.out 0
                have hfz32_1 := zA BK200.out 1
                have hfz32_2 := zA BK200.out 2
                have hfz32_3 := zA BK200.out 3
                have hfz32_4 := zA BK200.out 4
                have hfz32_5 := zA BK200.out 5
                have hfz32_6 := zA BK200.out 6
                have hfz32_7 := zA BK200.out 7
                go_wp2
                go_meet
                case rel => exact ⟨_, (decide (a0_7 ≥ a0_6)), (by first | rfl | (simp; done) | (simp [*]; done)), H', ⟨by have := HJ2.out; have := HJ17.out; first | omega | exact Nat.le_refl _⟩, ⟨by (with_reducible repeat (first | refine zH ?_ _ | refine zI ?_ | refine zG ?_ _)); exact BK200.out⟩, ⟨by repeat (first | (with_reducible first | exact HB.out | apply zE | apply zC | apply zD | refine zF ?_ GE200.out) | exact HB.out)⟩⟩
              ·
               rw [if_neg c29] at H
               have c29b0 : decide (a0_7 ≤ 2147483647) = false := decide_eq_false c29
               clear c29
               have H' := zJ H
               clear H
               have hcz33_0 : wc.cell? ⟨gb200, 0, none⟩ = some (.int .i64 a0_0) := (zB BK200.out 0).trans rfl
               have hcz33_1 : wc.cell? ⟨gb200, 1, none⟩ = some (.int .u64 a0_1) := (zB BK200.out 1).trans rfl
               have hcz33_2 : wc.cell? ⟨gb200, 2, none⟩ = some (.int .u64 a0_2) := (zB BK200.out 2).trans rfl
               have hcz33_3 : wc.cell? ⟨gb200, 3, none⟩ = some (.int .u64 a0_3) := (zB BK200.out 3).trans rfl
               have hcz33_4 : wc.cell? ⟨gb200, 4, none⟩ = some (.int .u64 a0_4) := (zB BK200.out 4).trans rfl
               have hcz33_5 : wc.cell? ⟨gb200, 5, none⟩ = some (.slice A0_5 l0_5.length c0_5) := (zB BK200.out 5).trans rfl
               have hcz33_6 : wc.cell? ⟨gb200, 6, none⟩ = some (.int .i64 a0_6) := (zB BK200.out 6).trans rfl
               have hcz33_7 : wc.cell? ⟨gb200, 7, none⟩ = some (.int .i64 a0_7) := (zB BK200.out 7).trans rfl
               have hfz33_0 := zA BK200.out 0
               have hfz33_1 := zA BK200.out 1
               have hfz33_2 := zA BK200.out 2
               have hfz33_3 := zA BK200.out 3
               have hfz33_4 := zA BK200.out 4
               have hfz33_5 := zA BK200.out 5
               have hfz33_6 := zA BK200.out 6
               have hfz33_7 := zA BK200.out 7
               go_wp2
               go_meet
               case rel => exact ⟨_, (false), (by first | rfl | (simp; done) | (simp [*]; done)), H', ⟨by have := HJ2.out; have := HJ17.out; first | omega | exact Nat.le_refl _⟩, ⟨by (with_reducible repeat (first | refine zH ?_ _ | refine zI ?_ | refine zG ?_ _)); exact BK200.out⟩, ⟨by repeat (first | (with_reducible first | exact HB.out | apply zE | apply zC | apply zD | refine zF ?_ GE200.out) | exact HB.out)⟩⟩
             ·
              rw [if_neg c28] at H
              have c28b0 : decide (a0_6 ≤ 2147483647) = false := decide_eq_false c28
              clear c28
              have H' := zJ H
              clear H
              have hcz34_0 : wc.cell? ⟨gb200, 0, none⟩ = some (.int .i64 a0_0) := (zB BK200.out 0).trans rfl
              have hcz34_1 : wc.cell? ⟨gb200, 1, none⟩ = some (.int .u64 a0_1) := (zB BK200.out 1).trans rfl
              have hcz34_2 : wc.cell? ⟨gb200, 2, none⟩ = some (.int .u64 a0_2) := (zB BK200.out 2).trans rfl
              have hcz34_3 : wc.cell? ⟨gb200, 3, none⟩ = some (.int .u64 a0_3) := (zB BK200.out 3).trans rfl
              have hcz34_4 : wc.cell? ⟨gb200, 4, none⟩ = some (.int .u64 a0_4) := (zB BK200.out 4).trans rfl
              have hcz34_5 : wc.cell? ⟨gb200, 5, none⟩ = some (.slice A0_5 l0_5.length c0_5) := (zB BK200.out 5).trans rfl
              have hcz34_6 : wc.cell? ⟨gb200, 6, none⟩ = some (.int .i64 a0_6) := (zB BK200.out 6).trans rfl
              have hcz34_7 : wc.cell? ⟨gb200, 7, none⟩ = some (.int .i64 a0_7) := (zB BK200.out 7).trans rfl
              have hfz34_0 := zA BK200.out 0
              have hfz34_1 := zA BK200.out 1
              have hfz34_2 := zA BK200.out 2
              have hfz34_3 := zA BK200.out 3
              have hfz34_4 := zA BK200.out 4
              have hfz34_5 := zA BK200.out 5
              have hfz34_6 := zA BK200.out 6
              have hfz34_7 := zA BK200.out 7
              go_wp2
              go_meet
              case rel => exact ⟨_, (false), (by first | rfl | (simp; done) | (simp [*]; done)), H', ⟨by have := HJ2.out; have := HJ17.out; first | omega | exact Nat.le_refl _⟩, ⟨by (with_reducible repeat (first | refine zH ?_ _ | refine zI ?_ | refine zG ?_ _)); exact BK200.out⟩, ⟨by repeat (first | (with_reducible first | exact HB.out | apply zE | apply zC | apply zD | refine zF ?_ GE200.out) | exact HB.out)⟩⟩
            ·
             rw [if_neg c27] at H
             have c27b0 : decide (0 ≤ a0_6) = false := decide_eq_false c27
             clear c27
             have H' := zJ H
             clear H
             have hcz35_0 : wc.cell? ⟨gb200, 0, none⟩ = some (.int .i64 a0_0) := (zB BK200.out 0).trans rfl
             have hcz35_1 : wc.cell? ⟨gb200, 1, none⟩ = some (.int .u64 a0_1) := (zB BK200.out 1).trans rfl
             have hcz35_2 : wc.cell? ⟨gb200, 2, none⟩ = some (.int .u64 a0_2) := (zB BK200.out 2).trans rfl
             have hcz35_3 : wc.cell? ⟨gb200, 3, none⟩ = some (.int .u64 a0_3) := (zB BK200.out 3).trans rfl
             have hcz35_4 : wc.cell? ⟨gb200, 4, none⟩ = some (.int .u64 a0_4) := (zB BK200.out 4).trans rfl
             have hcz35_5 : wc.cell? ⟨gb200, 5, none⟩ = some (.slice A0_5 l0_5.length c0_5) := (zB BK200.out 5).trans rfl
             have hcz35_6 : wc.cell? ⟨gb200, 6, none⟩ = some (.int .i64 a0_6) := (zB BK200.out 6).trans rfl
             have hcz35_7 : wc.cell? ⟨gb200, 7, none⟩ = some (.int .i64 a0_7) := (zB BK200.out 7).trans rfl
             have hfz35_0 := zA BK200.out 0
             have hfz35_1 := zA BK200.out 1
             have hfz35_2 := zA BK200.out 2
             have hfz35_3 := zA BK200.out 3
             have hfz35_4 := zA BK200.out 4
             have hfz35_5 := zA BK200.out 5
             have hfz35_6 := zA BK200.out 6
             have hfz35_7 := zA BK200.out 7
             go_wp2
             go_meet
             case rel => exact ⟨_, (false), (by first | rfl | (simp; done) | (simp [*]; done)), H', ⟨by have := HJ2.out; have := HJ17.out; first | omega | exact Nat.le_refl _⟩, ⟨by (with_reducible repeat (first | refine zH ?_ _ | refine zI ?_ | refine zG ?_ _)); exact BK200.out⟩, ⟨by repeat (first | (with_reducible first | exact HB.out | apply zE | apply zC | apply zD | refine zF ?_ GE200.out) | exact HB.out)⟩⟩
           ·
            rw [if_neg c26] at H
            have c26b0 : ((l0_5.length : Int) == 1) = false := beq_eq_false_iff_ne.mpr c26
            have c26b1 : ((l0_5.length : Int) != 1) = true := bne_iff_ne.mpr c26
            have H' := zJ H
            clear H
            have hcz36_0 : wc.cell? ⟨gb200, 0, none⟩ = some (.int .i64 a0_0) := (zB BK200.out 0).trans rfl
            have hcz36_1 : wc.cell? ⟨gb200, 1, none⟩ = some (.int .u64 a0_1) := (zB BK200.out 1).trans rfl
            have hcz36_2 : wc.cell? ⟨gb200, 2, none⟩ = some (.int .u64 a0_2) := (zB BK200.out 2).trans rfl
            have hcz36_3 : wc.cell? ⟨gb200, 3, none⟩ = some (.int .u64 a0_3) := (zB BK200.out 3).trans rfl
            have hcz36_4 : wc.cell? ⟨gb200, 4, none⟩ = some (.int .u64 a0_4) := (zB BK200.out 4).trans rfl
            have hcz36_5 : wc.cell? ⟨gb200, 5, none⟩ = some (.slice A0_5 l0_5.length c0_5) := (zB BK200.out 5).trans rfl
            have hcz36_6 : wc.cell? ⟨gb200, 6, none⟩ = some (.int .i64 a0_6) := (zB BK200.out 6).trans rfl
            have hcz36_7 : wc.cell? ⟨gb200, 7, none⟩ = some (.int .i64 a0_7) := (zB BK200.out 7).trans rfl
            have hfz36_0 := zA BK200.out 0
            have hfz36_1 := zA BK200.out 1
            have hfz36_2 := zA BK200.out 2
            have hfz36_3 := zA BK200.out 3
            have hfz36_4 := zA BK200.out 4
            have hfz36_5 := zA BK200.out 5
            have hfz36_6 := zA BK200.out 6
            have hfz36_7 := zA BK200.out 7
            go_wp2
            go_meet
            case rel => exact ⟨_, (false), (by first | rfl | (simp; done) | (simp [*]; done)), H', ⟨by have := HJ2.out; have := HJ17.out; first | omega | exact Nat.le_refl _⟩, ⟨by (with_reducible repeat (first | refine zH ?_ _ | refine zI ?_ | refine zG ?_ _)); exact BK200.out⟩, ⟨by repeat (first | (with_reducible first | exact HB.out | apply zE | apply zC | apply zD | refine zF ?_ GE200.out) | exact HB.out)⟩⟩
          ·
           replace c25 := Bool.eq_false_iff.mpr c25
           subst c25
           have H1 : (ostinatoref02_Formed.j2 kj17 false a0_0 a0_1 a0_2 a0_3 a0_4 l0_5 a0_6 a0_7) = some r := by rw [if_neg (show ¬ (false = true) by decide)] at H; exact H
           clear H
           have H := H1
           clear H1
           have H' := zJ H
           clear H
           go_wp2
           go_meet
           case rel => exact ⟨_, (false), (by first | rfl | (simp; done) | (simp [*]; done)), H', ⟨by have := HJ2.out; have := HJ17.out; first | omega | exact Nat.le_refl _⟩, ⟨by (with_reducible repeat (first | refine zH ?_ _ | refine zI ?_ | refine zG ?_ _)); exact BK200.out⟩, ⟨by repeat (first | (with_reducible first | exact HB.out | apply zE | apply zC | apply zD | refine zF ?_ GE200.out) | exact HB.out)⟩⟩
         ·
          rw [if_neg c24] at H
          have c24b0 : (a0_0 == 4) = false := beq_eq_false_iff_ne.mpr c24
          have c24b1 : (a0_0 != 4) = true := bne_iff_ne.mpr c24
          have H' := zJ H
          clear H
          go_wp2
          go_meet
          case rel => exact ⟨_, (false), (by first | rfl | (simp; done) | (simp [*]; done)), H', ⟨by have := HJ2.out; have := HJ17.out; first | omega | exact Nat.le_refl _⟩, ⟨by (with_reducible repeat (first | refine zH ?_ _ | refine zI ?_ | refine zG ?_ _)); exact BK200.out⟩, ⟨by repeat (first | (with_reducible first | exact HB.out | apply zE | apply zC | apply zD | refine zF ?_ GE200.out) | exact HB.out)⟩⟩
   case rest =>
    clear HC9
    (try clear c1); (try clear c2); (try clear p2 p2); (try clear c3); (try clear c6); (try clear c6b0); (try clear c6b1); (try clear c11); (try clear c11b0); (try clear c11b1); (try clear c12); (try clear c13); (try clear c15); (try clear c15b0); (try clear c15b1); (try clear c16); (try clear c19); (try clear c19b0); (try clear c19b1); (try clear c20); (try clear c21); (try clear c22); (try clear c24); (try clear c24b0); (try clear c24b1); (try clear c25); (try clear c26); (try clear c26b0); (try clear c26b1); (try clear c27); (try clear c27b0); (try clear c28); (try clear c28b0); (try clear c29); (try clear c29b0); (try clear c30); (try clear c30b0); (try clear c30b1); (try clear hcz10_0 hcz10_1 hcz10_2 hcz10_3 hcz10_4 hcz10_5 hcz10_6 hcz10_7); (try clear hcz14_0 hcz14_1 hcz14_2 hcz14_3 hcz14_4 hcz14_5 hcz14_6 hcz14_7); (try clear hcz17_0 hcz17_1 hcz17_2 hcz17_3 hcz17_4 hcz17_5 hcz17_6 hcz17_7); (try clear hcz23_0 hcz23_1 hcz23_2 hcz23_3 hcz23_4 hcz23_5 hcz23_6 hcz23_7); (try clear hcz31_0 hcz31_1 hcz31_2 hcz31_3 hcz31_4 hcz31_5 hcz31_6 hcz31_7); (try clear hcz32_0 hcz32_1 hcz32_2 hcz32_3 hcz32_4 hcz32_5 hcz32_6 hcz32_7); (try clear hcz33_0 hcz33_1 hcz33_2 hcz33_3 hcz33_4 hcz33_5 hcz33_6 hcz33_7); (try clear hcz34_0 hcz34_1 hcz34_2 hcz34_3 hcz34_4 hcz34_5 hcz34_6 hcz34_7); (try clear hcz35_0 hcz35_1 hcz35_2 hcz35_3 hcz35_4 hcz35_5 hcz35_6 hcz35_7); (try clear hcz36_0 hcz36_1 hcz36_2 hcz36_3 hcz36_4 hcz36_5 hcz36_6 hcz36_7); (try clear hcz5_0 hcz5_1 hcz5_2 hcz5_3 hcz5_4 hcz5_5 hcz5_6 hcz5_7); (try clear hcz7_0 hcz7_1 hcz7_2 hcz7_3 hcz7_4 hcz7_5 hcz7_6 hcz7_7); (try clear hcz8_0 hcz8_1 hcz8_2 hcz8_3 hcz8_4 hcz8_5 hcz8_6 hcz8_7); (try clear hfz10_0 hfz10_1 hfz10_2 hfz10_3 hfz10_4 hfz10_5 hfz10_6 hfz10_7); (try clear hfz14_0 hfz14_1 hfz14_2 hfz14_3 hfz14_4 hfz14_5 hfz14_6 hfz14_7); (try clear hfz17_0 hfz17_1 hfz17_2 hfz17_3 hfz17_4 hfz17_5 hfz17_6 hfz17_7); (try clear hfz23_0 hfz23_1 hfz23_2 hfz23_3 hfz23_4 hfz23_5 hfz23_6 hfz23_7); (try clear hfz31_0 hfz31_1 hfz31_2 hfz31_3 hfz31_4 hfz31_5 hfz31_6 hfz31_7); (try clear hfz32_0 hfz32_1 hfz32_2 hfz32_3 hfz32_4 hfz32_5 hfz32_6 hfz32_7); (try clear hfz33_0 hfz33_1 hfz33_2 hfz33_3 hfz33_4 hfz33_5 hfz33_6 hfz33_7); (try clear hfz34_0 hfz34_1 hfz34_2 hfz34_3 hfz34_4 hfz34_5 hfz34_6 hfz34_7); (try clear hfz35_0 hfz35_1 hfz35_2 hfz35_3 hfz35_4 hfz35_5 hfz35_6 hfz35_7); (try clear hfz36_0 hfz36_1 hfz36_2 hfz36_3 hfz36_4 hfz36_5 hfz36_6 hfz36_7); (try clear hfz5_0 hfz5_1 hfz5_2 hfz5_3 hfz5_4 hfz5_5 hfz5_6 hfz5_7); (try clear hfz7_0 hfz7_1 hfz7_2 hfz7_3 hfz7_4 hfz7_5 hfz7_6 hfz7_7); (try clear hfz8_0 hfz8_1 hfz8_2 hfz8_3 hfz8_4 hfz8_5 hfz8_6 hfz8_7)
    obtain ⟨kq, x5_8, rfl, HA, HJ8, BK200, HB⟩ := hcut
    cases kq with
    | zero => exact absurd HA.out (by simp [ostinatoref02_Formed.j2])
    | succ kj8 =>
     have H := HA.out
     clear HA
     simp only [ostinatoref02_Formed.j2] at H
     have H' := zJ H
     clear H
     go_wp2
     go_loopg [5, 6] kj8 (fun kq v5 v6 w' => ∃ (x5_3 : Bool) (x6_3 : Int), v5 = .bool x5_3 ∧ v6 = .int .i64 x6_3 ∧ Aside0 (ostinatoref02_Formed.l0 kq x5_3 x6_3 a0_0 a0_1 a0_2 a0_3 a0_4 l0_5 a0_6 a0_7 = some r) ∧ Aside0 (kq ≤ kj8) ∧ Aside0 (w'.heap[gb200]? = some (.cells #[.int .i64 a0_0, .int .u64 a0_1, .int .u64 a0_2, .int .u64 a0_3, .int .u64 a0_4, (.slice A0_5 l0_5.length c0_5), .int .i64 a0_6, .int .i64 a0_7] 27 (0, 0))) ∧ Aside0 (Below w.heap.size w w'))
     case atStart => exact ⟨(x5_8), (0), (by first | rfl | (simp; done) | (simp [*]; done)), (by first | rfl | (simp; done) | (simp [*]; done)), H', ⟨Nat.le_refl _⟩, ⟨by (with_reducible repeat (first | refine zH ?_ _ | refine zI ?_ | refine zG ?_ _)); exact BK200.out⟩, ⟨by repeat (first | (with_reducible first | exact HB.out | apply zE | apply zC | apply zD | refine zF ?_ GE200.out) | exact HB.out)⟩⟩
     case round =>
      clear H'
      (try clear c1); (try clear c2); (try clear p2 p2); (try clear c3); (try clear c6); (try clear c6b0); (try clear c6b1); (try clear c11); (try clear c11b0); (try clear c11b1); (try clear c12); (try clear c13); (try clear c15); (try clear c15b0); (try clear c15b1); (try clear c16); (try clear c19); (try clear c19b0); (try clear c19b1); (try clear c20); (try clear c21); (try clear c22); (try clear c24); (try clear c24b0); (try clear c24b1); (try clear c25); (try clear c26); (try clear c26b0); (try clear c26b1); (try clear c27); (try clear c27b0); (try clear c28); (try clear c28b0); (try clear c29); (try clear c29b0); (try clear c30); (try clear c30b0); (try clear c30b1); (try clear hcz10_0 hcz10_1 hcz10_2 hcz10_3 hcz10_4 hcz10_5 hcz10_6 hcz10_7); (try clear hcz14_0 hcz14_1 hcz14_2 hcz14_3 hcz14_4 hcz14_5 hcz14_6 hcz14_7); (try clear hcz17_0 hcz17_1 hcz17_2 hcz17_3 hcz17_4 hcz17_5 hcz17_6 hcz17_7); (try clear hcz23_0 hcz23_1 hcz23_2 hcz23_3 hcz23_4 hcz23_5 hcz23_6 hcz23_7); (try clear hcz31_0 hcz31_1 hcz31_2 hcz31_3 hcz31_4 hcz31_5 hcz31_6 hcz31_7); (try clear hcz32_0 hcz32_1 hcz32_2 hcz32_3 hcz32_4 hcz32_5 hcz32_6 hcz32_7); (try clear hcz33_0 hcz33_1 hcz33_2 hcz33_3 hcz33_4 hcz33_5 hcz33_6 hcz33_7); (try clear hcz34_0 hcz34_1 hcz34_2 hcz34_3 hcz34_4 hcz34_5 hcz34_6 hcz34_7); (try clear hcz35_0 hcz35_1 hcz35_2 hcz35_3 hcz35_4 hcz35_5 hcz35_6 hcz35_7); (try clear hcz36_0 hcz36_1 hcz36_2 hcz36_3 hcz36_4 hcz36_5 hcz36_6 hcz36_7); (try clear hcz5_0 hcz5_1 hcz5_2 hcz5_3 hcz5_4 hcz5_5 hcz5_6 hcz5_7); (try clear hcz7_0 hcz7_1 hcz7_2 hcz7_3 hcz7_4 hcz7_5 hcz7_6 hcz7_7); (try clear hcz8_0 hcz8_1 hcz8_2 hcz8_3 hcz8_4 hcz8_5 hcz8_6 hcz8_7); (try clear hfz10_0 hfz10_1 hfz10_2 hfz10_3 hfz10_4 hfz10_5 hfz10_6 hfz10_7); (try clear hfz14_0 hfz14_1 hfz14_2 hfz14_3 hfz14_4 hfz14_5 hfz14_6 hfz14_7); (try clear hfz17_0 hfz17_1 hfz17_2 hfz17_3 hfz17_4 hfz17_5 hfz17_6 hfz17_7); (try clear hfz23_0 hfz23_1 hfz23_2 hfz23_3 hfz23_4 hfz23_5 hfz23_6 hfz23_7); (try clear hfz31_0 hfz31_1 hfz31_2 hfz31_3 hfz31_4 hfz31_5 hfz31_6 hfz31_7); (try clear hfz32_0 hfz32_1 hfz32_2 hfz32_3 hfz32_4 hfz32_5 hfz32_6 hfz32_7); (try clear hfz33_0 hfz33_1 hfz33_2 hfz33_3 hfz33_4 hfz33_5 hfz33_6 hfz33_7); (try clear hfz34_0 hfz34_1 hfz34_2 hfz34_3 hfz34_4 hfz34_5 hfz34_6 hfz34_7); (try clear hfz35_0 hfz35_1 hfz35_2 hfz35_3 hfz35_4 hfz35_5 hfz35_6 hfz35_7); (try clear hfz36_0 hfz36_1 hfz36_2 hfz36_3 hfz36_4 hfz36_5 hfz36_6 hfz36_7); (try clear hfz5_0 hfz5_1 hfz5_2 hfz5_3 hfz5_4 hfz5_5 hfz5_6 hfz5_7); (try clear hfz7_0 hfz7_1 hfz7_2 hfz7_3 hfz7_4 hfz7_5 hfz7_6 hfz7_7); (try clear hfz8_0 hfz8_1 hfz8_2 hfz8_3 hfz8_4 hfz8_5 hfz8_6 hfz8_7)
      obtain ⟨x5_3, x6_3, rfl, rfl, HA, HK3, BK200, HB⟩ := hrel
      cases gk with
      | zero => exact absurd HA.out (by simp [ostinatoref02_Formed.l0])
      | succ k3 =>
       have H := HA.out
       clear HA
       simp only [ostinatoref02_Formed.l0] at H
       by_cases c37 : x6_3 < (l0_5.length : Int)
       ·
        rw [if_pos c37] at H
        have c37b0 : decide (x6_3 < (l0_5.length : Int)) = true := decide_eq_true c37
        clear c37
        by_cases c38 : x5_3 = true
        ·
         subst c38
         have H1 : (if 0 ≤ x6_3 then ((ostinatoref02_Formed.f k3 ((rd_T27 l0_5 x6_3).f0) ((rd_T27 l0_5 x6_3).f1.f0) ((rd_T27 l0_5 x6_3).f1.f1) ((rd_T27 l0_5 x6_3).f1.f2) ((rd_T27 l0_5 x6_3).f1.f3) ((rd_T27 l0_5 x6_3).f2) ((rd_T27 l0_5 x6_3).f3) ((rd_T27 l0_5 x6_3).f4)).bind fun t202 => (ostinatoref02_Formed.l0 k3 t202 (wrap64 (x6_3 + 1)) a0_0 a0_1 a0_2 a0_3 a0_4 l0_5 a0_6 a0_7)) else (none)) = some r := by rw [if_pos rfl] at H; exact H
         clear H
         have H := H1
         clear H1
         by_cases c39 : 0 ≤ x6_3
         ·
          rw [if_pos c39] at H
          have c39b0 : decide (0 ≤ x6_3) = true := decide_eq_true c39
          clear c39
          replace H := Option.bind_eq_some_iff.mp H
          obtain ⟨t202, A400, H⟩ := H
          replace H : (ostinatoref02_Formed.l0 k3 t202 (wrap64 (x6_3 + 1)) a0_0 a0_1 a0_2 a0_3 a0_4 l0_5 a0_6 a0_7) = some r := H
          have A40 := zJ A400
          clear A400
          have H' := zJ H
          clear H
          have hcz41_0 : wr.cell? ⟨gb200, 0, none⟩ = some (.int .i64 a0_0) := (zB BK200.out 0).trans rfl
          have hcz41_1 : wr.cell? ⟨gb200, 1, none⟩ = some (.int .u64 a0_1) := (zB BK200.out 1).trans rfl
          have hcz41_2 : wr.cell? ⟨gb200, 2, none⟩ = some (.int .u64 a0_2) := (zB BK200.out 2).trans rfl
          have hcz41_3 : wr.cell? ⟨gb200, 3, none⟩ = some (.int .u64 a0_3) := (zB BK200.out 3).trans rfl
          have hcz41_4 : wr.cell? ⟨gb200, 4, none⟩ = some (.int .u64 a0_4) := (zB BK200.out 4).trans rfl
          have hcz41_5 : wr.cell? ⟨gb200, 5, none⟩ = some (.slice A0_5 l0_5.length c0_5) := (zB BK200.out 5).trans rfl
          have hcz41_6 : wr.cell? ⟨gb200, 6, none⟩ = some (.int .i64 a0_6) := (zB BK200.out 6).trans rfl
          have hcz41_7 : wr.cell? ⟨gb200, 7, none⟩ = some (.int .i64 a0_7) := (zB BK200.out 7).trans rfl
          have hfz41_0 := zA BK200.out 0
          have hfz41_1 := zA BK200.out 1
          have hfz41_2 := zA BK200.out 2
          have hfz41_3 := zA BK200.out 3
          have hfz41_4 := zA BK200.out 4
          have hfz41_5 := zA BK200.out 5
          have hfz41_6 := zA BK200.out 6
          have hfz41_7 := zA BK200.out 7
          have p201 : 0 ≤ (x6_3 : Int) := of_decide_eq_true (by first | (with_reducible assumption) | assumption)
          have q201 : x6_3 < (l0_5.length : Int) := of_decide_eq_true (by first | (with_reducible assumption) | assumption)
          obtain ⟨ad201, A201_5, c201_5, e201, hx201_0, hx201_1, hx201_2, hx201_3, hx201_4, hx201_5, hx201_6, hx201_7, hl201_5, hi201_5⟩ := at_T27 HR0_5.out x6_3 p201 q201
          cases e201
          replace hx201_0 := (HB.out.cell (zK w _ hx201_0)).trans hx201_0
          replace hx201_1 := (HB.out.cell (zK w _ hx201_1)).trans hx201_1
          replace hx201_2 := (HB.out.cell (zK w _ hx201_2)).trans hx201_2
          replace hx201_3 := (HB.out.cell (zK w _ hx201_3)).trans hx201_3
          replace hx201_4 := (HB.out.cell (zK w _ hx201_4)).trans hx201_4
          replace hx201_5 := (HB.out.cell (zK w _ hx201_5)).trans hx201_5
          replace hx201_6 := (HB.out.cell (zK w _ hx201_6)).trans hx201_6
          replace hx201_7 := (HB.out.cell (zK w _ hx201_7)).trans hx201_7
          have HR201_5 := zJ hi201_5
          have HC201_5 := zJ hl201_5
          clear hi201_5 hl201_5
          replace p201 := eq_true p201
          replace q201 := eq_true q201
          go_wp2_with (first | ((with_reducible refine gate_callee (f := 13) rfl ?_); refine goesL_ (some 106) rfl rfl Try.func13 (by kernel_rfl) rfl #[.agg #[.int .i64 ((rd_T27 l0_5 x6_3).f0), .int .u64 ((rd_T27 l0_5 x6_3).f1.f0), .int .u64 ((rd_T27 l0_5 x6_3).f1.f1), .int .u64 ((rd_T27 l0_5 x6_3).f1.f2), .int .u64 ((rd_T27 l0_5 x6_3).f1.f3), .slice A201_5 ((rd_T27 l0_5 x6_3).f2).length c201_5, .int .i64 ((rd_T27 l0_5 x6_3).f3), .int .i64 ((rd_T27 l0_5 x6_3).f4)]] rfl (by (try simp only [List.map_toArray, List.map_cons, List.map_nil]); first | done | rfl | (simp only [List.length_drop, List.length_take]; rfl)) ?_; (with_reducible refine (ih k3 (by have := HJ2.out; have := HJ8.out; have := HK3.out; omega) ((rd_T27 l0_5 x6_3).f0) ((rd_T27 l0_5 x6_3).f1.f0) ((rd_T27 l0_5 x6_3).f1.f1) ((rd_T27 l0_5 x6_3).f1.f2) ((rd_T27 l0_5 x6_3).f1.f3) _ _ ((rd_T27 l0_5 x6_3).f2) ((rd_T27 l0_5 x6_3).f3) ((rd_T27 l0_5 x6_3).f4) t202 _ ?side1 ?side2 A40.out).mono ?_); (case side1 => repeat (first | exact (Kd.C_below HR201_5.out HB.out) | (with_reducible refine Kd.C_alloc ?_ _) | (with_reducible refine Kd.C_drewN ?_ _) | (with_reducible refine Kd.C_drew ?_))); (case side2 => exact HC201_5.out); rintro e w42 ⟨rfl, hb⟩; refine ⟨_, rfl, ?_⟩; have n0_ := zJ (blk_below (g := gb200) (o := .cells #[.int .i64 a0_0, .int .u64 a0_1, .int .u64 a0_2, .int .u64 a0_3, .int .u64 a0_4, .slice (some ad201) l0_5.length c0_5, .int .i64 a0_6, .int .i64 a0_7] 27 (0, 0)) (by (with_reducible repeat (first | refine zH ?_ _ | refine zI ?_ | refine zG ?_ _)); exact BK200.out) hb); have n1_ := zJ (below_step (by repeat (first | (with_reducible first | exact HB.out | apply zE | apply zC | apply zD | refine zF ?_ GE200.out) | exact HB.out)) hb); clear BK200; clear HB; have BK200 := n0_; have HB := n1_; clear n0_ n1_; (try clear hb); (try clear hb2); (try clear hk); (try clear hi)))
          go_roundg k3
          case measure => have := HJ2.out; have := HJ8.out; have := HK3.out; omega
          case rel => exact ⟨(t202), (wrap64 (x6_3 + 1)), (by first | rfl | (simp; done) | (simp [*]; done)), (by first | rfl | (simp; done) | (simp [*]; done)), H', ⟨by have := HJ2.out; have := HJ8.out; have := HK3.out; omega⟩, ⟨by (with_reducible repeat (first | refine zH ?_ _ | refine zI ?_ | refine zG ?_ _)); exact BK200.out⟩, ⟨by repeat (first | (with_reducible first | exact HB.out | apply zE | apply zC | apply zD | refine zF ?_ GE200.out) | exact HB.out)⟩⟩
         ·
          rw [if_neg c39] at H
          exact absurd H (by simp)
        ·
         replace c38 := Bool.eq_false_iff.mpr c38
         subst c38
         have H1 : (some false) = some r := by rw [if_neg (show ¬ (false = true) by decide)] at H; exact H
         clear H
         have H := H1
         clear H1
         obtain rfl := Option.some.inj H
         have hcz43_0 : wr.cell? ⟨gb200, 0, none⟩ = some (.int .i64 a0_0) := (zB BK200.out 0).trans rfl
         have hcz43_1 : wr.cell? ⟨gb200, 1, none⟩ = some (.int .u64 a0_1) := (zB BK200.out 1).trans rfl
         have hcz43_2 : wr.cell? ⟨gb200, 2, none⟩ = some (.int .u64 a0_2) := (zB BK200.out 2).trans rfl
         have hcz43_3 : wr.cell? ⟨gb200, 3, none⟩ = some (.int .u64 a0_3) := (zB BK200.out 3).trans rfl
         have hcz43_4 : wr.cell? ⟨gb200, 4, none⟩ = some (.int .u64 a0_4) := (zB BK200.out 4).trans rfl
         have hcz43_5 : wr.cell? ⟨gb200, 5, none⟩ = some (.slice A0_5 l0_5.length c0_5) := (zB BK200.out 5).trans rfl
         have hcz43_6 : wr.cell? ⟨gb200, 6, none⟩ = some (.int .i64 a0_6) := (zB BK200.out 6).trans rfl
         have hcz43_7 : wr.cell? ⟨gb200, 7, none⟩ = some (.int .i64 a0_7) := (zB BK200.out 7).trans rfl
         have hfz43_0 := zA BK200.out 0
         have hfz43_1 := zA BK200.out 1
         have hfz43_2 := zA BK200.out 2
         have hfz43_3 := zA BK200.out 3
         have hfz43_4 := zA BK200.out 4
         have hfz43_5 := zA BK200.out 5
         have hfz43_6 := zA BK200.out 6
         have hfz43_7 := zA BK200.out 7
         go_wp2
         go_ret
         exact ⟨by first | rfl | (simp [errW_none, errW_some] <;> rfl) | (simp [*, errW_none, errW_some] <;> rfl), by repeat (first | (with_reducible first | exact HB.out | apply zE | apply zC | apply zD | refine zF ?_ GE200.out) | exact HB.out)⟩
       ·
        rw [if_neg c37] at H
        have c37b0 : decide (x6_3 < (l0_5.length : Int)) = false := decide_eq_false c37
        clear c37
        obtain rfl := Option.some.inj H
        have hcz44_0 : wr.cell? ⟨gb200, 0, none⟩ = some (.int .i64 a0_0) := (zB BK200.out 0).trans rfl
        have hcz44_1 : wr.cell? ⟨gb200, 1, none⟩ = some (.int .u64 a0_1) := (zB BK200.out 1).trans rfl
        have hcz44_2 : wr.cell? ⟨gb200, 2, none⟩ = some (.int .u64 a0_2) := (zB BK200.out 2).trans rfl
        have hcz44_3 : wr.cell? ⟨gb200, 3, none⟩ = some (.int .u64 a0_3) := (zB BK200.out 3).trans rfl
        have hcz44_4 : wr.cell? ⟨gb200, 4, none⟩ = some (.int .u64 a0_4) := (zB BK200.out 4).trans rfl
        have hcz44_5 : wr.cell? ⟨gb200, 5, none⟩ = some (.slice A0_5 l0_5.length c0_5) := (zB BK200.out 5).trans rfl
        have hcz44_6 : wr.cell? ⟨gb200, 6, none⟩ = some (.int .i64 a0_6) := (zB BK200.out 6).trans rfl
        have hcz44_7 : wr.cell? ⟨gb200, 7, none⟩ = some (.int .i64 a0_7) := (zB BK200.out 7).trans rfl
        have hfz44_0 := zA BK200.out 0
        have hfz44_1 := zA BK200.out 1
        have hfz44_2 := zA BK200.out 2
        have hfz44_3 := zA BK200.out 3
        have hfz44_4 := zA BK200.out 4
        have hfz44_5 := zA BK200.out 5
        have hfz44_6 := zA BK200.out 6
        have hfz44_7 := zA BK200.out 7
        go_wp2
        go_ret
        exact ⟨by first | rfl | (simp [errW_none, errW_some] <;> rfl) | (simp [*, errW_none, errW_some] <;> rfl), by repeat (first | (with_reducible first | exact HB.out | apply zE | apply zC | apply zD | refine zF ?_ GE200.out) | exact HB.out)⟩

end Go.Proofs.Ytlnhiogpjdhhbaa.P
