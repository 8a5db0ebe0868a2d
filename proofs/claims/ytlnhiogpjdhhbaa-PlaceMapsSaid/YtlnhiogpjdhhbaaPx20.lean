import Derived.Test.YtlnhiogpjdhhbaaPx0
import Derived.Test.YtlnhiogpjdhhbaaPx16
import Derived.Test.YtlnhiogpjdhhbaaPx18
import Derived.Test.YtlnhiogpjdhhbaaPx19
-- Written by wip/xp.
namespace Go.Proofs.Ytlnhiogpjdhhbaa.P
open Go.RowKit Go.Proofs.YtlnhiogpjdhhbaaW.PrintWords Go.Proofs.YtlnhiogpjdhhbaaW.PrintLast Go.Proofs.YtlnhiogpjdhhbaaW.PrintMore
attribute [local go_sem] max2_int min2_int max_two min_two max_three min_three max_four min_four   -- for this text's walks alone
set_option linter.unusedVariables false
set_option linter.unusedSimpArgs false

mutual
def ostinatoref04_Simple.l0 : Nat → List (S27) → Int → Int → Int → Int → Int → Int → List (S27) → Int → Int → Option (Int × Int × Int × Int × Int × (List (S27)) × Int × Int)
  | 0, _, _, _, _, _, _, _, _, _, _ => none
  | k + 1, x5, x6, x235000, x235001, x235002, x235003, x235004, x235005, x235006, x235007 => if x6 < (x235005.length : Int) then (if 0 ≤ x6 then ((ostinatoref04_Simple.f k ((rd_T27 x235005 x6).f0) ((rd_T27 x235005 x6).f1.f0) ((rd_T27 x235005 x6).f1.f1) ((rd_T27 x235005 x6).f1.f2) ((rd_T27 x235005 x6).f1.f3) ((rd_T27 x235005 x6).f2) ((rd_T27 x235005 x6).f3) ((rd_T27 x235005 x6).f4)).bind fun bt239 => (if x5.length < 1759218604441 then (ostinatoref04_Simple.l0 k (x5 ++ [(⟨bt239.1, (⟨bt239.2.1, bt239.2.2.1, bt239.2.2.2.1, bt239.2.2.2.2.1⟩ : S24), bt239.2.2.2.2.2.1, bt239.2.2.2.2.2.2.1, bt239.2.2.2.2.2.2.2⟩ : S27)]) (wrap64 (x6 + 1)) x235000 x235001 x235002 x235003 x235004 x235005 x235006 x235007) else (none))) else (none)) else (if x235000 = 4 then (if 0 < (x5.length : Int) then ((ostinatoref04_Told.f k ((rd_T27 x5 0).f0) ((rd_T27 x5 0).f1.f0) ((rd_T27 x5 0).f1.f1) ((rd_T27 x5 0).f1.f2) ((rd_T27 x5 0).f1.f3) ((rd_T27 x5 0).f2) ((rd_T27 x5 0).f3) ((rd_T27 x5 0).f4)).bind fun bt253 => (if x235007 = 0 then (ostinatoref04_Simple.j1 k x5 bt253.2 true x235000 x235001 x235002 x235003 x235004 x235005 x235006 x235007) else (if ((rd_T27 x5 0).f0) = 0 then (ostinatoref04_Simple.j1 k x5 bt253.2 true x235000 x235001 x235002 x235003 x235004 x235005 x235006 x235007) else (ostinatoref04_Simple.j1 k x5 bt253.2 bt253.1 x235000 x235001 x235002 x235003 x235004 x235005 x235006 x235007)))) else (none)) else ((ostinatoref04_spread.f k x235000 x5).bind fun t258 => (ostinatoref04_Simple.l1 k t258 ([] : List (S27)) 0 x235000 x235001 x235002 x235003 x235004 x235005 x235006 x235007)))
def ostinatoref04_Simple.j1 : Nat → List (S27) → Bool → Bool → Int → Int → Int → Int → Int → List (S27) → Int → Int → Option (Int × Int × Int × Int × Int × (List (S27)) × Int × Int)
  | 0, _, _, _, _, _, _, _, _, _, _, _ => none
  | k + 1, x5, x8, x65, x235000, x235001, x235002, x235003, x235004, x235005, x235006, x235007 => if x65 = true then (some (0, 0, 0, 0, 0, ([] : List (S27)), 0, 0)) else (if x235006 = 1 then (ostinatoref04_Simple.j2 k x5 x8 (x235007 == 1) x235000 x235001 x235002 x235003 x235004 x235005 x235006 x235007) else (ostinatoref04_Simple.j2 k x5 x8 false x235000 x235001 x235002 x235003 x235004 x235005 x235006 x235007))
def ostinatoref04_Simple.j2 : Nat → List (S27) → Bool → Bool → Int → Int → Int → Int → Int → List (S27) → Int → Int → Option (Int × Int × Int × Int × Int × (List (S27)) × Int × Int)
  | 0, _, _, _, _, _, _, _, _, _, _, _ => none
  | k + 1, x5, x8, x74, x235000, x235001, x235002, x235003, x235004, x235005, x235006, x235007 => if x74 = true then (if 0 < (x5.length : Int) then (some ((rd_T27 x5 0).f0, (rd_T27 x5 0).f1.f0, (rd_T27 x5 0).f1.f1, (rd_T27 x5 0).f1.f2, (rd_T27 x5 0).f1.f3, (rd_T27 x5 0).f2, (rd_T27 x5 0).f3, (rd_T27 x5 0).f4)) else (none)) else (if x8 = true then (some (4, 0, 0, 0, 0, x5, 0, x235007)) else (some (4, 0, 0, 0, 0, x5, x235006, x235007)))
def ostinatoref04_Simple.l1 : Nat → List (S27) → List (S27) → Int → Int → Int → Int → Int → Int → List (S27) → Int → Int → Option (Int × Int × Int × Int × Int × (List (S27)) × Int × Int)
  | 0, _, _, _, _, _, _, _, _, _, _, _ => none
  | k + 1, x5, x10, x11, x235000, x235001, x235002, x235003, x235004, x235005, x235006, x235007 => if x11 < (x5.length : Int) then (if 0 ≤ x11 then ((ostinatoref04_Told.f k ((rd_T27 x5 x11).f0) ((rd_T27 x5 x11).f1.f0) ((rd_T27 x5 x11).f1.f1) ((rd_T27 x5 x11).f1.f2) ((rd_T27 x5 x11).f1.f3) ((rd_T27 x5 x11).f2) ((rd_T27 x5 x11).f3) ((rd_T27 x5 x11).f4)).bind fun bt262 => (if x235000 = 2 then (if ((rd_T27 x5 x11).f0) = 0 then (ostinatoref04_Simple.j4 k x5 x10 x11 true x235000 x235001 x235002 x235003 x235004 x235005 x235006 x235007) else (if x235000 = 3 then (ostinatoref04_Simple.j4 k x5 x10 x11 bt262.1 x235000 x235001 x235002 x235003 x235004 x235005 x235006 x235007) else (ostinatoref04_Simple.j4 k x5 x10 x11 false x235000 x235001 x235002 x235003 x235004 x235005 x235006 x235007))) else (if x235000 = 3 then (ostinatoref04_Simple.j4 k x5 x10 x11 bt262.1 x235000 x235001 x235002 x235003 x235004 x235005 x235006 x235007) else (ostinatoref04_Simple.j4 k x5 x10 x11 false x235000 x235001 x235002 x235003 x235004 x235005 x235006 x235007)))) else (none)) else (if (x10.length : Int) = 0 then (some (0, 0, 0, 0, 0, ([] : List (S27)), 0, 0)) else (if (x10.length : Int) = 1 then (if 0 < (x10.length : Int) then (some ((rd_T27 x10 0).f0, (rd_T27 x10 0).f1.f0, (rd_T27 x10 0).f1.f1, (rd_T27 x10 0).f1.f2, (rd_T27 x10 0).f1.f3, (rd_T27 x10 0).f2, (rd_T27 x10 0).f3, (rd_T27 x10 0).f4)) else (none)) else (some (x235000, 0, 0, 0, 0, x10, 0, 0))))
def ostinatoref04_Simple.j4 : Nat → List (S27) → List (S27) → Int → Bool → Int → Int → Int → Int → Int → List (S27) → Int → Int → Option (Int × Int × Int × Int × Int × (List (S27)) × Int × Int)
  | 0, _, _, _, _, _, _, _, _, _, _, _, _ => none
  | k + 1, x5, x10, x11, x14, x235000, x235001, x235002, x235003, x235004, x235005, x235006, x235007 => ostinatoref04_Simple.l2 k x5 x10 x11 x14 0 x235000 x235001 x235002 x235003 x235004 x235005 x235006 x235007
def ostinatoref04_Simple.l2 : Nat → List (S27) → List (S27) → Int → Bool → Int → Int → Int → Int → Int → Int → List (S27) → Int → Int → Option (Int × Int × Int × Int × Int × (List (S27)) × Int × Int)
  | 0, _, _, _, _, _, _, _, _, _, _, _, _, _ => none
  | k + 1, x5, x10, x11, x14, x15, x235000, x235001, x235002, x235003, x235004, x235005, x235006, x235007 => if x15 < (x10.length : Int) then (if x235000 = 3 then (if x14 = true then (ostinatoref04_Simple.l2 k x5 x10 x11 true (wrap64 (x15 + 1)) x235000 x235001 x235002 x235003 x235004 x235005 x235006 x235007) else (if 0 ≤ x15 then (if 0 ≤ x11 then (if x11 < (x5.length : Int) then ((ostinatoref02_Same.f k ((rd_T27 x10 x15).f0) ((rd_T27 x10 x15).f1.f0) ((rd_T27 x10 x15).f1.f1) ((rd_T27 x10 x15).f1.f2) ((rd_T27 x10 x15).f1.f3) ((rd_T27 x10 x15).f2) ((rd_T27 x10 x15).f3) ((rd_T27 x10 x15).f4) ((rd_T27 x5 x11).f0) ((rd_T27 x5 x11).f1.f0) ((rd_T27 x5 x11).f1.f1) ((rd_T27 x5 x11).f1.f2) ((rd_T27 x5 x11).f1.f3) ((rd_T27 x5 x11).f2) ((rd_T27 x5 x11).f3) ((rd_T27 x5 x11).f4)).bind fun t267 => (ostinatoref04_Simple.l2 k x5 x10 x11 t267 (wrap64 (x15 + 1)) x235000 x235001 x235002 x235003 x235004 x235005 x235006 x235007)) else (none)) else (none)) else (none))) else (if x14 = true then (ostinatoref04_Simple.l1 k x5 x10 (wrap64 (x11 + 1)) x235000 x235001 x235002 x235003 x235004 x235005 x235006 x235007) else (if 0 ≤ x11 then (if x11 < (x5.length : Int) then (if x10.length < 1759218604441 then (ostinatoref04_Simple.l1 k x5 (x10 ++ [(⟨(rd_T27 x5 x11).f0, (⟨(rd_T27 x5 x11).f1.f0, (rd_T27 x5 x11).f1.f1, (rd_T27 x5 x11).f1.f2, (rd_T27 x5 x11).f1.f3⟩ : S24), (rd_T27 x5 x11).f2, (rd_T27 x5 x11).f3, (rd_T27 x5 x11).f4⟩ : S27)]) (wrap64 (x11 + 1)) x235000 x235001 x235002 x235003 x235004 x235005 x235006 x235007) else (none)) else (none)) else (none)))) else (if x14 = true then (ostinatoref04_Simple.l1 k x5 x10 (wrap64 (x11 + 1)) x235000 x235001 x235002 x235003 x235004 x235005 x235006 x235007) else (if 0 ≤ x11 then (if x11 < (x5.length : Int) then (if x10.length < 1759218604441 then (ostinatoref04_Simple.l1 k x5 (x10 ++ [(⟨(rd_T27 x5 x11).f0, (⟨(rd_T27 x5 x11).f1.f0, (rd_T27 x5 x11).f1.f1, (rd_T27 x5 x11).f1.f2, (rd_T27 x5 x11).f1.f3⟩ : S24), (rd_T27 x5 x11).f2, (rd_T27 x5 x11).f3, (rd_T27 x5 x11).f4⟩ : S27)]) (wrap64 (x11 + 1)) x235000 x235001 x235002 x235003 x235004 x235005 x235006 x235007) else (none)) else (none)) else (none)))
def ostinatoref04_Simple.f : Nat → Int → Int → Int → Int → Int → List (S27) → Int → Int → Option (Int × Int × Int × Int × Int × (List (S27)) × Int × Int)
  | 0, _, _, _, _, _, _, _, _ => none
  | k + 1, a0_0, a0_1, a0_2, a0_3, a0_4, l0_5, a0_6, a0_7 => (ostinatoref04_Told.f k a0_0 a0_1 a0_2 a0_3 a0_4 l0_5 a0_6 a0_7).bind fun bt236 => (if bt236.1 = true then (some (1, 0, 0, 0, 0, ([] : List (S27)), 0, 0)) else (if a0_0 < 2 then (some (a0_0, a0_1, a0_2, a0_3, a0_4, l0_5, a0_6, a0_7)) else (ostinatoref04_Simple.l0 k ([] : List (S27)) 0 a0_0 a0_1 a0_2 a0_3 a0_4 l0_5 a0_6 a0_7)))
end
theorem ostinatoref04_Simple.mono_l : ∀ k, (∀ y0 y1 y2 y3 y4 y5 y6 y7, LeO (ostinatoref04_Simple.f k y0 y1 y2 y3 y4 y5 y6 y7) (ostinatoref04_Simple.f (k + 1) y0 y1 y2 y3 y4 y5 y6 y7)) ∧ (∀ y0 y1 y2 y3 y4 y5 y6 y7 y8 y9, LeO (ostinatoref04_Simple.l0 k y0 y1 y2 y3 y4 y5 y6 y7 y8 y9) (ostinatoref04_Simple.l0 (k + 1) y0 y1 y2 y3 y4 y5 y6 y7 y8 y9)) ∧ (∀ y0 y1 y2 y3 y4 y5 y6 y7 y8 y9 y10, LeO (ostinatoref04_Simple.j1 k y0 y1 y2 y3 y4 y5 y6 y7 y8 y9 y10) (ostinatoref04_Simple.j1 (k + 1) y0 y1 y2 y3 y4 y5 y6 y7 y8 y9 y10)) ∧ (∀ y0 y1 y2 y3 y4 y5 y6 y7 y8 y9 y10, LeO (ostinatoref04_Simple.j2 k y0 y1 y2 y3 y4 y5 y6 y7 y8 y9 y10) (ostinatoref04_Simple.j2 (k + 1) y0 y1 y2 y3 y4 y5 y6 y7 y8 y9 y10)) ∧ (∀ y0 y1 y2 y3 y4 y5 y6 y7 y8 y9 y10, LeO (ostinatoref04_Simple.l1 k y0 y1 y2 y3 y4 y5 y6 y7 y8 y9 y10) (ostinatoref04_Simple.l1 (k + 1) y0 y1 y2 y3 y4 y5 y6 y7 y8 y9 y10)) ∧ (∀ y0 y1 y2 y3 y4 y5 y6 y7 y8 y9 y10 y11, LeO (ostinatoref04_Simple.j4 k y0 y1 y2 y3 y4 y5 y6 y7 y8 y9 y10 y11) (ostinatoref04_Simple.j4 (k + 1) y0 y1 y2 y3 y4 y5 y6 y7 y8 y9 y10 y11)) ∧ (∀ y0 y1 y2 y3 y4 y5 y6 y7 y8 y9 y10 y11 y12, LeO (ostinatoref04_Simple.l2 k y0 y1 y2 y3 y4 y5 y6 y7 y8 y9 y10 y11 y12) (ostinatoref04_Simple.l2 (k + 1) y0 y1 y2 y3 y4 y5 y6 y7 y8 y9 y10 y11 y12))
  | 0 => ⟨fun _ _ _ _ _ _ _ _ r h => by simp [ostinatoref04_Simple.f] at h, fun _ _ _ _ _ _ _ _ _ _ r h => by simp [ostinatoref04_Simple.l0] at h, fun _ _ _ _ _ _ _ _ _ _ _ r h => by simp [ostinatoref04_Simple.j1] at h, fun _ _ _ _ _ _ _ _ _ _ _ r h => by simp [ostinatoref04_Simple.j2] at h, fun _ _ _ _ _ _ _ _ _ _ _ r h => by simp [ostinatoref04_Simple.l1] at h, fun _ _ _ _ _ _ _ _ _ _ _ _ r h => by simp [ostinatoref04_Simple.j4] at h, fun _ _ _ _ _ _ _ _ _ _ _ _ _ r h => by simp [ostinatoref04_Simple.l2] at h⟩
  | k + 1 => by
    obtain ⟨ih0, ih1, ih2, ih3, ih4, ih5, ih6⟩ := ostinatoref04_Simple.mono_l k
    refine ⟨?_, ?_, ?_, ?_, ?_, ?_, ?_⟩
    · intro y0 y1 y2 y3 y4 y5 y6 y7
      unfold ostinatoref04_Simple.f
      repeat' first
      | (with_reducible exact ih0 _ _ _ _ _ _ _ _)
      | (with_reducible exact ih1 _ _ _ _ _ _ _ _ _ _)
      | (with_reducible exact ih2 _ _ _ _ _ _ _ _ _ _ _)
      | (with_reducible exact ih3 _ _ _ _ _ _ _ _ _ _ _)
      | (with_reducible exact ih4 _ _ _ _ _ _ _ _ _ _ _)
      | (with_reducible exact ih5 _ _ _ _ _ _ _ _ _ _ _ _)
      | (with_reducible exact ih6 _ _ _ _ _ _ _ _ _ _ _ _ _)
      | (with_reducible exact ostinatoref02_Same.mono _ _ _ _ _ _ _ _ _ _ _ _ _ _ _ _ _)
      | (with_reducible exact ostinatoref04_Told.mono _ _ _ _ _ _ _ _ _)
      | (with_reducible exact ostinatoref04_spread.mono _ _ _)
      | (with_reducible exact LeO.refl _)
      | (with_reducible exact LeO.none _)
      | (with_reducible refine LeO.ite ?_ ?_)
      | (with_reducible refine LeO.bind ?_ (fun _ => ?_))
      | exact ih0 _ _ _ _ _ _ _ _
      | exact ih1 _ _ _ _ _ _ _ _ _ _
      | exact ih2 _ _ _ _ _ _ _ _ _ _ _
      | exact ih3 _ _ _ _ _ _ _ _ _ _ _
      | exact ih4 _ _ _ _ _ _ _ _ _ _ _
      | exact ih5 _ _ _ _ _ _ _ _ _ _ _ _
      | exact ih6 _ _ _ _ _ _ _ _ _ _ _ _ _
      | exact ostinatoref02_Same.mono _ _ _ _ _ _ _ _ _ _ _ _ _ _ _ _ _
      | exact ostinatoref04_Told.mono _ _ _ _ _ _ _ _ _
      | exact ostinatoref04_spread.mono _ _ _
      | exact LeO.none _
      | refine LeO.ite ?_ ?_
      | refine LeO.bind ?_ (fun _ => ?_)
    · intro y0 y1 y2 y3 y4 y5 y6 y7 y8 y9
      unfold ostinatoref04_Simple.l0
      repeat' first
      | (with_reducible exact ih0 _ _ _ _ _ _ _ _)
      | (with_reducible exact ih1 _ _ _ _ _ _ _ _ _ _)
      | (with_reducible exact ih2 _ _ _ _ _ _ _ _ _ _ _)
      | (with_reducible exact ih3 _ _ _ _ _ _ _ _ _ _ _)
      | (with_reducible exact ih4 _ _ _ _ _ _ _ _ _ _ _)
      | (with_reducible exact ih5 _ _ _ _ _ _ _ _ _ _ _ _)
      | (with_reducible exact ih6 _ _ _ _ _ _ _ _ _ _ _ _ _)
      | (with_reducible exact ostinatoref02_Same.mono _ _ _ _ _ _ _ _ _ _ _ _ _ _ _ _ _)
      | (with_reducible exact ostinatoref04_Told.mono _ _ _ _ _ _ _ _ _)
      | (with_reducible exact ostinatoref04_spread.mono _ _ _)
      | (with_reducible exact LeO.refl _)
      | (with_reducible exact LeO.none _)
      | (with_reducible refine LeO.ite ?_ ?_)
      | (with_reducible refine LeO.bind ?_ (fun _ => ?_))
      | exact ih0 _ _ _ _ _ _ _ _
      | exact ih1 _ _ _ _ _ _ _ _ _ _
      | exact ih2 _ _ _ _ _ _ _ _ _ _ _
      | exact ih3 _ _ _ _ _ _ _ _ _ _ _
      | exact ih4 _ _ _ _ _ _ _ _ _ _ _
      | exact ih5 _ _ _ _ _ _ _ _ _ _ _ _
      | exact ih6 _ _ _ _ _ _ _ _ _ _ _ _ _
      | exact ostinatoref02_Same.mono _ _ _ _ _ _ _ _ _ _ _ _ _ _ _ _ _
      | exact ostinatoref04_Told.mono _ _ _ _ _ _ _ _ _
      | exact ostinatoref04_spread.mono _ _ _
      | exact LeO.none _
      | refine LeO.ite ?_ ?_
      | refine LeO.bind ?_ (fun _ => ?_)
    · intro y0 y1 y2 y3 y4 y5 y6 y7 y8 y9 y10
      unfold ostinatoref04_Simple.j1
      repeat' first
      | (with_reducible exact ih0 _ _ _ _ _ _ _ _)
      | (with_reducible exact ih1 _ _ _ _ _ _ _ _ _ _)
      | (with_reducible exact ih2 _ _ _ _ _ _ _ _ _ _ _)
      | (with_reducible exact ih3 _ _ _ _ _ _ _ _ _ _ _)
      | (with_reducible exact ih4 _ _ _ _ _ _ _ _ _ _ _)
      | (with_reducible exact ih5 _ _ _ _ _ _ _ _ _ _ _ _)
      | (with_reducible exact ih6 _ _ _ _ _ _ _ _ _ _ _ _ _)
      | (with_reducible exact ostinatoref02_Same.mono _ _ _ _ _ _ _ _ _ _ _ _ _ _ _ _ _)
      | (with_reducible exact ostinatoref04_Told.mono _ _ _ _ _ _ _ _ _)
      | (with_reducible exact ostinatoref04_spread.mono _ _ _)
      | (with_reducible exact LeO.refl _)
      | (with_reducible exact LeO.none _)
      | (with_reducible refine LeO.ite ?_ ?_)
      | (with_reducible refine LeO.bind ?_ (fun _ => ?_))
      | exact ih0 _ _ _ _ _ _ _ _
      | exact ih1 _ _ _ _ _ _ _ _ _ _
      | exact ih2 _ _ _ _ _ _ _ _ _ _ _
      | exact ih3 _ _ _ _ _ _ _ _ _ _ _
      | exact ih4 _ _ _ _ _ _ _ _ _ _ _
      | exact ih5 _ _ _ _ _ _ _ _ _ _ _ _
      | exact ih6 _ _ _ _ _ _ _ _ _ _ _ _ _
      | exact ostinatoref02_Same.mono _ _ _ _ _ _ _ _ _ _ _ _ _ _ _ _ _
      | exact ostinatoref04_Told.mono _ _ _ _ _ _ _ _ _
      | exact ostinatoref04_spread.mono _ _ _
      | exact LeO.none _
      | refine LeO.ite ?_ ?_
      | refine LeO.bind ?_ (fun _ => ?_)
    · intro y0 y1 y2 y3 y4 y5 y6 y7 y8 y9 y10
      unfold ostinatoref04_Simple.j2
      repeat' first
      | (with_reducible exact ih0 _ _ _ _ _ _ _ _)
      | (with_reducible exact ih1 _ _ _ _ _ _ _ _ _ _)
      | (with_reducible exact ih2 _ _ _ _ _ _ _ _ _ _ _)
      | (with_reducible exact ih3 _ _ _ _ _ _ _ _ _ _ _)
      | (with_reducible exact ih4 _ _ _ _ _ _ _ _ _ _ _)
      | (with_reducible exact ih5 _ _ _ _ _ _ _ _ _ _ _ _)
      | (with_reducible exact ih6 _ _ _ _ _ _ _ _ _ _ _ _ _)
      | (with_reducible exact ostinatoref02_Same.mono _ _ _ _ _ _ _ _ _ _ _ _ _ _ _ _ _)
      | (with_reducible exact ostinatoref04_Told.mono _ _ _ _ _ _ _ _ _)
      | (with_reducible exact ostinatoref04_spread.mono _ _ _)
      | (with_reducible exact LeO.refl _)
      | (with_reducible exact LeO.none _)
      | (with_reducible refine LeO.ite ?_ ?_)
      | (with_reducible refine LeO.bind ?_ (fun _ => ?_))
      | exact ih0 _ _ _ _ _ _ _ _
      | exact ih1 _ _ _ _ _ _ _ _ _ _
      | exact ih2 _ _ _ _ _ _ _ _ _ _ _
      | exact ih3 _ _ _ _ _ _ _ _ _ _ _
      | exact ih4 _ _ _ _ _ _ _ _ _ _ _
      | exact ih5 _ _ _ _ _ _ _ _ _ _ _ _
      | exact ih6 _ _ _ _ _ _ _ _ _ _ _ _ _
      | exact ostinatoref02_Same.mono _ _ _ _ _ _ _ _ _ _ _ _ _ _ _ _ _
      | exact ostinatoref04_Told.mono _ _ _ _ _ _ _ _ _
      | exact ostinatoref04_spread.mono _ _ _
      | exact LeO.none _
      | refine LeO.ite ?_ ?_
      | refine LeO.bind ?_ (fun _ => ?_)
    · intro y0 y1 y2 y3 y4 y5 y6 y7 y8 y9 y10
      unfold ostinatoref04_Simple.l1
      repeat' first
      | (with_reducible exact ih0 _ _ _ _ _ _ _ _)
      | (with_reducible exact ih1 _ _ _ _ _ _ _ _ _ _)
      | (with_reducible exact ih2 _ _ _ _ _ _ _ _ _ _ _)
      | (with_reducible exact ih3 _ _ _ _ _ _ _ _ _ _ _)
      | (with_reducible exact ih4 _ _ _ _ _ _ _ _ _ _ _)
      | (with_reducible exact ih5 _ _ _ _ _ _ _ _ _ _ _ _)
      | (with_reducible exact ih6 _ _ _ _ _ _ _ _ _ _ _ _ _)
      | (with_reducible exact ostinatoref02_Same.mono _ _ _ _ _ _ _ _ _ _ _ _ _ _ _ _ _)
      | (with_reducible exact ostinatoref04_Told.mono _ _ _ _ _ _ _ _ _)
      | (with_reducible exact ostinatoref04_spread.mono _ _ _)
      | (with_reducible exact LeO.refl _)
      | (with_reducible exact LeO.none _)
      | (with_reducible refine LeO.ite ?_ ?_)
      | (with_reducible refine LeO.bind ?_ (fun _ => ?_))
      | exact ih0 _ _ _ _ _ _ _ _
      | exact ih1 _ _ _ _ _ _ _ _ _ _
      | exact ih2 _ _ _ _ _ _ _ _ _ _ _
      | exact ih3 _ _ _ _ _ _ _ _ _ _ _
      | exact ih4 _ _ _ _ _ _ _ _ _ _ _
      | exact ih5 _ _ _ _ _ _ _ _ _ _ _ _
      | exact ih6 _ _ _ _ _ _ _ _ _ _ _ _ _
      | exact ostinatoref02_Same.mono _ _ _ _ _ _ _ _ _ _ _ _ _ _ _ _ _
      | exact ostinatoref04_Told.mono _ _ _ _ _ _ _ _ _
      | exact ostinatoref04_spread.mono _ _ _
      | exact LeO.none _
      | refine LeO.ite ?_ ?_
      | refine LeO.bind ?_ (fun _ => ?_)
    · intro y0 y1 y2 y3 y4 y5 y6 y7 y8 y9 y10 y11
      unfold ostinatoref04_Simple.j4
      repeat' first
      | (with_reducible exact ih0 _ _ _ _ _ _ _ _)
      | (with_reducible exact ih1 _ _ _ _ _ _ _ _ _ _)
      | (with_reducible exact ih2 _ _ _ _ _ _ _ _ _ _ _)
      | (with_reducible exact ih3 _ _ _ _ _ _ _ _ _ _ _)
      | (with_reducible exact ih4 _ _ _ _ _ _ _ _ _ _ _)
      | (with_reducible exact ih5 _ _ _ _ _ _ _ _ _ _ _ _)
      | (with_reducible exact ih6 _ _ _ _ _ _ _ _ _ _ _ _ _)
      | (with_reducible exact ostinatoref02_Same.mono _ _ _ _ _ _ _ _ _ _ _ _ _ _ _ _ _)
      | (with_reducible exact ostinatoref04_Told.mono _ _ _ _ _ _ _ _ _)
      | (with_reducible exact ostinatoref04_spread.mono _ _ _)
      | (with_reducible exact LeO.refl _)
      | (with_reducible exact LeO.none _)
      | (with_reducible refine LeO.ite ?_ ?_)
      | (with_reducible refine LeO.bind ?_ (fun _ => ?_))
      | exact ih0 _ _ _ _ _ _ _ _
      | exact ih1 _ _ _ _ _ _ _ _ _ _
      | exact ih2 _ _ _ _ _ _ _ _ _ _ _
      | exact ih3 _ _ _ _ _ _ _ _ _ _ _
      | exact ih4 _ _ _ _ _ _ _ _ _ _ _
      | exact ih5 _ _ _ _ _ _ _ _ _ _ _ _
      | exact ih6 _ _ _ _ _ _ _ _ _ _ _ _ _
      | exact ostinatoref02_Same.mono _ _ _ _ _ _ _ _ _ _ _ _ _ _ _ _ _
      | exact ostinatoref04_Told.mono _ _ _ _ _ _ _ _ _
      | exact ostinatoref04_spread.mono _ _ _
      | exact LeO.none _
      | refine LeO.ite ?_ ?_
      | refine LeO.bind ?_ (fun _ => ?_)
    · intro y0 y1 y2 y3 y4 y5 y6 y7 y8 y9 y10 y11 y12
      unfold ostinatoref04_Simple.l2
      repeat' first
      | (with_reducible exact ih0 _ _ _ _ _ _ _ _)
      | (with_reducible exact ih1 _ _ _ _ _ _ _ _ _ _)
      | (with_reducible exact ih2 _ _ _ _ _ _ _ _ _ _ _)
      | (with_reducible exact ih3 _ _ _ _ _ _ _ _ _ _ _)
      | (with_reducible exact ih4 _ _ _ _ _ _ _ _ _ _ _)
      | (with_reducible exact ih5 _ _ _ _ _ _ _ _ _ _ _ _)
      | (with_reducible exact ih6 _ _ _ _ _ _ _ _ _ _ _ _ _)
      | (with_reducible exact ostinatoref02_Same.mono _ _ _ _ _ _ _ _ _ _ _ _ _ _ _ _ _)
      | (with_reducible exact ostinatoref04_Told.mono _ _ _ _ _ _ _ _ _)
      | (with_reducible exact ostinatoref04_spread.mono _ _ _)
      | (with_reducible exact LeO.refl _)
      | (with_reducible exact LeO.none _)
      | (with_reducible refine LeO.ite ?_ ?_)
      | (with_reducible refine LeO.bind ?_ (fun _ => ?_))
      | exact ih0 _ _ _ _ _ _ _ _
      | exact ih1 _ _ _ _ _ _ _ _ _ _
      | exact ih2 _ _ _ _ _ _ _ _ _ _ _
      | exact ih3 _ _ _ _ _ _ _ _ _ _ _
      | exact ih4 _ _ _ _ _ _ _ _ _ _ _
      | exact ih5 _ _ _ _ _ _ _ _ _ _ _ _
      | exact ih6 _ _ _ _ _ _ _ _ _ _ _ _ _
      | exact ostinatoref02_Same.mono _ _ _ _ _ _ _ _ _ _ _ _ _ _ _ _ _
      | exact ostinatoref04_Told.mono _ _ _ _ _ _ _ _ _
      | exact ostinatoref04_spread.mono _ _ _
      | exact LeO.none _
      | refine LeO.ite ?_ ?_
      | refine LeO.bind ?_ (fun _ => ?_)
theorem ostinatoref04_Simple.mono : ∀ a0 a1 a2 a3 a4 a5 a6 a7 k, LeO (ostinatoref04_Simple.f k a0 a1 a2 a3 a4 a5 a6 a7) (ostinatoref04_Simple.f (k + 1) a0 a1 a2 a3 a4 a5 a6 a7) := by
  intro a0 a1 a2 a3 a4 a5 a6 a7 k
  obtain ⟨ih0, ih1, ih2, ih3, ih4, ih5, ih6⟩ := ostinatoref04_Simple.mono_l k
  exact ih0 a0 a1 a2 a3 a4 a5 a6 a7
def ostinatoref04_Simple.T31 : Bool × List (List Nat × List Nat) := (true, [([], []), ([0], [0]), ([1], [1]), ([1], [1]), ([2, 3, 1], [1, 2, 3]), ([4, 1], [1, 4]), ([1], [1]), ([1], [1]), ([6, 7, 1], [1, 6, 7]), ([8, 1], [1, 8]), ([5, 9, 1, 1], [1, 5, 9]), ([1, 10], [1, 10]), ([11, 10, 0, 1, 2, 3, 4, 5, 6, 7, 8, 9, 10, 11], [0, 11])])
def ostinatoref04_Simple.B31 : List Nat := [0, 1, 3, 3, 15, 31, 3, 3, 195, 451, 1023, 2047, 4095]
theorem ostinatoref04_Simple.tab31 : rtab .any (opsOf Try.f24 31) = ostinatoref04_Simple.T31 := by kernel_rfl
theorem ostinatoref04_Simple.bits31 : waitsOk ostinatoref04_Simple.T31.2 ostinatoref04_Simple.B31 = true := by kernel_rfl

end Go.Proofs.Ytlnhiogpjdhhbaa.P
