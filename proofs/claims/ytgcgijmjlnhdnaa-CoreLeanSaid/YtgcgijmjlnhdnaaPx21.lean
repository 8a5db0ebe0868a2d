-- Written by a program of this project (wip/xp over the words of the print), not by hand.
import Derived.Test.YtgcgijmjlnhdnaaPx0
import Derived.Test.YtgcgijmjlnhdnaaPx10
import Derived.Test.YtgcgijmjlnhdnaaPx19
namespace Go.Proofs.Ytgcgijmjlnhdnaa.P
open Go.RowKit Go.Proofs.YtgcgijmjlnhdnaaW.PrintWords Go.Proofs.YtgcgijmjlnhdnaaW.PrintLast Go.Proofs.YtgcgijmjlnhdnaaW.PrintMore
attribute [local go_sem] max2_int min2_int max_two min_two max_three min_three max_four min_four   -- for this text's walks alone
set_option linter.unusedVariables false
set_option linter.unusedSimpArgs false

theorem blk8 {w : World} {g : Nat} {t : TypeId} {c0 c1 c2 c3 c4 c5 c6 c7 : Value} (h : w.heap[g]? = some (.cells #[c0, c1, c2, c3, c4, c5, c6, c7] t (0, 0))) :
    w.cell? ⟨g, 0, none⟩ = some c0 ∧ w.cell? ⟨g, 1, none⟩ = some c1 ∧ w.cell? ⟨g, 2, none⟩ = some c2 ∧ w.cell? ⟨g, 3, none⟩ = some c3 ∧ w.cell? ⟨g, 4, none⟩ = some c4 ∧ w.cell? ⟨g, 5, none⟩ = some c5 ∧ w.cell? ⟨g, 6, none⟩ = some c6 ∧ w.cell? ⟨g, 7, none⟩ = some c7 ∧
    w.frozen? ⟨g, 0, none⟩ = false ∧ w.frozen? ⟨g, 1, none⟩ = false ∧ w.frozen? ⟨g, 2, none⟩ = false ∧ w.frozen? ⟨g, 3, none⟩ = false ∧ w.frozen? ⟨g, 4, none⟩ = false ∧ w.frozen? ⟨g, 5, none⟩ = false ∧ w.frozen? ⟨g, 6, none⟩ = false ∧ w.frozen? ⟨g, 7, none⟩ = false :=
  ⟨(blk_cell h 0).trans rfl, (blk_cell h 1).trans rfl, (blk_cell h 2).trans rfl, (blk_cell h 3).trans rfl, (blk_cell h 4).trans rfl, (blk_cell h 5).trans rfl, (blk_cell h 6).trans rfl, (blk_cell h 7).trans rfl,
    blk_frozen h 0, blk_frozen h 1, blk_frozen h 2, blk_frozen h 3, blk_frozen h 4, blk_frozen h 5, blk_frozen h 6, blk_frozen h 7⟩

/-! ### ostinatolaw04_lean: function 19 -/
mutual
def ostinatolaw04_lean.l0 : Nat → Int → Int → Int → Int → Int → Int → List (S27) → Int → Int → Option (Bool)
  | 0, _, _, _, _, _, _, _, _, _ => none
  | k + 1, x3, x303000, x303001, x303002, x303003, x303004, x303005, x303006, x303007 => if x3 < (x303005.length : Int) then (if 0 ≤ x3 then (if x303000 = 3 then (if x303000 = 4 then (if x303007 = 0 then (ostinatolaw04_lean.j1 k x3 true x303000 x303001 x303002 x303003 x303004 x303005 x303006 x303007) else (if x303006 = 1 then (if x303007 = 1 then (ostinatolaw04_lean.j1 k x3 true x303000 x303001 x303002 x303003 x303004 x303005 x303006 x303007) else (if x303006 > 0 then ((core_Nullable.f ((rd_T27 x303005 x3).f0) ((rd_T27 x303005 x3).f1.f0) ((rd_T27 x303005 x3).f1.f1) ((rd_T27 x303005 x3).f1.f2) ((rd_T27 x303005 x3).f1.f3) ((rd_T27 x303005 x3).f2) ((rd_T27 x303005 x3).f3) ((rd_T27 x303005 x3).f4)).bind fun t306 => (if t306 = true then (ostinatolaw04_lean.j1 k x3 true x303000 x303001 x303002 x303003 x303004 x303005 x303006 x303007) else ((ostinatolaw04_lean.f k ((rd_T27 x303005 x3).f0) ((rd_T27 x303005 x3).f1.f0) ((rd_T27 x303005 x3).f1.f1) ((rd_T27 x303005 x3).f1.f2) ((rd_T27 x303005 x3).f1.f3) ((rd_T27 x303005 x3).f2) ((rd_T27 x303005 x3).f3) ((rd_T27 x303005 x3).f4)).bind fun t307 => (ostinatolaw04_lean.j1 k x3 (!t307) x303000 x303001 x303002 x303003 x303004 x303005 x303006 x303007)))) else ((ostinatolaw04_lean.f k ((rd_T27 x303005 x3).f0) ((rd_T27 x303005 x3).f1.f0) ((rd_T27 x303005 x3).f1.f1) ((rd_T27 x303005 x3).f1.f2) ((rd_T27 x303005 x3).f1.f3) ((rd_T27 x303005 x3).f2) ((rd_T27 x303005 x3).f3) ((rd_T27 x303005 x3).f4)).bind fun t308 => (ostinatolaw04_lean.j1 k x3 (!t308) x303000 x303001 x303002 x303003 x303004 x303005 x303006 x303007)))) else (if x303006 > 0 then ((core_Nullable.f ((rd_T27 x303005 x3).f0) ((rd_T27 x303005 x3).f1.f0) ((rd_T27 x303005 x3).f1.f1) ((rd_T27 x303005 x3).f1.f2) ((rd_T27 x303005 x3).f1.f3) ((rd_T27 x303005 x3).f2) ((rd_T27 x303005 x3).f3) ((rd_T27 x303005 x3).f4)).bind fun t309 => (if t309 = true then (ostinatolaw04_lean.j1 k x3 true x303000 x303001 x303002 x303003 x303004 x303005 x303006 x303007) else ((ostinatolaw04_lean.f k ((rd_T27 x303005 x3).f0) ((rd_T27 x303005 x3).f1.f0) ((rd_T27 x303005 x3).f1.f1) ((rd_T27 x303005 x3).f1.f2) ((rd_T27 x303005 x3).f1.f3) ((rd_T27 x303005 x3).f2) ((rd_T27 x303005 x3).f3) ((rd_T27 x303005 x3).f4)).bind fun t310 => (ostinatolaw04_lean.j1 k x3 (!t310) x303000 x303001 x303002 x303003 x303004 x303005 x303006 x303007)))) else ((ostinatolaw04_lean.f k ((rd_T27 x303005 x3).f0) ((rd_T27 x303005 x3).f1.f0) ((rd_T27 x303005 x3).f1.f1) ((rd_T27 x303005 x3).f1.f2) ((rd_T27 x303005 x3).f1.f3) ((rd_T27 x303005 x3).f2) ((rd_T27 x303005 x3).f3) ((rd_T27 x303005 x3).f4)).bind fun t311 => (ostinatolaw04_lean.j1 k x3 (!t311) x303000 x303001 x303002 x303003 x303004 x303005 x303006 x303007))))) else (if x303000 = ((rd_T27 x303005 x3).f0) then (ostinatolaw04_lean.j1 k x3 true x303000 x303001 x303002 x303003 x303004 x303005 x303006 x303007) else ((ostinatolaw04_lean.f k ((rd_T27 x303005 x3).f0) ((rd_T27 x303005 x3).f1.f0) ((rd_T27 x303005 x3).f1.f1) ((rd_T27 x303005 x3).f1.f2) ((rd_T27 x303005 x3).f1.f3) ((rd_T27 x303005 x3).f2) ((rd_T27 x303005 x3).f3) ((rd_T27 x303005 x3).f4)).bind fun t312 => (ostinatolaw04_lean.j1 k x3 (!t312) x303000 x303001 x303002 x303003 x303004 x303005 x303006 x303007)))) else (if ((rd_T27 x303005 x3).f0) = 0 then (ostinatolaw04_lean.j1 k x3 true x303000 x303001 x303002 x303003 x303004 x303005 x303006 x303007) else (if x303000 = 4 then (if x303007 = 0 then (ostinatolaw04_lean.j1 k x3 true x303000 x303001 x303002 x303003 x303004 x303005 x303006 x303007) else (if x303006 = 1 then (if x303007 = 1 then (ostinatolaw04_lean.j1 k x3 true x303000 x303001 x303002 x303003 x303004 x303005 x303006 x303007) else (if x303006 > 0 then ((core_Nullable.f ((rd_T27 x303005 x3).f0) ((rd_T27 x303005 x3).f1.f0) ((rd_T27 x303005 x3).f1.f1) ((rd_T27 x303005 x3).f1.f2) ((rd_T27 x303005 x3).f1.f3) ((rd_T27 x303005 x3).f2) ((rd_T27 x303005 x3).f3) ((rd_T27 x303005 x3).f4)).bind fun t313 => (if t313 = true then (ostinatolaw04_lean.j1 k x3 true x303000 x303001 x303002 x303003 x303004 x303005 x303006 x303007) else ((ostinatolaw04_lean.f k ((rd_T27 x303005 x3).f0) ((rd_T27 x303005 x3).f1.f0) ((rd_T27 x303005 x3).f1.f1) ((rd_T27 x303005 x3).f1.f2) ((rd_T27 x303005 x3).f1.f3) ((rd_T27 x303005 x3).f2) ((rd_T27 x303005 x3).f3) ((rd_T27 x303005 x3).f4)).bind fun t314 => (ostinatolaw04_lean.j1 k x3 (!t314) x303000 x303001 x303002 x303003 x303004 x303005 x303006 x303007)))) else ((ostinatolaw04_lean.f k ((rd_T27 x303005 x3).f0) ((rd_T27 x303005 x3).f1.f0) ((rd_T27 x303005 x3).f1.f1) ((rd_T27 x303005 x3).f1.f2) ((rd_T27 x303005 x3).f1.f3) ((rd_T27 x303005 x3).f2) ((rd_T27 x303005 x3).f3) ((rd_T27 x303005 x3).f4)).bind fun t315 => (ostinatolaw04_lean.j1 k x3 (!t315) x303000 x303001 x303002 x303003 x303004 x303005 x303006 x303007)))) else (if x303006 > 0 then ((core_Nullable.f ((rd_T27 x303005 x3).f0) ((rd_T27 x303005 x3).f1.f0) ((rd_T27 x303005 x3).f1.f1) ((rd_T27 x303005 x3).f1.f2) ((rd_T27 x303005 x3).f1.f3) ((rd_T27 x303005 x3).f2) ((rd_T27 x303005 x3).f3) ((rd_T27 x303005 x3).f4)).bind fun t316 => (if t316 = true then (ostinatolaw04_lean.j1 k x3 true x303000 x303001 x303002 x303003 x303004 x303005 x303006 x303007) else ((ostinatolaw04_lean.f k ((rd_T27 x303005 x3).f0) ((rd_T27 x303005 x3).f1.f0) ((rd_T27 x303005 x3).f1.f1) ((rd_T27 x303005 x3).f1.f2) ((rd_T27 x303005 x3).f1.f3) ((rd_T27 x303005 x3).f2) ((rd_T27 x303005 x3).f3) ((rd_T27 x303005 x3).f4)).bind fun t317 => (ostinatolaw04_lean.j1 k x3 (!t317) x303000 x303001 x303002 x303003 x303004 x303005 x303006 x303007)))) else ((ostinatolaw04_lean.f k ((rd_T27 x303005 x3).f0) ((rd_T27 x303005 x3).f1.f0) ((rd_T27 x303005 x3).f1.f1) ((rd_T27 x303005 x3).f1.f2) ((rd_T27 x303005 x3).f1.f3) ((rd_T27 x303005 x3).f2) ((rd_T27 x303005 x3).f3) ((rd_T27 x303005 x3).f4)).bind fun t318 => (ostinatolaw04_lean.j1 k x3 (!t318) x303000 x303001 x303002 x303003 x303004 x303005 x303006 x303007))))) else (if x303000 = ((rd_T27 x303005 x3).f0) then (ostinatolaw04_lean.j1 k x3 true x303000 x303001 x303002 x303003 x303004 x303005 x303006 x303007) else ((ostinatolaw04_lean.f k ((rd_T27 x303005 x3).f0) ((rd_T27 x303005 x3).f1.f0) ((rd_T27 x303005 x3).f1.f1) ((rd_T27 x303005 x3).f1.f2) ((rd_T27 x303005 x3).f1.f3) ((rd_T27 x303005 x3).f2) ((rd_T27 x303005 x3).f3) ((rd_T27 x303005 x3).f4)).bind fun t319 => (ostinatolaw04_lean.j1 k x3 (!t319) x303000 x303001 x303002 x303003 x303004 x303005 x303006 x303007)))))) else (none)) else (some true)
def ostinatolaw04_lean.j1 : Nat → Int → Bool → Int → Int → Int → Int → Int → List (S27) → Int → Int → Option (Bool)
  | 0, _, _, _, _, _, _, _, _, _, _ => none
  | k + 1, x3, x72, x303000, x303001, x303002, x303003, x303004, x303005, x303006, x303007 => if x72 = true then (some false) else (ostinatolaw04_lean.l0 k (wrap64 (x3 + 1)) x303000 x303001 x303002 x303003 x303004 x303005 x303006 x303007)
def ostinatolaw04_lean.f : Nat → Int → Int → Int → Int → Int → List (S27) → Int → Int → Option (Bool)
  | 0, _, _, _, _, _, _, _, _ => none
  | k + 1, a0_0, a0_1, a0_2, a0_3, a0_4, l0_5, a0_6, a0_7 => (core_Void.f a0_0 a0_1 a0_2 a0_3 a0_4 l0_5 a0_6 a0_7).bind fun t303 => (if t303 = true then (some false) else (ostinatolaw04_lean.l0 k 0 a0_0 a0_1 a0_2 a0_3 a0_4 l0_5 a0_6 a0_7))
end
theorem ostinatolaw04_lean.mono_l : ∀ k, (∀ y0 y1 y2 y3 y4 y5 y6 y7, LeO (ostinatolaw04_lean.f k y0 y1 y2 y3 y4 y5 y6 y7) (ostinatolaw04_lean.f (k + 1) y0 y1 y2 y3 y4 y5 y6 y7)) ∧ (∀ y0 y1 y2 y3 y4 y5 y6 y7 y8, LeO (ostinatolaw04_lean.l0 k y0 y1 y2 y3 y4 y5 y6 y7 y8) (ostinatolaw04_lean.l0 (k + 1) y0 y1 y2 y3 y4 y5 y6 y7 y8)) ∧ (∀ y0 y1 y2 y3 y4 y5 y6 y7 y8 y9, LeO (ostinatolaw04_lean.j1 k y0 y1 y2 y3 y4 y5 y6 y7 y8 y9) (ostinatolaw04_lean.j1 (k + 1) y0 y1 y2 y3 y4 y5 y6 y7 y8 y9))
  | 0 => ⟨fun _ _ _ _ _ _ _ _ r h => by simp [ostinatolaw04_lean.f] at h, fun _ _ _ _ _ _ _ _ _ r h => by simp [ostinatolaw04_lean.l0] at h, fun _ _ _ _ _ _ _ _ _ _ r h => by simp [ostinatolaw04_lean.j1] at h⟩
  | k + 1 => by
    obtain ⟨ih0, ih1, ih2⟩ := ostinatolaw04_lean.mono_l k
    refine ⟨?_, ?_, ?_⟩
    · intro y0 y1 y2 y3 y4 y5 y6 y7
      unfold ostinatolaw04_lean.f
      repeat' first
      | (with_reducible exact ih0 _ _ _ _ _ _ _ _)
      | (with_reducible exact ih1 _ _ _ _ _ _ _ _ _)
      | (with_reducible exact ih2 _ _ _ _ _ _ _ _ _ _)
      | (with_reducible exact LeO.refl _)
      | (with_reducible exact LeO.none _)
      | (with_reducible refine LeO.ite ?_ ?_)
      | (with_reducible refine LeO.bind ?_ (fun _ => ?_))
      | exact ih0 _ _ _ _ _ _ _ _
      | exact ih1 _ _ _ _ _ _ _ _ _
      | exact ih2 _ _ _ _ _ _ _ _ _ _
      | exact LeO.none _
      | refine LeO.ite ?_ ?_
      | refine LeO.bind ?_ (fun _ => ?_)
    · intro y0 y1 y2 y3 y4 y5 y6 y7 y8
      unfold ostinatolaw04_lean.l0
      repeat' first
      | (with_reducible exact ih0 _ _ _ _ _ _ _ _)
      | (with_reducible exact ih1 _ _ _ _ _ _ _ _ _)
      | (with_reducible exact ih2 _ _ _ _ _ _ _ _ _ _)
      | (with_reducible exact LeO.refl _)
      | (with_reducible exact LeO.none _)
      | (with_reducible refine LeO.ite ?_ ?_)
      | (with_reducible refine LeO.bind ?_ (fun _ => ?_))
      | exact ih0 _ _ _ _ _ _ _ _
      | exact ih1 _ _ _ _ _ _ _ _ _
      | exact ih2 _ _ _ _ _ _ _ _ _ _
      | exact LeO.none _
      | refine LeO.ite ?_ ?_
      | refine LeO.bind ?_ (fun _ => ?_)
    · intro y0 y1 y2 y3 y4 y5 y6 y7 y8 y9
      unfold ostinatolaw04_lean.j1
      repeat' first
      | (with_reducible exact ih0 _ _ _ _ _ _ _ _)
      | (with_reducible exact ih1 _ _ _ _ _ _ _ _ _)
      | (with_reducible exact ih2 _ _ _ _ _ _ _ _ _ _)
      | (with_reducible exact LeO.refl _)
      | (with_reducible exact LeO.none _)
      | (with_reducible refine LeO.ite ?_ ?_)
      | (with_reducible refine LeO.bind ?_ (fun _ => ?_))
      | exact ih0 _ _ _ _ _ _ _ _
      | exact ih1 _ _ _ _ _ _ _ _ _
      | exact ih2 _ _ _ _ _ _ _ _ _ _
      | exact LeO.none _
      | refine LeO.ite ?_ ?_
      | refine LeO.bind ?_ (fun _ => ?_)
theorem ostinatolaw04_lean.mono : ∀ a0 a1 a2 a3 a4 a5 a6 a7 k, LeO (ostinatolaw04_lean.f k a0 a1 a2 a3 a4 a5 a6 a7) (ostinatolaw04_lean.f (k + 1) a0 a1 a2 a3 a4 a5 a6 a7) := by
  intro a0 a1 a2 a3 a4 a5 a6 a7 k
  obtain ⟨ih0, ih1, ih2⟩ := ostinatolaw04_lean.mono_l k
  exact ih0 a0 a1 a2 a3 a4 a5 a6 a7

end Go.Proofs.Ytgcgijmjlnhdnaa.P
