import Derived.Test.YtmkcbbamfkafmaaPx0
import Derived.Test.YtmkcbbamfkafmaaPx1
import Derived.Test.YtmkcbbamfkafmaaPx11
-- Written by a program of this project (wip/xp over the words of the print), not by hand.
namespace Go.Proofs.Ytmkcbbamfkafmaa.P
open Go.RowKit Go.Proofs.YtmkcbbamfkafmaaW.PrintWords Go.Proofs.YtmkcbbamfkafmaaW.PrintLast Go.Proofs.YtmkcbbamfkafmaaW.PrintMore
attribute [local go_sem] max2_int min2_int max_two min_two max_three min_three max_four min_four   -- for this text's walks alone
set_option linter.unusedVariables false
set_option linter.unusedSimpArgs false

/-! ### syntax_Same: function 22 -/
/-! The same trees. -/
theorem box_belowS (w : World) (o : Obj) : Below w.heap.size w (w.alloc o) := (Below.refl _ _).alloc (Nat.le_refl _) _
mutual
def sameT : S28 → S28 → Bool
  | ⟨k, s, ps, lo, hi⟩, y => k == y.f0 && (s.f0 == y.f1.f0 && (s.f1 == y.f1.f1 && (s.f2 == y.f1.f2 && s.f3 == y.f1.f3))) && lo == y.f3 && hi == y.f4 && sameL ps y.f2
def sameL : List S28 → List S28 → Bool
  | [], l => l.isEmpty
  | p :: ps, l => match l with
    | [] => false
    | q :: qs => sameT p q && sameL ps qs
end
mutual
theorem sameT_iff : ∀ (x y : S28), sameT x y = true ↔ x = y
  | ⟨k, ⟨s0, s1, s2, s3⟩, ps, lo, hi⟩, ⟨k', ⟨t0, t1, t2, t3⟩, qs, lo', hi'⟩ => by
    rw [sameT]
    simp only [Bool.and_eq_true, beq_iff_eq, sameL_iff ps qs, S28.mk.injEq, S25.mk.injEq]
    constructor
    · rintro ⟨⟨⟨⟨a, b⟩, c⟩, d⟩, e⟩; exact ⟨a, b, e, c, d⟩
    · rintro ⟨a, b, e, c, d⟩; exact ⟨⟨⟨⟨a, b⟩, c⟩, d⟩, e⟩
theorem sameL_iff : ∀ (x y : List S28), sameL x y = true ↔ x = y
  | [], l => by cases l <;> simp [sameL]
  | p :: ps, l => by
    cases l with
    | nil => simp [sameL]
    | cons q qs => rw [sameL]; simp only [Bool.and_eq_true, sameT_iff p q, sameL_iff ps qs, List.cons.injEq]
end
theorem sameL_len (xs ys : List S28) (h : ¬ xs.length = ys.length) : sameL xs ys = false := by
  rw [Bool.eq_false_iff, Ne, sameL_iff]
  rintro rfl
  exact h rfl
section
attribute [local go_sem high] eqA25
end
-- NOT PRINTED: function 9 (ostinatolaw02_SyntaxTrees)

end Go.Proofs.Ytmkcbbamfkafmaa.P
