/- The walk of the statement ClassBytes. -/
import Derived.Test.YthknfjiggdkcaaaDoorCl1
import Derived.Test.YthknfjiggdkcaaaDoorRinv
import Derived.Lib.QuietBelow
import Derived.Deep.DeepCutAuto
namespace Go.Proofs.YthknfjiggdkcaaaDoor
open Go.RowKit
set_option linter.unusedVariables false
set_option linter.unusedSimpArgs false

def fst (f : Nat → Bool) : Nat → Int
  | 0 => -1
  | n + 1 => if fst f n < 0 then (if f n then (n : Int) else -1) else fst f n
theorem fst_none {f : Nat → Bool} : ∀ n, (∀ i, i < n → f i = false) → fst f n = -1
  | 0, _ => rfl
  | n + 1, h => by rw [fst, fst_none n (fun i hi => h i (by omega)), h n (by omega)]; rfl
theorem fst_some {f : Nat → Bool} {b : Nat} (hb : f b = true) (hl : ∀ i, i < b → f i = false) : ∀ n, b < n → fst f n = b
  | 0, h => by omega
  | n + 1, h => by
    rw [fst]
    by_cases e : b = n
    · subst e
      rw [fst_none b hl, hb]; rfl
    · rw [fst_some hb hl n (by omega), if_neg (by omega)]
theorem fst_range (f : Nat → Bool) : ∀ n, -1 ≤ fst f n ∧ fst f n < n
  | 0 => by simp [fst]
  | n + 1 => by
    have := fst_range f n
    rw [fst]
    split
    · split <;> omega
    · omega
theorem least_ex (f : Nat → Bool) : ∀ n, (∀ i, i < n → f i = false) ∨ ∃ b, b < n ∧ f b = true ∧ ∀ i, i < b → f i = false
  | 0 => .inl (fun i h => by omega)
  | n + 1 => by
    rcases least_ex f n with h | ⟨b, hb, h1, h2⟩
    · cases hf : f n with
      | true => exact .inr ⟨n, by omega, hf, h⟩
      | false =>
        refine .inl fun i hi => ?_
        by_cases e : i = n
        · subst e; exact hf
        · exact h i (by omega)
    · exact .inr ⟨b, by omega, h1, h2⟩
/-- The five classes, and what else is kept. -/
structure C5 (w W : World) (A B P Q R : Nat) (x y : Nat → Int) : Prop where
  a : W.rowIs A 24 4 (fun j => .int .u64 (x j))
  b : W.rowIs B 24 4 (fun j => .int .u64 (y j))
  p : W.rowIs P 24 4 (fun j => .int .u64 (andw (x j) (y j)))
  q : W.rowIs Q 24 4 (fun j => .int .u64 (orw (x j) (y j)))
  r : W.rowIs R 24 4 (fun j => .int .u64 (notw (x j)))
  ext : Below w.heap.size w W
theorem C5.below {w W W' : World} {A B P Q R : Nat} {x y : Nat → Int} (h : C5 w W A B P Q R x y) (hb : Below W.heap.size W W') : C5 w W' A B P Q R x y :=
  ⟨row_below h.a hb, row_below h.b hb, row_below h.p hb, row_below h.q hb, row_below h.r hb, ext_trans h.ext hb⟩

end Go.Proofs.YthknfjiggdkcaaaDoor
