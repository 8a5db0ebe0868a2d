/- ClassWhole: the walk. -/
import Derived.Test.YthknfjiggdkcaaaDoorPt10
import Derived.Lib.QuietBelow
namespace Go.Proofs.YthknfjiggdkcaaaDoor
open Go.RowKit Go.Maps
set_option linter.unusedVariables false
set_option linter.unusedSimpArgs false
theorem empty_v (a0 a1 a2 a3 : Int) (h : W64 (fn4 a0 a1 a2 a3)) (w : World) :
    Calls Tryd.prog 15 #[.agg #[.int .u64 a0, .int .u64 a1, .int .u64 a2, .int .u64 a3]] w fun e w' => e = .returned (.bool (sizeC (fn4 a0 a1 a2 a3) == 0)) ∧ Below w.heap.size w w' :=
  empty_any (fn4 a0 a1 a2 a3) h w
theorem fn4_of (x : Cw) (j : Nat) (hj : j < 4) : fn4 (x 0) (x 1) (x 2) (x 3) j = x j := by
  match j, hj with
  | 0, _ => rfl
  | 1, _ => rfl
  | 2, _ => rfl
  | 3, _ => rfl
theorem size_fn4 (x : Cw) : sizeC (fn4 (x 0) (x 1) (x 2) (x 3)) = sizeC x := by
  unfold sizeC
  refine cnt_congr 256 fun i hi => ?_
  unfold hasB
  rw [fn4_of x _ (by omega)]
theorem w64_fn4c {x : Cw} (h : W64 x) : W64 (fn4 (x 0) (x 1) (x 2) (x 3)) := fun j hj => by rw [fn4_of x j hj]; exact h j hj
theorem empty_c (x : Cw) (h : W64 x) (w : World) :
    Calls Tryd.prog 15 #[.agg #[.int .u64 (x 0), .int .u64 (x 1), .int .u64 (x 2), .int .u64 (x 3)]] w fun e w' => e = .returned (.bool (sizeC x == 0)) ∧ Below w.heap.size w w' := by
  have := empty_v (x 0) (x 1) (x 2) (x 3) (w64_fn4c h) w
  rw [size_fn4] at this
  exact this
/-- What the walk needs of a part: the sum so far and the part. -/
structure Stp (l : List Cw) (i : Nat) (s0 s1 s2 s3 p0 p1 p2 p3 : Int) : Prop where
  e1 : ∀ W, Calls Tryd.prog 15 #[.agg #[.int .u64 p0, .int .u64 p1, .int .u64 p2, .int .u64 p3]] W fun e w' => e = .returned (.bool false) ∧ Below W.heap.size W w'
  an : ∀ W, Calls Tryd.prog 7 #[.agg #[.int .u64 s0, .int .u64 s1, .int .u64 s2, .int .u64 s3], .agg #[.int .u64 p0, .int .u64 p1, .int .u64 p2, .int .u64 p3]] W fun e w' => e = .returned (.agg #[.int .u64 (andw s0 p0), .int .u64 (andw s1 p1), .int .u64 (andw s2 p2), .int .u64 (andw s3 p3)]) ∧ Below W.heap.size W w'
  e2 : ∀ W, Calls Tryd.prog 15 #[.agg #[.int .u64 (andw s0 p0), .int .u64 (andw s1 p1), .int .u64 (andw s2 p2), .int .u64 (andw s3 p3)]] W fun e w' => e = .returned (.bool true) ∧ Below W.heap.size W w'
  or_ : ∀ W, Calls Tryd.prog 8 #[.agg #[.int .u64 s0, .int .u64 s1, .int .u64 s2, .int .u64 s3], .agg #[.int .u64 p0, .int .u64 p1, .int .u64 p2, .int .u64 p3]] W fun e w' => e = .returned (.agg #[.int .u64 (clsOf (sumF l (i + 1)) 0), .int .u64 (clsOf (sumF l (i + 1)) 1), .int .u64 (clsOf (sumF l (i + 1)) 2), .int .u64 (clsOf (sumF l (i + 1)) 3)]) ∧ Below W.heap.size W w'
  sz : ∀ W, Calls Tryd.prog 14 #[.agg #[.int .u64 p0, .int .u64 p1, .int .u64 p2, .int .u64 p3]] W fun e w' => e = .returned (.int .i64 ((cnt (sumF l (i + 1)) 256 : Nat) - (cnt (sumF l i) 256 : Nat) : Int)) ∧ Below W.heap.size W w'
section
variable {l xs : List Cw} (x1 : xs.length = (firsts l 256).length) (x2 : AllW xs) (x3 : ∀ i, i < xs.length → ∀ q : Nat, q < 256 → hasB (clAt xs i) q = (decide (q < 256) && decide (idx l 256 q = i)))
include x1 x2 x3
theorem stp {i : Nat} (hi : i < xs.length) : Stp l i (clsOf (sumF l i) 0) (clsOf (sumF l i) 1) (clsOf (sumF l i) 2) (clsOf (sumF l i) 3) (clAt xs i 0) (clAt xs i 1) (clAt xs i 2) (clAt xs i 3) := by
  refine ⟨fun W => ?_, fun W => and_v _ _ _ _ _ _ _ _ W, fun W => ?_, fun W => ?_, fun W => ?_⟩
  · have := empty_c (clAt xs i) (x2 i hi) W
    rw [part_some x1 x3 hi] at this
    exact this
  · have := empty_c (fun j => andw (clsOf (sumF l i) j) (clAt xs i j)) (and_cls (w64_clsOf (sumF l i)) (x2 i hi)).1 W
    rw [sum_apart x2 x3 hi] at this
    exact this
  · have := or_v (clsOf (sumF l i) 0) (clsOf (sumF l i) 1) (clsOf (sumF l i) 2) (clsOf (sumF l i) 3) (clAt xs i 0) (clAt xs i 1) (clAt xs i 2) (clAt xs i 3) W
    rw [sum_next x2 x3 hi 0 (by omega), sum_next x2 x3 hi 1 (by omega), sum_next x2 x3 hi 2 (by omega), sum_next x2 x3 hi 3 (by omega)] at this
    exact this
  · have := size_any (clAt xs i) (x2 i hi) W
    have e := sum_cnt x3 hi
    rw [show ((sizeC (clAt xs i) : Nat) : Int) = ((cnt (sumF l (i + 1)) 256 : Nat) - (cnt (sumF l i) 256 : Nat) : Int) by omega] at this
    exact this
end
/-- A class and a part. -/
def Whl (a0 a1 a2 a3 p0 p1 p2 p3 : Int) : Prop :=
  (∀ W, Calls Tryd.prog 15 #[.agg #[.int .u64 (andw a0 p0), .int .u64 (andw a1 p1), .int .u64 (andw a2 p2), .int .u64 (andw a3 p3)]] W fun e w' => e = .returned (.bool true) ∧ Below W.heap.size W w') ∨
  (andw a0 p0 = p0 ∧ andw a1 p1 = p1 ∧ andw a2 p2 = p2 ∧ andw a3 p3 = p3)
theorem whl {l xs : List Cw} (x1 : xs.length = (firsts l 256).length) (x2 : AllW xs) (x3 : ∀ i, i < xs.length → ∀ q : Nat, q < 256 → hasB (clAt xs i) q = (decide (q < 256) && decide (idx l 256 q = i))) (hl : AllW l) {i k : Nat} (hi : i < xs.length) (hk : k < l.length) :
    Whl (clAt l k 0) (clAt l k 1) (clAt l k 2) (clAt l k 3) (clAt xs i 0) (clAt xs i 1) (clAt xs i 2) (clAt xs i 3) := by
  rcases whole_part x1 x2 x3 hl hi hk with h | h
  · left
    intro W
    have := empty_c (fun j => andw (clAt l k j) (clAt xs i j)) (and_cls (hl k hk) (x2 i hi)).1 W
    rw [h] at this
    exact this
  · exact .inr ⟨h 0 (by omega), h 1 (by omega), h 2 (by omega), h 3 (by omega)⟩
end Go.Proofs.YthknfjiggdkcaaaDoor
