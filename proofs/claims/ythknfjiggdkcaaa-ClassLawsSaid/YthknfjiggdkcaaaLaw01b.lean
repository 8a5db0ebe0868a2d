/- The walk of the statement ClassLaws. -/
import Derived.Test.YthknfjiggdkcaaaLaw01a
import Derived.Deep.RegionHeld3
namespace Go.Proofs.Ythknfjiggdkcaaa
open Go.RowKit

abbrev Cells8 (b : Nat) (x y : Nat → Int) (W : World) : Prop :=
  W.cell? ⟨b, 0, none⟩ = some (.int .u64 (x 0)) ∧ W.cell? ⟨b, 1, none⟩ = some (.int .u64 (x 1)) ∧ W.cell? ⟨b, 2, none⟩ = some (.int .u64 (x 2)) ∧ W.cell? ⟨b, 3, none⟩ = some (.int .u64 (x 3)) ∧
  W.cell? ⟨b + 1, 0, none⟩ = some (.int .u64 (y 0)) ∧ W.cell? ⟨b + 1, 1, none⟩ = some (.int .u64 (y 1)) ∧ W.cell? ⟨b + 1, 2, none⟩ = some (.int .u64 (y 2)) ∧ W.cell? ⟨b + 1, 3, none⟩ = some (.int .u64 (y 3))
theorem cells8_keep {b : Nat} {x y : Nat → Int} {w W w' : World} (h : Cells8 b x y W ∧ Below w.heap.size w W) (hb : Below W.heap.size W w') : Cells8 b x y w' ∧ Below w.heap.size w w' := by
  obtain ⟨⟨h0, h1, h2, h3, h4, h5, h6, h7⟩, hB⟩ := h
  have k : ∀ {a : Addr} {v : Value}, W.cell? a = some v → w'.cell? a = some v := fun h => (hb.cell (World.block_lt_of_cell? W _ h)).trans h
  exact ⟨⟨k h0, k h1, k h2, k h3, k h4, k h5, k h6, k h7⟩, ext_trans hB hb⟩
theorem cells8_start {x y : Nat → Int} (w : World) (t : TypeId) :
    Cells8 w.heap.size x y (((w.alloc (.cells #[.int .u64 (x 0), .int .u64 (x 1), .int .u64 (x 2), .int .u64 (x 3)] t)).alloc (.cells #[.int .u64 (y 0), .int .u64 (y 1), .int .u64 (y 2), .int .u64 (y 3)] t)).drew) ∧
    Below w.heap.size w (((w.alloc (.cells #[.int .u64 (x 0), .int .u64 (x 1), .int .u64 (x 2), .int .u64 (x 3)] t)).alloc (.cells #[.int .u64 (y 0), .int .u64 (y 1), .int .u64 (y 2), .int .u64 (y 3)] t)).drew) := by
  have h1 := row4 ((row4_new w (fun j => .int .u64 (x j)) t).alloc (.cells #[.int .u64 (y 0), .int .u64 (y 1), .int .u64 (y 2), .int .u64 (y 3)] t))
  have h2 := row4 (row4_new1 w (.cells #[.int .u64 (x 0), .int .u64 (x 1), .int .u64 (x 2), .int .u64 (x 3)] t) (fun j => .int .u64 (y j)) t)
  exact ⟨⟨h1.1, h1.2.1, h1.2.2.1, h1.2.2.2.1, h2.1, h2.2.1, h2.2.2.1, h2.2.2.2.1⟩, (ext_alloc (ext_new w _) _).drew⟩

set_option maxRecDepth 100000 in
set_option maxHeartbeats 1000000 in
theorem classLaws_any (x y : Nat → Int) (hx : W64 x) (hy : W64 y) (w : World) :
    Calls Try.prog 4 #[.agg #[.int .u64 (x 0), .int .u64 (x 1), .int .u64 (x 2), .int .u64 (x 3)], .agg #[.int .u64 (y 0), .int .u64 (y 1), .int .u64 (y 2), .int .u64 (y 3)]] w fun e w' => e = .returned (.bool true) ∧ Below w.heap.size w w' := by
  have n0 := not_and (hx 0 (by omega)).1 (hx 0 (by omega)).2 (hy 0 (by omega)).1 (hy 0 (by omega)).2
  have n1 := not_and (hx 1 (by omega)).1 (hx 1 (by omega)).2 (hy 1 (by omega)).1 (hy 1 (by omega)).2
  have n2 := not_and (hx 2 (by omega)).1 (hx 2 (by omega)).2 (hy 2 (by omega)).1 (hy 2 (by omega)).2
  have n3 := not_and (hx 3 (by omega)).1 (hx 3 (by omega)).2 (hy 3 (by omega)).1 (hy 3 (by omega)).2
  have m0 := not_not (hx 0 (by omega)).1 (hx 0 (by omega)).2
  have m1 := not_not (hx 1 (by omega)).1 (hx 1 (by omega)).2
  have m2 := not_not (hx 2 (by omega)).1 (hx 2 (by omega)).2
  have m3 := not_not (hx 3 (by omega)).1 (hx 3 (by omega)).2
  have l1 := size4_le (x 0) (x 1) (x 2) (x 3)
  have l2 := size4_le (y 0) (y 1) (y 2) (y 3)
  have l3 := size4_le (andw (x 0) (y 0)) (andw (x 1) (y 1)) (andw (x 2) (y 2)) (andw (x 3) (y 3))
  have l4 := size4_le (orw (x 0) (y 0)) (orw (x 1) (y 1)) (orw (x 2) (y 2)) (orw (x 3) (y 3))
  have hs := size_sum hx hy
  have hsb : (((size4 (x 0) (x 1) (x 2) (x 3) : Nat) : Int) + ((size4 (y 0) (y 1) (y 2) (y 3) : Nat) : Int) == ((size4 (andw (x 0) (y 0)) (andw (x 1) (y 1)) (andw (x 2) (y 2)) (andw (x 3) (y 3)) : Nat) : Int) + ((size4 (orw (x 0) (y 0)) (orw (x 1) (y 1)) (orw (x 2) (y 2)) (orw (x 3) (y 3)) : Nat) : Int)) = true := by
    rw [beq_iff_eq]
    omega
  clear hs
  have wx : W64 (fn4 (x 0) (x 1) (x 2) (x 3)) := w64_fn4 (hx 0 (by omega)) (hx 1 (by omega)) (hx 2 (by omega)) (hx 3 (by omega))
  have wy : W64 (fn4 (y 0) (y 1) (y 2) (y 3)) := w64_fn4 (hy 0 (by omega)) (hy 1 (by omega)) (hy 2 (by omega)) (hy 3 (by omega))
  have wa : W64 (fn4 (andw (x 0) (y 0)) (andw (x 1) (y 1)) (andw (x 2) (y 2)) (andw (x 3) (y 3))) := w64_fn4 ((and_cls hx hy).1 0 (by omega)) ((and_cls hx hy).1 1 (by omega)) ((and_cls hx hy).1 2 (by omega)) ((and_cls hx hy).1 3 (by omega))
  have wo : W64 (fn4 (orw (x 0) (y 0)) (orw (x 1) (y 1)) (orw (x 2) (y 2)) (orw (x 3) (y 3))) := w64_fn4 ((or_cls hx hy).1 0 (by omega)) ((or_cls hx hy).1 1 (by omega)) ((or_cls hx hy).1 2 (by omega)) ((or_cls hx hy).1 3 (by omega))
  have heq := eqC
  go_enter Try.func4, Try.ntmps4
  go_wp2
  go_region_held3 (fun w' => Cells8 w.heap.size x y w' ∧ Below w.heap.size w w')
    (first | exact cells8_keep (by assumption) (by assumption) | exact cells8_start w _)
    (first
      | (go_at_call 5; refine (awake_any _).mono ?_; rintro e w' ⟨rfl, hb'⟩)
      | (go_at_call 9; refine (not_v _ _ _ _ _).mono ?_; rintro e w' ⟨rfl, hb'⟩)
      | (go_at_call 10; refine (and_v _ _ _ _ _ _ _ _ _).mono ?_; rintro e w' ⟨rfl, hb'⟩)
      | (go_at_call 11; refine (or_v _ _ _ _ _ _ _ _ _).mono ?_; rintro e w' ⟨rfl, hb'⟩)
      | (go_at_call 12; refine (size_v _ _ _ _ (by assumption) _).mono ?_; rintro e w' ⟨rfl, hb'⟩))
  all_goals
    go_wp2
    go_ret
    refine ⟨?_, And.right (by assumption)⟩
    show Ending.returned (.bool (IntKind.i64.wrap _ == IntKind.i64.wrap _)) = _
    rw [beq_iff_eq.1 hsb]
    simp
end Go.Proofs.Ythknfjiggdkcaaa
