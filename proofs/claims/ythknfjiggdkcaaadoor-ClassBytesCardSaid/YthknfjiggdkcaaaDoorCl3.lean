/- The walk of the statement ClassBytes. -/
import Derived.Test.YthknfjiggdkcaaaDoorCl2
import Derived.Test.YthknfjiggdkcaaaDoorRinv
import Derived.Deep.DeepCutAuto
namespace Go.Proofs.YthknfjiggdkcaaaDoor
open Go.RowKit
set_option linter.unusedVariables false
set_option linter.unusedSimpArgs false

/-- What holds of the statement 'x, y, z := And(a, b), Or(a, b), Not(a)' once the operations of b are done. -/
structure R5 (b : Nat → Prop) (w W : World) (x y : Nat → Int) (v5 v6 v7 v15 v16 v17 v18 v19 v20 v21 v22 : Value) : Prop where
  a : W.rowIs w.heap.size 24 4 (fun j => .int .u64 (x j))
  c : W.rowIs (w.heap.size + 1) 24 4 (fun j => .int .u64 (y j))
  ext : Below w.heap.size w W
  h0 : b 0 → v15 = .agg #[.int .u64 (x 0), .int .u64 (x 1), .int .u64 (x 2), .int .u64 (x 3)]
  h1 : b 1 → v16 = .agg #[.int .u64 (y 0), .int .u64 (y 1), .int .u64 (y 2), .int .u64 (y 3)]
  h2 : b 2 → v17 = .agg #[.int .u64 (andw (x 0) (y 0)), .int .u64 (andw (x 1) (y 1)), .int .u64 (andw (x 2) (y 2)), .int .u64 (andw (x 3) (y 3))]
  h3 : b 3 → v18 = .agg #[.int .u64 (x 0), .int .u64 (x 1), .int .u64 (x 2), .int .u64 (x 3)]
  h4 : b 4 → v19 = .agg #[.int .u64 (y 0), .int .u64 (y 1), .int .u64 (y 2), .int .u64 (y 3)]
  h5 : b 5 → v20 = .agg #[.int .u64 (orw (x 0) (y 0)), .int .u64 (orw (x 1) (y 1)), .int .u64 (orw (x 2) (y 2)), .int .u64 (orw (x 3) (y 3))]
  h6 : b 6 → v21 = .agg #[.int .u64 (x 0), .int .u64 (x 1), .int .u64 (x 2), .int .u64 (x 3)]
  h7 : b 7 → v22 = .agg #[.int .u64 (notw (x 0)), .int .u64 (notw (x 1)), .int .u64 (notw (x 2)), .int .u64 (notw (x 3))]
  h8 : b 8 → ∃ p, v5 = .pointer (some ⟨p, 0, none⟩) ∧ w.heap.size + 2 ≤ p ∧ ∃ f, W.rowIs p 24 4 f ∧ (b 11 → f = fun j => .int .u64 (andw (x j) (y j)))
  h9 : b 9 → ∃ p, v6 = .pointer (some ⟨p, 0, none⟩) ∧ w.heap.size + 2 ≤ p ∧ ∃ f, W.rowIs p 24 4 f ∧ (b 12 → f = fun j => .int .u64 (orw (x j) (y j)))
  h10 : b 10 → ∃ p, v7 = .pointer (some ⟨p, 0, none⟩) ∧ w.heap.size + 2 ≤ p ∧ ∃ f, W.rowIs p 24 4 f ∧ (b 13 → f = fun j => .int .u64 (notw (x j)))
  d1 : b 8 → b 9 → v5 ≠ v6
  d2 : b 8 → b 10 → v5 ≠ v7
  d3 : b 9 → b 10 → v6 ≠ v7
  e11 : b 11 → b 8
  e12 : b 12 → b 9
  e13 : b 13 → b 10
section
variable {b : Nat → Prop} {w W W' : World} {x y : Nat → Int} {v5 v6 v7 v15 v16 v17 v18 v19 v20 v21 v22 : Value}
theorem R5.below (h : R5 b w W x y v5 v6 v7 v15 v16 v17 v18 v19 v20 v21 v22) (hb : Below W.heap.size W W') : R5 b w W' x y v5 v6 v7 v15 v16 v17 v18 v19 v20 v21 v22 :=
  ⟨row_below h.a hb, row_below h.c hb, ext_trans h.ext hb, h.h0, h.h1, h.h2, h.h3, h.h4, h.h5, h.h6, h.h7, fun q => by obtain ⟨p, e1, e2, f, e3, e4⟩ := h.h8 q; exact ⟨p, e1, e2, f, row_below e3 hb, e4⟩, fun q => by obtain ⟨p, e1, e2, f, e3, e4⟩ := h.h9 q; exact ⟨p, e1, e2, f, row_below e3 hb, e4⟩, fun q => by obtain ⟨p, e1, e2, f, e3, e4⟩ := h.h10 q; exact ⟨p, e1, e2, f, row_below e3 hb, e4⟩, h.d1, h.d2, h.d3, h.e11, h.e12, h.e13⟩
theorem R5.val0 (h : R5 b w W x y v5 v6 v7 v15 v16 v17 v18 v19 v20 v21 v22) : R5 (fun j => b j ∨ j = 0) w W x y v5 v6 v7 (.agg #[.int .u64 (x 0), .int .u64 (x 1), .int .u64 (x 2), .int .u64 (x 3)]) v16 v17 v18 v19 v20 v21 v22 :=
  ⟨h.a, h.c, h.ext, fun _ => rfl,
    fun q => h.h1 (q.resolve_right (by decide)),
    fun q => h.h2 (q.resolve_right (by decide)),
    fun q => h.h3 (q.resolve_right (by decide)),
    fun q => h.h4 (q.resolve_right (by decide)),
    fun q => h.h5 (q.resolve_right (by decide)),
    fun q => h.h6 (q.resolve_right (by decide)),
    fun q => h.h7 (q.resolve_right (by decide)),
    fun q => by obtain ⟨p, e1, e2, f, e3, e4⟩ := h.h8 (q.resolve_right (by decide)); exact ⟨p, e1, e2, f, e3, fun q' => e4 (q'.resolve_right (by decide))⟩,
    fun q => by obtain ⟨p, e1, e2, f, e3, e4⟩ := h.h9 (q.resolve_right (by decide)); exact ⟨p, e1, e2, f, e3, fun q' => e4 (q'.resolve_right (by decide))⟩,
    fun q => by obtain ⟨p, e1, e2, f, e3, e4⟩ := h.h10 (q.resolve_right (by decide)); exact ⟨p, e1, e2, f, e3, fun q' => e4 (q'.resolve_right (by decide))⟩,
    fun q q' => h.d1 (q.resolve_right (by decide)) (q'.resolve_right (by decide)),
    fun q q' => h.d2 (q.resolve_right (by decide)) (q'.resolve_right (by decide)),
    fun q q' => h.d3 (q.resolve_right (by decide)) (q'.resolve_right (by decide)),
    fun q => .inl (h.e11 (q.resolve_right (by decide))),
    fun q => .inl (h.e12 (q.resolve_right (by decide))),
    fun q => .inl (h.e13 (q.resolve_right (by decide)))⟩
theorem R5.val1 (h : R5 b w W x y v5 v6 v7 v15 v16 v17 v18 v19 v20 v21 v22) : R5 (fun j => b j ∨ j = 1) w W x y v5 v6 v7 v15 (.agg #[.int .u64 (y 0), .int .u64 (y 1), .int .u64 (y 2), .int .u64 (y 3)]) v17 v18 v19 v20 v21 v22 :=
  ⟨h.a, h.c, h.ext, fun q => h.h0 (q.resolve_right (by decide)),
    fun _ => rfl,
    fun q => h.h2 (q.resolve_right (by decide)),
    fun q => h.h3 (q.resolve_right (by decide)),
    fun q => h.h4 (q.resolve_right (by decide)),
    fun q => h.h5 (q.resolve_right (by decide)),
    fun q => h.h6 (q.resolve_right (by decide)),
    fun q => h.h7 (q.resolve_right (by decide)),
    fun q => by obtain ⟨p, e1, e2, f, e3, e4⟩ := h.h8 (q.resolve_right (by decide)); exact ⟨p, e1, e2, f, e3, fun q' => e4 (q'.resolve_right (by decide))⟩,
    fun q => by obtain ⟨p, e1, e2, f, e3, e4⟩ := h.h9 (q.resolve_right (by decide)); exact ⟨p, e1, e2, f, e3, fun q' => e4 (q'.resolve_right (by decide))⟩,
    fun q => by obtain ⟨p, e1, e2, f, e3, e4⟩ := h.h10 (q.resolve_right (by decide)); exact ⟨p, e1, e2, f, e3, fun q' => e4 (q'.resolve_right (by decide))⟩,
    fun q q' => h.d1 (q.resolve_right (by decide)) (q'.resolve_right (by decide)),
    fun q q' => h.d2 (q.resolve_right (by decide)) (q'.resolve_right (by decide)),
    fun q q' => h.d3 (q.resolve_right (by decide)) (q'.resolve_right (by decide)),
    fun q => .inl (h.e11 (q.resolve_right (by decide))),
    fun q => .inl (h.e12 (q.resolve_right (by decide))),
    fun q => .inl (h.e13 (q.resolve_right (by decide)))⟩
theorem R5.val2 (h : R5 b w W x y v5 v6 v7 v15 v16 v17 v18 v19 v20 v21 v22) : R5 (fun j => b j ∨ j = 2) w W x y v5 v6 v7 v15 v16 (.agg #[.int .u64 (andw (x 0) (y 0)), .int .u64 (andw (x 1) (y 1)), .int .u64 (andw (x 2) (y 2)), .int .u64 (andw (x 3) (y 3))]) v18 v19 v20 v21 v22 :=
  ⟨h.a, h.c, h.ext, fun q => h.h0 (q.resolve_right (by decide)),
    fun q => h.h1 (q.resolve_right (by decide)),
    fun _ => rfl,
    fun q => h.h3 (q.resolve_right (by decide)),
    fun q => h.h4 (q.resolve_right (by decide)),
    fun q => h.h5 (q.resolve_right (by decide)),
    fun q => h.h6 (q.resolve_right (by decide)),
    fun q => h.h7 (q.resolve_right (by decide)),
    fun q => by obtain ⟨p, e1, e2, f, e3, e4⟩ := h.h8 (q.resolve_right (by decide)); exact ⟨p, e1, e2, f, e3, fun q' => e4 (q'.resolve_right (by decide))⟩,
    fun q => by obtain ⟨p, e1, e2, f, e3, e4⟩ := h.h9 (q.resolve_right (by decide)); exact ⟨p, e1, e2, f, e3, fun q' => e4 (q'.resolve_right (by decide))⟩,
    fun q => by obtain ⟨p, e1, e2, f, e3, e4⟩ := h.h10 (q.resolve_right (by decide)); exact ⟨p, e1, e2, f, e3, fun q' => e4 (q'.resolve_right (by decide))⟩,
    fun q q' => h.d1 (q.resolve_right (by decide)) (q'.resolve_right (by decide)),
    fun q q' => h.d2 (q.resolve_right (by decide)) (q'.resolve_right (by decide)),
    fun q q' => h.d3 (q.resolve_right (by decide)) (q'.resolve_right (by decide)),
    fun q => .inl (h.e11 (q.resolve_right (by decide))),
    fun q => .inl (h.e12 (q.resolve_right (by decide))),
    fun q => .inl (h.e13 (q.resolve_right (by decide)))⟩
theorem R5.val3 (h : R5 b w W x y v5 v6 v7 v15 v16 v17 v18 v19 v20 v21 v22) : R5 (fun j => b j ∨ j = 3) w W x y v5 v6 v7 v15 v16 v17 (.agg #[.int .u64 (x 0), .int .u64 (x 1), .int .u64 (x 2), .int .u64 (x 3)]) v19 v20 v21 v22 :=
  ⟨h.a, h.c, h.ext, fun q => h.h0 (q.resolve_right (by decide)),
    fun q => h.h1 (q.resolve_right (by decide)),
    fun q => h.h2 (q.resolve_right (by decide)),
    fun _ => rfl,
    fun q => h.h4 (q.resolve_right (by decide)),
    fun q => h.h5 (q.resolve_right (by decide)),
    fun q => h.h6 (q.resolve_right (by decide)),
    fun q => h.h7 (q.resolve_right (by decide)),
    fun q => by obtain ⟨p, e1, e2, f, e3, e4⟩ := h.h8 (q.resolve_right (by decide)); exact ⟨p, e1, e2, f, e3, fun q' => e4 (q'.resolve_right (by decide))⟩,
    fun q => by obtain ⟨p, e1, e2, f, e3, e4⟩ := h.h9 (q.resolve_right (by decide)); exact ⟨p, e1, e2, f, e3, fun q' => e4 (q'.resolve_right (by decide))⟩,
    fun q => by obtain ⟨p, e1, e2, f, e3, e4⟩ := h.h10 (q.resolve_right (by decide)); exact ⟨p, e1, e2, f, e3, fun q' => e4 (q'.resolve_right (by decide))⟩,
    fun q q' => h.d1 (q.resolve_right (by decide)) (q'.resolve_right (by decide)),
    fun q q' => h.d2 (q.resolve_right (by decide)) (q'.resolve_right (by decide)),
    fun q q' => h.d3 (q.resolve_right (by decide)) (q'.resolve_right (by decide)),
    fun q => .inl (h.e11 (q.resolve_right (by decide))),
    fun q => .inl (h.e12 (q.resolve_right (by decide))),
    fun q => .inl (h.e13 (q.resolve_right (by decide)))⟩
theorem R5.val4 (h : R5 b w W x y v5 v6 v7 v15 v16 v17 v18 v19 v20 v21 v22) : R5 (fun j => b j ∨ j = 4) w W x y v5 v6 v7 v15 v16 v17 v18 (.agg #[.int .u64 (y 0), .int .u64 (y 1), .int .u64 (y 2), .int .u64 (y 3)]) v20 v21 v22 :=
  ⟨h.a, h.c, h.ext, fun q => h.h0 (q.resolve_right (by decide)),
    fun q => h.h1 (q.resolve_right (by decide)),
    fun q => h.h2 (q.resolve_right (by decide)),
    fun q => h.h3 (q.resolve_right (by decide)),
    fun _ => rfl,
    fun q => h.h5 (q.resolve_right (by decide)),
    fun q => h.h6 (q.resolve_right (by decide)),
    fun q => h.h7 (q.resolve_right (by decide)),
    fun q => by obtain ⟨p, e1, e2, f, e3, e4⟩ := h.h8 (q.resolve_right (by decide)); exact ⟨p, e1, e2, f, e3, fun q' => e4 (q'.resolve_right (by decide))⟩,
    fun q => by obtain ⟨p, e1, e2, f, e3, e4⟩ := h.h9 (q.resolve_right (by decide)); exact ⟨p, e1, e2, f, e3, fun q' => e4 (q'.resolve_right (by decide))⟩,
    fun q => by obtain ⟨p, e1, e2, f, e3, e4⟩ := h.h10 (q.resolve_right (by decide)); exact ⟨p, e1, e2, f, e3, fun q' => e4 (q'.resolve_right (by decide))⟩,
    fun q q' => h.d1 (q.resolve_right (by decide)) (q'.resolve_right (by decide)),
    fun q q' => h.d2 (q.resolve_right (by decide)) (q'.resolve_right (by decide)),
    fun q q' => h.d3 (q.resolve_right (by decide)) (q'.resolve_right (by decide)),
    fun q => .inl (h.e11 (q.resolve_right (by decide))),
    fun q => .inl (h.e12 (q.resolve_right (by decide))),
    fun q => .inl (h.e13 (q.resolve_right (by decide)))⟩
theorem R5.val5 (h : R5 b w W x y v5 v6 v7 v15 v16 v17 v18 v19 v20 v21 v22) : R5 (fun j => b j ∨ j = 5) w W x y v5 v6 v7 v15 v16 v17 v18 v19 (.agg #[.int .u64 (orw (x 0) (y 0)), .int .u64 (orw (x 1) (y 1)), .int .u64 (orw (x 2) (y 2)), .int .u64 (orw (x 3) (y 3))]) v21 v22 :=
  ⟨h.a, h.c, h.ext, fun q => h.h0 (q.resolve_right (by decide)),
    fun q => h.h1 (q.resolve_right (by decide)),
    fun q => h.h2 (q.resolve_right (by decide)),
    fun q => h.h3 (q.resolve_right (by decide)),
    fun q => h.h4 (q.resolve_right (by decide)),
    fun _ => rfl,
    fun q => h.h6 (q.resolve_right (by decide)),
    fun q => h.h7 (q.resolve_right (by decide)),
    fun q => by obtain ⟨p, e1, e2, f, e3, e4⟩ := h.h8 (q.resolve_right (by decide)); exact ⟨p, e1, e2, f, e3, fun q' => e4 (q'.resolve_right (by decide))⟩,
    fun q => by obtain ⟨p, e1, e2, f, e3, e4⟩ := h.h9 (q.resolve_right (by decide)); exact ⟨p, e1, e2, f, e3, fun q' => e4 (q'.resolve_right (by decide))⟩,
    fun q => by obtain ⟨p, e1, e2, f, e3, e4⟩ := h.h10 (q.resolve_right (by decide)); exact ⟨p, e1, e2, f, e3, fun q' => e4 (q'.resolve_right (by decide))⟩,
    fun q q' => h.d1 (q.resolve_right (by decide)) (q'.resolve_right (by decide)),
    fun q q' => h.d2 (q.resolve_right (by decide)) (q'.resolve_right (by decide)),
    fun q q' => h.d3 (q.resolve_right (by decide)) (q'.resolve_right (by decide)),
    fun q => .inl (h.e11 (q.resolve_right (by decide))),
    fun q => .inl (h.e12 (q.resolve_right (by decide))),
    fun q => .inl (h.e13 (q.resolve_right (by decide)))⟩
theorem R5.val6 (h : R5 b w W x y v5 v6 v7 v15 v16 v17 v18 v19 v20 v21 v22) : R5 (fun j => b j ∨ j = 6) w W x y v5 v6 v7 v15 v16 v17 v18 v19 v20 (.agg #[.int .u64 (x 0), .int .u64 (x 1), .int .u64 (x 2), .int .u64 (x 3)]) v22 :=
  ⟨h.a, h.c, h.ext, fun q => h.h0 (q.resolve_right (by decide)),
    fun q => h.h1 (q.resolve_right (by decide)),
    fun q => h.h2 (q.resolve_right (by decide)),
    fun q => h.h3 (q.resolve_right (by decide)),
    fun q => h.h4 (q.resolve_right (by decide)),
    fun q => h.h5 (q.resolve_right (by decide)),
    fun _ => rfl,
    fun q => h.h7 (q.resolve_right (by decide)),
    fun q => by obtain ⟨p, e1, e2, f, e3, e4⟩ := h.h8 (q.resolve_right (by decide)); exact ⟨p, e1, e2, f, e3, fun q' => e4 (q'.resolve_right (by decide))⟩,
    fun q => by obtain ⟨p, e1, e2, f, e3, e4⟩ := h.h9 (q.resolve_right (by decide)); exact ⟨p, e1, e2, f, e3, fun q' => e4 (q'.resolve_right (by decide))⟩,
    fun q => by obtain ⟨p, e1, e2, f, e3, e4⟩ := h.h10 (q.resolve_right (by decide)); exact ⟨p, e1, e2, f, e3, fun q' => e4 (q'.resolve_right (by decide))⟩,
    fun q q' => h.d1 (q.resolve_right (by decide)) (q'.resolve_right (by decide)),
    fun q q' => h.d2 (q.resolve_right (by decide)) (q'.resolve_right (by decide)),
    fun q q' => h.d3 (q.resolve_right (by decide)) (q'.resolve_right (by decide)),
    fun q => .inl (h.e11 (q.resolve_right (by decide))),
    fun q => .inl (h.e12 (q.resolve_right (by decide))),
    fun q => .inl (h.e13 (q.resolve_right (by decide)))⟩
theorem R5.val7 (h : R5 b w W x y v5 v6 v7 v15 v16 v17 v18 v19 v20 v21 v22) : R5 (fun j => b j ∨ j = 7) w W x y v5 v6 v7 v15 v16 v17 v18 v19 v20 v21 (.agg #[.int .u64 (notw (x 0)), .int .u64 (notw (x 1)), .int .u64 (notw (x 2)), .int .u64 (notw (x 3))]) :=
  ⟨h.a, h.c, h.ext, fun q => h.h0 (q.resolve_right (by decide)),
    fun q => h.h1 (q.resolve_right (by decide)),
    fun q => h.h2 (q.resolve_right (by decide)),
    fun q => h.h3 (q.resolve_right (by decide)),
    fun q => h.h4 (q.resolve_right (by decide)),
    fun q => h.h5 (q.resolve_right (by decide)),
    fun q => h.h6 (q.resolve_right (by decide)),
    fun _ => rfl,
    fun q => by obtain ⟨p, e1, e2, f, e3, e4⟩ := h.h8 (q.resolve_right (by decide)); exact ⟨p, e1, e2, f, e3, fun q' => e4 (q'.resolve_right (by decide))⟩,
    fun q => by obtain ⟨p, e1, e2, f, e3, e4⟩ := h.h9 (q.resolve_right (by decide)); exact ⟨p, e1, e2, f, e3, fun q' => e4 (q'.resolve_right (by decide))⟩,
    fun q => by obtain ⟨p, e1, e2, f, e3, e4⟩ := h.h10 (q.resolve_right (by decide)); exact ⟨p, e1, e2, f, e3, fun q' => e4 (q'.resolve_right (by decide))⟩,
    fun q q' => h.d1 (q.resolve_right (by decide)) (q'.resolve_right (by decide)),
    fun q q' => h.d2 (q.resolve_right (by decide)) (q'.resolve_right (by decide)),
    fun q q' => h.d3 (q.resolve_right (by decide)) (q'.resolve_right (by decide)),
    fun q => .inl (h.e11 (q.resolve_right (by decide))),
    fun q => .inl (h.e12 (q.resolve_right (by decide))),
    fun q => .inl (h.e13 (q.resolve_right (by decide)))⟩
theorem R5.new8 (h : R5 b w W x y v5 v6 v7 v15 v16 v17 v18 v19 v20 v21 v22) (hn : ¬ b 8) (hs : w.heap.size + 2 ≤ W.heap.size) : R5 (fun j => b j ∨ j = 8) w (W.alloc (.cells #[.int .u64 0, .int .u64 0, .int .u64 0, .int .u64 0] 24)) x y (.pointer (some ⟨W.heap.size, 0, none⟩)) v6 v7 v15 v16 v17 v18 v19 v20 v21 v22 :=
  ⟨h.a.alloc _, h.c.alloc _, ext_alloc h.ext _, fun q => h.h0 (q.resolve_right (by decide)),
    fun q => h.h1 (q.resolve_right (by decide)),
    fun q => h.h2 (q.resolve_right (by decide)),
    fun q => h.h3 (q.resolve_right (by decide)),
    fun q => h.h4 (q.resolve_right (by decide)),
    fun q => h.h5 (q.resolve_right (by decide)),
    fun q => h.h6 (q.resolve_right (by decide)),
    fun q => h.h7 (q.resolve_right (by decide)),
    fun _ => ⟨W.heap.size, rfl, hs, fun _ => .int .u64 0, row4_new W (fun _ => .int .u64 0) 24, fun q => absurd (h.e11 (q.resolve_right (by decide))) hn⟩,
    fun q => by obtain ⟨p, e1, e2, f, e3, e4⟩ := h.h9 (q.resolve_right (by decide)); exact ⟨p, e1, e2, f, e3.alloc _, fun q' => e4 (q'.resolve_right (by decide))⟩,
    fun q => by obtain ⟨p, e1, e2, f, e3, e4⟩ := h.h10 (q.resolve_right (by decide)); exact ⟨p, e1, e2, f, e3.alloc _, fun q' => e4 (q'.resolve_right (by decide))⟩,
    fun q q' => by obtain ⟨p, e1, e2, f, e3, e4⟩ := h.h9 (q'.resolve_right (by decide)); intro e; rw [e1] at e; injection e with e; injection e with e; injection e with e _ _; have := e3.lt; omega,
    fun q q' => by obtain ⟨p, e1, e2, f, e3, e4⟩ := h.h10 (q'.resolve_right (by decide)); intro e; rw [e1] at e; injection e with e; injection e with e; injection e with e _ _; have := e3.lt; omega,
    fun q q' => h.d3 (q.resolve_right (by decide)) (q'.resolve_right (by decide)),
    fun q => .inl (h.e11 (q.resolve_right (by decide))),
    fun q => .inl (h.e12 (q.resolve_right (by decide))),
    fun q => .inl (h.e13 (q.resolve_right (by decide)))⟩
theorem R5.new9 (h : R5 b w W x y v5 v6 v7 v15 v16 v17 v18 v19 v20 v21 v22) (hn : ¬ b 9) (hs : w.heap.size + 2 ≤ W.heap.size) : R5 (fun j => b j ∨ j = 9) w (W.alloc (.cells #[.int .u64 0, .int .u64 0, .int .u64 0, .int .u64 0] 24)) x y v5 (.pointer (some ⟨W.heap.size, 0, none⟩)) v7 v15 v16 v17 v18 v19 v20 v21 v22 :=
  ⟨h.a.alloc _, h.c.alloc _, ext_alloc h.ext _, fun q => h.h0 (q.resolve_right (by decide)),
    fun q => h.h1 (q.resolve_right (by decide)),
    fun q => h.h2 (q.resolve_right (by decide)),
    fun q => h.h3 (q.resolve_right (by decide)),
    fun q => h.h4 (q.resolve_right (by decide)),
    fun q => h.h5 (q.resolve_right (by decide)),
    fun q => h.h6 (q.resolve_right (by decide)),
    fun q => h.h7 (q.resolve_right (by decide)),
    fun q => by obtain ⟨p, e1, e2, f, e3, e4⟩ := h.h8 (q.resolve_right (by decide)); exact ⟨p, e1, e2, f, e3.alloc _, fun q' => e4 (q'.resolve_right (by decide))⟩,
    fun _ => ⟨W.heap.size, rfl, hs, fun _ => .int .u64 0, row4_new W (fun _ => .int .u64 0) 24, fun q => absurd (h.e12 (q.resolve_right (by decide))) hn⟩,
    fun q => by obtain ⟨p, e1, e2, f, e3, e4⟩ := h.h10 (q.resolve_right (by decide)); exact ⟨p, e1, e2, f, e3.alloc _, fun q' => e4 (q'.resolve_right (by decide))⟩,
    fun q q' => by obtain ⟨p, e1, e2, f, e3, e4⟩ := h.h8 (q.resolve_right (by decide)); intro e; rw [e1] at e; injection e with e; injection e with e; injection e with e _ _; have := e3.lt; omega,
    fun q q' => h.d2 (q.resolve_right (by decide)) (q'.resolve_right (by decide)),
    fun q q' => by obtain ⟨p, e1, e2, f, e3, e4⟩ := h.h10 (q'.resolve_right (by decide)); intro e; rw [e1] at e; injection e with e; injection e with e; injection e with e _ _; have := e3.lt; omega,
    fun q => .inl (h.e11 (q.resolve_right (by decide))),
    fun q => .inl (h.e12 (q.resolve_right (by decide))),
    fun q => .inl (h.e13 (q.resolve_right (by decide)))⟩
theorem R5.new10 (h : R5 b w W x y v5 v6 v7 v15 v16 v17 v18 v19 v20 v21 v22) (hn : ¬ b 10) (hs : w.heap.size + 2 ≤ W.heap.size) : R5 (fun j => b j ∨ j = 10) w (W.alloc (.cells #[.int .u64 0, .int .u64 0, .int .u64 0, .int .u64 0] 24)) x y v5 v6 (.pointer (some ⟨W.heap.size, 0, none⟩)) v15 v16 v17 v18 v19 v20 v21 v22 :=
  ⟨h.a.alloc _, h.c.alloc _, ext_alloc h.ext _, fun q => h.h0 (q.resolve_right (by decide)),
    fun q => h.h1 (q.resolve_right (by decide)),
    fun q => h.h2 (q.resolve_right (by decide)),
    fun q => h.h3 (q.resolve_right (by decide)),
    fun q => h.h4 (q.resolve_right (by decide)),
    fun q => h.h5 (q.resolve_right (by decide)),
    fun q => h.h6 (q.resolve_right (by decide)),
    fun q => h.h7 (q.resolve_right (by decide)),
    fun q => by obtain ⟨p, e1, e2, f, e3, e4⟩ := h.h8 (q.resolve_right (by decide)); exact ⟨p, e1, e2, f, e3.alloc _, fun q' => e4 (q'.resolve_right (by decide))⟩,
    fun q => by obtain ⟨p, e1, e2, f, e3, e4⟩ := h.h9 (q.resolve_right (by decide)); exact ⟨p, e1, e2, f, e3.alloc _, fun q' => e4 (q'.resolve_right (by decide))⟩,
    fun _ => ⟨W.heap.size, rfl, hs, fun _ => .int .u64 0, row4_new W (fun _ => .int .u64 0) 24, fun q => absurd (h.e13 (q.resolve_right (by decide))) hn⟩,
    fun q q' => h.d1 (q.resolve_right (by decide)) (q'.resolve_right (by decide)),
    fun q q' => by obtain ⟨p, e1, e2, f, e3, e4⟩ := h.h8 (q.resolve_right (by decide)); intro e; rw [e1] at e; injection e with e; injection e with e; injection e with e _ _; have := e3.lt; omega,
    fun q q' => by obtain ⟨p, e1, e2, f, e3, e4⟩ := h.h9 (q.resolve_right (by decide)); intro e; rw [e1] at e; injection e with e; injection e with e; injection e with e _ _; have := e3.lt; omega,
    fun q => .inl (h.e11 (q.resolve_right (by decide))),
    fun q => .inl (h.e12 (q.resolve_right (by decide))),
    fun q => .inl (h.e13 (q.resolve_right (by decide)))⟩
theorem R5.put11 {p : Nat} {f g : Nat → Value} (h : R5 b w W x y (.pointer (some ⟨p, 0, none⟩)) v6 v7 v15 v16 v17 v18 v19 v20 v21 v22) (hb0 : b 8) (hp : w.heap.size + 2 ≤ p) (hr : W.rowIs p 24 4 f) (hg : g = fun j => .int .u64 (andw (x j) (y j))) : R5 (fun j => b j ∨ j = 11) w ((((W.setCell ⟨p, 0, none⟩ (g 0)).setCell ⟨p, 1, none⟩ (g 1)).setCell ⟨p, 2, none⟩ (g 2)).setCell ⟨p, 3, none⟩ (g 3)) x y (.pointer (some ⟨p, 0, none⟩)) v6 v7 v15 v16 v17 v18 v19 v20 v21 v22 :=
  ⟨row_far4 h.a (by omega) g, row_far4 h.c (by omega) g, below_set4 h.ext (by omega) g, fun q => h.h0 (q.resolve_right (by decide)),
    fun q => h.h1 (q.resolve_right (by decide)),
    fun q => h.h2 (q.resolve_right (by decide)),
    fun q => h.h3 (q.resolve_right (by decide)),
    fun q => h.h4 (q.resolve_right (by decide)),
    fun q => h.h5 (q.resolve_right (by decide)),
    fun q => h.h6 (q.resolve_right (by decide)),
    fun q => h.h7 (q.resolve_right (by decide)),
    fun _ => ⟨p, rfl, hp, g, row4_set hr g, fun _ => hg⟩,
    fun q => by obtain ⟨p2, e1, e2, f, e3, e4⟩ := h.h9 (q.resolve_right (by decide)); exact ⟨p2, e1, e2, f, row_far4 e3 (by intro e5; exact h.d1 hb0 (q.resolve_right (by decide)) (by rw [e1, e5])) g, fun q' => e4 (q'.resolve_right (by decide))⟩,
    fun q => by obtain ⟨p2, e1, e2, f, e3, e4⟩ := h.h10 (q.resolve_right (by decide)); exact ⟨p2, e1, e2, f, row_far4 e3 (by intro e5; exact h.d2 hb0 (q.resolve_right (by decide)) (by rw [e1, e5])) g, fun q' => e4 (q'.resolve_right (by decide))⟩,
    fun q q' => h.d1 (q.resolve_right (by decide)) (q'.resolve_right (by decide)),
    fun q q' => h.d2 (q.resolve_right (by decide)) (q'.resolve_right (by decide)),
    fun q q' => h.d3 (q.resolve_right (by decide)) (q'.resolve_right (by decide)),
    fun _ => .inl hb0,
    fun q => .inl (h.e12 (q.resolve_right (by decide))),
    fun q => .inl (h.e13 (q.resolve_right (by decide)))⟩
theorem R5.put12 {p : Nat} {f g : Nat → Value} (h : R5 b w W x y v5 (.pointer (some ⟨p, 0, none⟩)) v7 v15 v16 v17 v18 v19 v20 v21 v22) (hb0 : b 9) (hp : w.heap.size + 2 ≤ p) (hr : W.rowIs p 24 4 f) (hg : g = fun j => .int .u64 (orw (x j) (y j))) : R5 (fun j => b j ∨ j = 12) w ((((W.setCell ⟨p, 0, none⟩ (g 0)).setCell ⟨p, 1, none⟩ (g 1)).setCell ⟨p, 2, none⟩ (g 2)).setCell ⟨p, 3, none⟩ (g 3)) x y v5 (.pointer (some ⟨p, 0, none⟩)) v7 v15 v16 v17 v18 v19 v20 v21 v22 :=
  ⟨row_far4 h.a (by omega) g, row_far4 h.c (by omega) g, below_set4 h.ext (by omega) g, fun q => h.h0 (q.resolve_right (by decide)),
    fun q => h.h1 (q.resolve_right (by decide)),
    fun q => h.h2 (q.resolve_right (by decide)),
    fun q => h.h3 (q.resolve_right (by decide)),
    fun q => h.h4 (q.resolve_right (by decide)),
    fun q => h.h5 (q.resolve_right (by decide)),
    fun q => h.h6 (q.resolve_right (by decide)),
    fun q => h.h7 (q.resolve_right (by decide)),
    fun q => by obtain ⟨p2, e1, e2, f, e3, e4⟩ := h.h8 (q.resolve_right (by decide)); exact ⟨p2, e1, e2, f, row_far4 e3 (by intro e5; exact h.d1 (q.resolve_right (by decide)) hb0 (by rw [e1, e5])) g, fun q' => e4 (q'.resolve_right (by decide))⟩,
    fun _ => ⟨p, rfl, hp, g, row4_set hr g, fun _ => hg⟩,
    fun q => by obtain ⟨p2, e1, e2, f, e3, e4⟩ := h.h10 (q.resolve_right (by decide)); exact ⟨p2, e1, e2, f, row_far4 e3 (by intro e5; exact h.d3 hb0 (q.resolve_right (by decide)) (by rw [e1, e5])) g, fun q' => e4 (q'.resolve_right (by decide))⟩,
    fun q q' => h.d1 (q.resolve_right (by decide)) (q'.resolve_right (by decide)),
    fun q q' => h.d2 (q.resolve_right (by decide)) (q'.resolve_right (by decide)),
    fun q q' => h.d3 (q.resolve_right (by decide)) (q'.resolve_right (by decide)),
    fun q => .inl (h.e11 (q.resolve_right (by decide))),
    fun _ => .inl hb0,
    fun q => .inl (h.e13 (q.resolve_right (by decide)))⟩
theorem R5.put13 {p : Nat} {f g : Nat → Value} (h : R5 b w W x y v5 v6 (.pointer (some ⟨p, 0, none⟩)) v15 v16 v17 v18 v19 v20 v21 v22) (hb0 : b 10) (hp : w.heap.size + 2 ≤ p) (hr : W.rowIs p 24 4 f) (hg : g = fun j => .int .u64 (notw (x j))) : R5 (fun j => b j ∨ j = 13) w ((((W.setCell ⟨p, 0, none⟩ (g 0)).setCell ⟨p, 1, none⟩ (g 1)).setCell ⟨p, 2, none⟩ (g 2)).setCell ⟨p, 3, none⟩ (g 3)) x y v5 v6 (.pointer (some ⟨p, 0, none⟩)) v15 v16 v17 v18 v19 v20 v21 v22 :=
  ⟨row_far4 h.a (by omega) g, row_far4 h.c (by omega) g, below_set4 h.ext (by omega) g, fun q => h.h0 (q.resolve_right (by decide)),
    fun q => h.h1 (q.resolve_right (by decide)),
    fun q => h.h2 (q.resolve_right (by decide)),
    fun q => h.h3 (q.resolve_right (by decide)),
    fun q => h.h4 (q.resolve_right (by decide)),
    fun q => h.h5 (q.resolve_right (by decide)),
    fun q => h.h6 (q.resolve_right (by decide)),
    fun q => h.h7 (q.resolve_right (by decide)),
    fun q => by obtain ⟨p2, e1, e2, f, e3, e4⟩ := h.h8 (q.resolve_right (by decide)); exact ⟨p2, e1, e2, f, row_far4 e3 (by intro e5; exact h.d2 (q.resolve_right (by decide)) hb0 (by rw [e1, e5])) g, fun q' => e4 (q'.resolve_right (by decide))⟩,
    fun q => by obtain ⟨p2, e1, e2, f, e3, e4⟩ := h.h9 (q.resolve_right (by decide)); exact ⟨p2, e1, e2, f, row_far4 e3 (by intro e5; exact h.d3 (q.resolve_right (by decide)) hb0 (by rw [e1, e5])) g, fun q' => e4 (q'.resolve_right (by decide))⟩,
    fun _ => ⟨p, rfl, hp, g, row4_set hr g, fun _ => hg⟩,
    fun q q' => h.d1 (q.resolve_right (by decide)) (q'.resolve_right (by decide)),
    fun q q' => h.d2 (q.resolve_right (by decide)) (q'.resolve_right (by decide)),
    fun q q' => h.d3 (q.resolve_right (by decide)) (q'.resolve_right (by decide)),
    fun q => .inl (h.e11 (q.resolve_right (by decide))),
    fun q => .inl (h.e12 (q.resolve_right (by decide))),
    fun _ => .inl hb0⟩
end
/-- Operation j is done. -/
def Ls (L : Array Bool) (j : Nat) : Prop := L.getD j false = true
theorem getD_set_iff {L : Array Bool} {i j : Nat} (hi : i < L.size) : (L.setIfInBounds i true).getD j false = true ↔ (L.getD j false = true ∨ j = i) := by
  simp only [Array.getD_eq_getD_getElem?, Array.getElem?_setIfInBounds]
  by_cases e : i = j
  · subst e; simp [hi]
  · simp [e, Ne.symm (fun h => e h)]
theorem wpOp_at {P : Program} {ops : Array Oper} {Q : Exit → Act → World → Prop} {i : Nat} {o : Oper} {K : Act → World → Prop} {a : Act} {w : World} (h : ops[i]? = some o) (hg : o.guard = none) (hk : o.wp P a w K Q) : wpOp P ops Q i K a w := by
  unfold wpOp
  rw [h]
  dsimp only
  rw [if_pos (by simp [Region.wanted, hg])]
  exact .inl hk
/-- Every operation waits for earlier ones alone: none is ready, so all are done. -/
theorem all_done {ops : Array Oper} {L : Array Bool} (hL : L.size = ops.size) (hord : ((List.range ops.size).all fun j => match ops[j]? with | some o => o.after.all fun e => decide (e.on < j) | none => true) = true)
    (hr : Region.ready .any ops L = []) : ∀ n j, j < n → j < ops.size → L.getD j false = true
  | 0, j, h, _ => by omega
  | n + 1, j, h, hj => by
    have ih := all_done hL hord hr n
    cases hv : L.getD j false with
    | true => rfl
    | false =>
      exfalso
      have hm : j ∈ Region.ready .any ops L := mem_ready.2 ⟨by
        have hs : j < L.size := by omega
        simp only [Array.getD_eq_getD_getElem?, Array.getElem?_eq_getElem hs] at hv ⊢
        exact hv, ops[j], Array.getElem?_eq_getElem hj, fun e he _ => by
          rw [List.all_eq_true] at hord
          have h1 := hord j (List.mem_range.2 hj)
          rw [Array.getElem?_eq_getElem hj] at h1
          have h2 := of_decide_eq_true ((Array.all_eq_true'.1 h1) e he)
          exact ih e.on (by omega) (by omega)⟩
      rw [hr] at hm
      cases hm
set_option maxRecDepth 100000 in
set_option maxHeartbeats 8000000 in
theorem classBytes_any (x y : Nat → Int) (hx : W64 x) (hy : W64 y) (w : World) (hT : Tab w) :
    Calls Tryd.prog 3 #[.agg #[.int .u64 (x 0), .int .u64 (x 1), .int .u64 (x 2), .int .u64 (x 3)], .agg #[.int .u64 (y 0), .int .u64 (y 1), .int .u64 (y 2), .int .u64 (y 3)]] w fun e w' => e = .returned (.bool true) ∧ Below w.heap.size w w' := by
  go_enter Tryd.func3, Tryd.ntmps3
  go_upto_region 1 with fail
  go_cut [5, 6, 7] (fun s5 s6 s7 W => ∃ P Q R, s5 = .pointer (some ⟨P, 0, none⟩) ∧ s6 = .pointer (some ⟨Q, 0, none⟩) ∧ s7 = .pointer (some ⟨R, 0, none⟩) ∧ C5 w W w.heap.size (w.heap.size + 1) P Q R x y)
  case first =>
    refine wp_region_inv (fun L a W => L.size = 14 ∧ ∃ v5 v6 v7 v15 v16 v17 v18 v19 v20 v21 v22, a = ⟨#[.agg #[.int .u64 (x 0), .int .u64 (x 1), .int .u64 (x 2), .int .u64 (x 3)], .agg #[.int .u64 (y 0), .int .u64 (y 1), .int .u64 (y 2), .int .u64 (y 3)], .pointer (some ⟨w.heap.size, 0, none⟩), .pointer (some ⟨w.heap.size + 1, 0, none⟩), .bool false, v5, v6, v7, undef, undef, undef, undef, undef, undef, undef, v15, v16, v17, v18, v19, v20, v21, v22, undef, undef, undef, undef, undef, undef, undef, undef, undef, undef, undef, undef, undef, undef, undef, undef, undef, undef, undef, undef, undef, undef, undef, undef, undef, undef, undef, undef, undef, undef, undef, undef, undef, undef, undef, undef, undef, undef, undef, undef, undef, undef, undef, undef, undef, undef, undef, undef, undef, undef, undef, undef, undef, undef, undef, undef, undef, undef, undef, undef, undef, undef, undef, undef, undef, undef, undef, undef, undef, undef, undef, undef, undef, undef, undef, undef, undef, undef, undef, undef, undef, undef, undef, undef], []⟩ ∧ R5 (Ls L) w W x y v5 v6 v7 v15 v16 v17 v18 v19 v20 v21 v22) (by kernel_rfl) ?_ ?_ ?_
    · refine ⟨rfl, undef, undef, undef, undef, undef, undef, undef, undef, undef, undef, undef, rfl, ?_⟩
      have hb : ∀ j, ¬ Ls (Array.replicate 14 false) j := by
        intro j h
        unfold Ls at h
        rw [Array.getD_eq_getD_getElem?, Array.getElem?_replicate] at h
        split at h <;> cases h
      have r1 := (row4_new w (fun j => .int .u64 (x j)) 24).alloc (.cells #[.int .u64 (y 0), .int .u64 (y 1), .int .u64 (y 2), .int .u64 (y 3)] 24)
      have r2 := row4_new1 w (.cells #[.int .u64 (x 0), .int .u64 (x 1), .int .u64 (x 2), .int .u64 (x 3)] 24) (fun j => .int .u64 (y j)) 24
      exact ⟨r1, r2, (ext_alloc (ext_new w _) _).drew, fun q => absurd q (hb _), fun q => absurd q (hb _), fun q => absurd q (hb _), fun q => absurd q (hb _), fun q => absurd q (hb _), fun q => absurd q (hb _), fun q => absurd q (hb _), fun q => absurd q (hb _), fun q => absurd q (hb _), fun q => absurd q (hb _), fun q => absurd q (hb _), fun q _ => absurd q (hb _), fun q _ => absurd q (hb _), fun q _ => absurd q (hb _), fun q => absurd q (hb _), fun q => absurd q (hb _), fun q => absurd q (hb _)⟩
    · rintro L a W i ⟨hL, v5, v6, v7, v15, v16, v17, v18, v19, v20, v21, v22, rfl, hR⟩ hi
      obtain ⟨hun, o, ho, hall⟩ := mem_ready.1 hi
      have hi14 : i < 14 := by
        have := (Array.getElem?_eq_some_iff.1 ho).1
        simpa using this
      have hc : i = 0 ∨ i = 1 ∨ i = 2 ∨ i = 3 ∨ i = 4 ∨ i = 5 ∨ i = 6 ∨ i = 7 ∨ i = 8 ∨ i = 9 ∨ i = 10 ∨ i = 11 ∨ i = 12 ∨ i = 13 := by omega
      rcases hc with rfl | rfl | rfl | rfl | rfl | rfl | rfl | rfl | rfl | rfl | rfl | rfl | rfl | rfl
      · refine wpOp_at ho (by obtain rfl := Option.some.inj ho; rfl) ?_
        have hb : Ls (L.setIfInBounds 0 true) = fun j => (Ls L j ∨ j = 0) := funext fun j => propext (getD_set_iff (by omega))
        rw [hb]
        have hsz : (L.setIfInBounds 0 true).size = 14 := by rw [Array.size_setIfInBounds]; exact hL
        obtain rfl := Option.some.inj ho
        clear hi ho hall hb hun
        have hn := hR.val0
        obtain ⟨c0, c1, c2, c3, _⟩ := row4 hR.a
        clear hR
        go_simp
        exact ⟨_, _, _, _, _, _, _, _, _, _, _, ⟨rfl, rfl, rfl, rfl, rfl, rfl, rfl, rfl, rfl, rfl, rfl⟩, hn⟩
      · refine wpOp_at ho (by obtain rfl := Option.some.inj ho; rfl) ?_
        have hb : Ls (L.setIfInBounds 1 true) = fun j => (Ls L j ∨ j = 1) := funext fun j => propext (getD_set_iff (by omega))
        rw [hb]
        have hsz : (L.setIfInBounds 1 true).size = 14 := by rw [Array.size_setIfInBounds]; exact hL
        obtain rfl := Option.some.inj ho
        clear hi ho hall hb hun
        have hn := hR.val1
        obtain ⟨c0, c1, c2, c3, _⟩ := row4 hR.c
        clear hR
        go_simp
        exact ⟨_, _, _, _, _, _, _, _, _, _, _, ⟨rfl, rfl, rfl, rfl, rfl, rfl, rfl, rfl, rfl, rfl, rfl⟩, hn⟩
      · refine wpOp_at ho (by obtain rfl := Option.some.inj ho; rfl) ?_
        have hb : Ls (L.setIfInBounds 2 true) = fun j => (Ls L j ∨ j = 2) := funext fun j => propext (getD_set_iff (by omega))
        rw [hb]
        have hsz : (L.setIfInBounds 2 true).size = 14 := by rw [Array.size_setIfInBounds]; exact hL
        obtain rfl := Option.some.inj ho
        have q0 := hR.h0 (hall ⟨0, Ground.data⟩ (by simp) rfl)
        subst q0
        have q1 := hR.h1 (hall ⟨1, Ground.data⟩ (by simp) rfl)
        subst q1
        clear hi ho hall hb hun
        have hc := and_any x y W
        go_simp
        go_at_call 7
        refine hc.mono ?_
        rintro e W2 ⟨rfl, hb2⟩
        exact ⟨_, _, _, _, _, _, _, _, _, _, _, ⟨rfl, rfl, rfl, rfl, rfl, rfl, rfl, rfl, rfl, rfl, rfl⟩, (hR.below hb2).val2⟩
      · refine wpOp_at ho (by obtain rfl := Option.some.inj ho; rfl) ?_
        have hb : Ls (L.setIfInBounds 3 true) = fun j => (Ls L j ∨ j = 3) := funext fun j => propext (getD_set_iff (by omega))
        rw [hb]
        have hsz : (L.setIfInBounds 3 true).size = 14 := by rw [Array.size_setIfInBounds]; exact hL
        obtain rfl := Option.some.inj ho
        clear hi ho hall hb hun
        have hn := hR.val3
        obtain ⟨c0, c1, c2, c3, _⟩ := row4 hR.a
        clear hR
        go_simp
        exact ⟨_, _, _, _, _, _, _, _, _, _, _, ⟨rfl, rfl, rfl, rfl, rfl, rfl, rfl, rfl, rfl, rfl, rfl⟩, hn⟩
      · refine wpOp_at ho (by obtain rfl := Option.some.inj ho; rfl) ?_
        have hb : Ls (L.setIfInBounds 4 true) = fun j => (Ls L j ∨ j = 4) := funext fun j => propext (getD_set_iff (by omega))
        rw [hb]
        have hsz : (L.setIfInBounds 4 true).size = 14 := by rw [Array.size_setIfInBounds]; exact hL
        obtain rfl := Option.some.inj ho
        clear hi ho hall hb hun
        have hn := hR.val4
        obtain ⟨c0, c1, c2, c3, _⟩ := row4 hR.c
        clear hR
        go_simp
        exact ⟨_, _, _, _, _, _, _, _, _, _, _, ⟨rfl, rfl, rfl, rfl, rfl, rfl, rfl, rfl, rfl, rfl, rfl⟩, hn⟩
      · refine wpOp_at ho (by obtain rfl := Option.some.inj ho; rfl) ?_
        have hb : Ls (L.setIfInBounds 5 true) = fun j => (Ls L j ∨ j = 5) := funext fun j => propext (getD_set_iff (by omega))
        rw [hb]
        have hsz : (L.setIfInBounds 5 true).size = 14 := by rw [Array.size_setIfInBounds]; exact hL
        obtain rfl := Option.some.inj ho
        have q3 := hR.h3 (hall ⟨3, Ground.data⟩ (by simp) rfl)
        subst q3
        have q4 := hR.h4 (hall ⟨4, Ground.data⟩ (by simp) rfl)
        subst q4
        clear hi ho hall hb hun
        have hc := or_any x y W
        go_simp
        go_at_call 8
        refine hc.mono ?_
        rintro e W2 ⟨rfl, hb2⟩
        exact ⟨_, _, _, _, _, _, _, _, _, _, _, ⟨rfl, rfl, rfl, rfl, rfl, rfl, rfl, rfl, rfl, rfl, rfl⟩, (hR.below hb2).val5⟩
      · refine wpOp_at ho (by obtain rfl := Option.some.inj ho; rfl) ?_
        have hb : Ls (L.setIfInBounds 6 true) = fun j => (Ls L j ∨ j = 6) := funext fun j => propext (getD_set_iff (by omega))
        rw [hb]
        have hsz : (L.setIfInBounds 6 true).size = 14 := by rw [Array.size_setIfInBounds]; exact hL
        obtain rfl := Option.some.inj ho
        clear hi ho hall hb hun
        have hn := hR.val6
        obtain ⟨c0, c1, c2, c3, _⟩ := row4 hR.a
        clear hR
        go_simp
        exact ⟨_, _, _, _, _, _, _, _, _, _, _, ⟨rfl, rfl, rfl, rfl, rfl, rfl, rfl, rfl, rfl, rfl, rfl⟩, hn⟩
      · refine wpOp_at ho (by obtain rfl := Option.some.inj ho; rfl) ?_
        have hb : Ls (L.setIfInBounds 7 true) = fun j => (Ls L j ∨ j = 7) := funext fun j => propext (getD_set_iff (by omega))
        rw [hb]
        have hsz : (L.setIfInBounds 7 true).size = 14 := by rw [Array.size_setIfInBounds]; exact hL
        obtain rfl := Option.some.inj ho
        have q6 := hR.h6 (hall ⟨6, Ground.data⟩ (by simp) rfl)
        subst q6
        clear hi ho hall hb hun
        have hc := not_any x W
        go_simp
        go_at_call 9
        refine hc.mono ?_
        rintro e W2 ⟨rfl, hb2⟩
        exact ⟨_, _, _, _, _, _, _, _, _, _, _, ⟨rfl, rfl, rfl, rfl, rfl, rfl, rfl, rfl, rfl, rfl, rfl⟩, (hR.below hb2).val7⟩
      · refine wpOp_at ho (by obtain rfl := Option.some.inj ho; rfl) ?_
        have hb : Ls (L.setIfInBounds 8 true) = fun j => (Ls L j ∨ j = 8) := funext fun j => propext (getD_set_iff (by omega))
        rw [hb]
        have hsz : (L.setIfInBounds 8 true).size = 14 := by rw [Array.size_setIfInBounds]; exact hL
        obtain rfl := Option.some.inj ho
        have hnb : ¬ Ls L 8 := by
          intro e
          unfold Ls at e
          simp only [Array.getD_eq_getD_getElem?, Array.getElem?_eq_getElem (show 8 < L.size by omega)] at hun e
          have h1 : L[8] = false := hun
          have h2 : L[8] = true := e
          rw [h1] at h2; cases h2
        have hn := hR.new8 hnb (by have := hR.c.lt; omega)
        clear hi ho hall hb hun hR hnb
        go_simp
        exact ⟨_, _, _, _, _, _, _, _, _, _, _, ⟨rfl, rfl, rfl, rfl, rfl, rfl, rfl, rfl, rfl, rfl, rfl⟩, hn⟩
      · refine wpOp_at ho (by obtain rfl := Option.some.inj ho; rfl) ?_
        have hb : Ls (L.setIfInBounds 9 true) = fun j => (Ls L j ∨ j = 9) := funext fun j => propext (getD_set_iff (by omega))
        rw [hb]
        have hsz : (L.setIfInBounds 9 true).size = 14 := by rw [Array.size_setIfInBounds]; exact hL
        obtain rfl := Option.some.inj ho
        have hnb : ¬ Ls L 9 := by
          intro e
          unfold Ls at e
          simp only [Array.getD_eq_getD_getElem?, Array.getElem?_eq_getElem (show 9 < L.size by omega)] at hun e
          have h1 : L[9] = false := hun
          have h2 : L[9] = true := e
          rw [h1] at h2; cases h2
        have hn := hR.new9 hnb (by have := hR.c.lt; omega)
        clear hi ho hall hb hun hR hnb
        go_simp
        exact ⟨_, _, _, _, _, _, _, _, _, _, _, ⟨rfl, rfl, rfl, rfl, rfl, rfl, rfl, rfl, rfl, rfl, rfl⟩, hn⟩
      · refine wpOp_at ho (by obtain rfl := Option.some.inj ho; rfl) ?_
        have hb : Ls (L.setIfInBounds 10 true) = fun j => (Ls L j ∨ j = 10) := funext fun j => propext (getD_set_iff (by omega))
        rw [hb]
        have hsz : (L.setIfInBounds 10 true).size = 14 := by rw [Array.size_setIfInBounds]; exact hL
        obtain rfl := Option.some.inj ho
        have hnb : ¬ Ls L 10 := by
          intro e
          unfold Ls at e
          simp only [Array.getD_eq_getD_getElem?, Array.getElem?_eq_getElem (show 10 < L.size by omega)] at hun e
          have h1 : L[10] = false := hun
          have h2 : L[10] = true := e
          rw [h1] at h2; cases h2
        have hn := hR.new10 hnb (by have := hR.c.lt; omega)
        clear hi ho hall hb hun hR hnb
        go_simp
        exact ⟨_, _, _, _, _, _, _, _, _, _, _, ⟨rfl, rfl, rfl, rfl, rfl, rfl, rfl, rfl, rfl, rfl, rfl⟩, hn⟩
      · refine wpOp_at ho (by obtain rfl := Option.some.inj ho; rfl) ?_
        have hb : Ls (L.setIfInBounds 11 true) = fun j => (Ls L j ∨ j = 11) := funext fun j => propext (getD_set_iff (by omega))
        rw [hb]
        have hsz : (L.setIfInBounds 11 true).size = 14 := by rw [Array.size_setIfInBounds]; exact hL
        obtain rfl := Option.some.inj ho
        have hb0 := hall ⟨8, Ground.data⟩ (by simp) rfl
        have q1 := hR.h2 (hall ⟨2, Ground.data⟩ (by simp) rfl)
        subst q1
        obtain ⟨p, rfl, hp, f, hr, _⟩ := hR.h8 hb0
        have hn := hR.put11 hb0 hp hr rfl
        obtain ⟨c0, c1, c2, c3, f0, f1, f2, f3⟩ := row4 hr
        clear hi ho hall hb hun hR hb0
        go_simp
        exact ⟨_, _, _, _, _, _, _, _, _, _, _, ⟨rfl, rfl, rfl, rfl, rfl, rfl, rfl, rfl, rfl, rfl, rfl⟩, hn⟩
      · refine wpOp_at ho (by obtain rfl := Option.some.inj ho; rfl) ?_
        have hb : Ls (L.setIfInBounds 12 true) = fun j => (Ls L j ∨ j = 12) := funext fun j => propext (getD_set_iff (by omega))
        rw [hb]
        have hsz : (L.setIfInBounds 12 true).size = 14 := by rw [Array.size_setIfInBounds]; exact hL
        obtain rfl := Option.some.inj ho
        have hb0 := hall ⟨9, Ground.data⟩ (by simp) rfl
        have q1 := hR.h5 (hall ⟨5, Ground.data⟩ (by simp) rfl)
        subst q1
        obtain ⟨p, rfl, hp, f, hr, _⟩ := hR.h9 hb0
        have hn := hR.put12 hb0 hp hr rfl
        obtain ⟨c0, c1, c2, c3, f0, f1, f2, f3⟩ := row4 hr
        clear hi ho hall hb hun hR hb0
        go_simp
        exact ⟨_, _, _, _, _, _, _, _, _, _, _, ⟨rfl, rfl, rfl, rfl, rfl, rfl, rfl, rfl, rfl, rfl, rfl⟩, hn⟩
      · refine wpOp_at ho (by obtain rfl := Option.some.inj ho; rfl) ?_
        have hb : Ls (L.setIfInBounds 13 true) = fun j => (Ls L j ∨ j = 13) := funext fun j => propext (getD_set_iff (by omega))
        rw [hb]
        have hsz : (L.setIfInBounds 13 true).size = 14 := by rw [Array.size_setIfInBounds]; exact hL
        obtain rfl := Option.some.inj ho
        have hb0 := hall ⟨10, Ground.data⟩ (by simp) rfl
        have q1 := hR.h7 (hall ⟨7, Ground.data⟩ (by simp) rfl)
        subst q1
        obtain ⟨p, rfl, hp, f, hr, _⟩ := hR.h10 hb0
        have hn := hR.put13 hb0 hp hr rfl
        obtain ⟨c0, c1, c2, c3, f0, f1, f2, f3⟩ := row4 hr
        clear hi ho hall hb hun hR hb0
        go_simp
        exact ⟨_, _, _, _, _, _, _, _, _, _, _, ⟨rfl, rfl, rfl, rfl, rfl, rfl, rfl, rfl, rfl, rfl, rfl⟩, hn⟩
    · rintro L a W ⟨hL, v5, v6, v7, v15, v16, v17, v18, v19, v20, v21, v22, rfl, hR⟩ hr
      have hd := all_done hL (by kernel_rfl) hr 14
      obtain ⟨P, rfl, _, f, hP, eP⟩ := hR.h8 (hd 8 (by omega) (by simp))
      obtain ⟨Q, rfl, _, g, hQ, eQ⟩ := hR.h9 (hd 9 (by omega) (by simp))
      obtain ⟨R, rfl, _, k, hK, eK⟩ := hR.h10 (hd 10 (by omega) (by simp))
      obtain rfl := eP (hd 11 (by omega) (by simp))
      obtain rfl := eQ (hd 12 (by omega) (by simp))
      obtain rfl := eK (hd 13 (by omega) (by simp))
      have hfin : C5 w W w.heap.size (w.heap.size + 1) P Q R x y := ⟨hR.a, hR.c, hP, hQ, hK, hR.ext⟩
      clear hd hr hL hR
      go_wp2_with fail
      go_meet
      exact ⟨P, Q, R, rfl, rfl, rfl, hfin⟩
  case rest =>
    obtain ⟨P, Q, R, rfl, rfl, rfl, h5⟩ := hcut
    go_wp2
    go_loopw [8, 9, 10] (fun n l i wr => ∃ k : Nat, k ≤ 256 ∧ n = .int .i64 (cnt (hasB x) k : Nat) ∧ l = .int .i64 (fst (hasB x) k) ∧ i = .int .i64 k ∧ C5 w wr w.heap.size (w.heap.size + 1) P Q R x y) (fun _ _ i _ => 256 - (intOf i).toNat)
    case atStart => exact ⟨0, by omega, rfl, rfl, rfl, h5⟩
    case round =>
      obtain ⟨k, hk, rfl, rfl, rfl, h6⟩ := hrel
      clear h5
      by_cases hlt : k < 256
      · have hlz : (k : Int) < 256 := by omega
        have hwr : IntKind.u8.wrap (k : Int) = (k : Int) := by rw [IntKind.wrap_u8]; omega
        have hcl := cnt_le (hasB x) k
        have hfr := fst_range (hasB x) k
        have hcs : cnt (hasB x) (k + 1) = cnt (hasB x) k + (if hasB x k then 1 else 0) := rfl
        have hfs : fst (hasB x) (k + 1) = if fst (hasB x) k < 0 then (if hasB x k then (k : Int) else -1) else fst (hasB x) k := rfl
        have HCS := Lib.hid hcs
        have HFS := Lib.hid hfs
        clear hcs hfs
        obtain ⟨a0, a1, a2, a3, _⟩ := row4 h6.a
        obtain ⟨b0, b1, b2, b3, _⟩ := row4 h6.b
        have qa := fun d os => Calls.regrown_of (rhas_any x hx (k : Int) (by omega) (by omega) (Go.Sort.grow (redrawn wr d) os))
        have qb := fun d os => Calls.regrown_of (rhas_any y hy (k : Int) (by omega) (by omega) (Go.Sort.grow (redrawn wr d) os))
        have ka0 := cell_regrown a0
        have ka1 := cell_regrown a1
        have ka2 := cell_regrown a2
        have ka3 := cell_regrown a3
        have kb0 := cell_regrown b0
        have kb1 := cell_regrown b1
        have kb2 := cell_regrown b2
        have kb3 := cell_regrown b3
        have h6' := fun d os => h6.below (below_regrown wr d os)
        rw [Int.toNat_natCast] at qa qb
        clear h6 a0 a1 a2 a3 b0 b1 b2 b3
        go_wp2_with fail
        refine wp_region_quiet_below (by kernel_rfl) (by kernel_rfl) ?_
        repeat (quiet_step (fail))
        quiet_step (exact qa _ _)
        repeat (quiet_step (fail))
        quiet_step (exact qb _ _)
        repeat (quiet_step (fail))
        refine wpQuiet_nil ?_
        intro _ hw'
        obtain ⟨⟨dq, osq⟩, hw''⟩ := hw'
        subst hw''
        have h7 := h6' dq osq
        clear h6' ka0 ka1 ka2 ka3 kb0 kb1 kb2 kb3 qa qb
        dsimp only at *
        generalize Go.Sort.grow (redrawn wr dq) osq = w7 at *
        have g1 := fun W => has_any x hx (k : Int) (by omega) (by omega) W
        have g2 := fun W => has_any (fun j => andw (x j) (y j)) (and_cls hx hy).1 (k : Int) (by omega) (by omega) W
        have g3 := fun W => has_any (fun j => orw (x j) (y j)) (or_cls hx hy).1 (k : Int) (by omega) (by omega) W
        have g4 := fun W => has_any (fun j => notw (x j)) (not_cls hx).1 (k : Int) (by omega) (by omega) W
        rw [Int.toNat_natCast] at g1 g2 g3 g4
        rw [(and_cls hx hy).2 k hlt] at g2
        rw [(or_cls hx hy).2 k hlt] at g3
        rw [(not_cls hx).2 k hlt] at g4
        obtain ⟨a0, a1, a2, a3, _⟩ := row4 h7.a
        cases hp : hasB x k <;> cases hq : hasB y k
        all_goals
          rw [hp, hq] at g2 g3
          rw [hp] at g1 g4
          simp only [Bool.and_true, Bool.and_false, Bool.or_true, Bool.or_false, Bool.true_and, Bool.false_and, Bool.not_true, Bool.not_false, Bool.true_or, Bool.false_or] at g2 g3 g4
          have HP := Lib.hid hp
          clear hp hq
          go_wp2_with fail
          refine (g1 _).mono ?_
          rintro e w8 ⟨rfl, hb8⟩
          have h8 := h7.below hb8
          clear hb8 a0 a1 a2 a3
          obtain ⟨a0, a1, a2, a3, _⟩ := row4 h8.p
          go_wp2_with fail
          refine (g2 _).mono ?_
          rintro e w9 ⟨rfl, hb9⟩
          have h9 := h8.below hb9
          clear hb9 a0 a1 a2 a3
          obtain ⟨a0, a1, a2, a3, _⟩ := row4 h9.q
          go_wp2_with fail
          refine (g3 _).mono ?_
          rintro e w10 ⟨rfl, hb10⟩
          have h10 := h9.below hb10
          clear hb10 a0 a1 a2 a3
          obtain ⟨a0, a1, a2, a3, _⟩ := row4 h10.r
          go_wp2_with fail
          refine (g4 _).mono ?_
          rintro e w11 ⟨rfl, hb11⟩
          have h11 := h10.below hb11
          clear hb11 a0 a1 a2 a3 h7 h8 h9 h10
          by_cases hneg : fst (hasB x) k < 0
          all_goals
            go_wp2
            go_roundw
            case rel =>
              refine ⟨k + 1, by omega, ?_, ?_, by go_num, h11⟩
              · rw [HCS.out, HP.out]; first | rfl | (simp; done) | (go_num; done)
              · rw [HFS.out, HP.out]; simp [hneg]; try omega
            case measure => simp [intOf]; omega
      · obtain rfl : k = 256 := by omega
        have hsz := fun W => size_any x hx W
        have hem := fun W => empty_any x hx W
        unfold sizeC at hsz hem
        have hcl := cnt_le (hasB x) 256
        obtain ⟨a0, a1, a2, a3, _⟩ := row4 h6.a
        rcases least_ex (hasB x) 256 with hno | ⟨b, hb, hb1, hb2⟩
        · have hlc := fun W => least_none x hx hno W
          rw [cnt_zero 256 hno] at hsz hem
          rw [cnt_zero 256 hno, fst_none 256 hno]
          clear hno
          go_wp2_with fail
          refine (hlc _).mono ?_
          rintro e w12 ⟨rfl, hb12⟩
          have h7 := h6.below hb12
          clear h6 hb12 a0 a1 a2 a3 hlc
          go_wp2_with fail
          refine (awake_any _).mono ?_
          rintro e w13 ⟨rfl, hb13⟩
          have h8 := h7.below hb13
          clear h7 hb13
          obtain ⟨a0, a1, a2, a3, _⟩ := row4 h8.a
          go_wp2_with fail
          refine (hsz _).mono ?_
          rintro e w14 ⟨rfl, hb14⟩
          have h9 := h8.below hb14
          clear h8 hb14 a0 a1 a2 a3
          obtain ⟨a0, a1, a2, a3, _⟩ := row4 h9.a
          go_wp2_with fail
          refine (hem _).mono ?_
          rintro e w15 ⟨rfl, hb15⟩
          have h10 := h9.below hb15
          clear h9 hb15 a0 a1 a2 a3
          go_wp2
          all_goals
            go_ret
            exact ⟨by first | rfl | simp | (simp; omega), h10.ext⟩
        · have hlc := fun W (hT : Tab W) => least_some x hx b hb hb1 hb2 W hT
          have hpos : cnt (hasB x) 256 ≠ 0 := fun h => by
            have := cnt_none 256 h b hb
            rw [this] at hb1; cases hb1
          rw [fst_some hb1 hb2 256 hb]
          clear hb1 hb2
          generalize cnt (hasB x) 256 = N at *
          have e0 : (N == 0) = false := by simp [hpos]
          have e1 : ((N : Int) == 0) = false := by simp [hpos]
          have e2 : decide ((N : Int) > 0) = true := decide_eq_true (by omega)
          have e3 : max (b : Int) 0 = (b : Int) := by omega
          rw [e0] at hem
          have hTw := hT.below h6.ext
          go_wp2_with fail
          refine (hlc _ hTw).mono ?_
          clear hTw
          rintro e w12 ⟨rfl, hb12⟩
          have h7 := h6.below hb12
          clear h6 hb12 a0 a1 a2 a3 hlc
          go_wp2_with fail
          refine (awake_any _).mono ?_
          rintro e w13 ⟨rfl, hb13⟩
          have h8 := h7.below hb13
          clear h7 hb13
          obtain ⟨a0, a1, a2, a3, _⟩ := row4 h8.a
          go_wp2_with fail
          refine (hsz _).mono ?_
          rintro e w14 ⟨rfl, hb14⟩
          have h9 := h8.below hb14
          clear h8 hb14 a0 a1 a2 a3
          obtain ⟨a0, a1, a2, a3, _⟩ := row4 h9.a
          go_wp2_with fail
          refine (hem _).mono ?_
          rintro e w15 ⟨rfl, hb15⟩
          have h10 := h9.below hb15
          clear h9 hb15 a0 a1 a2 a3
          go_wp2
          all_goals
            go_ret
            exact ⟨by first | rfl | simp | (simp; omega), h10.ext⟩
end Go.Proofs.YthknfjiggdkcaaaDoor
