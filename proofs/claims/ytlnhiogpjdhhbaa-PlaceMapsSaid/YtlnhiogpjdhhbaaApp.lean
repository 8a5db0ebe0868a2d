/- An append that the walk may not lay open; what it comes to, for elements of any number of cells. -/
import Derived.Test.YtlnhiogpjdhhbaaK1
import Derived.RangeFuncBox
namespace Go.Proofs.Ytlnhiogpjdhhbaa
open Go.RowKit

def AppS (ts : Array TypeId) (ty : TypeId) (args : Array Value) : Sem Value := Builtin.append_ ts ty args
theorem appS (ts : Array TypeId) (ty : TypeId) (args : Array Value) : Builtin.append_ ts ty args = AppS ts ty args := rfl

theorem app_row {P : Program} (W : World) {n₀ : Nat} {i0 : TypeInfo} (T e : TypeId) (z : Value) (size bytes : Nat) (hT : P.underlying T = some (.slice e)) (hi : P.info? e = some i0) (hz0 : i0.zero = some z) (hz1 : i0.size = size) (hz2 : i0.bytes = bytes) (hz3 : z.cells.size = size) (hs : 0 < size)
    (v : Value) (n : Nat) (xs : List Value) (hrow : W.ownsRow n₀ e size v n xs) (hn₀ : n₀ ≤ W.heap.size) (us : List Value) (hu : us.length = size) (h1 : ∀ u ∈ us, u.oneCell' = true) (hl : (n + 1) * bytes ≤ 140737488355328) (hl2 : n ≤ 1000000000) :
    ∃ g c w', (AppS #[T, T] T #[v, .slice (some ⟨W.heap.size, 0, none⟩) 1 1]).run P (W.alloc (.cells us.toArray e)) = .ok (.slice (some ⟨g, 0, none⟩) (n + 1) c) w' ∧ w'.ownsRow n₀ e size (.slice (some ⟨g, 0, none⟩) (n + 1) c) (n + 1) (xs ++ us) ∧ W.grownBy w' v.ownBlock := by
  obtain ⟨v', w', hr, h2, h3, _⟩ := run_append_own_at (P := P) (W.alloc (.cells us.toArray e)) n₀ T T e i0 z size bytes hT hi hz0 hz1 hz2 hz3 hs v n xs (World.ownsRow.alloc hrow _) ⟨W.heap.size, 0, none⟩ 1 1 us (by rw [hu, Nat.one_mul])
    (fun j x hx => by
      rw [Addr.add_lit, Nat.zero_add]
      show (W.alloc (.cells us.toArray e)).cell? ⟨W.heap.size, j, none⟩ = some x
      rw [blk_cell (heap_alloc_new W _) j]
      simpa using hx) h1 (by unfold maxLen; omega) hl (by simp; omega)
  obtain ⟨g', cap', rfl⟩ := ownsRow_succ h2
  refine ⟨g', cap', w', hr, h2, ⟨h3.os, h3.tape, h3.output, by have := h3.size; simp at this; omega, fun k hk hne => (h3.block k (by simp; omega) hne).trans (Below.heap_alloc W _ k hk)⟩⟩
end Go.Proofs.Ytlnhiogpjdhhbaa
