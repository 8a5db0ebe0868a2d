/- How arguments of the laws are opened: classes of bytes. -/
import Derived.Test.YthknfjiggdkcaaaCls0
import Derived.Test.YthknfjiggdkcaaaProg
import Derived.WalkKit
import Derived.ProofKit
import Derived.OpenShut
import Derived.Lib.SmallJoins
namespace Go.Proofs.Ythknfjiggdkcaaa
open Go.ChangeShapes Go.WideShapes Go.ChangeAt Go.RowKit Go.Joins

theorem wf_u64 {n : Int} (h : (Lit.int .u64 n).wf = true) : 0 ≤ n ∧ n < U64 := by
  simp [Lit.wf, IntKind.min, IntKind.max, IntKind.signed, IntKind.bits] at h
  unfold U64
  omega

section
variable {H : Type} {enc : TypeId × Value → H} {P : Program} {w : World} {base : Nat} {spare : Nat → Bool} {held : Bool}
theorem open_arr4 {r : Reach} {b0 : Nat} {t e : TypeId} {v : Value} {d : DataW H} {p : List MemPlace} (ht : P.underlying t = some (.array 4 e)) (he : P.underlying e = some (.int .u64)) (hC : P.cellsOf t = 4) (hE : P.cellsOf e = 1)
    (hv : Value.okWide P w r b0 t v) (h : DataW.Trod enc P w base spare held t v d p) :
    ∃ x : Nat → Int, v = .agg #[.int .u64 (x 0), .int .u64 (x 1), .int .u64 (x 2), .int .u64 (x 3)] ∧ W64 x := by
  have hag : ∃ cs, v = .agg cs ∧ cs.size = 4 := by
    simp only [Value.okWide, ht] at hv
    obtain ⟨cs, h1, h2, _⟩ := hv
    exact ⟨cs, h1, h2.trans hC⟩
  obtain ⟨cs, rfl, hs⟩ := hag
  obtain ⟨c0, c1, c2, c3, rfl⟩ := array4 hs
  obtain ⟨fuel, hf⟩ := h
  obtain ⟨xs, m, _, _, _, hl, hg⟩ := DataW.trod_array ht hf
  rw [hE] at hg
  have key : ∀ i c, i < 4 → ((Value.agg #[c0, c1, c2, c3]).cells.toList.drop i).take 1 = [c] → ∃ n, c = .int .u64 n ∧ 0 ≤ n ∧ n < U64 := by
    intro i c hi hc
    have h1 := hg i hi
    rw [Nat.mul_one, hc, List.getElem?_eq_getElem (by omega)] at h1
    obtain ⟨n, e1, _, e3⟩ := DataW.trod_int he h1
    exact ⟨n, by simpa using e1, wf_u64 e3⟩
  obtain ⟨n0, rfl, k0⟩ := key 0 c0 (by omega) (by simp [Value.cells])
  obtain ⟨n1, rfl, k1⟩ := key 1 c1 (by omega) (by simp [Value.cells])
  obtain ⟨n2, rfl, k2⟩ := key 2 c2 (by omega) (by simp [Value.cells])
  obtain ⟨n3, rfl, k3⟩ := key 3 c3 (by omega) (by simp [Value.cells])
  refine ⟨fun j => match j with | 0 => n0 | 1 => n1 | 2 => n2 | _ => n3, rfl, fun j hj => ?_⟩
  match j, hj with
  | 0, _ => exact k0
  | 1, _ => exact k1
  | 2, _ => exact k2
  | 3, _ => exact k3
end
theorem open_cls {H : Type} {enc : TypeId × Value → H} {w : World} {base : Nat} {spare : Nat → Bool} {held : Bool} {r : Reach} {b0 : Nat} {v : Value} {d : DataW H} {p : List MemPlace}
    (hv : Value.okWide Try.prog w r b0 27 v) (h : DataW.Trod enc Try.prog w base spare held 27 v d p) :
    ∃ x : Nat → Int, v = .agg #[.int .u64 (x 0), .int .u64 (x 1), .int .u64 (x 2), .int .u64 (x 3)] ∧ W64 x :=
  open_arr4 Try.underlying27 Try.underlying25 (by kernel_rfl) (by kernel_rfl) hv h
end Go.Proofs.Ythknfjiggdkcaaa
