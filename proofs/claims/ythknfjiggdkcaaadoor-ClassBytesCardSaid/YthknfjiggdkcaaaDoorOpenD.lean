/- What 'laid' gives: the library's table lies in its block; how the classes that come in are opened. -/
import Derived.Test.YthknfjiggdkcaaaDoorRows
import Derived.Test.YthknfjiggdkcaaaDoorCl3
import Derived.ProofKit
import Derived.LaidLaws
import Derived.Handed
import Derived.OpenShut
import Derived.Lib.SmallJoins
namespace Go.Proofs.YthknfjiggdkcaaaDoor
open Go.ChangeShapes Go.WideShapes Go.ChangeAt Go.RowKit Go.Joins

theorem tabN : Tryd.prog.globalNamed "math/bits.deBruijn64tab" = some 1 := by kernel_rfl
theorem tabType : (Tryd.prog.globals[1]?).map (·.type) = some 48 := by kernel_rfl
theorem cells8 : Tryd.prog.cellsOf 5 = 1 := by kernel_rfl
theorem tab_of_laid {W : World} (h : laidMet Tryd.prog Rows.classBytesRow.laid W) : Tab W := by
  obtain ⟨ps, ⟨g, t, cs, fuel, p, q, hg, ht, hvar, hd, _, _⟩, _⟩ := h
  obtain rfl := Option.some.inj (tabN.symm.trans hg)
  obtain rfl := Option.some.inj (tabType.symm.trans ht)
  obtain ⟨xs, m, rfl, hx, hl, hn, hg2⟩ := DataW.trod_array Tryd.underlying48 hd
  obtain ⟨hx1, _⟩ := Prod.mk.inj hx
  have hx3 : tabL.map (fun n => (DataW.lit (.int .u8 n) : DataW Unit)) = xs.map (·.1) := DataW.agg.inj hx1
  intro j hj
  have h1 := hg2 j hj
  rw [cells8, Nat.mul_one, List.getElem?_eq_getElem (by omega)] at h1
  obtain ⟨s, e1, e2, _⟩ := DataW.trod_int Tryd.underlying5 h1
  have h2 := congrArg (fun l => l[j]?) hx3
  simp only [List.getElem?_map] at h2
  rw [List.getElem?_eq_getElem (show j < xs.length by omega), e2] at h2
  have h3 : tabL[j]? = some s := by
    cases hq : tabL[j]? with
    | none => rw [hq] at h2; simp at h2
    | some v =>
      rw [hq] at h2
      simp at h2
      rw [h2]
  rw [World.var?_cell hg hvar j]
  have h4 : cs.toList[j]? = some (.int .u8 s) := by
    have := congrArg (fun l => l[0]?) e1
    simpa using this
  have h5 : tabL.getD j 0 = s := by rw [List.getD_eq_getElem?_getD, h3]; rfl
  rw [h5]
  simpa using h4
/-- The settled world, but the table is laid. -/
noncomputable def tabWorld (os : Os) : World :=
  let w0 := World.holding Tryd.prog os ⟨#[], #[], []⟩
  { w0 with heap := w0.heap.modify 1 fun
      | .cells _ t frozen => .cells (tabL.map (Value.int .u8)).toArray t frozen
      | o => o }
theorem tab_met (os : Os) (args : Array Value) : laidMet Tryd.prog Rows.classBytesRow.laid ((tabWorld os).forCall (fun _ _ => 0) ⟨#[], args, []⟩).memory :=
  laidMet_of_run' 8 (by kernel_rfl) (by kernel_rfl)

theorem wf_u64 {n : Int} (h : (Lit.int .u64 n).wf = true) : 0 ≤ n ∧ n < U64 := by
  simp [Lit.wf, IntKind.min, IntKind.max, IntKind.signed, IntKind.bits] at h
  unfold U64
  omega
section
variable {H : Type} {enc : TypeId × Value → H} {P : Program} {w : World} {base : Nat} {spare : Nat → Bool} {held : Bool}
theorem open_arr4 {r : Reach} {b0 : Nat} {t e : TypeId} {v : Value} {d : DataW H} {p : List MemPlace} (ht : P.underlying t = some (.array 4 e)) (he : P.underlying e = some (.int .u64)) (hC : P.cellsOf t = 4) (hE : P.cellsOf e = 1)
    (hv : Value.okWide P w r b0 t v) (h : DataW.Trod enc P w base spare held t v d p) :
    ∃ x : Nat → Int, v = .agg #[.int .u64 (x 0), .int .u64 (x 1), .int .u64 (x 2), .int .u64 (x 3)] ∧ W64 x := by
  have hag : ∃ cs, v = .agg cs ∧ cs.size = 4 := by
    simp only [Value.okWide, ht] at hv
    obtain ⟨cs, h1, h2, _⟩ := hv
    exact ⟨cs, h1, h2.trans hC⟩
  obtain ⟨cs, rfl, hs⟩ := hag
  obtain ⟨c0, c1, c2, c3, rfl⟩ := array4 hs
  obtain ⟨fuel, hf⟩ := h
  obtain ⟨xs, m, _, _, _, hl, hg⟩ := DataW.trod_array ht hf
  rw [hE] at hg
  have key : ∀ i c, i < 4 → ((Value.agg #[c0, c1, c2, c3]).cells.toList.drop i).take 1 = [c] → ∃ n, c = .int .u64 n ∧ 0 ≤ n ∧ n < U64 := by
    intro i c hi hc
    have h1 := hg i hi
    rw [Nat.mul_one, hc, List.getElem?_eq_getElem (by omega)] at h1
    obtain ⟨n, e1, _, e3⟩ := DataW.trod_int he h1
    exact ⟨n, by simpa using e1, wf_u64 e3⟩
  obtain ⟨n0, rfl, k0⟩ := key 0 c0 (by omega) (by simp [Value.cells])
  obtain ⟨n1, rfl, k1⟩ := key 1 c1 (by omega) (by simp [Value.cells])
  obtain ⟨n2, rfl, k2⟩ := key 2 c2 (by omega) (by simp [Value.cells])
  obtain ⟨n3, rfl, k3⟩ := key 3 c3 (by omega) (by simp [Value.cells])
  refine ⟨fun j => match j with | 0 => n0 | 1 => n1 | 2 => n2 | _ => n3, rfl, fun j hj => ?_⟩
  match j, hj with
  | 0, _ => exact k0
  | 1, _ => exact k1
  | 2, _ => exact k2
  | 3, _ => exact k3
end
theorem open_cls {H : Type} {enc : TypeId × Value → H} {w : World} {base : Nat} {spare : Nat → Bool} {held : Bool} {r : Reach} {b0 : Nat} {v : Value} {d : DataW H} {p : List MemPlace}
    (hv : Value.okWide Tryd.prog w r b0 24 v) (h : DataW.Trod enc Tryd.prog w base spare held 24 v d p) :
    ∃ x : Nat → Int, v = .agg #[.int .u64 (x 0), .int .u64 (x 1), .int .u64 (x 2), .int .u64 (x 3)] ∧ W64 x :=
  open_arr4 Tryd.underlying24 Tryd.underlying22 (by kernel_rfl) (by kernel_rfl) hv h
end Go.Proofs.YthknfjiggdkcaaaDoor
