/- How bytes that come in are opened; the tables laid for RunsPacks. -/
import Derived.Test.YtbdgfbkhplhpkaaDoorRows
import Derived.Test.YtbdgfbkhplhpkaaDoorOpenW
import Derived.Test.YtbdgfbkhplhpkaaDoorL12p
import Derived.WalkKit
import Derived.ProofKit
import Derived.OpenShut
import Derived.Lib.SmallJoins
namespace Go.Proofs.YtbdgfbkhplhpkaaDoor
open Go.ChangeShapes Go.WideShapes Go.ChangeAt Go.RowKit Go.Joins

section
variable {H : Type} {enc : TypeId × Value → H} {P : Program} {w : World} {base : Nat} {spare : Nat → Bool} {held : Bool}
theorem trod_bytes {t e : TypeId} {fuel : Nat} {cs : List Value} {x : DataW H × List MemPlace} (ht : P.underlying t = some (.slice e)) (he : P.underlying e = some (.int .u8)) (hc : P.cellsOf e = 1)
    (h : DataW.trod enc P w base spare held fuel t cs = some x) : ∃ (A : Option Addr) (l : List UInt8) (c : Nat), cs = [.slice A l.length c] ∧ Sl w A c (bcs l) := by
  rcases open_ints ht he hc h with ⟨rfl, _⟩ | ⟨a, len, cap, zs, rfl, _, hl, hm, hz, _, hcell, hwf⟩
  · exact ⟨none, [], 0, rfl, Sl.none_ w⟩
  · have hlz : len ≤ zs.length := by rw [hz]; split <;> omega
    have hln : ((zs.take len).map fun n => UInt8.ofNat n.toNat).length = len := by rw [List.length_map, List.length_take]; omega
    refine ⟨some a, (zs.take len).map fun n => UInt8.ofNat n.toNat, cap, by rw [hln], ⟨?_, ?_, fun e => (by cases e), ?_⟩⟩
    · rw [bcs_length, hln]; exact hl
    · unfold maxLen at hm; omega
    · intro ad e j u hu
      injection e with e
      subst e
      have hj : j < len := by
        have := (List.getElem?_eq_some_iff.1 hu).1
        rwa [bcs_length, hln] at this
      have hjz : j < zs.length := by omega
      rw [hcell j hjz, ← hu]
      have hb := wf_u8 (hwf zs[j] (List.getElem_mem hjz))
      simp [bcs, List.getElem?_map, List.getElem?_take, hj, List.getElem?_eq_getElem hjz, List.getD]
      omega
end
theorem open_bytes {H : Type} {enc : TypeId × Value → H} {w : World} {base : Nat} {spare : Nat → Bool} {held : Bool} {r : Reach} {b0 : Nat} {v : Value} {d : DataW H} {p : List MemPlace}
    (hv : Value.okWide Tryd.prog w r b0 36 v) (h : DataW.Trod enc Tryd.prog w base spare held 36 v d p) :
    ∃ (A : Option Addr) (l : List UInt8) (c : Nat), v = .slice A l.length c ∧ Sl w A c (bcs l) := by
  obtain ⟨a, len, cap, rfl⟩ := okWide_slice Tryd.underlying36 hv
  obtain ⟨fuel, hf⟩ := h
  obtain ⟨A, l, c, hcs, hs⟩ := trod_bytes Tryd.underlying36 Tryd.underlying5 (by kernel_rfl) hf
  simp [Value.cells] at hcs
  obtain ⟨h1, h2, h3⟩ := hcs
  exact ⟨A, l, c, by rw [h1, h2, h3], hs⟩

theorem tab_met2 (os : Os) (args : Array Value) : laidMet Tryd.prog Rows.runsPacksRow.laid ((tabWorld os).forCall (fun _ _ => 0) ⟨#[], args, []⟩).memory :=
  laidMet_of_run' 8 (by kernel_rfl) (by kernel_rfl)
theorem tab_met3 (os : Os) (args : Array Value) : laidMet Tryd.prog Rows.runsTellsRow.laid ((tabWorld os).forCall (fun _ _ => 0) ⟨#[], args, []⟩).memory :=
  laidMet_of_run' 8 (by kernel_rfl) (by kernel_rfl)
end Go.Proofs.YtbdgfbkhplhpkaaDoor
