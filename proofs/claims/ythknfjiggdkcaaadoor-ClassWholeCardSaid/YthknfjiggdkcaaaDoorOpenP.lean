/- How a slice of classes that comes in is opened; what 'laid' gives of class.all. -/
import Derived.Test.YthknfjiggdkcaaaDoorRows
import Derived.Test.YthknfjiggdkcaaaDoorPt1
import Derived.Test.YthknfjiggdkcaaaDoorOpenE
namespace Go.Proofs.YthknfjiggdkcaaaDoor
open Go.ChangeShapes Go.WideShapes Go.ChangeAt Go.RowKit Go.Joins

theorem allN : Tryd.prog.globalNamed "ostinato/class.all" = some 0 := by kernel_rfl
theorem allType : (Tryd.prog.globals[0]?).map (·.type) = some 3 := by kernel_rfl
theorem all_of_laid {W : World} (h : laidMet Tryd.prog Rows.classPartsRow.laid W) : W.cell? ⟨0, 0, none⟩ = some (.int .i64 256) := by
  obtain ⟨ps, ⟨g, t, cs, fuel, p, q, hg, ht, hvar, hd, _, _⟩, _⟩ := h
  obtain rfl := Option.some.inj (allN.symm.trans hg)
  obtain rfl := Option.some.inj (allType.symm.trans ht)
  obtain ⟨s, e1, e2, _⟩ := DataW.trod_int Tryd.underlying3 hd
  have h3 : s = 256 := by
    injection e2 with e2 _
    injection e2 with e2
    injection e2 with _ e2
    exact e2.symm
  subst h3
  have h1 := World.var?_cell hg hvar 0
  rw [h1]
  have := congrArg (fun l => l[0]?) e1
  simpa using this
/-- The settled world, but class.all is laid. -/
noncomputable def allWorld (os : Os) : World :=
  let w0 := World.holding Tryd.prog os ⟨#[], #[], []⟩
  { w0 with heap := w0.heap.modify 0 fun
      | .cells _ t frozen => .cells #[.int .i64 256] t frozen
      | o => o }
theorem all_met (os : Os) (args : Array Value) : laidMet Tryd.prog Rows.classPartsRow.laid ((allWorld os).forCall (fun _ _ => 0) ⟨#[], args, []⟩).memory :=
  laidMet_of_run' 8 (by kernel_rfl) (by kernel_rfl)

section
variable {H : Type} {enc : TypeId × Value → H} {w : World} {base : Nat} {spare : Nat → Bool} {held : Bool}
theorem trod_cls {fuel : Nat} {cs : List Value} {x : DataW H × List MemPlace} (h : DataW.trod enc Tryd.prog w base spare held fuel 24 cs = some x) (hl : cs.length = 4) :
    ∃ x : Nat → Int, cs = [.int .u64 (x 0), .int .u64 (x 1), .int .u64 (x 2), .int .u64 (x 3)] ∧ W64 x := by
  match cs, hl with
  | [c0, c1, c2, c3], _ =>
    obtain ⟨xs, m, _, _, _, hl, hg⟩ := DataW.trod_array Tryd.underlying24 h
    have hE : Tryd.prog.cellsOf 22 = 1 := by kernel_rfl
    rw [hE] at hg
    have key : ∀ i c, i < 4 → ([c0, c1, c2, c3].drop i).take 1 = [c] → ∃ n, c = .int .u64 n ∧ 0 ≤ n ∧ n < U64 := by
      intro i c hi hc
      have h1 := hg i hi
      rw [Nat.mul_one, hc, List.getElem?_eq_getElem (by omega)] at h1
      obtain ⟨n, e1, _, e3⟩ := DataW.trod_int Tryd.underlying22 h1
      exact ⟨n, by simpa using e1, wf_u64 e3⟩
    obtain ⟨n0, rfl, k0⟩ := key 0 c0 (by omega) rfl
    obtain ⟨n1, rfl, k1⟩ := key 1 c1 (by omega) rfl
    obtain ⟨n2, rfl, k2⟩ := key 2 c2 (by omega) rfl
    obtain ⟨n3, rfl, k3⟩ := key 3 c3 (by omega) rfl
    refine ⟨fun j => match j with | 0 => n0 | 1 => n1 | 2 => n2 | _ => n3, rfl, fun j hj => ?_⟩
    match j, hj with
    | 0, _ => exact k0
    | 1, _ => exact k1
    | 2, _ => exact k2
    | 3, _ => exact k3
theorem trod_classes {fuel : Nat} {cs : List Value} {x : DataW H × List MemPlace} (h : DataW.trod enc Tryd.prog w base spare held fuel 35 cs = some x) :
    ∃ (A : Option Addr) (l : List Cw) (c : Nat), cs = [.slice A l.length c] ∧ Cs w A c l ∧ AllW l := by
  rcases DataW.trod_slice Tryd.underlying35 h with ⟨rfl, _⟩ | ⟨a, len, cap, elems, rest, n, _, rfl, rfl, hb, hl, hm, hlen, hel, _, _⟩
  · exact ⟨none, [], 0, rfl, ⟨Nat.le_refl _, by omega, fun _ => rfl, fun _ h => by cases h⟩, fun j hj => by simp at hj⟩
  · have h2 : Tryd.prog.cellsOf 24 = 4 := by kernel_rfl
    have key : ∀ i, i < len → ∃ x : Cw, W64 x ∧ w.cell? (a.add (i * 4)) = some (.int .u64 (x 0)) ∧ w.cell? ((a.add (i * 4)).add 1) = some (.int .u64 (x 1)) ∧ w.cell? ((a.add (i * 4)).add 2) = some (.int .u64 (x 2)) ∧ w.cell? ((a.add (i * 4)).add 3) = some (.int .u64 (x 3)) := by
      intro i hi
      have h1 := hel i hi
      rw [h2, List.getElem?_eq_getElem (by omega)] at h1
      obtain ⟨cs, hc, ht⟩ := Option.bind_eq_some_iff.1 h1
      have hs := World.cells?_some hc
      obtain ⟨x, hcs, hw⟩ := trod_cls ht hs.2.1
      subst hcs
      have hcell := hs.2.2
      exact ⟨x, hw, by simpa [Addr.add] using hcell 0 (by omega), by simpa using hcell 1 (by omega), by simpa using hcell 2 (by omega), by simpa using hcell 3 (by omega)⟩
    have pick : ∃ f : Nat → Cw, ∀ i, i < len → W64 (f i) ∧ w.cell? (a.add (i * 4)) = some (.int .u64 (f i 0)) ∧ w.cell? ((a.add (i * 4)).add 1) = some (.int .u64 (f i 1)) ∧ w.cell? ((a.add (i * 4)).add 2) = some (.int .u64 (f i 2)) ∧ w.cell? ((a.add (i * 4)).add 3) = some (.int .u64 (f i 3)) := by
      refine ⟨fun i => if h : i < len then (key i h).choose else fun _ => 0, fun i hi => ?_⟩
      simp only [dif_pos hi]
      exact (key i hi).choose_spec
    obtain ⟨f, hf⟩ := pick
    have hlen' : ((List.range len).map f).length = len := by simp
    have hget : ∀ i, i < len → clAt ((List.range len).map f) i = f i := fun i hi => by simp [clAt, List.getD, hi]
    have hadd : ∀ q j : Nat, (a.add q).add j = ⟨(a.add q).block, (a.add q).off + j, none⟩ ∨ j = 0 := fun q j => by
      rcases Nat.eq_zero_or_pos j with h | h
      · exact .inr h
      · left
        unfold Addr.add
        split <;> simp_all
    refine ⟨some a, (List.range len).map f, cap, by rw [hlen'], ⟨by rw [hlen']; exact hl, by unfold maxLen at hm; omega, fun e => (by cases e), fun ad e j hj => ?_⟩, fun j hj => ?_⟩
    · injection e with e
      subst e
      rw [hlen'] at hj
      rw [hget j hj]
      obtain ⟨_, c0, c1, c2, c3⟩ := hf j hj
      refine ⟨c0, ?_, ?_, ?_⟩
      · rcases hadd (j * 4) 1 with h | h
        · rw [← h]; exact c1
        · omega
      · rcases hadd (j * 4) 2 with h | h
        · rw [← h]; exact c2
        · omega
      · rcases hadd (j * 4) 3 with h | h
        · rw [← h]; exact c3
        · omega
    · rw [hlen'] at hj
      rw [hget j hj]
      exact (hf j hj).1
end
theorem open_classes {H : Type} {enc : TypeId × Value → H} {w : World} {base : Nat} {spare : Nat → Bool} {held : Bool} {r : Reach} {b0 : Nat} {v : Value} {d : DataW H} {p : List MemPlace}
    (hv : Value.okWide Tryd.prog w r b0 35 v) (h : DataW.Trod enc Tryd.prog w base spare held 35 v d p) :
    ∃ (A : Option Addr) (l : List Cw) (c : Nat), v = .slice A l.length c ∧ Cs w A c l ∧ AllW l := by
  obtain ⟨a, len, cap, rfl⟩ := okWide_slice Tryd.underlying35 hv
  obtain ⟨fuel, hf⟩ := h
  obtain ⟨A, l, c, hcs, hs, hb⟩ := trod_classes hf
  simp [Value.cells] at hcs
  obtain ⟨h1, h2, h3⟩ := hcs
  exact ⟨A, l, c, by rw [h1, h2, h3], hs, hb⟩
end Go.Proofs.YthknfjiggdkcaaaDoor
