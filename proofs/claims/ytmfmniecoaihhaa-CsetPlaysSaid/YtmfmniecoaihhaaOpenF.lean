/- How a list of calls that comes in is opened. -/
import Derived.Test.YtmfmniecoaihhaaOpenC
import Derived.Test.YtmfmniecoaihhaaCsF
namespace Go.Proofs.Ytmfmniecoaihhaa
open Go.ChangeShapes Go.WideShapes Go.ChangeAt Go.RowKit Go.Joins

section
variable {H : Type} {enc : TypeId × Value → H} {w : World} {base : Nat} {spare : Nat → Bool} {held : Bool}
theorem trod_op {fuel : Nat} {cs : List Value} {x : DataW H × List MemPlace} (h : DataW.trod enc Try.prog w base spare held fuel 40 cs = some x) (hl : cs.length = 2) :
    ∃ (z : Opn) (B : Option Addr) (d : Nat), cs = [.int .u8 z.1, .slice B z.2.length d] ∧ Sl w B d (ic .u8 z.2) ∧ (0 ≤ z.1 ∧ z.1 ≤ 255) ∧ ∀ b ∈ z.2, 0 ≤ b ∧ b ≤ 255 := by
  match cs, hl with
  | [c0, c1], _ =>
    obtain ⟨y0, y1, n, t0, t1⟩ := trod_struct2' Try.underlying40 h
    have e0 : Try.prog.cellsOf 5 = 1 := by kernel_rfl
    have e1 : Try.prog.cellsOf 38 = 1 := by kernel_rfl
    simp only [e0, e1, List.drop, List.take] at t0 t1
    obtain ⟨k, hk, _, wk⟩ := DataW.trod_int Try.underlying5 t0
    obtain ⟨B, l, d, hs, hsl, hb⟩ := trod_u8s t1
    simp only [List.cons.injEq, and_true] at hk hs
    subst hk hs
    exact ⟨(k, l), B, d, rfl, hsl, wf_u8 wk, hb⟩
theorem trod_ops {fuel : Nat} {cs : List Value} {x : DataW H × List MemPlace} (h : DataW.trod enc Try.prog w base spare held fuel 36 cs = some x) :
    ∃ (A : Option Addr) (l : List Opn) (c : Nat), cs = [.slice A l.length c] ∧ Opns w A c l ∧ ByteOps l := by
  rcases DataW.trod_slice Try.underlying36 h with ⟨rfl, _⟩ | ⟨a, len, cap, elems, rest, n, _, rfl, rfl, hb, hl, hm, hlen, hel, _, _⟩
  · exact ⟨none, [], 0, rfl, ⟨Nat.le_refl _, by omega, fun j hj => by simp at hj⟩, fun z hz => by cases hz⟩
  · have h2 : Try.prog.cellsOf 40 = 2 := by kernel_rfl
    have key : ∀ i, i < len → ∃ (z : Opn) (B : Option Addr) (d : Nat), w.cell? (a.add (i * 2)) = some (.int .u8 z.1) ∧ w.cell? ((a.add (i * 2)).add 1) = some (.slice B z.2.length d) ∧ Sl w B d (ic .u8 z.2) ∧ (0 ≤ z.1 ∧ z.1 ≤ 255) ∧ ∀ b ∈ z.2, 0 ≤ b ∧ b ≤ 255 := by
      intro i hi
      have h1 := hel i hi
      rw [h2, List.getElem?_eq_getElem (by omega)] at h1
      obtain ⟨cs, hc, ht⟩ := Option.bind_eq_some_iff.1 h1
      have hs := World.cells?_some hc
      obtain ⟨z, B, d, hcs, r⟩ := trod_op ht hs.2.1
      subst hcs
      have hcell := hs.2.2
      exact ⟨z, B, d, by simpa [Addr.add] using hcell 0 (by omega), by simpa using hcell 1 (by omega), r⟩
    have pick : ∃ f : Nat → Opn, ∀ i, i < len → ∃ (B : Option Addr) (d : Nat), w.cell? (a.add (i * 2)) = some (.int .u8 (f i).1) ∧ w.cell? ((a.add (i * 2)).add 1) = some (.slice B (f i).2.length d) ∧ Sl w B d (ic .u8 (f i).2) ∧ (0 ≤ (f i).1 ∧ (f i).1 ≤ 255) ∧ ∀ b ∈ (f i).2, 0 ≤ b ∧ b ≤ 255 := by
      refine ⟨fun i => if h : i < len then (key i h).choose else (0, []), fun i hi => ?_⟩
      simp only [dif_pos hi]
      exact (key i hi).choose_spec
    obtain ⟨f, hf⟩ := pick
    have hlen' : ((List.range len).map f).length = len := by simp
    have hget : ∀ i, i < len → opAt ((List.range len).map f) i = f i := fun i hi => by simp [opAt, List.getD, hi]
    refine ⟨some a, (List.range len).map f, cap, by rw [hlen'], ⟨by rw [hlen']; exact hl, by unfold maxLen at hm; omega, fun j hj => ?_⟩, fun z hz => ?_⟩
    · rw [hlen'] at hj
      obtain ⟨B, d, r1, r2, r3, _⟩ := hf j hj
      rw [hget j hj]
      refine ⟨a, B, d, rfl, r1, ?_, r3⟩
      rw [← r2]
      unfold Addr.add
      by_cases q : j * 2 = 0 <;> simp [q]
    · simp only [List.mem_map, List.mem_range] at hz
      obtain ⟨i, hi, rfl⟩ := hz
      obtain ⟨B, d, _, _, _, r4, r5⟩ := hf i hi
      exact ⟨r4, r5⟩
end
theorem open_ops {H : Type} {enc : TypeId × Value → H} {w : World} {base : Nat} {spare : Nat → Bool} {held : Bool} {r : Reach} {b0 : Nat} {v : Value} {d : DataW H} {p : List MemPlace}
    (hv : Value.okWide Try.prog w r b0 36 v) (h : DataW.Trod enc Try.prog w base spare held 36 v d p) :
    ∃ (A : Option Addr) (l : List Opn) (c : Nat), v = .slice A l.length c ∧ Opns w A c l ∧ ByteOps l := by
  obtain ⟨a, len, cap, rfl⟩ := okWide_slice Try.underlying36 hv
  obtain ⟨fuel, hf⟩ := h
  obtain ⟨A, l, c, hcs, hs, hb⟩ := trod_ops hf
  simp [Value.cells] at hcs
  obtain ⟨h1, h2, h3⟩ := hcs
  exact ⟨A, l, c, by rw [h1, h2, h3], hs, hb⟩
end Go.Proofs.Ytmfmniecoaihhaa
