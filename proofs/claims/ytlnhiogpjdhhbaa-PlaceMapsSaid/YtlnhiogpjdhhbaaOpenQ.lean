/- How a tree that comes in is opened. -/
import Derived.Test.YtlnhiogpjdhhbaaM05
import Derived.WalkKit
import Derived.ProofKit
import Derived.OpenShut
import Derived.Lib.SmallJoins
namespace Go.Proofs.Ytlnhiogpjdhhbaa.P
open Go.ChangeShapes Go.WideShapes Go.ChangeAt Go.RowKit Go.Joins Go.Proofs.YtlnhiogpjdhhbaaW.PrintWords
section
variable {H : Type} {enc : TypeId × Value → H} {w : World} {base : Nat} {spare : Nat → Bool} {held : Bool}
theorem list8 {α : Type} {l : List α} (h : l.length = 8) : ∃ c0 c1 c2 c3 c4 c5 c6 c7, l = [c0, c1, c2, c3, c4, c5, c6, c7] := by
  match l, h with
  | [c0, c1, c2, c3, c4, c5, c6, c7], _ => exact ⟨c0, c1, c2, c3, c4, c5, c6, c7, rfl⟩
theorem trod_class {fuel : Nat} {c0 c1 c2 c3 : Value} {x : DataW H × List MemPlace} (h : DataW.trod enc Try.prog w base spare held fuel 24 [c0, c1, c2, c3] = some x) :
    ∃ s : S24, c0 = .int .u64 s.f0 ∧ c1 = .int .u64 s.f1 ∧ c2 = .int .u64 s.f2 ∧ c3 = .int .u64 s.f3 := by
  obtain ⟨xs, m, _, _, _, hl, hg⟩ := DataW.trod_array Try.underlying24 h
  have hE : Try.prog.cellsOf 22 = 1 := by kernel_rfl
  rw [hE] at hg
  have key : ∀ i c, i < 4 → ([c0, c1, c2, c3].drop i).take 1 = [c] → ∃ n, c = .int .u64 n := by
    intro i c hi hc
    have h1 := hg i hi
    rw [Nat.mul_one, hc, List.getElem?_eq_getElem (by omega)] at h1
    obtain ⟨n, e1, _⟩ := DataW.trod_int Try.underlying22 h1
    exact ⟨n, by simpa using e1⟩
  obtain ⟨n0, rfl⟩ := key 0 c0 (by omega) rfl
  obtain ⟨n1, rfl⟩ := key 1 c1 (by omega) rfl
  obtain ⟨n2, rfl⟩ := key 2 c2 (by omega) rfl
  obtain ⟨n3, rfl⟩ := key 3 c3 (by omega) rfl
  exact ⟨⟨n0, n1, n2, n3⟩, rfl, rfl, rfl, rfl⟩
theorem trod_struct5 {P : Program} {t : TypeId} {f0 f1 f2 f3 f4 : Field} {fuel : Nat} {cs : List Value} {x : DataW H × List MemPlace} (ht : P.underlying t = some (.struct #[f0, f1, f2, f3, f4])) (h : DataW.trod enc P w base spare held fuel t cs = some x) :
    ∃ y0 y1 y2 y3 y4 n, fuel = n + 1 ∧ DataW.trod enc P w base spare held n f0.type ((cs.drop f0.offset).take (P.cellsOf f0.type)) = some y0 ∧
      DataW.trod enc P w base spare held n f1.type ((cs.drop f1.offset).take (P.cellsOf f1.type)) = some y1 ∧ DataW.trod enc P w base spare held n f2.type ((cs.drop f2.offset).take (P.cellsOf f2.type)) = some y2 ∧
      DataW.trod enc P w base spare held n f3.type ((cs.drop f3.offset).take (P.cellsOf f3.type)) = some y3 ∧ DataW.trod enc P w base spare held n f4.type ((cs.drop f4.offset).take (P.cellsOf f4.type)) = some y4 := by
  obtain ⟨xs, n, hn, rfl, hl, hlen, hf⟩ := DataW.trod_struct ht h
  match xs, hlen with
  | [y0, y1, y2, y3, y4], _ => exact ⟨y0, y1, y2, y3, y4, n, hn, by simpa using hf 0 f0 rfl, by simpa using hf 1 f1 rfl, by simpa using hf 2 f2 rfl, by simpa using hf 3 f3 rfl, by simpa using hf 4 f4 rfl⟩
theorem trod_node (fuel : Nat) : ∀ (cs : List Value) (x : DataW H × List MemPlace), DataW.trod enc Try.prog w base spare held fuel 27 cs = some x → cs.length = 8 →
    ∃ (y : S27) (A5 : Option Addr) (c5 : Nat), cs = [.int .i64 y.f0, .int .u64 y.f1.f0, .int .u64 y.f1.f1, .int .u64 y.f1.f2, .int .u64 y.f1.f3, .slice A5 y.f2.length c5, .int .i64 y.f3, .int .i64 y.f4] ∧ y.f2.length ≤ c5 ∧ Kd.C k27 w A5 y.f2.length y.f2 := by
  induction fuel using Nat.strongRecOn with
  | _ fuel ih =>
  intro cs x h hl
  obtain ⟨c0, c1, c2, c3, c4, c5, c6, c7, rfl⟩ := list8 hl
  obtain ⟨y0, y1, y2, y3, y4, n, rfl, t0, t1, t2, t3, t4⟩ := trod_struct5 Try.underlying27 h
  have e1 : Try.prog.cellsOf 3 = 1 := by kernel_rfl
  have e2 : Try.prog.cellsOf 24 = 4 := by kernel_rfl
  have e3 : Try.prog.cellsOf 25 = 1 := by kernel_rfl
  have e4 : Try.prog.cellsOf 2 = 1 := by kernel_rfl
  have e5 : Try.prog.cellsOf 27 = 8 := by kernel_rfl
  simp only [e1, e2, e3, e4, List.drop, List.take] at t0 t1 t2 t3 t4
  obtain ⟨k, hk, _, _⟩ := DataW.trod_int Try.underlying3 t0
  obtain ⟨s, rfl, rfl, rfl, rfl⟩ := trod_class t1
  obtain ⟨lo, hlo, _, _⟩ := DataW.trod_int Try.underlying2 t3
  obtain ⟨hi, hhi, _, _⟩ := DataW.trod_int Try.underlying2 t4
  obtain rfl : c0 = .int .i64 k := by simpa using hk
  obtain rfl : c6 = .int .i64 lo := by simpa using hlo
  obtain rfl : c7 = .int .i64 hi := by simpa using hhi
  rcases DataW.trod_slice Try.underlying25 t2 with ⟨hs, _⟩ | ⟨a, len, cap, elems, rest, m, hm, hs, _, _, hlc, hmax, hel, helem, _, _⟩
  · obtain rfl : c5 = .slice none 0 0 := by simpa using hs
    exact ⟨⟨k, s, [], lo, hi⟩, none, 0, rfl, Nat.le_refl _, Kd.C_nil _ _⟩
  · obtain rfl : c5 = .slice (some a) len cap := by simpa using hs
    rw [e5] at helem
    have key : ∀ i, i < len → ∃ (y : S27) (A5 : Option Addr) (d5 : Nat), y.f2.length ≤ d5 ∧ Kd.C k27 w A5 y.f2.length y.f2 ∧
        ∀ j u, [Value.int .i64 y.f0, .int .u64 y.f1.f0, .int .u64 y.f1.f1, .int .u64 y.f1.f2, .int .u64 y.f1.f3, .slice A5 y.f2.length d5, .int .i64 y.f3, .int .i64 y.f4][j]? = some u → w.cell? (a.add (i * 8 + j)) = some u := by
      intro i hi
      have h1 := helem i hi
      rw [List.getElem?_eq_getElem (by omega)] at h1
      obtain ⟨cs, hc, ht⟩ := Option.bind_eq_some_iff.1 h1
      have hs := World.cells?_some hc
      obtain ⟨y, A5, d5, rfl, hle, hC⟩ := ih m (by omega) cs _ ht hs.2.1
      refine ⟨y, A5, d5, hle, hC, fun j u hu => ?_⟩
      have hj : j < 8 := by have := (List.getElem?_eq_some_iff.1 hu).1; simpa using this
      have := hs.2.2 j hj
      rw [hu] at this
      rw [← this]
      congr 1
      unfold Addr.add
      by_cases q : i * 8 = 0 <;> by_cases q2 : j = 0 <;> simp [q, q2, Nat.add_assoc]
    refine ⟨⟨k, s, (List.range len).map fun i => if h : i < len then (key i h).choose else z27, lo, hi⟩, some a, cap, by simp, by simpa using hlc, by simp, by simp; unfold maxLen at hmax; omega, fun _ => ⟨a, rfl, fun j p hj => ?_⟩⟩
    have hjl : j < len := by have := (List.getElem?_eq_some_iff.1 hj).1; simpa using this
    have hp : p = (key j hjl).choose := by
      rw [List.getElem?_map, List.getElem?_range hjl] at hj
      simp only [Option.map_some, dif_pos hjl, Option.some.injEq] at hj
      exact hj.symm
    subst hp
    obtain ⟨A5, d5, hle, hC, hcell⟩ := (key j hjl).choose_spec
    exact ⟨_, rfl, k27_mk w _ hle hC, hcell⟩
end
theorem open_node {H : Type} {enc : TypeId × Value → H} {w : World} {base : Nat} {spare : Nat → Bool} {held : Bool} {r : Reach} {b0 : Nat} {v : Value} {d : DataW H} {p : List MemPlace}
    (hv : Value.okWide Try.prog w r b0 27 v) (h : DataW.Trod enc Try.prog w base spare held 27 v d p) :
    ∃ (x : S27) (A5 : Option Addr) (c5 : Nat), v = ndV x A5 c5 ∧ x.f2.length ≤ c5 ∧ Kd.C k27 w A5 x.f2.length x.f2 := by
  obtain ⟨cs, rfl, hsz⟩ := okWide_struct Try.underlying27 hv
  have e5 : Try.prog.cellsOf 27 = 8 := by kernel_rfl
  obtain ⟨fuel, hf⟩ := h
  obtain ⟨x, A5, c5, hcs, hle, hC⟩ := trod_node fuel _ _ hf (by simp [Value.cells]; omega)
  refine ⟨x, A5, c5, ?_, hle, hC⟩
  unfold ndV
  congr 1
  apply Array.toList_inj.1
  simpa [Value.cells] using hcs
end Go.Proofs.Ytlnhiogpjdhhbaa.P
