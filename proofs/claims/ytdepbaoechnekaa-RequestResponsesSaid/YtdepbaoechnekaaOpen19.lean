/- How arguments of layer 19's laws are opened: bytes, requests. -/
import Derived.Test.YtdepbaoechnekaaProg
import Derived.Test.YtdepbaoechnekaaK1
import Derived.Test.YtdepbaoechnekaaReqW
import Derived.WalkKit
import Derived.ProofKit
import Derived.OpenShut
import Derived.Lib.SmallJoins
namespace Go.Proofs.Ytdepbaoechnekaa
open Go.ChangeShapes Go.WideShapes Go.ChangeAt Go.RowKit Go.Joins

section
variable {H : Type} {enc : TypeId × Value → H} {P : Program} {w : World} {base : Nat} {spare : Nat → Bool} {held : Bool}
theorem trod_bytes {t e : TypeId} {fuel : Nat} {cs : List Value} {x : DataW H × List MemPlace} (ht : P.underlying t = some (.slice e)) (he : P.underlying e = some (.int .u8)) (hc : P.cellsOf e = 1)
    (h : DataW.trod enc P w base spare held fuel t cs = some x) : ∃ (A : Option Addr) (l : List UInt8) (c : Nat), cs = [.slice A l.length c] ∧ Sl w A c (byc l) := by
  rcases open_ints ht he hc h with ⟨rfl, _⟩ | ⟨a, len, cap, zs, rfl, _, hl, hm, hz, _, hcell, hwf⟩
  · exact ⟨none, [], 0, rfl, Sl.none_ w⟩
  · have hlz : len ≤ zs.length := by rw [hz]; split <;> omega
    have hln : ((zs.take len).map fun n => UInt8.ofNat n.toNat).length = len := by rw [List.length_map, List.length_take]; omega
    refine ⟨some a, (zs.take len).map fun n => UInt8.ofNat n.toNat, cap, by rw [hln], ⟨?_, ?_, fun e => (by cases e), ?_⟩⟩
    · rw [byc_length, hln]; exact hl
    · unfold maxLen at hm; omega
    · intro ad e j u hu
      injection e with e
      subst e
      have hj : j < len := by
        have := (List.getElem?_eq_some_iff.1 hu).1
        rwa [byc_length, hln] at this
      have hjz : j < zs.length := by omega
      rw [hcell j hjz, ← hu]
      have hb := bounds_u8 (hwf zs[j] (List.getElem_mem hjz))
      simp [byc, List.getElem?_map, List.getElem?_take, hj, List.getElem?_eq_getElem hjz, List.getD]
      omega
theorem array5 {α : Type} {cs : Array α} (h : cs.size = 5) : ∃ c0 c1 c2 c3 c4, cs = #[c0, c1, c2, c3, c4] := by
  obtain ⟨l⟩ := cs
  match l, h with
  | [c0, c1, c2, c3, c4], _ => exact ⟨c0, c1, c2, c3, c4, rfl⟩
theorem trod_struct5 {t : TypeId} {f0 f1 f2 f3 f4 : Field} {fuel : Nat} {cs : List Value} {x : DataW H × List MemPlace} (ht : P.underlying t = some (.struct #[f0, f1, f2, f3, f4])) (h : DataW.trod enc P w base spare held fuel t cs = some x) :
    ∃ y0 y1 y2 y3 y4 n, DataW.trod enc P w base spare held n f0.type ((cs.drop f0.offset).take (P.cellsOf f0.type)) = some y0 ∧
      DataW.trod enc P w base spare held n f1.type ((cs.drop f1.offset).take (P.cellsOf f1.type)) = some y1 ∧ DataW.trod enc P w base spare held n f2.type ((cs.drop f2.offset).take (P.cellsOf f2.type)) = some y2 ∧
      DataW.trod enc P w base spare held n f3.type ((cs.drop f3.offset).take (P.cellsOf f3.type)) = some y3 ∧ DataW.trod enc P w base spare held n f4.type ((cs.drop f4.offset).take (P.cellsOf f4.type)) = some y4 := by
  obtain ⟨xs, n, _, rfl, hl, hlen, hf⟩ := DataW.trod_struct ht h
  match xs, hlen with
  | [y0, y1, y2, y3, y4], _ => exact ⟨y0, y1, y2, y3, y4, n, by simpa using hf 0 f0 rfl, by simpa using hf 1 f1 rfl, by simpa using hf 2 f2 rfl, by simpa using hf 3 f3 rfl, by simpa using hf 4 f4 rfl⟩
end

theorem open_bytes {H : Type} {enc : TypeId × Value → H} {w : World} {base : Nat} {spare : Nat → Bool} {held : Bool} {r : Reach} {b0 : Nat} {v : Value} {d : DataW H} {p : List MemPlace}
    (hv : Value.okWide Try.prog w r b0 22 v) (h : DataW.Trod enc Try.prog w base spare held 22 v d p) :
    ∃ (A : Option Addr) (l : List UInt8) (c : Nat), v = .slice A l.length c ∧ Sl w A c (byc l) := by
  obtain ⟨a, len, cap, rfl⟩ := okWide_slice Try.underlying22 hv
  obtain ⟨fuel, hf⟩ := h
  obtain ⟨A, l, c, hcs, hs⟩ := trod_bytes Try.underlying22 Try.underlying5 (by kernel_rfl) hf
  simp [Value.cells] at hcs
  obtain ⟨h1, h2, h3⟩ := hcs
  exact ⟨A, l, c, by rw [h1, h2, h3], hs⟩

theorem open_request {H : Type} {enc : TypeId × Value → H} {w : World} {base : Nat} {spare : Nat → Bool} {held : Bool} {r : Reach} {b0 : Nat} {v : Value} {d : DataW H} {p : List MemPlace}
    (hv : Value.okWide Try.prog w r b0 24 v) (h : DataW.Trod enc Try.prog w base spare held 24 v d p) :
    ∃ (K N : Int) (a b : ByteArray) (A : Option Addr) (l : List UInt8) (c : Nat), v = .agg #[.int .i64 K, .string a, .string b, .slice A l.length c, .int .i64 N] ∧ Sl w A c (byc l) ∧ a.size ≤ maxLen ∧ b.size ≤ maxLen := by
  obtain ⟨cs, rfl, hsz⟩ := okWide_struct Try.underlying24 hv
  have h5 : Try.prog.cellsOf 24 = 5 := by kernel_rfl
  obtain ⟨c0, c1, c2, c3, c4, rfl⟩ := array5 (hsz.trans h5)
  obtain ⟨fuel, hf⟩ := h
  obtain ⟨y0, y1, y2, y3, y4, n, t0, t1, t2, t3, t4⟩ := trod_struct5 Try.underlying24 hf
  have e0 : Try.prog.cellsOf 3 = 1 := by kernel_rfl
  have e1 : Try.prog.cellsOf 9 = 1 := by kernel_rfl
  have e2 : Try.prog.cellsOf 22 = 1 := by kernel_rfl
  simp only [Value.cells, e0, e1, e2, List.drop, List.take] at t0 t1 t2 t3 t4
  obtain ⟨K, hK, _, _⟩ := DataW.trod_int Try.underlying3 t0
  obtain ⟨a, ha, _, la⟩ := DataW.trod_string Try.underlying9 t1
  obtain ⟨b, hb, _, lb⟩ := DataW.trod_string Try.underlying9 t2
  obtain ⟨A, l, c, hW, hs⟩ := trod_bytes Try.underlying22 Try.underlying5 (by kernel_rfl) t3
  obtain ⟨N, hN, _, _⟩ := DataW.trod_int Try.underlying3 t4
  simp only [List.cons.injEq, and_true] at hK ha hb hW hN
  subst hK ha hb hW hN
  exact ⟨K, N, a, b, A, l, c, rfl, hs, la, lb⟩
end Go.Proofs.Ytdepbaoechnekaa
