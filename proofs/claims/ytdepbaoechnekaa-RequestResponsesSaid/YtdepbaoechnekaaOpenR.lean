/- How a response that comes in is opened. -/
import Derived.Test.YtdepbaoechnekaaOpen19
import Derived.Test.YtdepbaoechnekaaRunW
namespace Go.Proofs.Ytdepbaoechnekaa
open Go.ChangeShapes Go.WideShapes Go.ChangeAt Go.RowKit Go.Joins

section
variable {H : Type} {enc : TypeId × Value → H} {w : World} {base : Nat} {spare : Nat → Bool} {held : Bool}
theorem wf_i64 {n : Int} (h : (Lit.int .i64 n).wf = true) : I64 n := by
  simp [Lit.wf, IntKind.min, IntKind.max, IntKind.signed, IntKind.bits] at h
  unfold I64
  omega
theorem trod_run {fuel : Nat} {cs : List Value} {x : DataW H × List MemPlace} (h : DataW.trod enc Try.prog w base spare held fuel 58 cs = some x) (hl : cs.length = 2) :
    ∃ (b : UInt8) (T : Int), cs = [.int .u8 (b.toNat : Int), .int .i64 T] ∧ I64 T := by
  match cs, hl with
  | [c0, c1], _ =>
    obtain ⟨y0, y1, n, _, _, t0, t1⟩ := trod_struct2 Try.underlying58 h
    have e0 : Try.prog.cellsOf 5 = 1 := by kernel_rfl
    have e1 : Try.prog.cellsOf 2 = 1 := by kernel_rfl
    simp only [e0, e1, List.drop, List.take] at t0 t1
    obtain ⟨B, hB, _, w0⟩ := DataW.trod_int Try.underlying5 t0
    obtain ⟨T, hT, _, w1⟩ := DataW.trod_int Try.underlying2 t1
    simp only [List.cons.injEq, and_true] at hB hT
    subst hB hT
    have hb := bounds_u8 w0
    exact ⟨UInt8.ofNat B.toNat, T, by rw [UInt8.toNat_ofNat']; congr 2; omega, wf_i64 w1⟩
theorem array6 {α : Type} {cs : Array α} (h : cs.size = 6) : ∃ c0 c1 c2 c3 c4 c5, cs = #[c0, c1, c2, c3, c4, c5] := by
  obtain ⟨l⟩ := cs
  match l, h with
  | [c0, c1, c2, c3, c4, c5], _ => exact ⟨c0, c1, c2, c3, c4, c5, rfl⟩
theorem trod_struct6 {P : Program} {t : TypeId} {f0 f1 f2 f3 f4 f5 : Field} {fuel : Nat} {cs : List Value} {x : DataW H × List MemPlace} (ht : P.underlying t = some (.struct #[f0, f1, f2, f3, f4, f5])) (h : DataW.trod enc P w base spare held fuel t cs = some x) :
    ∃ y0 y1 y2 y3 y4 y5 n, DataW.trod enc P w base spare held n f0.type ((cs.drop f0.offset).take (P.cellsOf f0.type)) = some y0 ∧
      DataW.trod enc P w base spare held n f1.type ((cs.drop f1.offset).take (P.cellsOf f1.type)) = some y1 ∧ DataW.trod enc P w base spare held n f2.type ((cs.drop f2.offset).take (P.cellsOf f2.type)) = some y2 ∧
      DataW.trod enc P w base spare held n f3.type ((cs.drop f3.offset).take (P.cellsOf f3.type)) = some y3 ∧ DataW.trod enc P w base spare held n f4.type ((cs.drop f4.offset).take (P.cellsOf f4.type)) = some y4 ∧
      DataW.trod enc P w base spare held n f5.type ((cs.drop f5.offset).take (P.cellsOf f5.type)) = some y5 := by
  obtain ⟨xs, n, _, rfl, hl, hlen, hf⟩ := DataW.trod_struct ht h
  match xs, hlen with
  | [y0, y1, y2, y3, y4, y5], _ => exact ⟨y0, y1, y2, y3, y4, y5, n, by simpa using hf 0 f0 rfl, by simpa using hf 1 f1 rfl, by simpa using hf 2 f2 rfl, by simpa using hf 3 f3 rfl, by simpa using hf 4 f4 rfl, by simpa using hf 5 f5 rfl⟩
theorem trod_runs {fuel : Nat} {cs : List Value} {x : DataW H × List MemPlace} (h : DataW.trod enc Try.prog w base spare held fuel 36 cs = some x) :
    ∃ (A : Option Addr) (rs : List Rn) (c : Nat), cs = [.slice A rs.length c] ∧ Rs w A c rs ∧ ∀ i, I64 (rT rs i) := by
  rcases DataW.trod_slice Try.underlying36 h with ⟨rfl, _⟩ | ⟨a, len, cap, elems, rest, n, _, rfl, rfl, hb, hl, hm, hlen, hel, _, _⟩
  · refine ⟨none, [], 0, rfl, Rs.none_ w, fun i => ?_⟩
    simp [rT, I64]
  · have h2 : Try.prog.cellsOf 58 = 2 := by kernel_rfl
    have key : ∀ i, i < len → ∃ (b : UInt8) (T : Int), w.cell? (a.add (i * 2)) = some (.int .u8 (b.toNat : Int)) ∧ w.cell? ((a.add (i * 2)).add 1) = some (.int .i64 T) ∧ I64 T := by
      intro i hi
      have h1 := hel i hi
      rw [h2, List.getElem?_eq_getElem (by omega)] at h1
      obtain ⟨cs, hc, ht⟩ := Option.bind_eq_some_iff.1 h1
      have hs := World.cells?_some hc
      obtain ⟨b, T, hcs, hT⟩ := trod_run ht hs.2.1
      subst hcs
      have hcell := hs.2.2
      exact ⟨b, T, by simpa [Addr.add] using hcell 0 (by omega), by simpa using hcell 1 (by omega), hT⟩
    have pick : ∃ f : Nat → Rn, ∀ i, i < len → w.cell? (a.add (i * 2)) = some (.int .u8 ((f i).1.toNat : Int)) ∧ w.cell? ((a.add (i * 2)).add 1) = some (.int .i64 (f i).2) ∧ I64 (f i).2 := by
      refine ⟨fun i => if h : i < len then ((key i h).choose, (key i h).choose_spec.choose) else (0, 0), fun i hi => ?_⟩
      simp only [dif_pos hi]
      exact (key i hi).choose_spec.choose_spec
    obtain ⟨f, hf⟩ := pick
    have hlen' : ((List.range len).map f).length = len := by simp
    have hget : ∀ i, i < len → rB ((List.range len).map f) i = (f i).1 ∧ rT ((List.range len).map f) i = (f i).2 := fun i hi => by
      simp [rB, rT, List.getD, hi]
    refine ⟨some a, (List.range len).map f, cap, by rw [hlen'], ⟨by rw [hlen']; exact hl, by unfold maxLen at hm; omega, fun e => (by cases e), fun ad e j hj => ?_⟩, fun i => ?_⟩
    · injection e with e
      subst e
      rw [hlen'] at hj
      rw [(hget j hj).1, (hget j hj).2]
      exact ⟨(hf j hj).1, (hf j hj).2.1⟩
    · by_cases hi : i < len
      · rw [(hget i hi).2]; exact (hf i hi).2.2
      · simp [rT, List.getD, hi, I64]
end
theorem open_response {H : Type} {enc : TypeId × Value → H} {w : World} {base : Nat} {spare : Nat → Bool} {held : Bool} {r : Reach} {b0 : Nat} {v : Value} {d : DataW H} {p : List MemPlace}
    (hv : Value.okWide Try.prog w r b0 38 v) (h : DataW.Trod enc Try.prog w base spare held 38 v d p) :
    ∃ (E P N : Int) (y : Bool) (t : ByteArray) (A : Option Addr) (rs : List Rn) (c : Nat), v = .agg #[.int .i64 E, .int .i64 P, .bool y, .string t, .int .i64 N, .slice A rs.length c] ∧ Rs w A c rs ∧ (∀ i, I64 (rT rs i)) ∧ I64 N ∧ t.size ≤ maxLen := by
  obtain ⟨cs, rfl, hsz⟩ := okWide_struct Try.underlying38 hv
  have h6 : Try.prog.cellsOf 38 = 6 := by kernel_rfl
  obtain ⟨c0, c1, c2, c3, c4, c5, rfl⟩ := array6 (hsz.trans h6)
  obtain ⟨fuel, hf⟩ := h
  obtain ⟨y0, y1, y2, y3, y4, y5, n, t0, t1, t2, t3, t4, t5⟩ := trod_struct6 Try.underlying38 hf
  have e0 : Try.prog.cellsOf 26 = 1 := by kernel_rfl
  have e1 : Try.prog.cellsOf 3 = 1 := by kernel_rfl
  have e2 : Try.prog.cellsOf 4 = 1 := by kernel_rfl
  have e3 : Try.prog.cellsOf 9 = 1 := by kernel_rfl
  have e4 : Try.prog.cellsOf 2 = 1 := by kernel_rfl
  have e5 : Try.prog.cellsOf 36 = 1 := by kernel_rfl
  simp only [Value.cells, e0, e1, e2, e3, e4, e5, List.drop, List.take] at t0 t1 t2 t3 t4 t5
  obtain ⟨E, hE, _, _⟩ := DataW.trod_int Try.underlying26 t0
  obtain ⟨P, hP, _, _⟩ := DataW.trod_int Try.underlying3 t1
  obtain ⟨y, hy, _⟩ := DataW.trod_bool Try.underlying4 t2
  obtain ⟨t, ht, _, lt⟩ := DataW.trod_string Try.underlying9 t3
  obtain ⟨N, hN, _, wN⟩ := DataW.trod_int Try.underlying2 t4
  obtain ⟨A, rs, c, hR, hs, hT⟩ := trod_runs t5
  simp only [List.cons.injEq, and_true] at hE hP hy ht hN hR
  subst hE hP hy ht hN hR
  exact ⟨E, P, N, y, t, A, rs, c, rfl, hs, hT, wf_i64 wN, lt⟩
end Go.Proofs.Ytdepbaoechnekaa
