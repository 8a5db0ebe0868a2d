/- How words of runs that come in are opened; the world in which the library's tables are laid. -/
import Derived.Test.YtbdgfbkhplhpkaaDoorRows
import Derived.Test.YtbdgfbkhplhpkaaDoorL12b
import Derived.ProofKit
import Derived.LaidLaws
import Derived.Handed
import Derived.OpenShut
import Derived.Lib.SmallJoins
namespace Go.Proofs.YtbdgfbkhplhpkaaDoor
open Go.ChangeShapes Go.WideShapes Go.ChangeAt Go.RowKit Go.Joins

section
variable {H : Type} {enc : TypeId × Value → H} {w : World} {base : Nat} {spare : Nat → Bool} {held : Bool}
theorem wf_u8 {n : Int} (h : (Lit.int .u8 n).wf = true) : 0 ≤ n ∧ n ≤ 255 := by
  simp [Lit.wf, IntKind.min, IntKind.max, IntKind.signed, IntKind.bits] at h
  omega
theorem wf_i64 {n : Int} (h : (Lit.int .i64 n).wf = true) : I64 n := by
  simp [Lit.wf, IntKind.min, IntKind.max, IntKind.signed, IntKind.bits] at h
  unfold I64
  omega
theorem trod_run {fuel : Nat} {cs : List Value} {x : DataW H × List MemPlace} (h : DataW.trod enc Tryd.prog w base spare held fuel 31 cs = some x) (hl : cs.length = 2) :
    ∃ (b : UInt8) (T : Int), cs = [.int .u8 (b.toNat : Int), .int .i64 T] ∧ I64 T := by
  match cs, hl with
  | [c0, c1], _ =>
    obtain ⟨y0, y1, n, _, _, t0, t1⟩ := trod_struct2 Tryd.underlying31 h
    have e0 : Tryd.prog.cellsOf 5 = 1 := by kernel_rfl
    have e1 : Tryd.prog.cellsOf 2 = 1 := by kernel_rfl
    simp only [e0, e1, List.drop, List.take] at t0 t1
    obtain ⟨B, hB, _, w0⟩ := DataW.trod_int Tryd.underlying5 t0
    obtain ⟨T, hT, _, w1⟩ := DataW.trod_int Tryd.underlying2 t1
    simp only [List.cons.injEq, and_true] at hB hT
    subst hB hT
    have hb := wf_u8 w0
    exact ⟨UInt8.ofNat B.toNat, T, by rw [UInt8.toNat_ofNat']; congr 2; omega, wf_i64 w1⟩
theorem trod_runs {fuel : Nat} {cs : List Value} {x : DataW H × List MemPlace} (h : DataW.trod enc Tryd.prog w base spare held fuel 24 cs = some x) :
    ∃ (A : Option Addr) (rs : List Rn) (c : Nat), cs = [.slice A rs.length c] ∧ Rs w A c rs ∧ ∀ i, I64 (rT rs i) := by
  rcases DataW.trod_slice Tryd.underlying24 h with ⟨rfl, _⟩ | ⟨a, len, cap, elems, rest, n, _, rfl, rfl, hb, hl, hm, hlen, hel, _, _⟩
  · refine ⟨none, [], 0, rfl, Rs.none_ w, fun i => ?_⟩
    simp [rT, I64]
  · have h2 : Tryd.prog.cellsOf 31 = 2 := by kernel_rfl
    have key : ∀ i, i < len → ∃ (b : UInt8) (T : Int), w.cell? (a.add (i * 2)) = some (.int .u8 (b.toNat : Int)) ∧ w.cell? ((a.add (i * 2)).add 1) = some (.int .i64 T) ∧ I64 T := by
      intro i hi
      have h1 := hel i hi
      rw [h2, List.getElem?_eq_getElem (by omega)] at h1
      obtain ⟨cs, hc, ht⟩ := Option.bind_eq_some_iff.1 h1
      have hs := World.cells?_some hc
      obtain ⟨b, T, hcs, hT⟩ := trod_run ht hs.2.1
      subst hcs
      have hcell := hs.2.2
      exact ⟨b, T, by simpa [Addr.add] using hcell 0 (by omega), by simpa using hcell 1 (by omega), hT⟩
    have pick : ∃ f : Nat → Rn, ∀ i, i < len → w.cell? (a.add (i * 2)) = some (.int .u8 ((f i).1.toNat : Int)) ∧ w.cell? ((a.add (i * 2)).add 1) = some (.int .i64 (f i).2) ∧ I64 (f i).2 := by
      refine ⟨fun i => if h : i < len then ((key i h).choose, (key i h).choose_spec.choose) else (0, 0), fun i hi => ?_⟩
      simp only [dif_pos hi]
      exact (key i hi).choose_spec.choose_spec
    obtain ⟨f, hf⟩ := pick
    have hlen' : ((List.range len).map f).length = len := by simp
    have hget : ∀ i, i < len → rB ((List.range len).map f) i = (f i).1 ∧ rT ((List.range len).map f) i = (f i).2 := fun i hi => by
      simp [rB, rT, List.getD, hi]
    refine ⟨some a, (List.range len).map f, cap, by rw [hlen'], ⟨by rw [hlen']; exact hl, by unfold maxLen at hm; omega, fun e => (by cases e), fun ad e j hj => ?_⟩, fun i => ?_⟩
    · injection e with e
      subst e
      rw [hlen'] at hj
      rw [(hget j hj).1, (hget j hj).2]
      exact ⟨(hf j hj).1, (hf j hj).2.1⟩
    · by_cases hi : i < len
      · rw [(hget i hi).2]; exact (hf i hi).2.2
      · simp [rT, List.getD, hi, I64]
theorem trod_words {fuel : Nat} {cs : List Value} {x : DataW H × List MemPlace} (h : DataW.trod enc Tryd.prog w base spare held fuel 22 cs = some x) :
    ∃ (A : Option Addr) (ws : List (List Rn)) (c : Nat), cs = [.slice A ws.length c] ∧ Ws w A c ws ∧ ∀ y ∈ ws, ∀ i, I64 (rT y i) := by
  rcases DataW.trod_slice Tryd.underlying22 h with ⟨rfl, _⟩ | ⟨a, len, cap, elems, rest, n, _, rfl, rfl, hb, hl, hm, hlen, hel, _, _⟩
  · exact ⟨none, [], 0, rfl, ⟨Nat.le_refl _, by omega, fun _ => rfl, fun _ h => by cases h⟩, fun y hy => by cases hy⟩
  · have h2 : Tryd.prog.cellsOf 24 = 1 := by kernel_rfl
    have key : ∀ i, i < len → ∃ (l : List Rn), ∃ (B : Option Addr) (d : Nat), w.cell? (a.add i) = some (.slice B l.length d) ∧ Rs w B d l ∧ ∀ i, I64 (rT l i) := by
      intro i hi
      have h1 := hel i hi
      rw [h2, Nat.mul_one, List.getElem?_eq_getElem (by omega)] at h1
      obtain ⟨cs, hc, ht⟩ := Option.bind_eq_some_iff.1 h1
      have hs := World.cells?_some hc
      obtain ⟨B, l, d, hcs, hr, hi64⟩ := trod_runs ht
      subst hcs
      have hcell := hs.2.2
      exact ⟨l, B, d, by simpa [Addr.add] using hcell 0 (by omega), hr, hi64⟩
    have pick : ∃ f : Nat → List Rn, ∀ i, i < len → ∃ (B : Option Addr) (d : Nat), w.cell? (a.add i) = some (.slice B (f i).length d) ∧ Rs w B d (f i) ∧ ∀ j, I64 (rT (f i) j) := by
      refine ⟨fun i => if h : i < len then (key i h).choose else [], fun i hi => ?_⟩
      simp only [dif_pos hi]
      exact (key i hi).choose_spec
    obtain ⟨f, hf⟩ := pick
    have hlen' : ((List.range len).map f).length = len := by simp
    refine ⟨some a, (List.range len).map f, cap, by rw [hlen'], ⟨by rw [hlen']; exact hl, by unfold maxLen at hm; omega, fun e => (by cases e), fun ad e j hj => ?_⟩, fun y hy => ?_⟩
    · injection e with e
      subst e
      have hj' : j < len := by rwa [hlen'] at hj
      have e2 : ((List.range len).map f)[j] = f j := by simp
      obtain ⟨B, d, h1, h2, _⟩ := hf j hj'
      refine ⟨B, d, ?_, ?_⟩
      · rw [e2]; exact h1
      · rw [e2]; exact h2
    · simp only [List.mem_map, List.mem_range] at hy
      obtain ⟨i, hi, rfl⟩ := hy
      obtain ⟨B, d, _, _, h3⟩ := hf i hi
      exact h3
end
theorem open_words {H : Type} {enc : TypeId × Value → H} {w : World} {base : Nat} {spare : Nat → Bool} {held : Bool} {r : Reach} {b0 : Nat} {v : Value} {d : DataW H} {p : List MemPlace}
    (hv : Value.okWide Tryd.prog w r b0 22 v) (h : DataW.Trod enc Tryd.prog w base spare held 22 v d p) :
    ∃ (A : Option Addr) (ws : List (List Rn)) (c : Nat), v = .slice A ws.length c ∧ Ws w A c ws ∧ ∀ y ∈ ws, ∀ i, I64 (rT y i) := by
  obtain ⟨a, len, cap, rfl⟩ := okWide_slice Tryd.underlying22 hv
  obtain ⟨fuel, hf⟩ := h
  obtain ⟨A, l, c, hcs, hs, hb⟩ := trod_words hf
  simp [Value.cells] at hcs
  obtain ⟨h1, h2, h3⟩ := hcs
  exact ⟨A, l, c, by rw [h1, h2, h3], hs, hb⟩
theorem open_runs {H : Type} {enc : TypeId × Value → H} {w : World} {base : Nat} {spare : Nat → Bool} {held : Bool} {r : Reach} {b0 : Nat} {v : Value} {d : DataW H} {p : List MemPlace}
    (hv : Value.okWide Tryd.prog w r b0 24 v) (h : DataW.Trod enc Tryd.prog w base spare held 24 v d p) :
    ∃ (A : Option Addr) (rs : List Rn) (c : Nat), v = .slice A rs.length c ∧ Rs w A c rs ∧ ∀ i, I64 (rT rs i) := by
  obtain ⟨a, len, cap, rfl⟩ := okWide_slice Tryd.underlying24 hv
  obtain ⟨fuel, hf⟩ := h
  obtain ⟨A, l, c, hcs, hs, hb⟩ := trod_runs hf
  simp [Value.cells] at hcs
  obtain ⟨h1, h2, h3⟩ := hcs
  exact ⟨A, l, c, by rw [h1, h2, h3], hs, hb⟩
def tab32 : List Int := [0, 1, 28, 2, 29, 14, 24, 3, 30, 22, 20, 15, 25, 17, 4, 8, 31, 27, 13, 23, 21, 19, 16, 7, 26, 12, 18, 6, 11, 5, 10, 9]
def tab64 : List Int := [0, 1, 56, 2, 57, 49, 28, 3, 61, 58, 42, 50, 38, 29, 17, 4, 62, 47, 59, 36, 45, 43, 51, 22, 53, 39, 33, 30, 24, 18, 12, 5, 63, 55, 48, 27, 60, 41, 37, 16, 46, 35, 44, 21, 52, 32, 23, 11, 54, 26, 40, 15, 34, 20, 31, 10, 25, 14, 19, 9, 13, 8, 7, 6]
def tabP : List Int := [1, 10, 100, 1000, 10000, 100000, 1000000, 10000000, 100000000, 1000000000, 10000000000, 100000000000, 1000000000000, 10000000000000, 100000000000000, 1000000000000000, 10000000000000000, 100000000000000000, 1000000000000000000, 10000000000000000000]
def layTab (k : IntKind) (l : List Int) : Obj → Obj
  | .cells _ t frozen => .cells (l.map (Value.int k)).toArray t frozen
  | o => o
/-- The settled world, but the tables are laid. -/
noncomputable def tabWorld (os : Os) : World :=
  let w0 := World.holding Tryd.prog os ⟨#[], #[], []⟩
  { w0 with heap := ((w0.heap.modify 1 (layTab .u64 tabP)).modify 2 (layTab .u8 tab32)).modify 3 (layTab .u8 tab64) }
theorem tab_met (os : Os) (args : Array Value) : laidMet Tryd.prog Rows.runsJoinsRow.laid ((tabWorld os).forCall (fun _ _ => 0) ⟨#[], args, []⟩).memory :=
  laidMet_of_run' 8 (by kernel_rfl) (by kernel_rfl)
end Go.Proofs.YtbdgfbkhplhpkaaDoor
