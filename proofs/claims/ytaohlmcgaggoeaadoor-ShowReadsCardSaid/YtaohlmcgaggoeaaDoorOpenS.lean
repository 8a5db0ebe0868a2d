/- How a tree that comes in is opened (its classes' words are in their bounds); the tables laid. -/
import Derived.Test.YtaohlmcgaggoeaaDoorRows
import Derived.Test.YtaohlmcgaggoeaaDoorMH
import Derived.LaidLaws
import Derived.LaidSub
import Derived.Lib.LaidTab
import Derived.Handed
import Derived.WalkKit
import Derived.ProofKit
import Derived.OpenShut
import Derived.Lib.SmallJoins
namespace Go.Proofs.YtaohlmcgaggoeaaDoor.P
open Go.ChangeShapes Go.WideShapes Go.ChangeAt Go.RowKit Go.Joins Go.Proofs.YtaohlmcgaggoeaaDoorW.PrintWords
set_option maxRecDepth 100000
section
variable {H : Type} {enc : TypeId × Value → H} {w : World} {base : Nat} {spare : Nat → Bool} {held : Bool}
theorem wf_u64 {n : Int} (h : (Lit.int .u64 n).wf = true) : 0 ≤ n ∧ n < U64 := by
  simp [Lit.wf, IntKind.min, IntKind.max, IntKind.signed, IntKind.bits] at h
  unfold U64
  omega
theorem list8 {α : Type} {l : List α} (h : l.length = 8) : ∃ c0 c1 c2 c3 c4 c5 c6 c7, l = [c0, c1, c2, c3, c4, c5, c6, c7] := by
  match l, h with
  | [c0, c1, c2, c3, c4, c5, c6, c7], _ => exact ⟨c0, c1, c2, c3, c4, c5, c6, c7, rfl⟩
theorem trod_class {fuel : Nat} {c0 c1 c2 c3 : Value} {x : DataW H × List MemPlace} (h : DataW.trod enc Tryd.prog w base spare held fuel 24 [c0, c1, c2, c3] = some x) :
    ∃ s : S24, c0 = .int .u64 s.f0 ∧ c1 = .int .u64 s.f1 ∧ c2 = .int .u64 s.f2 ∧ c3 = .int .u64 s.f3 ∧ okC s := by
  obtain ⟨xs, m, _, _, _, hl, hg⟩ := DataW.trod_array Tryd.underlying24 h
  have hE : Tryd.prog.cellsOf 22 = 1 := by kernel_rfl
  rw [hE] at hg
  have key : ∀ i c, i < 4 → ([c0, c1, c2, c3].drop i).take 1 = [c] → ∃ n, c = .int .u64 n ∧ 0 ≤ n ∧ n < U64 := by
    intro i c hi hc
    have h1 := hg i hi
    rw [Nat.mul_one, hc, List.getElem?_eq_getElem (by omega)] at h1
    obtain ⟨n, e1, _, e3⟩ := DataW.trod_int Tryd.underlying22 h1
    exact ⟨n, by simpa using e1, wf_u64 e3⟩
  obtain ⟨n0, rfl, k0⟩ := key 0 c0 (by omega) rfl
  obtain ⟨n1, rfl, k1⟩ := key 1 c1 (by omega) rfl
  obtain ⟨n2, rfl, k2⟩ := key 2 c2 (by omega) rfl
  obtain ⟨n3, rfl, k3⟩ := key 3 c3 (by omega) rfl
  refine ⟨⟨n0, n1, n2, n3⟩, rfl, rfl, rfl, rfl, fun j hj => ?_⟩
  rcases (show j = 0 ∨ j = 1 ∨ j = 2 ∨ j = 3 by omega) with rfl | rfl | rfl | rfl
  · exact k0
  · exact k1
  · exact k2
  · exact k3
theorem trod_struct5 {P : Program} {t : TypeId} {f0 f1 f2 f3 f4 : Field} {fuel : Nat} {cs : List Value} {x : DataW H × List MemPlace} (ht : P.underlying t = some (.struct #[f0, f1, f2, f3, f4])) (h : DataW.trod enc P w base spare held fuel t cs = some x) :
    ∃ y0 y1 y2 y3 y4 n, fuel = n + 1 ∧ DataW.trod enc P w base spare held n f0.type ((cs.drop f0.offset).take (P.cellsOf f0.type)) = some y0 ∧
      DataW.trod enc P w base spare held n f1.type ((cs.drop f1.offset).take (P.cellsOf f1.type)) = some y1 ∧ DataW.trod enc P w base spare held n f2.type ((cs.drop f2.offset).take (P.cellsOf f2.type)) = some y2 ∧
      DataW.trod enc P w base spare held n f3.type ((cs.drop f3.offset).take (P.cellsOf f3.type)) = some y3 ∧ DataW.trod enc P w base spare held n f4.type ((cs.drop f4.offset).take (P.cellsOf f4.type)) = some y4 := by
  obtain ⟨xs, n, hn, rfl, hl, hlen, hf⟩ := DataW.trod_struct ht h
  match xs, hlen with
  | [y0, y1, y2, y3, y4], _ => exact ⟨y0, y1, y2, y3, y4, n, hn, by simpa using hf 0 f0 rfl, by simpa using hf 1 f1 rfl, by simpa using hf 2 f2 rfl, by simpa using hf 3 f3 rfl, by simpa using hf 4 f4 rfl⟩
theorem trod_node (fuel : Nat) : ∀ (cs : List Value) (x : DataW H × List MemPlace), DataW.trod enc Tryd.prog w base spare held fuel 27 cs = some x → cs.length = 8 →
    ∃ (y : S27) (A5 : Option Addr) (c5 : Nat), cs = [.int .i64 y.f0, .int .u64 y.f1.f0, .int .u64 y.f1.f1, .int .u64 y.f1.f2, .int .u64 y.f1.f3, .slice A5 y.f2.length c5, .int .i64 y.f3, .int .i64 y.f4] ∧ y.f2.length ≤ c5 ∧ Kd.C k27 w A5 y.f2.length y.f2 ∧ okW y := by
  induction fuel using Nat.strongRecOn with
  | _ fuel ih =>
  intro cs x h hl
  obtain ⟨c0, c1, c2, c3, c4, c5, c6, c7, rfl⟩ := list8 hl
  obtain ⟨y0, y1, y2, y3, y4, n, rfl, t0, t1, t2, t3, t4⟩ := trod_struct5 Tryd.underlying27 h
  have e1 : Tryd.prog.cellsOf 3 = 1 := by kernel_rfl
  have e2 : Tryd.prog.cellsOf 24 = 4 := by kernel_rfl
  have e3 : Tryd.prog.cellsOf 25 = 1 := by kernel_rfl
  have e4 : Tryd.prog.cellsOf 2 = 1 := by kernel_rfl
  have e5 : Tryd.prog.cellsOf 27 = 8 := by kernel_rfl
  simp only [e1, e2, e3, e4, List.drop, List.take] at t0 t1 t2 t3 t4
  obtain ⟨k, hk, _, _⟩ := DataW.trod_int Tryd.underlying3 t0
  obtain ⟨s, rfl, rfl, rfl, rfl, hok⟩ := trod_class t1
  obtain ⟨lo, hlo, _, _⟩ := DataW.trod_int Tryd.underlying2 t3
  obtain ⟨hi, hhi, _, _⟩ := DataW.trod_int Tryd.underlying2 t4
  obtain rfl : c0 = .int .i64 k := by simpa using hk
  obtain rfl : c6 = .int .i64 lo := by simpa using hlo
  obtain rfl : c7 = .int .i64 hi := by simpa using hhi
  rcases DataW.trod_slice Tryd.underlying25 t2 with ⟨hs, _⟩ | ⟨a, len, cap, elems, rest, m, hm, hs, _, _, hlc, hmax, hel, helem, _, _⟩
  · obtain rfl : c5 = .slice none 0 0 := by simpa using hs
    exact ⟨⟨k, s, [], lo, hi⟩, none, 0, rfl, Nat.le_refl _, Kd.C_nil _ _, okW.mk _ _ _ _ _ hok fun p h => by cases h⟩
  · obtain rfl : c5 = .slice (some a) len cap := by simpa using hs
    rw [e5] at helem
    have key : ∀ i, i < len → ∃ (y : S27) (A5 : Option Addr) (d5 : Nat), y.f2.length ≤ d5 ∧ Kd.C k27 w A5 y.f2.length y.f2 ∧ okW y ∧
        ∀ j u, [Value.int .i64 y.f0, .int .u64 y.f1.f0, .int .u64 y.f1.f1, .int .u64 y.f1.f2, .int .u64 y.f1.f3, .slice A5 y.f2.length d5, .int .i64 y.f3, .int .i64 y.f4][j]? = some u → w.cell? (a.add (i * 8 + j)) = some u := by
      intro i hi
      have h1 := helem i hi
      rw [List.getElem?_eq_getElem (by omega)] at h1
      obtain ⟨cs, hc, ht⟩ := Option.bind_eq_some_iff.1 h1
      have hs := World.cells?_some hc
      obtain ⟨y, A5, d5, rfl, hle, hC, hOK⟩ := ih m (by omega) cs _ ht hs.2.1
      refine ⟨y, A5, d5, hle, hC, hOK, fun j u hu => ?_⟩
      have hj : j < 8 := by have := (List.getElem?_eq_some_iff.1 hu).1; simpa using this
      have := hs.2.2 j hj
      rw [hu] at this
      rw [← this]
      congr 1
      unfold Addr.add
      by_cases q : i * 8 = 0 <;> by_cases q2 : j = 0 <;> simp [q, q2, Nat.add_assoc]
    refine ⟨⟨k, s, (List.range len).map fun i => if h : i < len then (key i h).choose else z27, lo, hi⟩, some a, cap, by simp, by simpa using hlc, ⟨by simp, by simp; unfold maxLen at hmax; omega, fun _ => ⟨a, rfl, fun j p hj => ?_⟩⟩, okW.mk _ _ _ _ _ hok fun p hp => ?_⟩
    · have hjl : j < len := by have := (List.getElem?_eq_some_iff.1 hj).1; simpa using this
      have hp : p = (key j hjl).choose := by
        rw [List.getElem?_map, List.getElem?_range hjl] at hj
        simp only [Option.map_some, dif_pos hjl, Option.some.injEq] at hj
        exact hj.symm
      subst hp
      obtain ⟨A5, d5, hle, hC, _, hcell⟩ := (key j hjl).choose_spec
      exact ⟨_, rfl, k27_mk w _ hle hC, hcell⟩
    · obtain ⟨i, hi, rfl⟩ := List.mem_map.1 hp
      have hil : i < len := by simpa using hi
      rw [dif_pos hil]
      exact (key i hil).choose_spec.choose_spec.choose_spec.2.2.1
end
theorem open_node {H : Type} {enc : TypeId × Value → H} {w : World} {base : Nat} {spare : Nat → Bool} {held : Bool} {r : Reach} {b0 : Nat} {v : Value} {d : DataW H} {p : List MemPlace}
    (hv : Value.okWide Tryd.prog w r b0 27 v) (h : DataW.Trod enc Tryd.prog w base spare held 27 v d p) :
    ∃ (x : S27) (A5 : Option Addr) (c5 : Nat), v = ndV x A5 c5 ∧ Tr w x A5 c5 ∧ okW x := by
  obtain ⟨cs, rfl, hsz⟩ := okWide_struct Tryd.underlying27 hv
  have e5 : Tryd.prog.cellsOf 27 = 8 := by kernel_rfl
  obtain ⟨fuel, hf⟩ := h
  obtain ⟨x, A5, c5, hcs, hle, hC, hok⟩ := trod_node fuel _ _ hf (by simp [Value.cells]; omega)
  refine ⟨x, A5, c5, ?_, ⟨hC, hle⟩, hok⟩
  unfold ndV
  congr 1
  apply Array.toList_inj.1
  simpa [Value.cells] using hcs
/-! #### the tables -/
theorem tabN : Tryd.prog.globalNamed "math/bits.deBruijn64tab" = some 1 := by kernel_rfl
theorem tabType : (Tryd.prog.globals[1]?).map (·.type) = some 95 := by kernel_rfl
theorem cells8 : Tryd.prog.cellsOf 5 = 1 := by kernel_rfl
theorem tab_of_one {W : World} (h : laidMet Tryd.prog [("math/bits.deBruijn64tab", .agg (tabL.map fun n => .lit (.int .u8 n)))] W) : Tab W := by
  obtain ⟨ps, ⟨g, t, cs, fuel, p, q, hg, ht, hvar, hd, _, _⟩, _⟩ := h
  obtain rfl := Option.some.inj (tabN.symm.trans hg)
  obtain rfl := Option.some.inj (tabType.symm.trans ht)
  obtain ⟨xs, m, rfl, hx, hl, hn, hg2⟩ := DataW.trod_array Tryd.underlying95 hd
  obtain ⟨hx1, _⟩ := Prod.mk.inj hx
  have hx3 : tabL.map (fun n => (DataW.lit (.int .u8 n) : DataW Unit)) = xs.map (·.1) := DataW.agg.inj hx1
  intro j hj
  have h1 := hg2 j hj
  rw [cells8, Nat.mul_one, List.getElem?_eq_getElem (by omega)] at h1
  obtain ⟨s, e1, e2, _⟩ := DataW.trod_int Tryd.underlying5 h1
  have h2 := congrArg (fun l => l[j]?) hx3
  simp only [List.getElem?_map] at h2
  rw [List.getElem?_eq_getElem (show j < xs.length by omega), e2] at h2
  have h3 : tabL[j]? = some s := by
    cases hq : tabL[j]? with
    | none => rw [hq] at h2; simp at h2
    | some v =>
      rw [hq] at h2
      simp at h2
      rw [h2]
  rw [World.var?_cell hg hvar j]
  have h4 : cs.toList[j]? = some (.int .u8 s) := by
    have := congrArg (fun l => l[0]?) e1
    simpa using this
  have h5 : tabL.getD j 0 = s := by rw [List.getD_eq_getElem?_getD, h3]; rfl
  rw [h5]
  simpa using h4
theorem tabs_of_one {W : World} (h : laidMet Tryd.prog [("internal/strconv.uint64pow10", Lib.tabData .u64 Lib.pow10Tab)] W) : Tabs W :=
  Lib.tabIs_of_head tabG (by kernel_rfl) Tryd.underlying106 Tryd.underlying22 (by kernel_rfl) (by kernel_rfl) h
def tab32 : List Int := [0, 1, 28, 2, 29, 14, 24, 3, 30, 22, 20, 15, 25, 17, 4, 8, 31, 27, 13, 23, 21, 19, 16, 7, 26, 12, 18, 6, 11, 5, 10, 9]
def tabP : List Int := [1, 10, 100, 1000, 10000, 100000, 1000000, 10000000, 100000000, 1000000000, 10000000000, 100000000000, 1000000000000, 10000000000000, 100000000000000, 1000000000000000, 10000000000000000, 100000000000000000, 1000000000000000000, 10000000000000000000]
def layTab (k : IntKind) (l : List Int) : Obj → Obj
  | .cells _ t frozen => .cells (l.map (Value.int k)).toArray t frozen
  | o => o
/-- The settled world, but the tables are laid. -/
noncomputable def tabWorld (os : Os) : World :=
  let w0 := World.holding Tryd.prog os ⟨#[], #[], []⟩
  { w0 with heap := ((w0.heap.modify 2 (layTab .u64 tabP)).modify 3 (layTab .u8 tab32)).modify 1 (layTab .u8 tabL) }
end Go.Proofs.YtaohlmcgaggoeaaDoor.P
