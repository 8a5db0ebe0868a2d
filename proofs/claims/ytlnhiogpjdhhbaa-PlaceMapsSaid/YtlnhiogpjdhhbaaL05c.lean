/- The walk of the statement PlaceSimple. -/
import Derived.Test.YtlnhiogpjdhhbaaL05a
namespace Go.Proofs.Ytlnhiogpjdhhbaa.P
open Go.RowKit Go.Proofs.YtlnhiogpjdhhbaaW.PrintWords Go.Proofs.YtlnhiogpjdhhbaaW.PrintLast Go.Proofs.YtlnhiogpjdhhbaaW.PrintMore
set_option linter.unusedVariables false
set_option linter.unusedSimpArgs false

structure Mb (q : Nat) (t : S27) (M : Mp) (At : Option Addr) (ct : Nat) (A1 : Option Addr) (c1 : Nat) (A2 : Option Addr) (c2 : Nat) (A3 : Option Addr) (c3 : Nat) (wi : World) : Prop where
  blk : wi.heap[q]? = some (.cells #[.int .i64 t.f0, .int .u64 t.f1.f0, .int .u64 t.f1.f1, .int .u64 t.f1.f2, .int .u64 t.f1.f3, .slice At t.f2.length ct, .int .i64 t.f3, .int .i64 t.f4, .slice A1 M.sets.length c1, .slice A2 M.scs.length c2, .slice A3 M.ars.length c3] 34)
  out : MapOut wi t M At ct A1 c1 A2 c2 A3 c3
theorem Mb.later {q : Nat} {t : S27} {M : Mp} {At : Option Addr} {ct : Nat} {A1 : Option Addr} {c1 : Nat} {A2 : Option Addr} {c2 : Nat} {A3 : Option Addr} {c3 : Nat} {wi wj : World} (h : Mb q t M At ct A1 c1 A2 c2 A3 c3 wi) (hb : Below wi.heap.size wi wj) : Mb q t M At ct A1 c1 A2 c2 A3 c3 wj := ⟨(hb.block q (blk_lt h.blk)).trans h.blk, h.out.later hb⟩
theorem Mb.alloc {q : Nat} {t : S27} {M : Mp} {At : Option Addr} {ct : Nat} {A1 : Option Addr} {c1 : Nat} {A2 : Option Addr} {c2 : Nat} {A3 : Option Addr} {c3 : Nat} {wi : World} (h : Mb q t M At ct A1 c1 A2 c2 A3 c3 wi) (o : Obj) : Mb q t M At ct A1 c1 A2 c2 A3 c3 (wi.alloc o) := h.later ((Below.refl _ wi).alloc (Nat.le_refl _) o)
theorem clsC_get : ∀ (l : List S24) (i : Nat) (hi : i < l.length), (clsC l)[i * 4]? = some (.int .u64 l[i].f0) ∧ (clsC l)[i * 4 + 1]? = some (.int .u64 l[i].f1) ∧ (clsC l)[i * 4 + 2]? = some (.int .u64 l[i].f2) ∧ (clsC l)[i * 4 + 3]? = some (.int .u64 l[i].f3)
  | [], i, hi => by simp at hi
  | s :: l, 0, _ => ⟨rfl, rfl, rfl, rfl⟩
  | s :: l, i + 1, hi => by
    have h := clsC_get l i (by simp at hi; omega)
    have e : clsC (s :: l) = [.int .u64 s.f0, .int .u64 s.f1, .int .u64 s.f2, .int .u64 s.f3] ++ clsC l := rfl
    rw [e]
    have k : ∀ j, ([Value.int .u64 s.f0, .int .u64 s.f1, .int .u64 s.f2, .int .u64 s.f3] ++ clsC l)[(i + 1) * 4 + j]? = (clsC l)[i * 4 + j]? := fun j => by
      rw [List.getElem?_append_right (by simp; omega)]
      congr 1
      simp; omega
    simp only [List.getElem_cons_succ]
    exact ⟨(k 0).trans h.1, (k 1).trans h.2.1, (k 2).trans h.2.2.1, (k 3).trans h.2.2.2⟩
theorem MapOut.at_ {w : World} {t : S27} {M : Mp} {At : Option Addr} {ct : Nat} {A1 : Option Addr} {c1 : Nat} {A2 : Option Addr} {c2 : Nat} {A3 : Option Addr} {c3 : Nat} (h : MapOut w t M At ct A1 c1 A2 c2 A3 c3) {i : Nat} (hi : i < M.sets.length) (hj : i < M.ars.length) :
    ∃ g1 g3 B d, A1 = some ⟨g1, 0, none⟩ ∧ A3 = some ⟨g3, 0, none⟩ ∧ w.cell? ⟨g1, i * 4, none⟩ = some (.int .u64 M.sets[i].f0) ∧ w.cell? ⟨g1, i * 4 + 1, none⟩ = some (.int .u64 M.sets[i].f1) ∧ w.cell? ⟨g1, i * 4 + 2, none⟩ = some (.int .u64 M.sets[i].f2) ∧ w.cell? ⟨g1, i * 4 + 3, none⟩ = some (.int .u64 M.sets[i].f3) ∧
      w.cell? ⟨g3, i, none⟩ = some (.slice B M.ars[i].length d) ∧ (Kd.int .i64).C w B M.ars[i].length M.ars[i] ∧ M.ars[i].length ≤ d := by
  obtain ⟨g, base, ps, hm⟩ := h.ex
  have hps : ps.length = M.ars.length := by
    have := congrArg List.length hm.lists
    simpa using this
  have hs := hm.sets
  have ha := hm.ars
  rw [hps] at ha
  obtain ⟨n1, hn1⟩ : ∃ n1, M.sets.length = n1 + 1 := ⟨M.sets.length - 1, by omega⟩
  obtain ⟨n3, hn3⟩ : ∃ n3, M.ars.length = n3 + 1 := ⟨M.ars.length - 1, by omega⟩
  rw [hn1] at hs
  rw [hn3] at ha
  obtain ⟨g1, cc1, e1⟩ := ownsRow_succ hs
  obtain ⟨g3, cc3, e3⟩ := ownsRow_succ ha
  injection e1 with e1 _ _
  injection e3 with e3 _ _
  subst e1 e3
  obtain ⟨k0, k1, k2, k3⟩ := clsC_get M.sets i hi
  have hpi : i < ps.length := by omega
  have hl : ps[i].2 = M.ars[i] := by
    have := hm.lists
    simp only [← this, List.getElem_map]
  obtain ⟨B, d, hB, hsl, _⟩ := (hm.each ps[i] (List.getElem_mem hpi)).sl
  rw [hl] at hB hsl
  rw [ints_length] at hB
  have hca := ha.cellAt i (by omega)
  rw [List.getElem?_map, List.getElem?_eq_getElem hpi, Option.map_some, hB] at hca
  refine ⟨g1, g3, B, d, rfl, rfl, (hs.cellAt _ (by omega)).trans k0, (hs.cellAt _ (by omega)).trans k1, (hs.cellAt _ (by omega)).trans k2, (hs.cellAt _ (by omega)).trans k3, hca, ?_, ?_⟩
  · refine ⟨rfl, by have := hsl.cap; have := hsl.max; rw [ints_length] at *; omega, fun h0 => ?_⟩
    obtain ⟨ad, rfl, _⟩ := hsl.at_ (k := 0) (by rw [ints_length]; omega)
    refine ⟨ad, rfl, fun j x hj => ⟨[.int .i64 x], rfl, rfl, fun q u hu => ?_⟩⟩
    have hq : q = 0 := by
      have := (List.getElem?_eq_some_iff.1 hu).1
      simp at this
      omega
    subst hq
    have hx : u = .int .i64 x := by simpa using hu.symm
    subst hx
    have hc := hsl.cell ad rfl j (.int .i64 x) (by unfold ints; rw [List.getElem?_map, hj]; rfl)
    simpa [Kd.int, Kd.scalar] using hc
  · have := hsl.cap
    rwa [ints_length] at this

theorem ofM_len (x : S27) : (ofM x).sets.length = (ofM x).ars.length := by
  have h := (walkT_ext [] (simpleT x) m0).same
  simp only [m0, List.length_singleton] at h
  exact Nat.add_right_cancel h
theorem sameInts_l0 (l : List Int) (hl : l.length ≤ 1000000) : ∀ (d j : Nat), l.length - j = d → j ≤ l.length → ostinatoref05_SameInts.l0 (2 * d + 2) l l (j : Int) = some true
  | 0, j, hd, hj => by
    have e : j = l.length := by omega
    subst e
    rw [show 2 * 0 + 2 = 1 + 1 from rfl, ostinatoref05_SameInts.l0, if_neg (by omega), ostinatoref05_SameInts.j1]
    simp
  | d + 1, j, hd, hj => by
    have hlt : (j : Int) < (l.length : Int) := by omega
    rw [show 2 * (d + 1) + 2 = (2 * d + 2 + 1) + 1 by omega, ostinatoref05_SameInts.l0, if_pos hlt, decide_eq_true hlt, ostinatoref05_SameInts.j1, if_pos rfl, if_pos (by omega), if_pos hlt, if_pos hlt, if_pos rfl]
    have e : wrap64 ((j : Int) + 1) = ((j + 1 : Nat) : Int) := by unfold wrap64; omega
    rw [e]
    exact sameInts_l0 l hl d (j + 1) (by omega) (by omega)
theorem sameInts_same (l : List Int) (hl : l.length ≤ 1000000) : ∃ k, ostinatoref05_SameInts.f k l l = some true :=
  ⟨2 * l.length + 2, sameInts_l0 l hl l.length 0 (by omega) (by omega)⟩
theorem tr_sameInts (l : List Int) (hl : l.length ≤ 1000000) (A B : Option Addr) (c d : Nat) (w : World) (h1 : (Kd.int .i64).C w A l.length l) (k1 : l.length ≤ c) (h2 : (Kd.int .i64).C w B l.length l) (k2 : l.length ≤ d) :
    Calls Try.prog 12 #[.slice A l.length c, .slice B l.length d] w fun e w' => e = .returned (.bool true) ∧ Below w.heap.size w w' := by
  obtain ⟨k, hk⟩ := sameInts_same l hl
  exact (ostinatoref05_SameInts.calls k A c l B d l true w h1 k1 h2 k2 hk).mono fun e w' ⟨a, b⟩ => ⟨a, b.below⟩
theorem big_short {M : Mp} (h : bigM M = false) : ∀ l ∈ M.ars, l.length ≤ 4 := by
  intro l hl
  unfold bigM at h
  rw [Bool.or_eq_false_iff, List.any_eq_false] at h
  have := h.2 l hl
  simp at this
  omega
theorem big_few {M : Mp} (h : bigM M = false) : M.sets.length ≤ 41 := by
  unfold bigM at h
  rw [Bool.or_eq_false_iff] at h
  have := of_decide_eq_false h.1
  omega
theorem same_refl (x : S27) : sameT x x = true := (sameT_iff x x).2 rfl
end Go.Proofs.Ytlnhiogpjdhhbaa.P
