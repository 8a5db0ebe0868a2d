/- A row of the call's own of classes: its cells, four stores. -/
import Derived.Test.YthknfjiggdkcaaaDoorPt6
namespace Go.Proofs.YthknfjiggdkcaaaDoor
open Go.RowKit Go.Maps
set_option linter.unusedVariables false
set_option linter.unusedSimpArgs false

theorem ccells_get : ∀ (xs : List Cw) (j k : Nat) (hj : j < xs.length) (hk : k < 4), (ccells xs)[j * 4 + k]? = some (.int .u64 (clAt xs j k))
  | x :: xs, 0, k, _, hk => by
    match k, hk with
    | 0, _ => rfl
    | 1, _ => rfl
    | 2, _ => rfl
    | 3, _ => rfl
  | x :: xs, j + 1, k, hj, hk => by
    have h := ccells_get xs j k (by simpa using hj) hk
    rw [show (j + 1) * 4 + k = (j * 4 + k) + 4 by omega]
    simpa [ccells, clAt] using h
theorem ccells_set : ∀ (xs : List Cw) (j : Nat) (y : Cw) (hj : j < xs.length), ((((ccells xs).set (j * 4) (.int .u64 (y 0))).set (j * 4 + 1) (.int .u64 (y 1))).set (j * 4 + 2) (.int .u64 (y 2))).set (j * 4 + 3) (.int .u64 (y 3)) = ccells (xs.set j y)
  | x :: xs, 0, y, _ => rfl
  | x :: xs, j + 1, y, hj => by
    have h := ccells_set xs j y (by simpa using hj)
    rw [show (j + 1) * 4 = j * 4 + 4 by omega, List.set_cons_succ]
    simp only [ccells]
    rw [← h, show j * 4 + 4 + 1 = (j * 4 + 1) + 4 by omega, show j * 4 + 4 + 2 = (j * 4 + 2) + 4 by omega, show j * 4 + 4 + 3 = (j * 4 + 3) + 4 by omega]
    simp only [List.set_cons_succ]
theorem own4 {W : World} {base g n cp : Nat} {xs : List Cw} (h : W.ownsRow base 24 4 (.slice (some ⟨g, 0, none⟩) n cp) xs.length (ccells xs)) {j : Nat} (hj : j < xs.length) :
    (W.cell? ⟨g, j * 4, none⟩ = some (.int .u64 (clAt xs j 0)) ∧ W.cell? ⟨g, j * 4 + 1, none⟩ = some (.int .u64 (clAt xs j 1)) ∧ W.cell? ⟨g, j * 4 + 2, none⟩ = some (.int .u64 (clAt xs j 2)) ∧ W.cell? ⟨g, j * 4 + 3, none⟩ = some (.int .u64 (clAt xs j 3))) ∧
      W.frozen? ⟨g, j * 4, none⟩ = false ∧ W.frozen? ⟨g, j * 4 + 1, none⟩ = false ∧ W.frozen? ⟨g, j * 4 + 2, none⟩ = false ∧ W.frozen? ⟨g, j * 4 + 3, none⟩ = false := by
  rcases h.2 with ⟨hv, h0⟩ | ⟨g', cap, cur, hv, hb, hg, hn, hm, hsz, ht⟩
  · cases hv
  · injection hv with e1 e2 e3
    injection e1 with e1
    injection e1 with e1 _ _
    subst e1
    have hc := World.ownsRow.cells h (g := g) rfl
    have key : ∀ k, k < 4 → W.cell? ⟨g, j * 4 + k, none⟩ = some (.int .u64 (clAt xs j k)) := fun k hk => by
      have := hc (j * 4 + k) _ (ccells_get xs j k hj hk)
      rwa [Addr.add_lit, Nat.zero_add] at this
    exact ⟨⟨key 0 (by omega), key 1 (by omega), key 2 (by omega), key 3 (by omega)⟩, blk_frozen hg _, blk_frozen hg _, blk_frozen hg _, blk_frozen hg _⟩
theorem own_set {W : World} {base g n cp : Nat} {cs : List Value} {m : Nat} (h : W.ownsRow base 24 4 (.slice (some ⟨g, 0, none⟩) n cp) m cs) (i : Nat) (hi : i < cs.length) (u : Value) :
    (W.setCell ⟨g, i, none⟩ u).ownsRow base 24 4 (.slice (some ⟨g, 0, none⟩) n cp) m (cs.set i u) := by
  refine ⟨by rw [List.length_set]; exact h.1, ?_⟩
  rcases h.2 with ⟨hv, _⟩ | ⟨g', cap, cur, hv, hb, hg, hn, hm, hs, ht⟩
  · cases hv
  · injection hv with h1 h2 h3
    injection h1 with h1
    injection h1 with h1 _ _
    subst h1 h3
    refine .inr ⟨g, cp, cur.setIfInBounds i u, by rw [h2], hb, blk_set hg _ _, hn, hm, by simpa using hs, ?_⟩
    rw [Array.toList_setIfInBounds, List.take_set, ht]
theorem own_put {W : World} {base g n cp : Nat} {xs : List Cw} (h : W.ownsRow base 24 4 (.slice (some ⟨g, 0, none⟩) n cp) xs.length (ccells xs)) {j : Nat} (hj : j < xs.length) (y : Cw) :
    ((((W.setCell ⟨g, j * 4, none⟩ (.int .u64 (y 0))).setCell ⟨g, j * 4 + 1, none⟩ (.int .u64 (y 1))).setCell ⟨g, j * 4 + 2, none⟩ (.int .u64 (y 2))).setCell ⟨g, j * 4 + 3, none⟩ (.int .u64 (y 3))).ownsRow base 24 4 (.slice (some ⟨g, 0, none⟩) n cp) (xs.set j y).length (ccells (xs.set j y)) := by
  rw [← ccells_set xs j y hj, List.length_set]
  have hl := ccells_length xs
  exact own_set (own_set (own_set (own_set h _ (by omega) _) _ (by rw [List.length_set]; omega) _) _ (by rw [List.length_set, List.length_set]; omega) _) _ (by rw [List.length_set, List.length_set, List.length_set]; omega) _
theorem clAt_set {xs : List Cw} {t : Nat} (ht : t < xs.length) (z : Cw) (i : Nat) : clAt (xs.set t z) i = if i = t then z else clAt xs i := by
  unfold clAt
  by_cases h : i = t
  · subst h; simp [List.getD, ht]
  · rw [if_neg h]
    simp [List.getD, List.getElem?_set, Ne.symm h]
/-- A byte put into its part. -/
theorem out_step {l : List Cw} {b : Nat} {xs : List Cw} (h1 : xs.length = (firsts l (b + 1)).length) (h2 : AllW xs) (h3 : ∀ i, i < xs.length → ∀ q : Nat, q < 256 → hasB (clAt xs i) q = (decide (q < b) && decide (idx l (b + 1) q = i)))
    {t : Nat} (ht : t = idx l (b + 1) b) (htl : t < xs.length) (z : Cw) (hz : W64 z) (hzq : ∀ q : Nat, q < 256 → hasB z q = (hasB (clAt xs t) q || decide (q = b))) :
    (xs.set t z).length = (firsts l (b + 1)).length ∧ AllW (xs.set t z) ∧ ∀ i, i < (xs.set t z).length → ∀ q : Nat, q < 256 → hasB (clAt (xs.set t z) i) q = (decide (q < b + 1) && decide (idx l (b + 1) q = i)) := by
  refine ⟨by rw [List.length_set]; exact h1, fun j hj => ?_, fun i hi q hq => ?_⟩
  · rw [List.length_set] at hj
    rw [clAt_set htl]
    split
    · exact hz
    · exact h2 j hj
  · rw [List.length_set] at hi
    rw [clAt_set htl]
    by_cases hit : i = t
    · rw [if_pos hit, hzq q hq, h3 t htl q hq, hit, Bool.eq_iff_iff]
      simp only [Bool.or_eq_true, Bool.and_eq_true, decide_eq_true_iff]
      constructor
      · rintro (⟨a, e⟩ | e)
        · exact ⟨by omega, e⟩
        · subst e; exact ⟨by omega, ht.symm⟩
      · rintro ⟨a, e⟩
        by_cases h : q = b
        · exact .inr h
        · exact .inl ⟨by omega, e⟩
    · rw [if_neg hit, h3 i hi q hq, Bool.eq_iff_iff]
      simp only [Bool.and_eq_true, decide_eq_true_iff]
      constructor
      · rintro ⟨a, e⟩; exact ⟨by omega, e⟩
      · rintro ⟨a, e⟩
        refine ⟨?_, e⟩
        rcases Nat.lt_or_ge q b with h | h
        · exact h
        · exfalso
          obtain rfl : q = b := by omega
          exact hit (e.symm.trans ht.symm)
end Go.Proofs.YthknfjiggdkcaaaDoor
