/- ClassTwice, ClassWhole: the plain laws. -/
import Derived.Test.YthknfjiggdkcaaaDoorPt9
namespace Go.Proofs.YthknfjiggdkcaaaDoor
open Go.RowKit Go.Maps
set_option linter.unusedVariables false
set_option linter.unusedSimpArgs false
section
variable {l m : List Cw} (hk : ∀ a b, a < 256 → b < 256 → (key l a = key l b ↔ key m a = key m b))
include hk
theorem dn_same {a b : Nat} (ha : a ≤ 256) (hb : b < 256) : dn l a b = dn m a b := by
  rw [Bool.eq_iff_iff, dn_iff, dn_iff]
  constructor
  · rintro ⟨q, hq, e⟩; exact ⟨q, hq, (hk q b (by omega) hb).1 e⟩
  · rintro ⟨q, hq, e⟩; exact ⟨q, hq, (hk q b (by omega) hb).2 e⟩
theorem firsts_same : ∀ a, a ≤ 256 → firsts l a = firsts m a
  | 0, _ => rfl
  | a + 1, h => by rw [firsts, firsts, dn_same hk (by omega) (by omega), firsts_same a (by omega)]
theorem idx_same {q : Nat} (hq : q < 256) : ∀ a, a ≤ 256 → idx l a q = idx m a q
  | 0, _ => rfl
  | a + 1, h => by rw [idx, idx, dn_same hk (by omega) hq, idx_same hq a (by omega), firsts_same hk a (by omega)]
theorem twice_same {xs ys : List Cw} (x1 : xs.length = (firsts l 256).length) (x2 : AllW xs) (x3 : ∀ i, i < xs.length → ∀ q : Nat, q < 256 → hasB (clAt xs i) q = (decide (q < 256) && decide (idx l 256 q = i)))
    (y1 : ys.length = (firsts m 256).length) (y2 : AllW ys) (y3 : ∀ i, i < ys.length → ∀ q : Nat, q < 256 → hasB (clAt ys i) q = (decide (q < 256) && decide (idx m 256 q = i))) :
    xs.length = ys.length ∧ ∀ i, i < xs.length → ∀ j, j < 4 → clAt xs i j = clAt ys i j := by
  have hl : xs.length = ys.length := by rw [x1, y1, firsts_same hk 256 (Nat.le_refl _)]
  refine ⟨hl, fun i hi j hj => cls_ext (x2 i hi) (y2 i (by omega)) (fun q hq => ?_) j hj⟩
  rw [x3 i hi q hq, y3 i (by omega) q hq, idx_same hk hq 256 (Nat.le_refl _)]
end
/-- All that it hasn't. -/
def notC (x : Cw) : Cw := fun j => notw (x j)
def rot (l : List Cw) (p n : Nat) : List Cw := (List.range n).map fun i => clAt l ((i + p) % l.length)
theorem rot_len (l : List Cw) (p n : Nat) : (rot l p n).length = n := by simp [rot]
theorem rot_succ (l : List Cw) (p n : Nat) : rot l p (n + 1) = rot l p n ++ [clAt l ((n + p) % l.length)] := by simp [rot, List.range_succ]
theorem rot_at {l : List Cw} {p n i : Nat} (h : i < n) : clAt (rot l p n) i = clAt l ((i + p) % l.length) := by simp [rot, clAt, List.getD, h]
def twL (l : List Cw) (p : Nat) : List Cw := rot l p l.length ++ [notC (clAt l 0), clAt l 0]
theorem twL_len (l : List Cw) (p : Nat) : (twL l p).length = l.length + 2 := by simp [twL, rot_len]
theorem clAt_left {a b : List Cw} {i : Nat} (h : i < a.length) : clAt (a ++ b) i = clAt a i := by simp [clAt, List.getD, List.getElem?_append_left h]
theorem clAt_right {a b : List Cw} {i : Nat} : clAt (a ++ b) (a.length + i) = clAt b i := by simp [clAt, List.getD, List.getElem?_append_right]
theorem twL_at {l : List Cw} {p i : Nat} (h : i < l.length) : clAt (twL l p) i = clAt l ((i + p) % l.length) := by
  unfold twL
  rw [clAt_left (by rw [rot_len]; exact h), rot_at h]
theorem twL_n {l : List Cw} {p : Nat} : clAt (twL l p) l.length = notC (clAt l 0) ∧ clAt (twL l p) (l.length + 1) = clAt l 0 := by
  have e := rot_len l p l.length
  have h0 := clAt_right (a := rot l p l.length) (b := [notC (clAt l 0), clAt l 0]) (i := 0)
  have h1 := clAt_right (a := rot l p l.length) (b := [notC (clAt l 0), clAt l 0]) (i := 1)
  rw [e] at h0 h1
  exact ⟨h0, h1⟩
theorem notC_has {x : Cw} (hx : W64 x) {b : Nat} (hb : b < 256) : hasB (notC x) b = !hasB x b := (not_cls hx).2 b hb
theorem tw_w {l : List Cw} (hl : AllW l) (h0 : 0 < l.length) (p : Nat) : AllW (twL l p) := fun j hj => by
  rw [twL_len] at hj
  by_cases h : j < l.length
  · rw [twL_at h]; exact hl _ (Nat.mod_lt _ h0)
  · have : j = l.length ∨ j = l.length + 1 := by omega
    rcases this with rfl | rfl
    · rw [twL_n.1]; exact (not_cls (hl 0 h0)).1
    · rw [twL_n.2]; exact hl 0 h0
theorem rot_back {n k p : Nat} (hk : k < n) : ∃ i, i < n ∧ (i + p) % n = k := by
  have hr : p % n < n := Nat.mod_lt _ (by omega)
  refine ⟨(k + (n - p % n)) % n, Nat.mod_lt _ (by omega), ?_⟩
  have e : k + (n - p % n) + p = k + n * (p / n + 1) := by
    have := Nat.div_add_mod p n
    rw [Nat.mul_add, Nat.mul_one]
    omega
  rw [Nat.add_mod, Nat.mod_mod, ← Nat.add_mod, e, Nat.add_mul_mod_self_left, Nat.mod_eq_of_lt hk]
theorem tw_keys {l : List Cw} (hl : AllW l) (h0 : 0 < l.length) (p : Nat) (a b : Nat) (ha : a < 256) (hb : b < 256) : key l a = key l b ↔ key (twL l p) a = key (twL l p) b := by
  rw [key_eq, key_eq, twL_len]
  constructor
  · intro h j hj
    by_cases hjl : j < l.length
    · rw [twL_at hjl]; exact h _ (Nat.mod_lt _ h0)
    · have : j = l.length ∨ j = l.length + 1 := by omega
      rcases this with rfl | rfl
      · rw [twL_n.1, notC_has (hl 0 h0) ha, notC_has (hl 0 h0) hb, h 0 h0]
      · rw [twL_n.2]; exact h 0 h0
  · intro h k hk
    obtain ⟨i, hi, e⟩ := rot_back (p := p) hk
    have := h i (by omega)
    rw [twL_at hi, e] at this
    exact this

/-! #### ClassWhole -/
section
variable {l xs : List Cw} (x1 : xs.length = (firsts l 256).length) (x2 : AllW xs) (x3 : ∀ i, i < xs.length → ∀ q : Nat, q < 256 → hasB (clAt xs i) q = (decide (q < 256) && decide (idx l 256 q = i)))
include x1 x2 x3
omit x1 x2 in
theorem part_has {i q : Nat} (hi : i < xs.length) (hq : q < 256) : hasB (clAt xs i) q = decide (idx l 256 q = i) := by
  rw [x3 i hi q hq, decide_eq_true hq, Bool.true_and]
omit x2 in
theorem part_some {i : Nat} (hi : i < xs.length) : (sizeC (clAt xs i) == 0) = false := by
  have hf := firsts_at (l := l) 256 i (by omega)
  rw [beq_eq_false_iff_ne]
  intro h
  have := cnt_none 256 h _ hf.1
  rw [part_has x3 hi hf.1, hf.2, decide_eq_true rfl] at this
  cases this
end
/-- The bytes in the first parts. -/
noncomputable def sumF (l : List Cw) (i : Nat) : Nat → Bool := fun q => decide (idx l 256 q < i)
theorem cnt_all {f : Nat → Bool} : ∀ n, (∀ i, i < n → f i = true) → cnt f n = n
  | 0, _ => rfl
  | n + 1, h => by rw [cnt, h n (by omega), cnt_all n fun i hi => h i (by omega)]; rfl
theorem cnt_sum {f g h : Nat → Bool} : ∀ n, (∀ i, i < n → f i = (g i || h i)) → (∀ i, i < n → (g i && h i) = false) → cnt f n = cnt g n + cnt h n
  | 0, _, _ => rfl
  | n + 1, a, b => by
    have := cnt_sum n (fun i hi => a i (by omega)) (fun i hi => b i (by omega))
    have h1 := a n (by omega)
    have h2 := b n (by omega)
    rw [cnt, cnt, cnt, this, h1]
    cases hg : g n <;> cases hh : h n <;> simp_all <;> omega
section
variable {l xs : List Cw} (x1 : xs.length = (firsts l 256).length) (x2 : AllW xs) (x3 : ∀ i, i < xs.length → ∀ q : Nat, q < 256 → hasB (clAt xs i) q = (decide (q < 256) && decide (idx l 256 q = i)))
include x1 x2 x3
omit x1 in
theorem sum_apart {i : Nat} (hi : i < xs.length) : (sizeC (fun j => andw (clsOf (sumF l i) j) (clAt xs i j)) == 0) = true := by
  rw [beq_iff_eq]
  have h := and_cls (w64_clsOf (sumF l i)) (x2 i hi)
  refine cnt_zero 256 fun q hq => ?_
  rw [h.2 q hq, has_clsOf, part_has x3 hi hq]
  unfold sumF
  by_cases e : idx l 256 q = i
  · rw [decide_eq_true e, decide_eq_false (by omega)]; rfl
  · rw [decide_eq_false e]; simp
omit x1 in
theorem sum_next {i : Nat} (hi : i < xs.length) (j : Nat) (hj : j < 4) : orw (clsOf (sumF l i) j) (clAt xs i j) = clsOf (sumF l (i + 1)) j := by
  have h := or_cls (w64_clsOf (sumF l i)) (x2 i hi)
  refine clsOf_eq (x := fun j => orw (clsOf (sumF l i) j) (clAt xs i j)) h.1 (fun q hq => ?_) j hj
  rw [h.2 q hq, has_clsOf, part_has x3 hi hq]
  unfold sumF
  rw [Bool.eq_iff_iff]
  simp
  omega
omit x1 x2 in
theorem sum_cnt {i : Nat} (hi : i < xs.length) : cnt (sumF l (i + 1)) 256 = cnt (sumF l i) 256 + sizeC (clAt xs i) := by
  unfold sizeC
  refine cnt_sum 256 (fun q hq => ?_) (fun q hq => ?_)
  · rw [part_has x3 hi hq]
    unfold sumF
    rw [Bool.eq_iff_iff]
    simp
    omega
  · rw [part_has x3 hi hq]
    unfold sumF
    by_cases e : idx l 256 q = i
    · rw [decide_eq_false (by omega)]; rfl
    · rw [decide_eq_false e]; simp
/-- A class has a part whole, or nothing of it. -/
theorem whole_part (hl : AllW l) {i k : Nat} (hi : i < xs.length) (hk : k < l.length) : (sizeC (fun j => andw (clAt l k j) (clAt xs i j)) == 0) = true ∨ ∀ j, j < 4 → andw (clAt l k j) (clAt xs i j) = clAt xs i j := by
  have h := and_cls (hl k hk) (x2 i hi)
  have hf : i < (firsts l 256).length := by omega
  have hkey : ∀ q, q < 256 → idx l 256 q = i → hasB (clAt l k) q = hasB (clAt l k) ((firsts l 256)[i]) := fun q hq e => by
    have ht := part_same i hf q hq
    rw [decide_eq_true e] at ht
    have := tog_iff.1 ht.symm
    exact ((key_eq.1 this) k hk).symm
  cases hb : hasB (clAt l k) ((firsts l 256)[i]) with
  | false =>
    left
    rw [beq_iff_eq]
    refine cnt_zero 256 fun q hq => ?_
    rw [h.2 q hq, part_has x3 hi hq]
    by_cases e : idx l 256 q = i
    · rw [hkey q hq e, hb]; rfl
    · rw [decide_eq_false e]; simp
  | true =>
    right
    intro j hj
    refine cls_ext h.1 (x2 i hi) (fun q hq => ?_) j hj
    rw [h.2 q hq, part_has x3 hi hq]
    by_cases e : idx l 256 q = i
    · rw [hkey q hq e, hb, decide_eq_true e]; rfl
    · rw [decide_eq_false e]; simp
omit x2 x3 in
theorem sum_all (q : Nat) (hq : q < 256) : sumF l xs.length q = true := by
  obtain ⟨h, _⟩ := idx_at (l := l) 256 q (dn_self hq)
  unfold sumF
  exact decide_eq_true (by omega)
omit x2 x3 in
theorem sum_full : cnt (sumF l xs.length) 256 = 256 := cnt_all 256 fun q hq => sum_all x1 q hq
omit x2 x3 in
theorem not_full : (sizeC (fun j => notw (clsOf (sumF l xs.length) j)) == 0) = true := by
  rw [beq_iff_eq]
  have h := not_cls (w64_clsOf (sumF l xs.length))
  refine cnt_zero 256 fun q hq => ?_
  rw [h.2 q hq, has_clsOf, sum_all x1 q hq]
  rfl
end
theorem sum_none (l : List Cw) (j : Nat) (hj : j < 4) : clsOf (sumF l 0) j = 0 :=
  (clsOf_eq (x := fun _ => 0) w64_zero (fun b hb => by rw [has_empty]; simp [sumF]) j hj).symm
theorem sum_le (l : List Cw) (i : Nat) : cnt (sumF l i) 256 ≤ 256 := cnt_le _ _
end Go.Proofs.YthknfjiggdkcaaaDoor
