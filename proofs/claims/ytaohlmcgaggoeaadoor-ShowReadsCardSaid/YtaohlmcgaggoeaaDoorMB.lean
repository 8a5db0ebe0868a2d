/- The text of a tree, in plain words. -/
import Derived.Test.YtaohlmcgaggoeaaDoorMA
import Derived.Lib.SmallJoins
import Derived.Lib.ItoaNum
namespace Go.Proofs.YtaohlmcgaggoeaaDoor.P
open Go.RowKit Go.Proofs.YtaohlmcgaggoeaaDoor
set_option linter.unusedVariables false
set_option linter.unusedSimpArgs false
abbrev Tx := List UInt8
def hexC (k : Nat) : UInt8 := UInt8.ofNat (if k < 10 then 48 + k else 87 + k)
/-- A byte's text. -/
def byteX (b : Nat) : Tx :=
  if b = 10 then [92, 110] else if b = 9 then [92, 116] else if escC (b : Int) = true then [92, UInt8.ofNat b]
  else if 32 < b ∧ b ≤ 126 then [UInt8.ofNat b] else [92, 120, hexC (b / 16), hexC (b % 16)]
/-- Where a run ends. -/
def runEnd (h : Nat → Bool) : Nat → Nat → Nat
  | 0, k => k
  | n + 1, k => if k + 1 < 256 ∧ h (k + 1) = true then runEnd h n (k + 1) else k
def runX (lo hi : Nat) : Tx := if hi = lo then byteX lo else if hi = lo + 1 then byteX lo ++ byteX hi else byteX lo ++ [45] ++ byteX hi
def runsGo (h : Nat → Bool) : Nat → Nat → Tx
  | 0, lo => []
  | n + 1, lo => if lo < 256 then (if h lo = true then runX lo (runEnd h 256 lo) ++ runsGo h n (runEnd h 256 lo + 1) else runsGo h n (lo + 1)) else []
def cntH (h : Nat → Bool) : Nat → Nat
  | 0 => 0
  | n + 1 => cntH h n + if h n = true then 1 else 0
/-- The least byte. -/
def leastH (h : Nat → Bool) : Nat → Nat → Nat
  | 0, k => k
  | n + 1, k => if h k = true then k else leastH h n (k + 1)
def noneX : Tx := [91, 94, 92, 120, 48, 48, 45, 92, 120, 102, 102, 93]
def setX (h : Nat → Bool) : Tx :=
  if cntH h 256 = 0 then noneX else if cntH h 256 = 1 then byteX (leastH h 256 0) else if cntH h 256 = 256 then [46] else [91] ++ runsGo h 256 0 ++ [93]
def decX (n : Int) : Tx := digL n.toNat
def timesX (lo hi : Int) : Tx :=
  if lo = 0 ∧ hi = -1 then [42] else if lo = 1 ∧ hi = -1 then [43] else if lo = 0 ∧ hi = 1 then [63]
  else if hi = -1 then [123] ++ decX lo ++ [44, 125] else if lo = hi then [123] ++ decX lo ++ [125] else [123] ++ decX lo ++ [44] ++ decX hi ++ [125]
def parX (k pk : Int) (x : Tx) : Tx := if pk = 3 ∨ (k ≠ 3 ∧ (pk = 2 ∨ pk = 0)) then [40] ++ x ++ [41] else x
abbrev hasC (c : S24) : Nat → Bool := hasB fun j => if j = 0 then c.f0 else if j = 1 then c.f1 else if j = 2 then c.f2 else c.f3
def joinX (sep : Tx) : List Tx → Tx
  | [] => []
  | [x] => x
  | x :: y :: r => x ++ sep ++ joinX sep (y :: r)
def nodeX (k : Int) (c : S24) (ps : List Tx) (lo hi : Int) : Tx :=
  if k = 1 then setX (hasC c) else if k = 3 then joinX [124] ps else if k = 4 then ps.headD [] ++ timesX lo hi else joinX [] ps
mutual
def showT : T → Tx
  | ⟨k, c, ps, lo, hi⟩ => nodeX k c (showL k ps) lo hi
def showL (k : Int) : List T → List Tx
  | [] => []
  | p :: ps => parX k p.f0 (showT p) :: showL k ps
end
theorem showL_map (k : Int) (ps : List T) : showL k ps = ps.map fun p => parX k p.f0 (showT p) := by
  induction ps with
  | nil => rw [showL]; rfl
  | cons p ps ih => rw [showL, ih]; rfl

/-! #### what is read of a text -/
section
variable {s : ByteArray}
/-- A byte's text is an item. -/
theorem escC_le {c : Int} (h : escC c = true) : 40 ≤ c ∧ c ≤ 125 ∧ c ≠ 110 ∧ c ≠ 116 ∧ c ≠ 120 := by
  unfold escC at h
  simp only [Bool.or_eq_true, beq_iff_eq] at h
  omega
theorem hexC_val : ∀ k : Fin 16, hexI ((hexC k.1).toNat : Int) = (k.1 : Int) := by decide +kernel
theorem gb_at {i : Nat} {l : Tx} (h : At s i l) (j : Nat) (hj : j < l.length) : gb s (i + j) = (l[j].toNat : Int) ∧ i + j < s.size := ⟨h.2 j hj, by have := h.1; omega⟩
theorem byteX_len (b : Nat) : 1 ≤ (byteX b).length ∧ (byteX b).length ≤ 4 := by
  unfold byteX
  split
  · decide
  split
  · decide
  split
  · exact ⟨(by decide : 1 ≤ 2), (by decide : 2 ≤ 4)⟩
  split
  · exact ⟨(by decide : 1 ≤ 1), (by decide : 1 ≤ 4)⟩
  · exact ⟨(by decide : 1 ≤ 4), (by decide : 4 ≤ 4)⟩
theorem isB_ok {i : Nat} {pl c d : Int} (h : gb s i = d) (hi : i < s.size) (hc : d = c) : isB s ⟨i, pl, 0⟩ c = true := by rw [isB_at h hi]; exact decide_eq_true hc
theorem isB_no {i : Nat} {pl c d : Int} (h : gb s i = d) (hi : i < s.size) (hc : d ≠ c) : isB s ⟨i, pl, 0⟩ c = false := by rw [isB_at h hi]; exact decide_eq_false hc
/-- The text behind a \ . -/
theorem esc_read {b : Nat} (hb : b < 256) {i : Nat} {pl : Int} (h : At s i (byteX b)) (h92 : (byteX b).head? = some 92) : escapeS s ⟨i + 1, pl, 0⟩ = ((b : Int), ⟨i + (byteX b).length, pl, 0⟩) := by
  unfold byteX at h h92 ⊢
  split at h
  · rename_i hb10
    rw [if_pos hb10]
    have h1 := gb_at h 1 (by decide)
    unfold escapeS
    rw [if_pos (isB_ok h1.1 h1.2 (by decide)), hb10]
    rfl
  rename_i hb10
  rw [if_neg hb10] at h92 ⊢
  split at h
  · rename_i hb9
    rw [if_pos hb9]
    have h1 := gb_at h 1 (by decide)
    unfold escapeS
    rw [if_neg (by rw [isB_no h1.1 h1.2 (by decide)]; decide), if_pos (isB_ok h1.1 h1.2 (by decide)), hb9]
    rfl
  rename_i hb9
  rw [if_neg hb9] at h92 ⊢
  split at h
  · rename_i he
    rw [if_pos he]
    have h1 := gb_at h 1 (show 1 < 2 by decide)
    have hv : gb s (i + 1) = (b : Int) := h1.1.trans (by show ((UInt8.ofNat b).toNat : Int) = _; rw [ofNat_val hb])
    have hr := escC_le he
    unfold escapeS
    rw [if_neg (by rw [isB_no hv h1.2 hr.2.2.1]; decide), if_neg (by rw [isB_no hv h1.2 hr.2.2.2.1]; decide), if_neg (by rw [isB_no hv h1.2 hr.2.2.2.2]; decide)]
    rw [if_pos ⟨h1.2, by show escC (gb s (i + 1)) = true; rw [hv]; exact he⟩]
    show (gb s (i + 1), _) = _
    rw [hv]
    rfl
  rename_i he
  rw [if_neg he] at h92 ⊢
  split at h
  · rename_i hp
    rw [if_pos hp] at h92
    exfalso
    have h93 : UInt8.ofNat b = 92 := by injection h92
    have := congrArg UInt8.toNat h93
    rw [ofNat_val hb] at this
    rw [show b = 92 from this] at he
    exact he rfl
  rename_i hp
  rw [if_neg hp]
  have h1 := gb_at h 1 (show 1 < 4 by decide)
  have h2 := gb_at h 2 (show 2 < 4 by decide)
  have h3 := gb_at h 3 (show 3 < 4 by decide)
  have e2 : hexI (gb s (i + 1 + 1)) = ((b / 16 : Nat) : Int) := by
    rw [show i + 1 + 1 = i + 2 by omega, h2.1]
    exact hexC_val ⟨b / 16, by omega⟩
  have e3 : hexI (gb s (i + 1 + 1 + 1)) = ((b % 16 : Nat) : Int) := by
    rw [show i + 1 + 1 + 1 = i + 3 by omega, h3.1]
    exact hexC_val ⟨b % 16, by omega⟩
  unfold escapeS
  rw [if_neg (by rw [isB_no h1.1 h1.2 (by show ((120 : UInt8).toNat : Int) ≠ _; decide)]; decide), if_neg (by rw [isB_no h1.1 h1.2 (by show ((120 : UInt8).toNat : Int) ≠ _; decide)]; decide), if_pos (isB_ok h1.1 h1.2 (by show ((120 : UInt8).toNat : Int) = 120; decide))]
  have d1 : digitS s (⟨i + 1, pl, 0⟩ : Sc).adv = (((b / 16 : Nat) : Int), ⟨i + 3, pl, 0⟩) := by
    have := digit_at (s := s) (i := i + 1 + 1) (pl := pl) (by have := h3.2; omega) (by rw [e2]; omega)
    rw [e2] at this
    exact this
  rw [d1]
  dsimp only
  have d2 : digitS s ⟨i + 3, pl, 0⟩ = (((b % 16 : Nat) : Int), ⟨i + 4, pl, 0⟩) := by
    have e4 : hexI (gb s (i + 3)) = ((b % 16 : Nat) : Int) := e3
    have := digit_at (s := s) (i := i + 3) (pl := pl) h3.2 (by rw [e4]; omega)
    rw [e4] at this
    exact this
  rw [d2]
  dsimp only
  have : ((b / 16 : Nat) : Int) * 16 + ((b % 16 : Nat) : Int) = (b : Int) := by omega
  rw [this]
  rfl
/-- What a byte's text begins with. -/
theorem byteX_head {b : Nat} (hb : b < 256) : (byteX b).head? = some 92 ∨ (byteX b = [UInt8.ofNat b] ∧ 32 < b ∧ b ≤ 126 ∧ escC (b : Int) = false) := by
  unfold byteX
  split
  · exact .inl rfl
  split
  · exact .inl rfl
  split
  · exact .inl rfl
  rename_i he
  split
  · rename_i hp
    exact .inr ⟨rfl, hp.1, hp.2, by simpa using he⟩
  · exact .inl rfl
theorem inC_escC {c : Int} (h : escC c = false) : inC c = false := by
  unfold escC at h
  unfold inC
  simp only [Bool.or_eq_false_iff] at h ⊢
  simp only [h, and_self]
theorem head_gb {i : Nat} {l : Tx} {c : UInt8} (h : At s i l) (hc : l.head? = some c) : gb s i = (c.toNat : Int) ∧ i < s.size := by
  cases l with
  | nil => cases hc
  | cons x r =>
    injection hc with hc
    subst hc
    exact ⟨h.head, by have := h.1; simp at this; omega⟩
theorem item_read {b : Nat} (hb : b < 256) {i : Nat} {pl : Int} (h : At s i (byteX b)) : itemS s ⟨i, pl, 0⟩ = ((b : Int), ⟨i + (byteX b).length, pl, 0⟩) := by
  rcases byteX_head hb with h92 | ⟨he, h1, h2, h3⟩
  · have h0 := head_gb h h92
    unfold itemS
    rw [if_pos (isB_ok h0.1 h0.2 (by decide))]
    exact esc_read hb h h92
  · rw [he] at h
    have h0 := head_gb h rfl
    have hv : gb s i = (b : Int) := h0.1.trans (by rw [ofNat_val hb])
    have hin := inC_escC h3
    have hne : (b : Int) ≠ 92 := fun e => by rw [e] at h3; cases h3
    unfold itemS
    rw [if_neg (by rw [isB_no hv h0.2 hne]; decide), if_pos ⟨rfl, h0.2, by show inC (gb s i) = false; rw [hv]; exact hin⟩, he]
    show (gb s i, _) = _
    rw [hv]
    rfl
theorem byteX_not {b : Nat} (hb : b < 256) {i : Nat} (h : At s i (byteX b)) : gb s i ≠ 45 ∧ gb s i ≠ 93 ∧ gb s i ≠ 94 := by
  rcases byteX_head hb with h92 | ⟨he, h1, h2, h3⟩
  · have h0 := head_gb h h92
    rw [h0.1]
    decide
  · rw [he] at h
    have h0 := head_gb h rfl
    have hv : gb s i = (b : Int) := h0.1.trans (by rw [ofNat_val hb])
    rw [hv]
    refine ⟨fun e => ?_, fun e => ?_, fun e => ?_⟩ <;> (rw [e] at h3; cases h3)
/-- A run's text is the run. -/
theorem run_read {lo hi : Nat} (hl : lo ≤ hi) (hh : hi < 256) (hne : hi ≠ lo + 1) {i : Nat} {pl : Int} (h : At s i (runX lo hi)) (h45 : gb s (i + (runX lo hi).length) ≠ 45) :
    itemsS s ⟨i, pl, 0⟩ = (((lo : Int), (hi : Int)), ⟨i + (runX lo hi).length, pl, 0⟩) := by
  unfold runX at h h45 ⊢
  by_cases he : hi = lo
  · rw [if_pos he] at h h45 ⊢
    have h1 := item_read (by omega) (pl := pl) h
    unfold itemsS
    have hb : isB s ⟨i + (byteX lo).length, pl, 0⟩ 45 = false := by
      unfold isB
      simp [h45]
    rw [h1]
    dsimp only
    rw [hb, if_neg (by decide), he]
  · rw [if_neg he, if_neg hne] at h h45 ⊢
    have hlo := h.left.left
    have hm := h.left.right
    have hhi := h.right
    have h1 := item_read (by omega) (pl := pl) hlo
    have h45' := gb_at hm 0 (by decide)
    rw [Nat.add_zero] at h45'
    have hb : isB s ⟨i + (byteX lo).length, pl, 0⟩ 45 = true := isB_ok h45'.1 h45'.2 (by decide)
    have hhi' : At s (i + (byteX lo).length + 1) (byteX hi) := by
      have e : i + (byteX lo ++ [45]).length = i + (byteX lo).length + 1 := by rw [List.length_append]; rfl
      rw [e] at hhi
      exact hhi
    have h2 := item_read hh (pl := pl) hhi'
    unfold itemsS
    rw [h1]
    dsimp only
    rw [hb, if_pos rfl]
    have ha : (⟨i + (byteX lo).length, pl, 0⟩ : Sc).adv = ⟨i + (byteX lo).length + 1, pl, 0⟩ := rfl
    rw [ha, h2]
    dsimp only
    rw [if_neg (by omega)]
    have hlen : i + (byteX lo ++ [45] ++ byteX hi).length = i + (byteX lo).length + 1 + (byteX hi).length := by simp [List.length_append]; omega
    rw [hlen]
end
end Go.Proofs.YtaohlmcgaggoeaaDoor.P
/- The text of a class, read: plain. -/
namespace Go.Proofs.YtaohlmcgaggoeaaDoor.P
open Go.RowKit Go.Proofs.YtaohlmcgaggoeaaDoor
set_option linter.unusedVariables false
set_option linter.unusedSimpArgs false
section
variable (h : Nat → Bool)
theorem runEnd_spec : ∀ n k, k < 256 → 256 ≤ n + k → h k = true →
    k ≤ runEnd h n k ∧ runEnd h n k < 256 ∧ (∀ j, k ≤ j → j ≤ runEnd h n k → h j = true) ∧ (runEnd h n k + 1 < 256 → h (runEnd h n k + 1) = false)
  | 0, k, hk, hn, hh => by omega
  | n + 1, k, hk, hn, hh => by
    rw [runEnd]
    split
    · rename_i hc
      obtain ⟨h1, h2, h3, h4⟩ := runEnd_spec n (k + 1) hc.1 (by omega) hc.2
      refine ⟨by omega, h2, fun j hj hj2 => ?_, h4⟩
      by_cases e : j = k
      · rw [e]; exact hh
      · exact h3 j (by omega) hj2
    · rename_i hc
      refine ⟨Nat.le_refl _, hk, fun j hj hj2 => by rw [show j = k by omega]; exact hh, fun h1 => ?_⟩
      cases hx : h (k + 1) with
      | false => rfl
      | true => exact absurd ⟨h1, hx⟩ hc
theorem cntH_le : ∀ n, cntH h n ≤ n
  | 0 => Nat.le_refl _
  | n + 1 => by have := cntH_le n; rw [cntH]; split <;> omega
theorem cntH_zero : ∀ n, cntH h n = 0 → ∀ q, q < n → h q = false
  | 0, _, q, hq => by omega
  | n + 1, h0, q, hq => by
    rw [cntH] at h0
    by_cases e : q = n
    · subst e
      cases hx : h q with
      | false => rfl
      | true => rw [if_pos hx] at h0; omega
    · exact cntH_zero n (by omega) q (by omega)
theorem cntH_full : ∀ n, cntH h n = n → ∀ q, q < n → h q = true
  | 0, _, q, hq => by omega
  | n + 1, h0, q, hq => by
    rw [cntH] at h0
    have := cntH_le h n
    by_cases hx : h n = true
    · rw [if_pos hx] at h0
      by_cases e : q = n
      · rw [e]; exact hx
      · exact cntH_full n (by omega) q (by omega)
    · rw [if_neg hx] at h0; omega
theorem cntH_pos : ∀ n q, q < n → h q = true → 1 ≤ cntH h n
  | 0, q, hq, hh => by omega
  | n + 1, q, hq, hh => by
    rw [cntH]
    by_cases e : q = n
    · rw [← e, if_pos hh]; omega
    · have := cntH_pos n q (by omega) hh; omega
theorem cntH_two : ∀ n p q, p < q → q < n → h p = true → h q = true → 2 ≤ cntH h n
  | 0, p, q, h1, hq, hp, hh => by omega
  | n + 1, p, q, h1, hq, hp, hh => by
    rw [cntH]
    by_cases e : q = n
    · rw [← e, if_pos hh]; have := cntH_pos h q p h1 hp; omega
    · have := cntH_two n p q h1 (by omega) hp hh; omega
theorem cntH_ex : ∀ n, 1 ≤ cntH h n → ∃ q, q < n ∧ h q = true
  | 0, h0 => by rw [cntH] at h0; omega
  | n + 1, h0 => by
    rw [cntH] at h0
    by_cases hx : h n = true
    · exact ⟨n, by omega, hx⟩
    · rw [if_neg hx] at h0
      obtain ⟨q, hq, hh⟩ := cntH_ex n h0
      exact ⟨q, by omega, hh⟩
theorem leastH_spec : ∀ n k q, k ≤ q → q < k + n → h q = true → h (leastH h n k) = true ∧ k ≤ leastH h n k ∧ leastH h n k ≤ q
  | 0, k, q, h1, h2, hq => by omega
  | n + 1, k, q, h1, h2, hq => by
    rw [leastH]
    split
    · rename_i hk; exact ⟨hk, Nat.le_refl _, h1⟩
    · rename_i hk
      have hne : k ≠ q := fun e => hk (by rw [e]; exact hq)
      obtain ⟨g1, g2, g3⟩ := leastH_spec n (k + 1) q (by omega) (by omega) hq
      exact ⟨g1, by omega, g3⟩
/-- The only one. -/
theorem only_one (h1 : cntH h 256 = 1) : leastH h 256 0 < 256 ∧ ∀ q, q < 256 → h q = decide (q = leastH h 256 0) := by
  obtain ⟨q0, hq0, hh0⟩ := cntH_ex h 256 (by omega)
  obtain ⟨l1, l2, l3⟩ := leastH_spec h 256 0 q0 (by omega) (by omega) hh0
  refine ⟨by omega, fun q hq => ?_⟩
  by_cases e : q = leastH h 256 0
  · rw [decide_eq_true e, e]; exact l1
  · rw [decide_eq_false e]
    cases hx : h q with
    | false => rfl
    | true =>
      exfalso
      rcases Nat.lt_or_gt_of_ne e with hl | hl
      · have := cntH_two h 256 _ _ hl (by omega) hx l1; omega
      · have := cntH_two h 256 _ _ hl hq l1 hx; omega
end
section
variable {s : ByteArray}
theorem setGo_stop {n : Nat} {f : Nat → Bool} {i : Nat} {pl : Int} (hb : gb s i = 93) (hi : i < s.size) : setGo s (n + 1) f ⟨i, pl, 0⟩ = (f, ⟨i + 1, pl, 0⟩) := by
  rw [setGo, if_pos rfl, if_pos (isB_ok hb hi rfl)]
  rfl
theorem setGo_more {n : Nat} {f : Nat → Bool} {i : Nat} {pl : Int} (hb : gb s i ≠ 93) {lo hi : Int} {st' : Sc} (hit : itemsS s ⟨i, pl, 0⟩ = ((lo, hi), st')) : setGo s (n + 1) f ⟨i, pl, 0⟩ = setGo s n (fun q => f q || inR lo hi q) st' := by
  have hb' : isB s ⟨i, pl, 0⟩ 93 = false := by unfold isB; simp [hb]
  rw [setGo, if_pos rfl, if_neg (by rw [hb']; decide), hit]
theorem byteX_pos (b : Nat) : 0 < (byteX b).length := (byteX_len b).1
theorem runX_pos (lo hi : Nat) : 0 < (runX lo hi).length := by
  have := byteX_pos lo
  unfold runX
  split
  · exact this
  split <;> simp only [List.length_append] <;> omega
theorem runX_left {lo hi i : Nat} (h : At s i (runX lo hi)) : At s i (byteX lo) := by
  unfold runX at h
  split at h
  · exact h
  split at h
  · exact h.left
  · exact h.left.left
/-- What a class's runs begin with. -/
theorem runs_head (h : Nat → Bool) : ∀ (fuel lo i : Nat), At s i (runsGo h fuel lo ++ [93]) → gb s i ≠ 45 ∧ gb s i ≠ 94
  | 0, lo, i, hA => by
    have := head_gb hA (c := 93) rfl
    rw [this.1]; decide
  | fuel + 1, lo, i, hA => by
    rw [runsGo] at hA
    split at hA
    · split at hA
      · have := byteX_not (by omega) (runX_left hA.left.left)
        exact ⟨this.1, this.2.2⟩
      · exact runs_head h fuel (lo + 1) i hA
    · have := head_gb hA (c := 93) rfl
      rw [this.1]; decide
theorem runs_some (h : Nat → Bool) : ∀ (fuel lo i q : Nat), 256 ≤ fuel + lo → lo ≤ q → q < 256 → h q = true → At s i (runsGo h fuel lo ++ [93]) → gb s i ≠ 93
  | 0, lo, i, q, h1, h2, h3, hq, hA => by omega
  | fuel + 1, lo, i, q, h1, h2, h3, hq, hA => by
    rw [runsGo, if_pos (by omega)] at hA
    split at hA
    · have := byteX_not (by omega) (runX_left hA.left.left)
      exact this.2.1
    · rename_i hlo
      have hne : lo ≠ q := fun e => hlo (by rw [e]; exact hq)
      exact runs_some h fuel (lo + 1) i q (by omega) (by omega) h3 hq hA
/-- The runs' text is the class. -/
theorem runs_read (h : Nat → Bool) : ∀ (fuel lo : Nat) (f : Nat → Bool) (n i : Nat) (pl : Int), 256 ≤ fuel + lo → At s i (runsGo h fuel lo ++ [93]) → (runsGo h fuel lo).length < n →
    ∃ f', setGo s n f ⟨i, pl, 0⟩ = (f', ⟨i + (runsGo h fuel lo).length + 1, pl, 0⟩) ∧ ∀ q, q < 256 → f' q = (f q || (decide (lo ≤ q) && h q))
  | 0, lo, f, n, i, pl, hf, hA, hn => by
    have h0 := head_gb hA (c := 93) rfl
    obtain ⟨n, rfl⟩ : ∃ m, n = m + 1 := ⟨n - 1, by omega⟩
    refine ⟨f, setGo_stop h0.1 h0.2, fun q hq => ?_⟩
    rw [decide_eq_false (by omega)]
    simp
  | fuel + 1, lo, f, n, i, pl, hf, hA, hn => by
    by_cases hlo : lo < 256
    · by_cases hh : h lo = true
      · obtain ⟨e, he⟩ : ∃ e, e = runEnd h 256 lo := ⟨_, rfl⟩
        obtain ⟨s1, s2, s3, s4⟩ := runEnd_spec h 256 lo hlo (by omega) hh
        rw [← he] at s1 s2 s3 s4
        have hg : runsGo h (fuel + 1) lo = runX lo e ++ runsGo h fuel (e + 1) := by rw [runsGo, if_pos hlo, if_pos hh, he]
        rw [hg] at hA hn ⊢
        rw [List.append_assoc] at hA
        rw [List.length_append] at hn
        have hA2 := hA.right
        have hnot := byteX_not (by omega) (runX_left hA.left)
        have h45 := (runs_head h fuel (e + 1) _ hA2).1
        have hp := runX_pos lo e
        have hfin : ∀ (f1 f' : Nat → Bool), (∀ q, q < 256 → f1 q = (f q || inR (lo : Int) (e : Int) q)) → (∀ q, q < 256 → f' q = (f1 q || (decide (e + 1 ≤ q) && h q))) → ∀ q, q < 256 → f' q = (f q || (decide (lo ≤ q) && h q)) := fun f1 f' h1 h2 q hq => by
          rw [h2 q hq, h1 q hq]
          unfold inR
          by_cases c1 : lo ≤ q
          · by_cases c2 : q ≤ e
            · rw [s3 q c1 c2, decide_eq_true (show (lo : Int) ≤ q ∧ (q : Int) ≤ e by omega), decide_eq_true c1]; simp
            · rw [decide_eq_false (show ¬ ((lo : Int) ≤ q ∧ (q : Int) ≤ e) by omega), decide_eq_true c1, decide_eq_true (show e + 1 ≤ q by omega)]; simp
          · rw [decide_eq_false (show ¬ ((lo : Int) ≤ q ∧ (q : Int) ≤ e) by omega), decide_eq_false c1, decide_eq_false (show ¬ e + 1 ≤ q by omega)]; simp
        by_cases h1 : e = lo + 1
        · have hx : runX lo e = runX lo lo ++ runX e e := by
            unfold runX
            rw [if_neg (by omega), if_pos h1, if_pos rfl, if_pos rfl]
          rw [hx] at hA hn h45 hA2 ⊢
          rw [List.append_assoc] at hA
          have hB := hA.right
          have hnB := byteX_not (by omega) (runX_left hB.left)
          have r1 := run_read (Nat.le_refl lo) hlo (by omega) (pl := pl) hA.left hnB.1
          have h45' : gb s (i + (runX lo lo).length + (runX e e).length) ≠ 45 := by
            rw [List.length_append, ← Nat.add_assoc] at h45
            exact h45
          have r2 := run_read (Nat.le_refl e) s2 (by omega) (pl := pl) hB.left h45'
          rw [List.length_append, ← Nat.add_assoc] at hA2
          rw [List.length_append] at hn
          have hp1 := runX_pos lo lo
          have hp2 := runX_pos e e
          obtain ⟨n, rfl⟩ : ∃ m, n = m + 1 + 1 := ⟨n - 2, by omega⟩
          obtain ⟨f', hs, hq⟩ := runs_read h fuel (e + 1) (fun q => (f q || inR (lo : Int) (lo : Int) q) || inR (e : Int) (e : Int) q) n _ pl (by omega) hA2 (by omega)
          refine ⟨f', ?_, hfin _ f' (fun q hq => ?_) hq⟩
          · rw [setGo_more hnot.2.1 r1, setGo_more hnB.2.1 r2, hs]
            simp only [List.length_append, Nat.add_assoc]
          · show ((f q || inR (lo : Int) (lo : Int) q) || inR (e : Int) (e : Int) q) = _
            rw [Bool.or_assoc]
            congr 1
            unfold inR
            rw [Bool.eq_iff_iff]
            simp only [Bool.or_eq_true, decide_eq_true_eq]
            omega
        · have r1 := run_read s1 s2 h1 (pl := pl) hA.left h45
          obtain ⟨n, rfl⟩ : ∃ m, n = m + 1 := ⟨n - 1, by omega⟩
          obtain ⟨f', hs, hq⟩ := runs_read h fuel (e + 1) (fun q => f q || inR (lo : Int) (e : Int) q) n _ pl (by omega) hA2 (by omega)
          refine ⟨f', ?_, hfin _ f' (fun q hq => rfl) hq⟩
          rw [setGo_more hnot.2.1 r1, hs]
          simp only [List.length_append, Nat.add_assoc]
      · have hg : runsGo h (fuel + 1) lo = runsGo h fuel (lo + 1) := by rw [runsGo, if_pos hlo, if_neg hh]
        rw [hg] at hA hn ⊢
        obtain ⟨f', hs, hq⟩ := runs_read h fuel (lo + 1) f n i pl (by omega) hA hn
        refine ⟨f', hs, fun q hq' => ?_⟩
        rw [hq q hq']
        by_cases e : q = lo
        · have hf : h lo = false := by cases hx : h lo with
            | false => rfl
            | true => exact absurd hx hh
          rw [e, hf]; simp
        · have : decide (lo + 1 ≤ q) = decide (lo ≤ q) := by rw [Bool.eq_iff_iff]; simp; omega
          rw [this]
    · have hg : runsGo h (fuel + 1) lo = [] := by rw [runsGo, if_neg hlo]
      rw [hg] at hA hn ⊢
      have h0 := head_gb hA (c := 93) rfl
      obtain ⟨n, rfl⟩ : ∃ m, n = m + 1 := ⟨n - 1, by omega⟩
      refine ⟨f, setGo_stop h0.1 h0.2, fun q hq => ?_⟩
      rw [decide_eq_false (by omega)]
      simp
/-- A machine goes over a text. -/
def Rds (s : ByteArray) (i : Nat) (l : Tx) (L L' : Lv) : Prop := ∀ pl rest, runF s ⟨⟨i, pl, 0⟩, L, rest⟩ = runF s ⟨⟨i + l.length, pl, 0⟩, L', rest⟩
theorem Rds.trans {i : Nat} {l m : Tx} {L L' L'' : Lv} (h : Rds s i l L L') (k : Rds s (i + l.length) m L' L'') : Rds s i (l ++ m) L L'' := fun pl rest => by
  rw [h pl rest, k pl rest, List.length_append, Nat.add_assoc]
theorem Rds.nil (i : Nat) (L : Lv) : Rds s i [] L L := fun pl rest => rfl
theorem Rds.step {i : Nat} {l : Tx} {L L' : Lv} (hi : i < s.size) (h : ∀ pl rest, stepM s ⟨⟨i, pl, 0⟩, L, rest⟩ = ⟨⟨i + l.length, pl, 0⟩, L', rest⟩) : Rds s i l L L' := fun pl rest => by
  rw [runF_go (m := ⟨⟨i, pl, 0⟩, L, rest⟩) ⟨rfl, hi⟩, h]
def okC (c : S24) : Prop := W64 fun j => if j = 0 then c.f0 else if j = 1 then c.f1 else if j = 2 then c.f2 else c.f3
theorem setN_cls {c : S24} (hc : okC c) {f : Nat → Bool} (h : ∀ q, q < 256 → f q = hasC c q) : setN f = ⟨1, c, [], 0, 0⟩ := by
  have e := fun j hj => clsOf_eq hc (f := f) (fun b hb => (h b hb).symm) j hj
  have e0 := e 0 (by omega)
  have e1 := e 1 (by omega)
  have e2 := e 2 (by omega)
  have e3 := e 3 (by omega)
  obtain ⟨c0, c1, c2, c3⟩ := c
  dsimp only at e0 e1 e2 e3
  unfold setN
  rw [← e0, ← e1, ← e2, ← e3]
  rfl
/-- A byte alone. -/
theorem byte_row {b : Nat} (hb : b < 256) {i : Nat} (h : At s i (byteX b)) (L : Lv) : Rds s i (byteX b) L (L.put (setN fun q => decide ((q : Int) = (b : Int)))) := by
  rcases byteX_head hb with h92 | ⟨he, h1, h2, h3⟩
  · have h0 := head_gb h h92
    refine Rds.step h0.2 fun pl rest => ?_
    have hs := step_esc (s := s) (m := ⟨⟨i, pl, 0⟩, L, rest⟩) h0.1
    rw [hs]
    have ha : (⟨i, pl, 0⟩ : Sc).adv = ⟨i + 1, pl, 0⟩ := rfl
    dsimp only
    rw [ha, esc_read hb h h92]
  · rw [he] at h ⊢
    have h0 := head_gb h rfl
    have hv : gb s i = (b : Int) := h0.1.trans (by rw [ofNat_val hb])
    refine Rds.step h0.2 fun pl rest => ?_
    unfold escC at h3
    simp only [Bool.or_eq_false_iff, beq_eq_false_iff_ne] at h3
    obtain ⟨⟨⟨⟨⟨⟨⟨⟨⟨⟨⟨⟨⟨a1, a2⟩, a3⟩, a4⟩, a5⟩, a6⟩, a7⟩, a8⟩, a9⟩, a10⟩, a11⟩, a12⟩, a13⟩, a14⟩ := h3
    unfold stepM
    dsimp only
    rw [hv, if_neg a1, if_neg a2, if_neg a7, if_neg a8, if_neg a9, if_neg a10, if_neg a5, if_neg a11, if_neg a3, if_neg a12, if_neg (by omega)]
    rfl
theorem set_read {h : Nat → Bool} (h2 : 1 ≤ cntH h 256) {i : Nat} (hA : At s i ([91] ++ runsGo h 256 0 ++ [93])) (pl : Int) :
    ∃ f', setS s ⟨i + 1, pl, 0⟩ = (f', ⟨i + ([91] ++ runsGo h 256 0 ++ [93]).length, pl, 0⟩) ∧ ∀ q, q < 256 → f' q = h q := by
  rw [List.append_assoc] at hA
  have hB : At s (i + 1) (runsGo h 256 0 ++ [93]) := hA.right
  obtain ⟨q0, hq0, hh0⟩ := cntH_ex h 256 h2
  have h93 := runs_some h 256 0 (i + 1) q0 (by omega) (by omega) hq0 hh0 hB
  have h94 := (runs_head h 256 0 (i + 1) hB).2
  have hlen := hB.1
  rw [List.length_append] at hlen
  obtain ⟨f', hs, hq⟩ := runs_read h 256 0 (fun _ => false) (s.size + 3 + 1) (i + 1) pl (by omega) hB (by omega)
  have b94 : isB s ⟨i + 1, pl, 0⟩ 94 = false := by unfold isB; simp [h94]
  have b93 : isB s ⟨i + 1, pl, 0⟩ 93 = false := by unfold isB; simp [h93]
  have hst1 : mayS s ⟨i + 1, pl, 0⟩ 94 = ⟨i + 1, pl, 0⟩ := by unfold mayS; rw [b94, if_neg (by decide)]
  rw [setGo, if_pos rfl, if_neg (by rw [b93]; decide)] at hs
  have hfun : (fun q => false || inR (itemsS s ⟨i + 1, pl, 0⟩).1.1 (itemsS s ⟨i + 1, pl, 0⟩).1.2 q) = inR (itemsS s ⟨i + 1, pl, 0⟩).1.1 (itemsS s ⟨i + 1, pl, 0⟩).1.2 := by funext q; simp
  rw [hfun] at hs
  refine ⟨f', ?_, fun q hq' => by rw [hq q hq']; simp⟩
  unfold setS
  rw [hst1]
  dsimp only
  rw [hs, b94, if_neg (by decide)]
  dsimp only
  have : i + 1 + (runsGo h 256 0).length + 1 = i + ([91] ++ runsGo h 256 0 ++ [93]).length := by simp; omega
  rw [this]
theorem none_eq : noneX = [91, 94] ++ runX 0 255 ++ [93] := by decide +kernel
theorem none_read {i : Nat} (hA : At s i noneX) (pl : Int) : ∃ f', setS s ⟨i + 1, pl, 0⟩ = (f', ⟨i + noneX.length, pl, 0⟩) ∧ ∀ q, q < 256 → f' q = false := by
  rw [none_eq] at hA
  have h94 := gb_at hA.left.left 1 (by decide)
  have hr : At s (i + 2) (runX 0 255) := hA.left.right
  have h93 := gb_at hA.right 0 (by decide)
  have h93g : gb s (i + 2 + (runX 0 255).length) = 93 := h93.1
  have h93l : i + 2 + (runX 0 255).length < s.size := h93.2
  have r := run_read (Nat.zero_le 255) (by decide) (by decide) (pl := pl) hr (by rw [h93g]; decide)
  have b94 : isB s ⟨i + 1, pl, 0⟩ 94 = true := isB_ok h94.1 h94.2 (by decide)
  have hst1 : mayS s ⟨i + 1, pl, 0⟩ 94 = ⟨i + 2, pl, 0⟩ := by unfold mayS; rw [b94, if_pos rfl]; rfl
  refine ⟨fun q => !inR 0 255 q, ?_, fun q hq => ?_⟩
  · unfold setS
    rw [hst1]
    dsimp only
    rw [r]
    dsimp only
    rw [show s.size + 3 = s.size + 2 + 1 from rfl, setGo_stop h93g h93l, b94, if_pos rfl]
    rfl
  · show (!inR 0 255 q) = false
    unfold inR
    rw [decide_eq_true (show (0 : Int) ≤ q ∧ (q : Int) ≤ 255 by omega)]
    rfl
/-- A class's text, in a row. -/
theorem set_row {c : S24} (hc : okC c) {i : Nat} (h : At s i (setX (hasC c))) (L : Lv) : Rds s i (setX (hasC c)) L (L.put ⟨1, c, [], 0, 0⟩) := by
  unfold setX at h ⊢
  by_cases h0 : cntH (hasC c) 256 = 0
  · rw [if_pos h0] at h ⊢
    have hg := head_gb h (c := 91) rfl
    refine Rds.step hg.2 fun pl rest => ?_
    obtain ⟨f', hs, hq⟩ := none_read h pl
    rw [step_set (s := s) (m := ⟨⟨i, pl, 0⟩, L, rest⟩) hg.1]
    have ha : (⟨i, pl, 0⟩ : Sc).adv = ⟨i + 1, pl, 0⟩ := rfl
    dsimp only
    rw [ha, hs]
    dsimp only
    rw [setN_cls hc fun q hq' => by rw [hq q hq', cntH_zero _ 256 h0 q hq']]
  rw [if_neg h0] at h ⊢
  by_cases h1 : cntH (hasC c) 256 = 1
  · rw [if_pos h1] at h ⊢
    obtain ⟨o1, o2⟩ := only_one (hasC c) h1
    have := byte_row o1 h L
    rw [setN_cls hc fun q hq' => by rw [o2 q hq', Bool.eq_iff_iff]; simp only [decide_eq_true_eq]; omega] at this
    exact this
  rw [if_neg h1] at h ⊢
  by_cases h2 : cntH (hasC c) 256 = 256
  · rw [if_pos h2] at h ⊢
    have hg := head_gb h (c := 46) rfl
    refine Rds.step hg.2 fun pl rest => ?_
    have : stepM s ⟨⟨i, pl, 0⟩, L, rest⟩ = ⟨⟨i + 1, pl, 0⟩, L.put (setN (inR 0 255)), rest⟩ := by
      have h46 : gb s i = 46 := hg.1
      simp [stepM, h46, Sc.adv, Mc.put]
    rw [this, setN_cls hc fun q hq' => by rw [cntH_full _ 256 h2 q hq']; unfold inR; exact decide_eq_true (show (0 : Int) ≤ q ∧ (q : Int) ≤ 255 by omega)]
    rfl
  · rw [if_neg h2] at h ⊢
    have hg := head_gb h (c := 91) rfl
    refine Rds.step hg.2 fun pl rest => ?_
    obtain ⟨f', hs, hq⟩ := set_read (by omega) h pl
    rw [step_set (s := s) (m := ⟨⟨i, pl, 0⟩, L, rest⟩) hg.1]
    have ha : (⟨i, pl, 0⟩ : Sc).adv = ⟨i + 1, pl, 0⟩ := rfl
    dsimp only
    rw [ha, hs]
    dsimp only
    rw [setN_cls hc hq]
end
end Go.Proofs.YtaohlmcgaggoeaaDoor.P
/- The text of a tree, read: plain. -/
namespace Go.Proofs.YtaohlmcgaggoeaaDoor.P
open Go.RowKit Go.Proofs.YtaohlmcgaggoeaaDoor
set_option linter.unusedVariables false
set_option linter.unusedSimpArgs false
theorem kindF {x : S27} (h : formedT x = true) : (x.f0 = 0 ∨ x.f0 = 1 ∨ x.f0 = 2 ∨ x.f0 = 3 ∨ x.f0 = 4) ∧ ((x.f0 = 2 ∨ x.f0 = 3) → 2 ≤ x.f2.length) ∧ (x.f0 = 4 → x.f2.length = 1 ∧ 0 ≤ x.f3 ∧ x.f3 ≤ 2147483647 ∧ (x.f4 = -1 ∨ x.f3 ≤ x.f4 ∧ x.f4 ≤ 2147483647)) ∧ ((x.f0 = 0 ∨ x.f0 = 1) → x.f2 = []) ∧ (x.f0 ≠ 4 → x.f3 = 0 ∧ x.f4 = 0) ∧ (x.f0 ≠ 1 → emptyB x.f1 = true) ∧ ∀ y ∈ x.f2, formedT y = true := by
  rw [formedT_eq] at h
  simp only [Bool.and_eq_true, Bool.not_eq_true'] at h
  obtain ⟨hs, hp⟩ := h
  have hp' : ∀ y ∈ x.f2, formedT y = true := fun y hy => by have := List.any_eq_false.1 hp y hy; simpa using this
  unfold shapedB at hs
  split at hs
  · next e => simp only [Bool.and_eq_true, beq_iff_eq] at hs; exact ⟨by omega, by omega, by omega, fun _ => List.eq_nil_of_length_eq_zero hs.2, fun _ => hs.1.1, fun _ => hs.1.2, hp'⟩
  · split at hs
    · next e => simp only [Bool.and_eq_true, beq_iff_eq] at hs; exact ⟨by omega, by omega, by omega, fun _ => List.eq_nil_of_length_eq_zero hs.2, fun _ => hs.1, fun h => absurd e h, hp'⟩
    · split at hs
      · next e => simp only [Bool.and_eq_true, beq_iff_eq, decide_eq_true_eq] at hs; exact ⟨by omega, fun _ => hs.2, by omega, by omega, fun _ => hs.1.1, fun _ => hs.1.2, hp'⟩
      · split at hs
        · next e =>
          simp only [Bool.and_eq_true, Bool.or_eq_true, beq_iff_eq, decide_eq_true_eq] at hs
          exact ⟨by omega, by omega, fun _ => ⟨hs.1.1.1.2, hs.1.1.2, hs.1.2, hs.2⟩, by omega, fun h => absurd e h, fun _ => hs.1.1.1.1, hp'⟩
        · cases hs
/-- All classes in a tree have four words. -/
inductive okW : T → Prop
  | mk (k : Int) (c : S24) (ps : List T) (lo hi : Int) : okC c → (∀ p ∈ ps, okW p) → okW ⟨k, c, ps, lo, hi⟩
theorem okW.cls {x : T} (h : okW x) : okC x.f1 := by cases h; assumption
theorem okW.part {x : T} (h : okW x) : ∀ p ∈ x.f2, okW p := by cases h; assumption
theorem emptyC {c : S24} (h : emptyB c = true) : c = ⟨0, 0, 0, 0⟩ := by
  obtain ⟨a, b, d, e⟩ := c
  unfold emptyB at h
  simp only [Bool.and_eq_true, beq_iff_eq] at h
  obtain ⟨rfl, rfl, rfl, rfl⟩ := h
  rfl
section
variable {s : ByteArray}
theorem times_same {i n : Nat} {pl : Int} (h1 : At s i (digL n)) (h2 : gb s (i + (digL n).length) = 125) (h3 : i + (digL n).length < s.size) (hn : n ≤ 2147483647) :
    timesS s ⟨i, pl, 0⟩ = (((n : Int), (n : Int)), ⟨i + (digL n).length + 1, pl, 0⟩) := by
  have n1 := number_dig (pl := pl) h1 (not_dig h2 (by omega))
  unfold timesS
  dsimp only
  rw [n1]
  dsimp only
  rw [if_neg (by omega)]
  have b1 := isB_at (s := s) (i := i + (digL n).length) (pl := pl) (c := 44) h2 h3
  have b2 := isB_at (s := s) (i := i + (digL n).length) (pl := pl) (c := 125) h2 h3
  have ht : times2 s (min (n : Int) 2147483648) ⟨i + (digL n).length, pl, 0⟩ = (min (n : Int) 2147483648, ⟨i + (digL n).length, pl, 0⟩) := by
    unfold times2
    rw [b1, if_neg (by decide)]
  rw [ht]
  dsimp only
  have hm : mustS s ⟨i + (digL n).length, pl, 0⟩ 125 = ⟨i + (digL n).length + 1, pl, 0⟩ := by
    unfold mustS
    rw [b2, decide_eq_true rfl, if_pos rfl]
    rfl
  rw [hm, if_neg (by omega), show min (n : Int) 2147483648 = n by omega]
theorem rep_step {i : Nat} {pl : Int} {L : Lv} {rest : List Lv} (hr : L.row ≠ []) (lo hi : Int) (c : Int) (hg : gb s i = c) (h : (c = 42 ∧ lo = 0 ∧ hi = -1) ∨ (c = 43 ∧ lo = 1 ∧ hi = -1) ∨ (c = 63 ∧ lo = 0 ∧ hi = 1)) :
    stepM s ⟨⟨i, pl, 0⟩, L, rest⟩ = ⟨⟨i + 1, pl, 0⟩, L.rep lo hi, rest⟩ := by
  rcases h with ⟨rfl, rfl, rfl⟩ | ⟨rfl, rfl, rfl⟩ | ⟨rfl, rfl, rfl⟩ <;> simp [stepM, hg, hr, Mc.repeat_, Sc.adv]
/-- How often, read. -/
theorem times_row {lo hi : Int} (h0 : 0 ≤ lo) (h1 : lo ≤ 2147483647) (h2 : hi = -1 ∨ lo ≤ hi ∧ hi ≤ 2147483647) {i : Nat} (h : At s i (timesX lo hi)) {L : Lv} (hr : L.row ≠ []) : Rds s i (timesX lo hi) L (L.rep lo hi) := by
  have brace : ∀ (l : Tx) (r : (Int × Int)), At s i ([123] ++ l) → (∀ pl, timesS s ⟨i + 1, pl, 0⟩ = (r, ⟨i + ([123] ++ l).length, pl, 0⟩)) → Rds s i ([123] ++ l) L (L.rep r.1 r.2) := fun l r hA ht => by
    have hg := head_gb hA (c := 123) rfl
    refine Rds.step hg.2 fun pl rest => ?_
    rw [step_brace (s := s) (m := ⟨⟨i, pl, 0⟩, L, rest⟩) hg.1 hr]
    have ha : (⟨i, pl, 0⟩ : Sc).adv = ⟨i + 1, pl, 0⟩ := rfl
    dsimp only
    rw [ha, ht]
  unfold timesX at h ⊢
  by_cases c1 : lo = 0 ∧ hi = -1
  · rw [if_pos c1] at h ⊢
    have hg := head_gb h (c := 42) rfl
    exact Rds.step hg.2 fun pl rest => rep_step hr lo hi 42 hg.1 (.inl ⟨rfl, c1.1, c1.2⟩)
  rw [if_neg c1] at h ⊢
  by_cases c2 : lo = 1 ∧ hi = -1
  · rw [if_pos c2] at h ⊢
    have hg := head_gb h (c := 43) rfl
    exact Rds.step hg.2 fun pl rest => rep_step hr lo hi 43 hg.1 (.inr (.inl ⟨rfl, c2.1, c2.2⟩))
  rw [if_neg c2] at h ⊢
  by_cases c3 : lo = 0 ∧ hi = 1
  · rw [if_pos c3] at h ⊢
    have hg := head_gb h (c := 63) rfl
    exact Rds.step hg.2 fun pl rest => rep_step hr lo hi 63 hg.1 (.inr (.inr ⟨rfl, c3.1, c3.2⟩))
  rw [if_neg c3] at h ⊢
  obtain ⟨nl, rfl⟩ : ∃ nl : Nat, lo = nl := ⟨lo.toNat, by omega⟩
  have dl : decX (nl : Int) = digL nl := by unfold decX; rw [Int.toNat_natCast]
  rw [dl] at h ⊢
  by_cases c4 : hi = -1
  · rw [if_pos c4] at h ⊢
    subst c4
    rw [List.append_assoc] at h ⊢
    refine brace _ ((nl : Int), -1) h fun pl => ?_
    have hA : At s (i + 1) (digL nl ++ [44, 125]) := h.right
    have g1 := gb_at hA.right 0 (by decide)
    have g2 := gb_at hA.right 1 (by decide)
    have := times_open (pl := pl) hA.left g1.1 g2.1 g2.2
    rw [this]
    unfold timesO
    rw [if_neg (by omega)]
    have e : i + 1 + (digL nl).length + 2 = i + ([123] ++ (digL nl ++ [44, 125])).length := by simp; omega
    rw [e]
  rw [if_neg c4] at h ⊢
  obtain ⟨nh, rfl⟩ : ∃ nh : Nat, hi = nh := ⟨hi.toNat, by omega⟩
  have dh : decX (nh : Int) = digL nh := by unfold decX; rw [Int.toNat_natCast]
  rw [dh] at h ⊢
  by_cases c5 : (nl : Int) = nh
  · rw [if_pos c5] at h ⊢
    have en : nh = nl := by omega
    subst en
    rw [List.append_assoc] at h ⊢
    refine brace _ ((nh : Int), (nh : Int)) h fun pl => ?_
    have hA : At s (i + 1) (digL nh ++ [125]) := h.right
    have g1 := gb_at hA.right 0 (by decide)
    rw [times_same (pl := pl) hA.left g1.1 g1.2 (by omega)]
    have e : i + 1 + (digL nh).length + 1 = i + ([123] ++ (digL nh ++ [125])).length := by simp; omega
    rw [e]
  · rw [if_neg c5] at h ⊢
    rw [show [123] ++ digL nl ++ [44] ++ digL nh ++ [125] = [123] ++ (digL nl ++ ([44] ++ (digL nh ++ [125]))) by simp] at h ⊢
    refine brace _ ((nl : Int), (nh : Int)) h fun pl => ?_
    have hA : At s (i + 1) (digL nl ++ ([44] ++ (digL nh ++ [125]))) := h.right
    have hB : At s (i + 1 + (digL nl).length) ([44] ++ (digL nh ++ [125])) := hA.right
    have hC : At s (i + 1 + (digL nl).length + 1) (digL nh ++ [125]) := hB.right
    have g1 := head_gb hB (c := 44) rfl
    have g2 := head_gb hC.right (c := 125) rfl
    rw [times_two (pl := pl) hA.left g1.1 hC.left g2.1 g2.2]
    unfold timesV
    rw [if_neg (by omega), if_neg (by omega), if_neg (by omega)]
    have e : i + 1 + (digL nl).length + 1 + (digL nh).length + 1 = i + ([123] ++ (digL nl ++ ([44] ++ (digL nh ++ [125])))).length := by simp; omega
    rw [e]
/-- What a tree's text is read as: an atom in a row; a level; a row. -/
structure Red (s : ByteArray) (x : T) : Prop where
  atom : (x.f0 = 1 ∨ x.f0 = 4) → ∀ i L, At s i (showT x) → Rds s i (showT x) L (L.put x)
  lev : ∀ i, At s i (showT x) → ∃ L', Rds s i (showT x) ⟨[], []⟩ L' ∧ L'.done = x
  row : x.f0 ≠ 3 → ∀ i rows, At s i (showT x) → ∃ row', Rds s i (showT x) ⟨rows, []⟩ ⟨rows, row'⟩ ∧ oneN 2 row' = x
/-- In brackets. -/
theorem Red.par {x : T} (h : Red s x) {i : Nat} (L : Lv) (hA : At s i ([40] ++ showT x ++ [41])) : Rds s i ([40] ++ showT x ++ [41]) L (L.put x) := by
  rw [List.append_assoc] at hA ⊢
  have hB : At s (i + 1) (showT x ++ [41]) := hA.right
  have g0 := head_gb hA (c := 40) rfl
  have g1 := head_gb hB.right (c := 41) rfl
  obtain ⟨L', h1, h2⟩ := h.lev (i + 1) hB.left
  intro pl rest
  rw [runF_go (m := ⟨⟨i, pl, 0⟩, L, rest⟩) ⟨rfl, g0.2⟩, step_open (m := ⟨⟨i, pl, 0⟩, L, rest⟩) g0.1]
  have ha : (⟨i, pl, 0⟩ : Sc).adv = ⟨i + 1, pl, 0⟩ := rfl
  dsimp only
  rw [ha, h1 pl (L :: rest), runF_go (m := ⟨⟨i + 1 + (showT x).length, pl, 0⟩, L', L :: rest⟩) ⟨rfl, g1.2⟩, step_shut g1.1, h2]
  have e : i + 1 + (showT x).length + 1 = i + ([40] ++ (showT x ++ [41])).length := by simp; omega
  rw [e]
/-- A part that isn't an Alt's. -/
theorem Red.elem {x : T} (h : Red s x) (hk : x.f0 = 0 ∨ x.f0 = 1 ∨ x.f0 = 2 ∨ x.f0 = 3 ∨ x.f0 = 4) {k : Int} (k3 : k ≠ 3) {i : Nat} (L : Lv) (hA : At s i (parX k x.f0 (showT x))) : Rds s i (parX k x.f0 (showT x)) L (L.put x) := by
  unfold parX at hA ⊢
  by_cases hc : x.f0 = 3 ∨ (k ≠ 3 ∧ (x.f0 = 2 ∨ x.f0 = 0))
  · rw [if_pos hc] at hA ⊢
    exact h.par L hA
  · rw [if_neg hc] at hA ⊢
    exact h.atom (by omega) i L hA
theorem joinX_cons (sep x : Tx) (y : Tx) (r : List Tx) : joinX sep (x :: y :: r) = x ++ sep ++ joinX sep (y :: r) := rfl
/-- Parts, one behind the other. -/
theorem cat_row (ps : List T) (h : ∀ p ∈ ps, Red s p) (hk : ∀ p ∈ ps, p.f0 = 0 ∨ p.f0 = 1 ∨ p.f0 = 2 ∨ p.f0 = 3 ∨ p.f0 = 4) {k : Int} (k3 : k ≠ 3) : ∀ (i : Nat) (L : Lv), At s i (joinX [] (showL k ps)) → Rds s i (joinX [] (showL k ps)) L ⟨L.rows, L.row ++ ps⟩ := by
  induction ps with
  | nil =>
    intro i L hA
    rw [showL, List.append_nil]
    exact Rds.nil i L
  | cons p ps ih =>
    intro i L hA
    have hp := fun i L => (h p (by simp)).elem (hk p (by simp)) k3 (i := i) L
    have ih' := ih (fun q hq => h q (List.mem_cons_of_mem _ hq)) (fun q hq => hk q (List.mem_cons_of_mem _ hq))
    rw [showL] at hA ⊢
    cases ps with
    | nil =>
      rw [showL] at hA ⊢
      exact hp i L hA
    | cons q r =>
      rw [showL, joinX_cons] at hA ⊢
      rw [List.append_nil] at hA ⊢
      rw [← showL] at hA ⊢
      have := (hp i L hA.left).trans (ih' _ (L.put p) hA.right)
      simpa [Lv.put] using this
/-- One of an Alt's rows. -/
theorem Red.arow {x : T} (h : Red s x) {i : Nat} (rows : List T) (hA : At s i (parX 3 x.f0 (showT x))) : ∃ row', Rds s i (parX 3 x.f0 (showT x)) ⟨rows, []⟩ ⟨rows, row'⟩ ∧ oneN 2 row' = x := by
  unfold parX at hA ⊢
  by_cases hc : x.f0 = 3
  · rw [if_pos (.inl hc)] at hA ⊢
    exact ⟨[x], h.par ⟨rows, []⟩ hA, rfl⟩
  · rw [if_neg (by omega)] at hA ⊢
    exact h.row hc i rows hA
theorem alt_rows (ps : List T) (h : ∀ p ∈ ps, Red s p) (hne : ps ≠ []) : ∀ (i : Nat) (rows : List T), At s i (joinX [124] (showL 3 ps)) → ∃ L', Rds s i (joinX [124] (showL 3 ps)) ⟨rows, []⟩ L' ∧ L'.close.rows = rows ++ ps := by
  induction ps with
  | nil => exact absurd rfl hne
  | cons p ps ih =>
    intro i rows hA
    have hp := fun i => (h p (by simp)).arow (i := i) rows
    rw [showL] at hA ⊢
    cases ps with
    | nil =>
      rw [showL] at hA ⊢
      obtain ⟨row', h1, h2⟩ := hp i hA
      exact ⟨_, h1, by show rows ++ [oneN 2 row'] = _; rw [h2]⟩
    | cons q r =>
      rw [showL, joinX_cons, ← showL] at hA ⊢
      rw [List.append_assoc] at hA ⊢
      obtain ⟨row', h1, h2⟩ := hp i hA.left
      have hB := hA.right
      have g1 := head_gb hB (c := 124) rfl
      have hC : At s (i + (parX 3 p.f0 (showT p)).length + 1) (joinX [124] (showL 3 (q :: r))) := hB.right
      have hs : Rds s (i + (parX 3 p.f0 (showT p)).length) [124] ⟨rows, row'⟩ ⟨rows ++ [p], []⟩ := Rds.step g1.2 fun pl rest => by
        rw [step_alt (m := ⟨⟨_, pl, 0⟩, ⟨rows, row'⟩, rest⟩) g1.1]
        show (⟨_, ⟨rows ++ [oneN 2 row'], []⟩, rest⟩ : Mc) = _
        rw [h2]
        rfl
      obtain ⟨L', h3, h4⟩ := ih (fun q hq => h q (List.mem_cons_of_mem _ hq)) (by simp) _ (rows ++ [p]) hC
      exact ⟨L', h1.trans (hs.trans h3), by rw [h4]; simp⟩
theorem red_any (n : Nat) : ∀ x : T, SizeOf.sizeOf x < n → formedT x = true → okW x → Red s x := by
  induction n with
  | zero => intro x h; omega
  | succ n ih =>
    intro x hn hf hw
    obtain ⟨hk, h23, h4, h01, hlh, hem, hp⟩ := kindF hf
    have hr : ∀ p ∈ x.f2, Red s p := fun p hm => ih p (by have := mem_lt hm; omega) (hp p hm) (hw.part p hm)
    have hks : ∀ p ∈ x.f2, p.f0 = 0 ∨ p.f0 = 1 ∨ p.f0 = 2 ∨ p.f0 = 3 ∨ p.f0 = 4 := fun p hm => (kindF (hp p hm)).1
    have hcl := hw.cls
    obtain ⟨k, c, ps, lo, hi⟩ := x
    dsimp only at hk h23 h4 h01 hlh hem hp hr hks hcl
    have hsh : showT ⟨k, c, ps, lo, hi⟩ = nodeX k c (showL k ps) lo hi := by rw [showT]
    have hatom : (k = 1 ∨ k = 4) → ∀ i L, At s i (showT ⟨k, c, ps, lo, hi⟩) → Rds s i (showT ⟨k, c, ps, lo, hi⟩) L (L.put ⟨k, c, ps, lo, hi⟩) := by
      intro hka i L hA
      rw [hsh] at hA ⊢
      rcases hka with rfl | rfl
      · unfold nodeX at hA ⊢
        rw [if_pos rfl] at hA ⊢
        have e1 := h01 (.inr rfl)
        have e2 := hlh (by decide)
        rw [e1, e2.1, e2.2]
        exact set_row hcl hA L
      · obtain ⟨e1, e2, e3, e4⟩ := h4 rfl
        match ps, e1 with
        | [p], _ =>
          have hc0 := emptyC (hem (by decide))
          subst hc0
          unfold nodeX at hA ⊢
          rw [if_neg (by decide), if_neg (by decide), if_pos rfl, showL, showL] at hA ⊢
          have h1 := (hr p (by simp)).elem (hks p (by simp)) (show (4 : Int) ≠ 3 by decide) L hA.left
          have h2 := times_row e2 e3 e4 hA.right (L := L.put p) (by unfold Lv.put; simp)
          have h3 := h1.trans h2
          have e : (L.put p).rep lo hi = L.put ⟨4, ⟨0, 0, 0, 0⟩, [p], lo, hi⟩ := by
            unfold Lv.rep Lv.put
            dsimp only
            rw [List.dropLast_concat, List.getLastD_concat]
            rfl
          rw [e] at h3
          exact h3
    by_cases hka : k = 1 ∨ k = 4
    · refine ⟨hatom, fun i hA => ⟨_, hatom hka i ⟨[], []⟩ hA, done_one _⟩, fun _ i rows hA => ⟨_, hatom hka i ⟨rows, []⟩ hA, rfl⟩⟩
    · have hc0 := emptyC (hem (by omega))
      have hlo := hlh (by omega)
      obtain ⟨e1, e2⟩ := hlo
      subst hc0 e1 e2
      by_cases k3 : k = 3
      · subst k3
        have hlen := h23 (.inr rfl)
        refine ⟨hatom, fun i hA => ?_, fun h => absurd rfl h⟩
        rw [hsh] at hA ⊢
        unfold nodeX at hA ⊢
        rw [if_neg (by decide), if_pos rfl] at hA ⊢
        obtain ⟨L', h1, h2⟩ := alt_rows ps hr (by intro e; rw [e] at hlen; simp at hlen) i [] hA
        refine ⟨L', h1, ?_⟩
        unfold Lv.done
        rw [h2, List.nil_append]
        match ps, hlen with
        | x :: y :: r, _ => rfl
      · have hrow : ∀ i rows, At s i (showT ⟨k, ⟨0, 0, 0, 0⟩, ps, 0, 0⟩) → Rds s i (showT ⟨k, ⟨0, 0, 0, 0⟩, ps, 0, 0⟩) ⟨rows, []⟩ ⟨rows, ps⟩ := by
          intro i rows hA
          rw [hsh] at hA ⊢
          unfold nodeX at hA ⊢
          rw [if_neg (by omega), if_neg k3, if_neg (by omega)] at hA ⊢
          exact cat_row ps hr hks k3 i ⟨rows, []⟩ hA
        have hone : oneN 2 ps = ⟨k, ⟨0, 0, 0, 0⟩, ps, 0, 0⟩ := by
          rcases (show k = 0 ∨ k = 2 by omega) with rfl | rfl
          · rw [h01 (.inl rfl)]; rfl
          · have hlen := h23 (.inl rfl)
            match ps, hlen with
            | x :: y :: r, _ => rfl
        refine ⟨hatom, fun i hA => ⟨_, hrow i [] hA, ?_⟩, fun _ i rows hA => ⟨ps, hrow i rows hA, hone⟩⟩
        show oneN 3 ([] ++ [oneN 2 ps]) = _
        rw [hone]
        rfl
end
/-- What is written of a tree is read as it. -/
theorem show_parse (x : T) (hf : formedT x = true) (hw : okW x) (s : ByteArray) (hs : At s 0 (showT x)) (hz : s.size = (showT x).length) : parseS s = if s.size > 400 ∨ wideT x then ⟨zN, 0, 3⟩ else ⟨x, 0, 0⟩ := by
  by_cases hb : s.size > 400
  · rw [if_pos (.inl hb)]
    unfold parseS
    rw [if_pos hb]
  · obtain ⟨L', h1, h2⟩ := (red_any (s := s) _ x (Nat.lt_succ_self _) hf hw).lev 0 hs
    have h3 := h1 0 []
    rw [Nat.zero_add, ← hz] at h3
    rw [parse_at_end (by omega) h3, h2]
    by_cases hwd : wideT x
    · rw [if_pos hwd, if_pos (.inr hwd)]
    · rw [if_neg hwd, if_neg (by rintro (h | h); exact hb h; exact hwd h)]
end Go.Proofs.YtaohlmcgaggoeaaDoor.P
