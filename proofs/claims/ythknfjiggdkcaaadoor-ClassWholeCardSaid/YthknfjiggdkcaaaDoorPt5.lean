/- Where a byte's part stands, plainly. -/
import Derived.Test.YthknfjiggdkcaaaDoorPt4
namespace Go.Proofs.YthknfjiggdkcaaaDoor
open Go.RowKit
set_option linter.unusedVariables false
set_option linter.unusedSimpArgs false

/-- Which part a byte is in, once the bytes before b are dealt with. -/
noncomputable def idx (l : List Cw) : Nat → Nat → Nat
  | 0, _ => 0
  | b + 1, q => if dn l b q then idx l b q else (firsts l b).length
theorem dn_mono {l : List Cw} {b q : Nat} (h : dn l b q = true) : dn l (b + 1) q = true := by rw [dn_succ, h]; rfl
theorem dn_self {l : List Cw} {b q : Nat} (h : q < b) : dn l b q = true := dn_iff.2 ⟨q, h, rfl⟩
theorem dn_congr {l : List Cw} {b q q' : Nat} (h : key l q = key l q') : dn l b q = dn l b q' := by
  rw [Bool.eq_iff_iff, dn_iff, dn_iff]
  constructor
  · rintro ⟨p, hp, e⟩; exact ⟨p, hp, e.trans h⟩
  · rintro ⟨p, hp, e⟩; exact ⟨p, hp, e.trans h.symm⟩
theorem idx_congr {l : List Cw} {q q' : Nat} (h : key l q = key l q') : ∀ b, idx l b q = idx l b q'
  | 0 => rfl
  | b + 1 => by rw [idx, idx, dn_congr h, idx_congr h b]
/-- The part in which a byte is, is that of a byte with its key. -/
theorem idx_at {l : List Cw} : ∀ b q, dn l b q = true → ∃ h : idx l b q < (firsts l b).length, key l ((firsts l b)[idx l b q]) = key l q
  | 0, q, h => by rw [dn_zero] at h; cases h
  | b + 1, q, h => by
    by_cases hb : dn l b q = true
    · obtain ⟨h1, h2⟩ := idx_at b q hb
      have e : idx l (b + 1) q = idx l b q := by rw [idx, if_pos hb]
      simp only [e]
      by_cases hd : dn l b b = true
      · have e2 : firsts l (b + 1) = firsts l b := by rw [firsts, if_pos hd]
        simp only [e2]
        exact ⟨h1, h2⟩
      · have e2 : firsts l (b + 1) = firsts l b ++ [b] := by rw [firsts, if_neg hd]
        simp only [e2]
        refine ⟨by rw [List.length_append]; omega, ?_⟩
        rw [List.getElem_append_left h1]
        exact h2
    · have e : idx l (b + 1) q = (firsts l b).length := by rw [idx, if_neg hb]
      have hk : key l b = key l q := by
        rw [dn_succ] at h
        simp only [Bool.or_eq_true] at h
        exact tog_iff.1 (h.resolve_left hb)
      have hd : ¬ dn l b b = true := by rw [dn_congr hk]; exact hb
      have e2 : firsts l (b + 1) = firsts l b ++ [b] := by rw [firsts, if_neg hd]
      simp only [e, e2]
      refine ⟨by simp, ?_⟩
      rw [List.getElem_append_right (Nat.le_refl _)]
      simpa using hk
/-- Parts begin at bytes before b, which are in their own parts. -/
theorem firsts_at {l : List Cw} : ∀ b i (h : i < (firsts l b).length), (firsts l b)[i] < b ∧ idx l b ((firsts l b)[i]) = i
  | 0, i, h => by simp [firsts] at h
  | b + 1, i, h => by
    by_cases hd : dn l b b = true
    · have e2 : firsts l (b + 1) = firsts l b := by rw [firsts, if_pos hd]
      have h' : i < (firsts l b).length := by rw [e2] at h; exact h
      obtain ⟨h1, h2⟩ := firsts_at b i h'
      simp only [e2]
      exact ⟨by omega, by rw [idx, if_pos (dn_self h1)]; exact h2⟩
    · have e2 : firsts l (b + 1) = firsts l b ++ [b] := by rw [firsts, if_neg hd]
      simp only [e2] at h ⊢
      by_cases hi : i < (firsts l b).length
      · obtain ⟨h1, h2⟩ := firsts_at b i hi
        rw [List.getElem_append_left hi]
        exact ⟨by omega, by rw [idx, if_pos (dn_self h1)]; exact h2⟩
      · have hi2 : i = (firsts l b).length := by simp at h; omega
        subst hi2
        rw [List.getElem_append_right (Nat.le_refl _)]
        simp only [Nat.sub_self, List.getElem_cons_zero]
        exact ⟨by omega, by rw [idx, if_neg hd]⟩
/-- What split makes is what the reference makes: of part i the bytes are those with the key of its first. -/
theorem part_same {l : List Cw} (i : Nat) (h : i < (firsts l 256).length) (q : Nat) (hq : q < 256) : decide (idx l 256 q = i) = togB l ((firsts l 256)[i]) q := by
  rw [Bool.eq_iff_iff, decide_eq_true_iff, tog_iff]
  constructor
  · intro e
    subst e
    obtain ⟨_, h2⟩ := idx_at 256 q (dn_self hq)
    exact h2
  · intro e
    rw [← idx_congr e 256]
    exact (firsts_at 256 i h).2
end Go.Proofs.YthknfjiggdkcaaaDoor
