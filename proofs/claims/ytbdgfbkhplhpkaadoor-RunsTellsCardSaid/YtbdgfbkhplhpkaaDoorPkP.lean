/- Words packed, plainly. -/
import Derived.Test.YtbdgfbkhplhpkaaDoorUnp
namespace Go.Proofs.YtbdgfbkhplhpkaaDoor
open Go.RowKit
set_option linter.unusedVariables false
set_option linter.unusedSimpArgs false

theorem snoc_ind {α : Type} {Q : List α → Prop} (h0 : Q []) (h1 : ∀ l b, Q l → Q (l ++ [b])) (l : List α) : Q l := by
  have key : ∀ m : List α, Q m.reverse := by
    intro m
    induction m with
    | nil => exact h0
    | cons a m ih => rw [List.reverse_cons]; exact h1 _ _ ih
  have := key l.reverse
  rwa [List.reverse_reverse] at this
/-- The runs of a word. -/
def packR (l : List UInt8) : List Rn := l.foldl (fun rs b => putR rs (b, 1)) []
theorem packR_snoc (l : List UInt8) (b : UInt8) : packR (l ++ [b]) = putR (packR l) (b, 1) := by unfold packR; rw [List.foldl_append]; rfl
theorem packF (l : List UInt8) : l.length ≤ 1000000 → AllG (packR l) ∧ tot (packR l) = l.length := by
  refine snoc_ind (Q := fun l => l.length ≤ 1000000 → AllG (packR l) ∧ tot (packR l) = l.length) ?_ ?_ l
  · exact fun _ => ⟨fun i hi => by simp [packR] at hi, rfl⟩
  · intro l b ih hl
    simp at hl
    obtain ⟨h1, h2⟩ := ih (by omega)
    have h3 := putR_facts (rs := packR l) (r := (b, 1)) h1 (by simp) (by rw [h2]; simp; omega)
    rw [packR_snoc]
    exact ⟨h3.1, by rw [h3.2.1, h2]; simp⟩
theorem pack_step (l : List UInt8) (hl : l.length ≤ 1000000) (b : UInt8) : (packR l).length ≤ (packR (l ++ [b])).length := by
  obtain ⟨h1, h2⟩ := packF l hl
  rw [packR_snoc]
  exact (putR_facts (rs := packR l) (r := (b, 1)) h1 (by simp) (by rw [h2]; simp; omega)).2.2.1
theorem pack_len (l : List UInt8) (hl : l.length ≤ 1000000) (k : Nat) : (packR (l.take k)).length ≤ (packR l).length := by
  have key : ∀ m : List UInt8, ∀ l : List UInt8, (l ++ m).length ≤ 1000000 → (packR l).length ≤ (packR (l ++ m)).length := by
    intro m
    induction m with
    | nil => intro l _; simp
    | cons b m ih =>
      intro l h
      have h1 := pack_step l (by simp at h; omega) b
      have h2 := ih (l ++ [b]) (by simpa using h)
      simp only [List.append_assoc, List.singleton_append] at h2
      omega
  have := key (l.drop k) (l.take k) (by rw [List.take_append_drop]; exact hl)
  rwa [List.take_append_drop] at this
/-- Runs whose last is not of byte b. -/
def Ends (rs : List Rn) (b : UInt8) : Prop := rs ≠ [] → rB rs (rs.length - 1) ≠ b
theorem putR_new {rs : List Rn} {b : UInt8} (h : Ends rs b) (T : Int) : putR rs (b, T) = rs ++ [(b, T)] := by
  unfold putR
  rw [dif_neg]
  rintro ⟨h1, h2⟩
  exact h h1 h2
theorem pack_group (rs : List Rn) (b : UInt8) (h : Ends rs b) : ∀ m : Nat, (List.replicate (m + 1) b).foldl (fun rs b => putR rs (b, 1)) rs = rs ++ [(b, ((m + 1 : Nat) : Int))]
  | 0 => by simp [putR_new h]
  | m + 1 => by
    rw [List.replicate_succ', List.foldl_append, pack_group rs b h m]
    simp only [List.foldl_cons, List.foldl_nil]
    rw [putR_same]
    congr 3
theorem unp_put {rs : List Rn} (h : AllG rs) (b : UInt8) : unp (putR rs (b, 1)) = unp rs ++ [b] := by
  by_cases h0 : rs = []
  · subst h0
    rw [putR_nil]
    rfl
  · obtain ⟨ss, ⟨b', T⟩, rfl⟩ : ∃ ss x, rs = ss ++ [x] := ⟨_, _, snoc_of rs h0⟩
    by_cases hb : b' = b
    · subst hb
      have hT : 1 ≤ T := allG_mem h (b', T) (by simp)
      obtain ⟨t, rfl⟩ : ∃ t : Nat, T = (t : Int) := ⟨T.toNat, by omega⟩
      rw [putR_same, unp_append, unp_append]
      simp [unp]
      rw [List.replicate_succ']
    · rw [putR_other ss b' b T 1 hb, unp_append]
      rfl
theorem unp_pack (l : List UInt8) : l.length ≤ 1000000 → unp (packR l) = l := by
  refine snoc_ind (Q := fun l => l.length ≤ 1000000 → unp (packR l) = l) ?_ ?_ l
  · exact fun _ => rfl
  · intro l b ih hl
    simp at hl
    rw [packR_snoc, unp_put (packF l (by omega)).1, ih (by omega)]
theorem pack_last (l : List UInt8) (b : UInt8) (hl : l.length ≤ 1000000) : packR (l ++ [b]) ≠ [] ∧ rB (packR (l ++ [b])) ((packR (l ++ [b])).length - 1) = b := by
  rw [packR_snoc]
  by_cases h : packR l ≠ [] ∧ rB (packR l) ((packR l).length - 1) = b
  · unfold putR
    rw [dif_pos h]
    refine ⟨by simp, ?_⟩
    have := (rB_last (packR l).dropLast (b, rT (packR l) ((packR l).length - 1) + 1)).1
    simpa using this
  · unfold putR
    rw [dif_neg h]
    refine ⟨by simp, ?_⟩
    have := (rB_last (packR l) (b, 1)).1
    simpa using this
end Go.Proofs.YtbdgfbkhplhpkaaDoor
