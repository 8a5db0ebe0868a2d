/- Layer 5, plain: scopes around positions rise, and those around two come first in both. No memory in sight. -/
import Derived.Test.YtlnhiogpjdhhbaaL05c
namespace Go.Proofs.Ytlnhiogpjdhhbaa.P
open Go.RowKit Go.Proofs.YtlnhiogpjdhhbaaW.PrintWords Go.Proofs.YtlnhiogpjdhhbaaW.PrintLast Go.Proofs.YtlnhiogpjdhhbaaW.PrintMore
set_option linter.unusedVariables false
set_option linter.unusedSimpArgs false

/-- A list of scopes: each with those around it, as ch tells; rising; below N. -/
structure OkL (ch : Int → List Int) (N : Nat) (l : List Int) : Prop where
  chain : ∀ i (h : i < l.length), l.take (i + 1) = ch l[i]
  rise : ∀ i (h : i + 1 < l.length), l[i] < l[i + 1]
  bound : ∀ i (h : i < l.length), 0 ≤ l[i] ∧ l[i] < N
theorem OkL.nil (ch : Int → List Int) (N : Nat) : OkL ch N [] := ⟨fun i h => by simp at h, fun i h => by simp at h, fun i h => by simp at h⟩
theorem OkL.mono {ch ch' : Int → List Int} {N N' : Nat} {l : List Int} (h : OkL ch N l) (hc : ∀ v : Int, 0 ≤ v → v < N → ch' v = ch v) (hn : N ≤ N') : OkL ch' N' l :=
  ⟨fun i hi => by obtain ⟨a, b⟩ := h.bound i hi; rw [h.chain i hi, hc _ a b], h.rise, fun i hi => by obtain ⟨a, b⟩ := h.bound i hi; omega⟩
theorem OkL.snoc {ch : Int → List Int} {N : Nat} {l : List Int} (h : OkL ch N l) : OkL (fun v => if v = N then l ++ [(N : Int)] else ch v) (N + 1) (l ++ [(N : Int)]) := by
  refine ⟨fun i hi => ?_, fun i hi => ?_, fun i hi => ?_⟩
  · by_cases e : i < l.length
    · obtain ⟨a, b⟩ := h.bound i e
      rw [List.take_append_of_le_length (by omega), List.getElem_append_left e, h.chain i e]
      show _ = if l[i] = (N : Int) then _ else _
      rw [if_neg (by omega)]
    · have e2 : i = l.length := by simp at hi; omega
      subst e2
      rw [List.take_of_length_le (by simp)]
      show _ = if (l ++ [(N : Int)])[l.length] = (N : Int) then _ else _
      rw [if_pos (by simp)]
  · by_cases e : i + 1 < l.length
    · rw [List.getElem_append_left e, List.getElem_append_left (by omega)]
      exact h.rise i e
    · have e2 : i + 1 = l.length := by simp at hi; omega
      have e3 : (l ++ [(N : Int)])[i + 1] = (N : Int) := by simp [e2]
      rw [e3, List.getElem_append_left (by omega)]
      exact (h.bound i (by omega)).2
  · by_cases e : i < l.length
    · rw [List.getElem_append_left e]
      obtain ⟨a, b⟩ := h.bound i e
      omega
    · have e2 : i = l.length := by simp at hi; omega
      have e3 : (l ++ [(N : Int)])[i] = (N : Int) := by simp [e2]
      rw [e3]; omega
def GdM (ch : Int → List Int) (m : Mp) : Prop := ∀ l ∈ m.ars, OkL ch m.scs.length l
theorem mp_gd (al : List Int) (x : S27) (m : Mp) (ch : Int → List Int) (ha : OkL ch m.scs.length al) (hm : GdM ch m) :
    ∃ ch', (∀ v : Int, 0 ≤ v → v < m.scs.length → ch' v = ch v) ∧ OkL ch' (mp2 x (mp1 al x m)).scs.length (al2 al x m) ∧ GdM ch' (mp2 x (mp1 al x m)) := by
  have h1 : GdM ch (mp1 al x m) ∧ (mp1 al x m).scs = m.scs := by
    unfold mp1
    split
    · refine ⟨fun l hl => ?_, rfl⟩
      rcases List.mem_append.1 hl with hl | hl
      · exact hm l hl
      · rw [List.mem_singleton] at hl
        subst hl
        exact ha
    · exact ⟨hm, rfl⟩
  obtain ⟨h1, h2⟩ := h1
  generalize mp1 al x m = m1 at *
  unfold mp2 al2
  cases ctB x with
  | true =>
    rw [if_pos rfl, if_pos rfl]
    refine ⟨fun v => if v = m.scs.length then al ++ [(m.scs.length : Int)] else ch v, fun v h0 hv => if_neg (by omega), ?_, ?_⟩
    · rw [show (m1.scs ++ [scO x]).length = m.scs.length + 1 by rw [List.length_append, h2]; rfl]
      exact ha.snoc
    · intro l hl
      refine (h1 l hl).mono (fun v h0 hv => if_neg ?_) (by simp)
      rw [h2] at hv
      omega
  | false =>
    rw [if_neg (by decide), if_neg (by decide)]
    exact ⟨ch, fun _ _ _ => rfl, by rw [h2]; exact ha, h1⟩
mutual
theorem walkT_gd : ∀ (al : List Int) (x : S27) (m : Mp) (ch : Int → List Int), OkL ch m.scs.length al → GdM ch m → ∃ ch', (∀ v : Int, 0 ≤ v → v < m.scs.length → ch' v = ch v) ∧ GdM ch' (walkT al x m)
  | al, ⟨k, s, ps, lo, hi⟩, m, ch, ha, hm => by
    rw [walkT]
    obtain ⟨ch1, e1, a1, g1⟩ := mp_gd al ⟨k, s, ps, lo, hi⟩ m ch ha hm
    obtain ⟨ch2, e2, g2⟩ := walkL_gd _ ps _ ch1 a1 g1
    have hle := (mp12_ext al ⟨k, s, ps, lo, hi⟩ m).scs.length_le
    exact ⟨ch2, fun v h0 hv => (e2 v h0 (by omega)).trans (e1 v h0 hv), g2⟩
theorem walkL_gd : ∀ (al : List Int) (ps : List S27) (m : Mp) (ch : Int → List Int), OkL ch m.scs.length al → GdM ch m → ∃ ch', (∀ v : Int, 0 ≤ v → v < m.scs.length → ch' v = ch v) ∧ GdM ch' (walkL al ps m)
  | al, [], m, ch, ha, hm => by rw [walkL]; exact ⟨ch, fun _ _ _ => rfl, hm⟩
  | al, p :: ps, m, ch, ha, hm => by
    rw [walkL]
    obtain ⟨ch1, e1, g1⟩ := walkT_gd al p m ch ha hm
    have hle := (walkT_ext al p m).scs.length_le
    obtain ⟨ch2, e2, g2⟩ := walkL_gd al ps _ ch1 (ha.mono e1 hle) g1
    exact ⟨ch2, fun v h0 hv => (e2 v h0 (by omega)).trans (e1 v h0 hv), g2⟩
end
theorem ofM_gd (x : S27) : ∃ ch, GdM ch (ofM x) := by
  obtain ⟨ch, _, h⟩ := walkT_gd [] (simpleT x) m0 (fun _ => []) (OkL.nil _ _) (fun l hl => by
    simp only [m0, List.mem_singleton] at hl
    subst hl
    exact OkL.nil _ _)
  exact ⟨ch, h⟩
/-- Of two lists: behind what they begin with, they have nothing in common. -/
theorem apart_law {ch : Int → List Int} {N : Nat} {a b : List Int} (ha : OkL ch N a) (hb : OkL ch N b) {n : Nat} (hn : n = a.length ∨ n = b.length ∨ ∃ (h1 : n < a.length) (h2 : n < b.length), a[n] ≠ b[n])
    {i k : Nat} (hi : i < a.length) (hk : k < b.length) (h1 : n ≤ i) (h2 : n ≤ k) : a[i] ≠ b[k] := by
  intro e
  have e1 := ha.chain i hi
  have e2 := hb.chain k hk
  rw [e, ← e2] at e1
  have hl := congrArg List.length e1
  rw [List.length_take, List.length_take] at hl
  have hik : i = k := by omega
  subst hik
  rcases hn with hn | hn | ⟨q1, q2, hn⟩
  · omega
  · omega
  · apply hn
    have t1 : (a.take (i + 1))[n]? = a[n]? := by rw [List.getElem?_take, if_pos (by omega)]
    have t2 : (b.take (i + 1))[n]? = b[n]? := by rw [List.getElem?_take, if_pos (by omega)]
    rw [e1, t2, List.getElem?_eq_getElem q1, List.getElem?_eq_getElem q2] at t1
    exact (Option.some.inj t1).symm
end Go.Proofs.Ytlnhiogpjdhhbaa.P
