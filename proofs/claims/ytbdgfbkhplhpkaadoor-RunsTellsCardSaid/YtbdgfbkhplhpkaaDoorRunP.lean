/- Words joined, plainly; words of runs in memory. -/
import Derived.Test.YtbdgfbkhplhpkaaDoorRunJ
namespace Go.Proofs.YtbdgfbkhplhpkaaDoor
open Go.RowKit
set_option linter.unusedVariables false
set_option linter.unusedSimpArgs false

def AllG (rs : List Rn) : Prop := ∀ i, i < rs.length → Good rs i
def tot (rs : List Rn) : Int := sumT rs rs.length
theorem sumT_left (rs ss : List Rn) : ∀ k, k ≤ rs.length → sumT (rs ++ ss) k = sumT rs k
  | 0, _ => rfl
  | k + 1, h => by rw [sumT, sumT, sumT_left rs ss k (by omega), (rB_left rs ss (by omega)).2]
theorem tot_snoc (rs : List Rn) (r : Rn) : tot (rs ++ [r]) = tot rs + r.2 := by
  unfold tot
  rw [List.length_append, List.length_singleton, sumT, sumT_left rs [r] _ (Nat.le_refl _), (rB_last rs r).2]
theorem good_left {rs ss : List Rn} {i : Nat} (hi : i < rs.length) (h : Good rs i) : Good (rs ++ ss) i := by
  unfold Good at *
  rw [(rB_left rs ss hi).1, (rB_left rs ss hi).2, sumT_left rs ss i (by omega)]
  refine ⟨h.1, h.2.1, fun h0 => ?_⟩
  rw [(rB_left rs ss (show i - 1 < rs.length by omega)).1]
  exact h.2.2 h0
theorem good_of_left {rs ss : List Rn} {i : Nat} (hi : i < rs.length) (h : Good (rs ++ ss) i) : Good rs i := by
  unfold Good at *
  rw [(rB_left rs ss hi).1, (rB_left rs ss hi).2, sumT_left rs ss i (by omega)] at h
  refine ⟨h.1, h.2.1, fun h0 => ?_⟩
  have := h.2.2 h0
  rwa [(rB_left rs ss (show i - 1 < rs.length by omega)).1] at this
theorem allG_snoc {rs : List Rn} {r : Rn} (h : AllG rs) (h1 : 1 ≤ r.2) (h2 : tot rs + r.2 ≤ 4611686018427387904) (h3 : rs ≠ [] → rB rs (rs.length - 1) ≠ r.1) : AllG (rs ++ [r]) := by
  intro i hi
  by_cases e : i < rs.length
  · exact good_left e (h i e)
  · have e2 : i = rs.length := by simp at hi; omega
    subst e2
    unfold Good
    rw [(rB_last rs r).1, (rB_last rs r).2, sumT_left rs [r] _ (Nat.le_refl _)]
    refine ⟨h1, by unfold tot at h2; omega, fun h0 => ?_⟩
    rw [(rB_left rs [r] (show rs.length - 1 < rs.length by omega)).1]
    exact h3 (by intro e; subst e; simp at h0)
theorem allG_left {rs ss : List Rn} (h : AllG (rs ++ ss)) : AllG rs := fun i hi => good_of_left hi (h i (by simp; omega))
theorem putR_facts {rs : List Rn} {r : Rn} (h : AllG rs) (h1 : 1 ≤ r.2) (h2 : tot rs + r.2 ≤ 4611686018427387904) :
    AllG (putR rs r) ∧ tot (putR rs r) = tot rs + r.2 ∧ rs.length ≤ (putR rs r).length ∧ (putR rs r).length ≤ rs.length + 1 := by
  by_cases h0 : rs = []
  · subst h0
    rw [putR_nil]
    have e : tot [r] = tot [] + r.2 := tot_snoc [] r
    exact ⟨allG_snoc (rs := []) (fun i hi => by simp at hi) h1 h2 (fun h => absurd rfl h), e, by simp, by simp⟩
  · obtain ⟨b', T'⟩ := r
    obtain ⟨ss, ⟨b, T⟩, rfl⟩ : ∃ ss x, rs = ss ++ [x] := ⟨_, _, snoc_of rs h0⟩
    have hl := rB_last ss (b, T)
    have hg := h ss.length (by simp)
    unfold Good at hg
    rw [hl.2, sumT_left ss _ _ (Nat.le_refl _)] at hg
    rw [tot_snoc] at h2
    by_cases hb : b = b'
    · subst hb
      rw [putR_same]
      refine ⟨allG_snoc (allG_left h) (by simp at h1 hg ⊢; omega) (by simp at h1 h2 ⊢; omega) fun hne => ?_, by rw [tot_snoc, tot_snoc]; simp; omega, by simp, by simp⟩
      have h3 := hg.2.2 (by cases ss with | nil => exact absurd rfl hne | cons a l => simp)
      rw [hl.1, (rB_left ss _ (show ss.length - 1 < ss.length by cases ss with | nil => exact absurd rfl hne | cons a l => simp)).1] at h3
      exact h3
    · rw [putR_other ss b b' T T' hb]
      refine ⟨allG_snoc h h1 (by rw [tot_snoc]; exact h2) fun _ => ?_, tot_snoc _ _, by simp, by simp⟩
      have e : (ss ++ [(b, T)]).length - 1 = ss.length := by simp
      rw [e, hl.1]
      exact hb
def putW (rs w : List Rn) : List Rn := w.foldl putR rs
theorem putW_snoc (rs w : List Rn) (r : Rn) : putW rs (w ++ [r]) = putR (putW rs w) r := by unfold putW; rw [List.foldl_append]; rfl
theorem tot_cons (r : Rn) (w : List Rn) : tot (r :: w) = r.2 + tot w := by
  have key : ∀ (ys : List Rn), ∀ xs, tot (xs ++ ys) = tot xs + tot ys := by
    intro ys
    induction ys with
    | nil => intro xs; simp [tot, sumT]
    | cons y ys ih =>
      intro xs
      rw [show xs ++ y :: ys = (xs ++ [y]) ++ ys by simp, ih, tot_snoc]
      have := ih [y]
      rw [show [y] ++ ys = y :: ys by rfl] at this
      rw [this, show tot [y] = y.2 from by have := tot_snoc [] y; simpa [tot, sumT] using this]
      omega
  have h := key w [r]
  rw [show [r] ++ w = r :: w from rfl] at h
  rw [h, show tot [r] = r.2 from by have := tot_snoc [] r; simpa [tot, sumT] using this]
theorem putW_facts : ∀ (w : List Rn) (rs : List Rn), AllG rs → (∀ r ∈ w, 1 ≤ r.2) → tot rs + tot w ≤ 4611686018427387904 →
    AllG (putW rs w) ∧ tot (putW rs w) = tot rs + tot w ∧ rs.length ≤ (putW rs w).length ∧ (putW rs w).length ≤ rs.length + w.length
  | [], rs, h, _, _ => ⟨h, by simp [putW, tot, sumT], Nat.le_refl _, Nat.le_refl _⟩
  | r :: w, rs, h, h1, h2 => by
    rw [tot_cons] at h2
    have hr := h1 r (by simp)
    have hw : 0 ≤ tot w := by
      have : ∀ l : List Rn, (∀ r ∈ l, 1 ≤ r.2) → 0 ≤ tot l := by
        intro l
        induction l with
        | nil => intro _; simp [tot, sumT]
        | cons a l ih => intro h; rw [tot_cons]; have := ih (fun r hr => h r (by simp [hr])); have := h a (by simp); omega
      exact this w (fun r hr => h1 r (by simp [hr]))
    obtain ⟨a1, a2, a3, a4⟩ := putR_facts h hr (by omega)
    obtain ⟨b1, b2, b3, b4⟩ := putW_facts w (putR rs r) a1 (fun r hr => h1 r (by simp [hr])) (by omega)
    refine ⟨b1, ?_, ?_, ?_⟩
    · show tot (putW (putR rs r) w) = _
      rw [b2, a2, tot_cons]; omega
    · show _ ≤ (putW (putR rs r) w).length
      omega
    · show (putW (putR rs r) w).length ≤ _
      simp only [List.length_cons]
      omega
theorem allG_mem {w : List Rn} (h : AllG w) : ∀ r ∈ w, 1 ≤ r.2 := by
  intro r hr
  obtain ⟨i, hi, e⟩ := List.getElem_of_mem hr
  have := (h i hi).1
  simpa [rT, List.getD_eq_getElem?_getD, List.getElem?_eq_getElem hi, e] using this
def joinW (rs : List Rn) (ws : List (List Rn)) : List Rn := ws.foldl putW rs
theorem joinW_snoc (rs : List Rn) (ws : List (List Rn)) (w : List Rn) : joinW rs (ws ++ [w]) = putW (joinW rs ws) w := by unfold joinW; rw [List.foldl_append]; rfl
def totW (ws : List (List Rn)) : Int := (ws.map tot).sum
/-- Words that are formed, none too great. -/
def Fine (ws : List (List Rn)) : Prop := ∀ w ∈ ws, RunsF w ∧ tot w ≤ 288230376151711744
theorem joinW_facts : ∀ (ws : List (List Rn)) (rs : List Rn), AllG rs → Fine ws → tot rs + 288230376151711744 * ws.length ≤ 4611686018427387904 →
    AllG (joinW rs ws) ∧ tot (joinW rs ws) = tot rs + totW ws ∧ rs.length ≤ (joinW rs ws).length
  | [], rs, h, _, _ => ⟨h, by simp [joinW, totW], Nat.le_refl _⟩
  | w :: ws, rs, h, hf, hb => by
    obtain ⟨f1, f2⟩ := hf w (by simp)
    simp only [List.length_cons] at hb
    obtain ⟨a1, a2, a3, _⟩ := putW_facts w rs h (allG_mem f1.1) (by omega)
    obtain ⟨b1, b2, b3⟩ := joinW_facts ws (putW rs w) a1 (fun x hx => hf x (by simp [hx])) (by omega)
    refine ⟨b1, ?_, ?_⟩
    · show tot (joinW (putW rs w) ws) = _
      rw [b2, a2]; simp [totW]; omega
    · show _ ≤ (joinW (putW rs w) ws).length
      omega
/-- The slice of words of address A. -/
structure Ws (w : World) (A : Option Addr) (c : Nat) (ws : List (List Rn)) : Prop where
  cap : ws.length ≤ c
  max : c ≤ 9223372036854775807
  nil : A = none → c = 0
  cell : ∀ ad, A = some ad → ∀ j (h : j < ws.length), ∃ B d, w.cell? (ad.add j) = some (.slice B ws[j].length d) ∧ Rs w B d ws[j]
theorem Ws.below {w w' : World} {A : Option Addr} {c : Nat} {ws : List (List Rn)} (h : Ws w A c ws) (hb : Below w.heap.size w w') : Ws w' A c ws :=
  ⟨h.cap, h.max, h.nil, fun ad e j hj => by
    obtain ⟨B, d, h1, h2⟩ := h.cell ad e j hj
    exact ⟨B, d, (hb.cell (World.block_lt_of_cell? w _ h1)).trans h1, h2.below hb⟩⟩
theorem Ws.at_ {w : World} {A : Option Addr} {c : Nat} {ws : List (List Rn)} (h : Ws w A c ws) {j : Nat} (hj : j < ws.length) : ∃ ad B d, A = some ad ∧ w.cell? (ad.add j) = some (.slice B ws[j].length d) ∧ Rs w B d ws[j] := by
  cases A with
  | none => have := h.nil rfl; have := h.cap; omega
  | some ad => obtain ⟨B, d, h1, h2⟩ := h.cell ad rfl j hj; exact ⟨ad, B, d, rfl, h1, h2⟩
end Go.Proofs.YtbdgfbkhplhpkaaDoor
