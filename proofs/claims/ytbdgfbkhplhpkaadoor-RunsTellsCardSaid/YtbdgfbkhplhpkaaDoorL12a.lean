/- RunsJoins: what it keeps, plainly; what Join answers. -/
import Derived.Test.YtbdgfbkhplhpkaaDoorRunX
namespace Go.Proofs.YtbdgfbkhplhpkaaDoor
open Go.RowKit
set_option linter.unusedVariables false
set_option linter.unusedSimpArgs false

open Classical in
noncomputable def goodW (ws : List (List Rn)) : Bool := decide (∀ x ∈ ws, RunsF x)
open Classical in
theorem goodW_nil : goodW [] = true := decide_eq_true (fun x h => by cases h)
open Classical in
theorem goodW_of {ws : List (List Rn)} (h : goodW ws = true) : ∀ x ∈ ws, RunsF x := of_decide_eq_true h
open Classical in
theorem goodW_not {ws : List (List Rn)} (h : goodW ws = false) : ∃ x ∈ ws, ¬ RunsF x := by
  have := of_decide_eq_false h
  simpa using this
open Classical in
theorem goodW_snoc (ws : List (List Rn)) (x : List Rn) : goodW (ws ++ [x]) = (goodW ws && runsOk x) := by
  unfold goodW runsOk
  rw [Bool.eq_iff_iff]
  simp only [Bool.and_eq_true, decide_eq_true_eq]
  constructor
  · intro h
    exact ⟨fun y hy => h y (by simp [hy]), h x (by simp)⟩
  · rintro ⟨h1, h2⟩ y hy
    rcases List.mem_append.1 hy with h | h
    · exact h1 y h
    · rw [List.mem_singleton.1 h]; exact h2
noncomputable def sumW (ws : List (List Rn)) : Int := (ws.map runsSum).sum
theorem sumW_snoc (ws : List (List Rn)) (x : List Rn) : sumW (ws ++ [x]) = sumW ws + runsSum x := by simp [sumW]
theorem runsSum_nonneg (x : List Rn) : 0 ≤ runsSum x := by
  by_cases h : RunsF x
  · rw [runsSum_yes h]; exact (sumT_bound h.1).1
  · rw [runsSum_no h]; omega
theorem runsSum_i64 (x : List Rn) : runsSum x ≤ 4611686018427387904 := by
  by_cases h : RunsF x
  · rw [runsSum_yes h]; exact (sumT_bound h.1).2
  · rw [runsSum_no h]; omega
/-- What has been found of the first k words. -/
structure Jl (ws : List (List Rn)) (k : Nat) : Prop where
  short : ∀ x ∈ ws.take k, x.length ≤ 60
  small : ∀ x ∈ ws.take k, runsSum x ≤ 288230376151711744
theorem Jl.zero (ws : List (List Rn)) : Jl ws 0 := ⟨fun x h => by simp at h, fun x h => by simp at h⟩
theorem Jl.step {ws : List (List Rn)} {k : Nat} (h : Jl ws k) (hk : k < ws.length) (h1 : ws[k].length ≤ 60) (h2 : runsSum ws[k] ≤ 288230376151711744) : Jl ws (k + 1) := by
  constructor
  · intro x hx
    rw [take_snoc ws hk] at hx
    rcases List.mem_append.1 hx with h' | h'
    · exact h.short x h'
    · rw [List.mem_singleton.1 h']; exact h1
  · intro x hx
    rw [take_snoc ws hk] at hx
    rcases List.mem_append.1 hx with h' | h'
    · exact h.small x h'
    · rw [List.mem_singleton.1 h']; exact h2
theorem flat_len : ∀ (ws : List (List Rn)), (∀ x ∈ ws, x.length ≤ 60) → ws.flatten.length ≤ 60 * ws.length
  | [], _ => by simp
  | x :: ws, h => by
    have := flat_len ws (fun y hy => h y (by simp [hy]))
    have := h x (by simp)
    simp only [List.flatten_cons, List.length_append, List.length_cons]
    omega
theorem sum_len : ∀ (ws : List (List Rn)), (∀ x ∈ ws, runsSum x ≤ 288230376151711744) → 0 ≤ sumW ws ∧ sumW ws ≤ 288230376151711744 * ws.length
  | [], _ => by simp [sumW]
  | x :: ws, h => by
    have := sum_len ws (fun y hy => h y (by simp [hy]))
    have := h x (by simp)
    have := runsSum_nonneg x
    unfold sumW at *
    simp only [List.map_cons, List.sum_cons, List.length_cons]
    omega
theorem Jl.len {ws : List (List Rn)} {k : Nat} (h : Jl ws k) : (ws.take k).flatten.length ≤ 60 * k := by
  have h1 := flat_len _ h.short
  rw [List.length_take] at h1
  omega
theorem Jl.sum {ws : List (List Rn)} {k : Nat} (h : Jl ws k) : 0 ≤ sumW (ws.take k) ∧ sumW (ws.take k) ≤ 288230376151711744 * k := by
  have h1 := sum_len _ h.small
  rw [List.length_take] at h1
  omega
theorem Jl.fine {ws : List (List Rn)} (h : Jl ws ws.length) (hg : goodW ws = true) : Fine ws := fun x hx => by
  have h1 := goodW_of hg x hx
  have h2 := h.small x (by rwa [List.take_length])
  rw [runsSum_yes h1] at h2
  exact ⟨h1, h2⟩
theorem sumW_tot : ∀ (ws : List (List Rn)), (∀ x ∈ ws, RunsF x) → sumW ws = totW ws
  | [], _ => rfl
  | x :: ws, h => by
    have := sumW_tot ws (fun y hy => h y (by simp [hy]))
    have h1 := runsSum_yes (h x (by simp))
    unfold sumW totW at *
    simp only [List.map_cons, List.sum_cons]
    rw [this, h1]
    rfl
theorem rB_right (rs ss : List Rn) (q : Nat) : rB (rs ++ ss) (rs.length + q) = rB ss q ∧ rT (rs ++ ss) (rs.length + q) = rT ss q := by
  simp [rB, rT, List.getD_eq_getElem?_getD, List.getElem?_append_right]
theorem flat_at {ws : List (List Rn)} {k : Nat} (hk : k < ws.length) {q : Nat} (hq : q < ws[k].length) :
    (ws.take k).flatten.length + q < ws.flatten.length ∧ rB ws.flatten ((ws.take k).flatten.length + q) = rB ws[k] q ∧ rT ws.flatten ((ws.take k).flatten.length + q) = rT ws[k] q := by
  have e : ws.flatten = (ws.take k).flatten ++ (ws[k] ++ (ws.drop (k + 1)).flatten) := by
    conv => lhs; rw [← List.take_append_drop k ws, List.flatten_append, List.drop_eq_getElem_cons hk, List.flatten_cons]
  rw [e]
  obtain ⟨h1, h2⟩ := rB_right (ws.take k).flatten (ws[k] ++ (ws.drop (k + 1)).flatten) q
  rw [h1, h2, (rB_left ws[k] _ hq).1, (rB_left ws[k] _ hq).2]
  exact ⟨by simp; omega, rfl, rfl⟩
theorem flat_snoc {ws : List (List Rn)} {k : Nat} (hk : k < ws.length) : (ws.take (k + 1)).flatten = (ws.take k).flatten ++ ws[k] := by
  rw [take_snoc ws hk, List.flatten_append]; simp
/-- What Join answered. -/
def JOut (ws : List (List Rn)) (w' : World) (v : Value) (ev : Int) : Prop :=
  (goodW ws = false ∧ v = .slice none 0 0 ∧ ev = 1) ∨ (goodW ws = true ∧ 200 < (joinW [] ws).length ∧ v = .slice none 0 0 ∧ ev = 3) ∨
    (goodW ws = true ∧ (joinW [] ws).length ≤ 200 ∧ ev = 0 ∧ ∃ A c, v = .slice A (joinW [] ws).length c ∧ Rs w' A c (joinW [] ws))
theorem JOut.below {ws : List (List Rn)} {w w' : World} {v : Value} {ev : Int} (h : JOut ws w v ev) (hb : Below w.heap.size w w') : JOut ws w' v ev := by
  rcases h with h | h | ⟨h1, h2, h3, A, c, h4, h5⟩
  · exact .inl h
  · exact .inr (.inl h)
  · exact .inr (.inr ⟨h1, h2, h3, A, c, h4, h5.below hb⟩)
theorem join_any (ws : List (List Rn)) (A : Option Addr) (c : Nat) (w : World) (h : Ws w A c ws) (hT : ∀ x ∈ ws, ∀ i, I64 (rT x i)) (hn : ws.length ≤ 10) (hj : Jl ws ws.length) :
    Calls Tryd.prog 8 #[.slice A ws.length c] w fun e w' => ∃ v ev, e = .returned (.tuple #[v, .int .i64 ev]) ∧ JOut ws w' v ev ∧ Below w.heap.size w w' := by
  cases hg : goodW ws with
  | false =>
    exact (join_bad ws A c w h hT hn (goodW_not hg)).mono fun e w' ⟨he, hb⟩ => ⟨_, _, he, .inl ⟨hg, rfl, rfl⟩, hb⟩
  | true =>
    refine (join_ok ws A c w h (hj.fine hg) hn (fun x hx => hj.short x (by rwa [List.take_length]))).mono fun e w' ⟨he, hb⟩ => ?_
    rcases he with ⟨h1, he⟩ | ⟨h1, v, he, ho⟩
    · exact ⟨_, _, he, .inr (.inl ⟨hg, h1, rfl, rfl⟩), hb⟩
    · obtain ⟨A, c, e1, e2, _⟩ := ho.sl
      exact ⟨_, _, he, .inr (.inr ⟨hg, h1, rfl, A, c, e1, e2⟩), hb⟩
theorem joined {ws : List (List Rn)} (hn : ws.length ≤ 10) (hf : Fine ws) : AllG (joinW [] ws) ∧ tot (joinW [] ws) = sumW ws := by
  have h1 := joinW_facts ws [] (fun i hi => by simp at hi) hf (by simp [tot, sumT]; omega)
  refine ⟨h1.1, ?_⟩
  rw [h1.2.1, sumW_tot ws (fun x hx => (hf x hx).1)]
  simp [tot, sumT]
end Go.Proofs.YtbdgfbkhplhpkaaDoor
