/- Plain laws of trees: trees that have the same simple one. -/
import Derived.Test.YtgcgijmjlnhdnaaT04e
namespace Go.Proofs.Ytgcgijmjlnhdnaa.P
open Go.RowKit Go.Proofs.YtgcgijmjlnhdnaaW.PrintWords Go.Proofs.YtgcgijmjlnhdnaaW.PrintLast Go.Proofs.YtgcgijmjlnhdnaaW.PrintMore
set_option linter.unusedVariables false
set_option linter.unusedSimpArgs false
theorem putL_cat_id (ps : List S27) : ∀ l : List S27, (∀ p ∈ ps, p.f0 ≠ 0 ∧ p.f0 ≠ 2) → putL 2 l ps = l ++ ps := by
  induction ps with
  | nil => intro l _; rw [putL]; simp
  | cons p ps ih =>
    intro l h
    obtain ⟨h0, h2⟩ := h p List.mem_cons_self
    have e : putP 2 l p = l ++ [p] := by rw [putP_eq, if_neg h2, if_neg (fun h => h0 h.2), if_neg (by omega)]
    rw [putL, e, ih _ (fun q hq => h q (List.mem_cons_of_mem _ hq))]; simp
theorem putP_alt_new (l : List S27) (p : S27) (h3 : p.f0 ≠ 3) (hv : voidT p = false) (hn : p ∉ l) : putP 3 l p = l ++ [p] := by
  rw [putP_eq, if_neg h3, if_neg (by omega), if_neg]
  rw [hv]
  rintro ⟨_, h⟩
  rcases Bool.or_eq_true _ _ |>.mp h with h | h
  · cases h
  · obtain ⟨q, hq, hs⟩ := List.any_eq_true.1 h
    rw [(sameT_iff p q).1 hs] at hn
    exact hn hq
theorem putP_alt_old (l : List S27) (p : S27) (h3 : p.f0 ≠ 3) (hn : p ∈ l) : putP 3 l p = l := by
  rw [putP_eq, if_neg h3, if_neg (by omega), if_pos]
  exact ⟨rfl, by rw [List.any_eq_true.2 ⟨p, hn, (sameT_iff p p).2 rfl⟩]; simp⟩
theorem putL_alt_id (ps : List S27) : ∀ l : List S27, (∀ p ∈ ps, p.f0 ≠ 3 ∧ voidT p = false) → (l ++ ps).Pairwise (fun a b => a ≠ b) → putL 3 l ps = l ++ ps := by
  induction ps with
  | nil => intro l _ _; rw [putL]; simp
  | cons p ps ih =>
    intro l h hw
    obtain ⟨h3, hv⟩ := h p List.mem_cons_self
    have hn : p ∉ l := fun hp => (List.pairwise_append.1 hw).2.2 p hp p List.mem_cons_self rfl
    rw [putL, putP_alt_new l p h3 hv hn, ih _ (fun q hq => h q (List.mem_cons_of_mem _ hq)) (by simpa using hw)]; simp
theorem putL_alt_old (ps : List S27) : ∀ l : List S27, (∀ p ∈ ps, p.f0 ≠ 3 ∧ p ∈ l) → putL 3 l ps = l := by
  induction ps with
  | nil => intro l _; rw [putL]
  | cons p ps ih =>
    intro l h
    obtain ⟨h3, hn⟩ := h p List.mem_cons_self
    rw [putL, putP_alt_old l p h3 hn, ih _ (fun q hq => h q (List.mem_cons_of_mem _ hq))]
theorem oneT_two (k : Int) (l : List S27) (h : 2 ≤ l.length) : oneT k l = ⟨k, ⟨0, 0, 0, 0⟩, l, 0, 0⟩ := by
  match l, h with
  | a :: b :: l, _ => rfl
theorem simple_zT : simpleT zT = zT := by rw [simpleT_eq, if_neg (by rw [void_zT]; decide)]; rfl
/-- A lean tree, put alone (or with what counts for nothing), is itself. -/
theorem cat_one {y : S27} (h : LeanP y) : oneT 2 (putP 2 [] y) = y := by
  rw [putP_eq]
  split
  · next e =>
    obtain ⟨h2, he, hq⟩ := (lean_kind h).2.1 e
    rw [putL_cat_id _ [] (fun p hp => (hq p hp).2), List.nil_append, oneT_two _ _ h2, ← he]
  · split
    · next e => rw [(lean_kind h).1 e.2]; rfl
    · rw [if_neg (by omega)]; rfl
theorem alt_one {y : S27} (h : LeanP y) : oneT 3 (putP 3 [] y) = y ∧ putP 3 (putP 3 [] y) y = putP 3 [] y := by
  have hv := (lean_formed h).2
  by_cases e : y.f0 = 3
  · obtain ⟨h2, he, hq, hw⟩ := (lean_kind h).2.2 e
    have e1 : putP 3 [] y = y.f2 := by
      rw [putP_eq, if_pos e, putL_alt_id _ [] (fun p hp => ⟨(hq p hp).2, (lean_formed (hq p hp).1).2⟩) hw]; rfl
    refine ⟨by rw [e1, oneT_two _ _ h2, ← he], ?_⟩
    rw [e1, putP_eq, if_pos e]
    exact putL_alt_old _ _ (fun p hp => ⟨(hq p hp).2, hp⟩)
  · have e1 : putP 3 [] y = [y] := putP_alt_new [] y e hv (by simp)
    refine ⟨by rw [e1]; rfl, ?_⟩
    rw [e1]
    exact putP_alt_old [y] y e (by simp)
theorem same_cat {x : S27} (h : formedT x = true) : formedT ⟨2, ⟨0, 0, 0, 0⟩, [x, zT], 0, 0⟩ = true ∧ simpleT ⟨2, ⟨0, 0, 0, 0⟩, [x, zT], 0, 0⟩ = simpleT x := by
  refine ⟨by rw [formedT_eq]; simp [shapedB, emptyB, h, formed_zT], ?_⟩
  have hv : voidT ⟨2, ⟨0, 0, 0, 0⟩, [x, zT], 0, 0⟩ = voidT x := by rw [voidT_eq]; simp [void_zT]
  cases hx : voidT x with
  | true => rw [simple_void (hv.trans hx), simple_void hx]
  | false =>
    have hl := (simple_good _ x (Nat.lt_succ_self _) h hx).1
    rw [simpleT_eq ⟨2, _, _, _, _⟩, if_neg (by rw [hv, hx]; decide), if_pos (.inl rfl)]
    show oneT 2 (putL 2 [] [simpleT x, simpleT zT]) = simpleT x
    rw [putL, putL, putL, simple_zT, putP_eq 2 _ zT, if_neg (by decide), if_pos ⟨rfl, rfl⟩]
    exact cat_one hl
theorem same_alt {x : S27} (h : formedT x = true) : formedT ⟨3, ⟨0, 0, 0, 0⟩, [x, x], 0, 0⟩ = true ∧ simpleT ⟨3, ⟨0, 0, 0, 0⟩, [x, x], 0, 0⟩ = simpleT x := by
  refine ⟨by rw [formedT_eq]; simp [shapedB, emptyB, h], ?_⟩
  have hv : voidT ⟨3, ⟨0, 0, 0, 0⟩, [x, x], 0, 0⟩ = voidT x := by rw [voidT_eq]; simp
  cases hx : voidT x with
  | true => rw [simple_void (hv.trans hx), simple_void hx]
  | false =>
    have hl := (simple_good _ x (Nat.lt_succ_self _) h hx).1
    rw [simpleT_eq ⟨3, _, _, _, _⟩, if_neg (by rw [hv, hx]; decide), if_pos (.inr rfl)]
    show oneT 3 (putL 3 [] [simpleT x, simpleT x]) = simpleT x
    rw [putL, putL, putL, (alt_one hl).2]
    exact (alt_one hl).1
theorem same_times {x : S27} (h : formedT x = true) : formedT ⟨4, ⟨0, 0, 0, 0⟩, [x], 1, 1⟩ = true ∧ simpleT ⟨4, ⟨0, 0, 0, 0⟩, [x], 1, 1⟩ = simpleT x := by
  refine ⟨by rw [formedT_eq]; simp [shapedB, emptyB, h], ?_⟩
  have hv : voidT ⟨4, ⟨0, 0, 0, 0⟩, [x], 1, 1⟩ = voidT x := by rw [voidT_eq]; simp [voidH]
  cases hx : voidT x with
  | true => rw [simple_void (hv.trans hx), simple_void hx]
  | false =>
    have hl := (simple_good _ x (Nat.lt_succ_self _) h hx).1
    rw [simpleT_eq ⟨4, _, _, _, _⟩, if_neg (by rw [hv, hx]; decide), if_neg (show ¬ ((4 : Int) = 2 ∨ (4 : Int) = 3) by decide), if_pos rfl]
    show timesT (simpleT x) 1 1 = simpleT x
    unfold timesT
    split
    · next hc =>
      rcases hc with hc | hc | hc
      · cases hc
      · exact ((lean_kind hl).1 hc).symm
      · rw [(lean_formed hl).2] at hc; cases hc
    · exact if_pos ⟨rfl, rfl⟩
/-- The simple tree of a lean one is itself. -/
theorem simple_lean {y : S27} (h : LeanP y) : simpleT y = y := by
  induction h with
  | zero => exact simple_zT
  | bytes s hs => rw [simpleT_eq, if_neg (by rw [(lean_formed (.bytes s hs)).2]; decide)]; rfl
  | cat ps hl h1 h2 ih =>
    rw [simpleT_eq, if_neg (by rw [(lean_formed (.cat ps hl h1 h2)).2]; decide), if_pos (.inl rfl)]
    show oneT 2 (putL 2 [] (ps.map simpleT)) = _
    rw [show ps.map simpleT = ps from (List.map_congr_left ih).trans (List.map_id _), putL_cat_id _ _ h2, List.nil_append, oneT_two _ _ hl]
  | alt ps hl h1 h2 h3 ih =>
    rw [simpleT_eq, if_neg (by rw [(lean_formed (.alt ps hl h1 h2 h3)).2]; decide), if_pos (.inr rfl)]
    show oneT 3 (putL 3 [] (ps.map simpleT)) = _
    rw [show ps.map simpleT = ps from (List.map_congr_left ih).trans (List.map_id _), putL_alt_id _ [] (fun p hp => ⟨h2 p hp, (lean_formed (h1 p hp)).2⟩) h3, List.nil_append, oneT_two _ _ hl]
  | times p lo hi h1 h2 h3 h4 h5 h6 h7 h8 ih =>
    rw [simpleT_eq, if_neg (by rw [(lean_formed (.times p lo hi h1 h2 h3 h4 h5 h6 h7 h8)).2]; decide), if_neg (show ¬ ((4 : Int) = 2 ∨ (4 : Int) = 3) by decide), if_pos rfl]
    show timesT (simpleT p) lo hi = _
    rw [ih]
    unfold timesT
    rw [if_neg (by rintro (h | h | h); exact h3 h; exact h2 h; rw [(lean_formed h1).2] at h; cases h), if_neg h4]
    split
    · next hn => rw [h5 hn]
    · rfl
theorem simple_vT : simpleT vT = vT := simple_void void_vT
end Go.Proofs.Ytgcgijmjlnhdnaa.P
