/- Plain laws of trees: what simple trees are. -/
import Derived.Test.YtgcgijmjlnhdnaaT04c
namespace Go.Proofs.Ytgcgijmjlnhdnaa.P
open Go.RowKit Go.Proofs.YtgcgijmjlnhdnaaW.PrintWords Go.Proofs.YtgcgijmjlnhdnaaW.PrintLast Go.Proofs.YtgcgijmjlnhdnaaW.PrintMore
set_option linter.unusedVariables false
set_option linter.unusedSimpArgs false
/-- The void one. -/
def vT : S27 := ⟨1, ⟨0, 0, 0, 0⟩, [], 0, 0⟩
theorem void_vT : voidT vT = true := by rw [voidT_eq]; rfl
theorem null_vT : nullT vT = false := by rw [nullT_eq]; rfl
theorem formed_vT : formedT vT = true := by rw [formedT_eq]; rfl
theorem formed_zT : formedT zT = true := by rw [formedT_eq]; rfl
theorem void_zT : voidT zT = false := by rw [voidT_eq]; rfl
theorem null_zT : nullT zT = true := by rw [nullT_eq]; rfl
inductive LeanP : S27 → Prop
  | zero : LeanP zT
  | bytes (s : S24) (h : emptyB s = false) : LeanP ⟨1, s, [], 0, 0⟩
  | cat (ps : List S27) (hl : 2 ≤ ps.length) (h1 : ∀ p ∈ ps, LeanP p) (h2 : ∀ p ∈ ps, p.f0 ≠ 0 ∧ p.f0 ≠ 2) : LeanP ⟨2, ⟨0, 0, 0, 0⟩, ps, 0, 0⟩
  | alt (ps : List S27) (hl : 2 ≤ ps.length) (h1 : ∀ p ∈ ps, LeanP p) (h2 : ∀ p ∈ ps, p.f0 ≠ 3) (h3 : ps.Pairwise fun a b => a ≠ b) : LeanP ⟨3, ⟨0, 0, 0, 0⟩, ps, 0, 0⟩
  | times (p : S27) (lo hi : Int) (h1 : LeanP p) (h2 : p.f0 ≠ 0) (h3 : hi ≠ 0) (h4 : ¬ (lo = 1 ∧ hi = 1)) (h5 : nullT p = true → lo = 0) (h6 : 0 ≤ lo) (h7 : lo ≤ 2147483647) (h8 : hi = -1 ∨ lo ≤ hi ∧ hi ≤ 2147483647) : LeanP ⟨4, ⟨0, 0, 0, 0⟩, [p], lo, hi⟩
theorem lean_formed {x : S27} (h : LeanP x) : formedT x = true ∧ voidT x = false := by
  induction h with
  | zero => exact ⟨formed_zT, void_zT⟩
  | bytes s h => exact ⟨by rw [formedT_eq]; rfl, by rw [voidT_eq]; exact h⟩
  | cat ps hl h1 h2 ih =>
    refine ⟨?_, ?_⟩
    · rw [formedT_eq]
      simp only [Bool.and_eq_true, Bool.not_eq_true']
      refine ⟨?_, List.any_eq_false.2 fun y hy => by simp [(ih y hy).1]⟩
      simp [shapedB, emptyB, hl]
    · rw [voidT_eq]
      show ps.any voidT = false
      exact List.any_eq_false.2 fun y hy => by simp [(ih y hy).2]
  | alt ps hl h1 h2 h3 ih =>
    refine ⟨?_, ?_⟩
    · rw [formedT_eq]
      simp only [Bool.and_eq_true, Bool.not_eq_true']
      refine ⟨?_, List.any_eq_false.2 fun y hy => by simp [(ih y hy).1]⟩
      simp [shapedB, emptyB, hl]
    · rw [voidT_eq]
      show (!(ps.any fun y => !voidT y)) = false
      match ps, hl with
      | p :: ps, _ => simp [(ih p (by simp)).2]
  | times p lo hi h1 h2 h3 h4 h5 h6 h7 h8 ih =>
    refine ⟨?_, ?_⟩
    · rw [formedT_eq]
      simp only [Bool.and_eq_true, Bool.not_eq_true']
      refine ⟨?_, by simp [ih.1]⟩
      have h8' : (hi == -1 || decide (lo ≤ hi) && decide (hi ≤ 2147483647)) = true := by simpa using h8
      simp [shapedB, emptyB, h6, h7]
      simpa using h8
    · rw [voidT_eq]
      show (decide (0 < lo) && voidH [p]) = false
      simp [voidH, ih.2]
theorem lean_kind {x : S27} (h : LeanP x) :
    (x.f0 = 0 → x = zT) ∧ (x.f0 = 2 → 2 ≤ x.f2.length ∧ x = ⟨2, ⟨0, 0, 0, 0⟩, x.f2, 0, 0⟩ ∧ ∀ p ∈ x.f2, LeanP p ∧ p.f0 ≠ 0 ∧ p.f0 ≠ 2) ∧ (x.f0 = 3 → 2 ≤ x.f2.length ∧ x = ⟨3, ⟨0, 0, 0, 0⟩, x.f2, 0, 0⟩ ∧ (∀ p ∈ x.f2, LeanP p ∧ p.f0 ≠ 3) ∧ x.f2.Pairwise fun a b => a ≠ b) := by
  cases h with
  | zero => exact ⟨fun _ => rfl, (fun h => by cases h), (fun h => by cases h)⟩
  | bytes s h => exact ⟨(fun h => by cases h), (fun h => by cases h), (fun h => by cases h)⟩
  | cat ps hl h1 h2 => exact ⟨(fun h => by cases h), fun _ => ⟨hl, rfl, fun p hp => ⟨h1 p hp, h2 p hp⟩⟩, (fun h => by cases h)⟩
  | alt ps hl h1 h2 h3 => exact ⟨(fun h => by cases h), (fun h => by cases h), fun _ => ⟨hl, rfl, fun p hp => ⟨h1 p hp, h2 p hp⟩, h3⟩⟩
  | times p lo hi => exact ⟨(fun h => by cases h), (fun h => by cases h), (fun h => by cases h)⟩

/-! #### depth, places -/
mutual
def depthT : S27 → Nat
  | ⟨_, _, ps, _, _⟩ => depthL ps + 1
def depthL : List S27 → Nat
  | [] => 0
  | p :: ps => max (depthT p) (depthL ps)
end
mutual
def placesT : S27 → Nat
  | ⟨k, _, ps, _, _⟩ => (if k = 1 then 1 else 0) + placesL ps
def placesL : List S27 → Nat
  | [] => 0
  | p :: ps => placesT p + placesL ps
end
theorem depthT_eq (x : S27) : depthT x = depthL x.f2 + 1 := by cases x; rw [depthT]
theorem placesT_eq (x : S27) : placesT x = (if x.f0 = 1 then 1 else 0) + placesL x.f2 := by cases x; rw [placesT]
theorem depthL_append (l m : List S27) : depthL (l ++ m) = max (depthL l) (depthL m) := by
  induction l with
  | nil => simp [depthL]
  | cons p l ih => rw [List.cons_append, depthL, depthL, ih]; omega
theorem placesL_append (l m : List S27) : placesL (l ++ m) = placesL l + placesL m := by
  induction l with
  | nil => simp [placesL]
  | cons p l ih => rw [List.cons_append, placesL, placesL, ih]; omega
/-- Places of what isn't void. -/
def pvL : List S27 → Nat
  | [] => 0
  | p :: ps => (if voidT p = true then 0 else placesT p) + pvL ps
theorem pvL_le (l : List S27) : pvL l ≤ placesL l := by
  induction l with
  | nil => simp [pvL, placesL]
  | cons p l ih => rw [pvL, placesL]; split <;> omega
theorem put_depth (kind : Int) (n : Nat) : ∀ (l ps : List S27), cntL ps < n → depthL (putL kind l ps) ≤ max (depthL l) (depthL ps) := by
  induction n with
  | zero => intro l ps h; omega
  | succ n ih =>
    intro l ps hn
    cases ps with
    | nil => rw [putL]; omega
    | cons p ps =>
      rw [cntL] at hn
      have hc := cntT_eq p
      have hd := depthT_eq p
      have h1 : depthL (putP kind l p) ≤ max (depthL l) (depthT p) := by
        rw [putP_eq]
        split
        · have := ih l p.f2 (by omega); omega
        · split
          · omega
          · split
            · omega
            · rw [depthL_append]; simp [depthL]
      have h2 := ih (putP kind l p) ps (by omega)
      rw [putL, depthL]
      omega

/-! #### what putting makes -/
theorem put_cat (n : Nat) : ∀ (l ps : List S27), cntL ps < n → (∀ y ∈ l, LeanP y ∧ y.f0 ≠ 0 ∧ y.f0 ≠ 2) → (∀ y ∈ ps, LeanP y) →
    (∀ y ∈ putL 2 l ps, LeanP y ∧ y.f0 ≠ 0 ∧ y.f0 ≠ 2) ∧ (putL 2 l ps).all nullT = (l.all nullT && ps.all nullT) ∧ placesL (putL 2 l ps) ≤ placesL l + placesL ps := by
  induction n with
  | zero => intro l ps h; omega
  | succ n ih =>
    intro l ps hn hl hp
    cases ps with
    | nil => rw [putL]; exact ⟨hl, by simp, by omega⟩
    | cons p ps =>
      rw [cntL] at hn
      have hc := cntT_eq p
      have hP := placesT_eq p
      have hpl := hp p List.mem_cons_self
      have h1 : (∀ y ∈ putP 2 l p, LeanP y ∧ y.f0 ≠ 0 ∧ y.f0 ≠ 2) ∧ (putP 2 l p).all nullT = (l.all nullT && nullT p) ∧ placesL (putP 2 l p) ≤ placesL l + placesT p := by
        rw [putP_eq]
        split
        · next e =>
          obtain ⟨_, he, hq⟩ := (lean_kind hpl).2.1 e
          obtain ⟨a, b, c⟩ := ih l p.f2 (by omega) hl (fun y hy => (hq y hy).1)
          refine ⟨a, ?_, by omega⟩
          rw [b, nullT_eq p, e]
          simp [List.all_eq_not_any_not]
        · split
          · next e =>
            refine ⟨hl, ?_, by omega⟩
            rw [(lean_kind hpl).1 e.2, null_zT]; simp
          · next e0 e =>
            rw [if_neg (by omega)]
            refine ⟨fun y hy => ?_, by simp, by rw [placesL_append]; simp [placesL]⟩
            rcases List.mem_append.1 hy with hy | hy
            · exact hl y hy
            · rw [List.mem_singleton.1 hy]; exact ⟨hpl, fun h => e ⟨rfl, h⟩, e0⟩
      obtain ⟨a, b, c⟩ := ih (putP 2 l p) ps (by omega) h1.1 (fun y hy => hp y (List.mem_cons_of_mem _ hy))
      rw [putL]
      refine ⟨a, ?_, by rw [placesL]; omega⟩
      rw [b, h1.2.1]; simp [Bool.and_assoc]
theorem put_alt (n : Nat) : ∀ (l ps : List S27), cntL ps < n → (∀ y ∈ l, LeanP y ∧ y.f0 ≠ 3) → (l.Pairwise fun a b => a ≠ b) → (∀ y ∈ ps, y = vT ∨ LeanP y) →
    (∀ y ∈ putL 3 l ps, LeanP y ∧ y.f0 ≠ 3) ∧ ((putL 3 l ps).Pairwise fun a b => a ≠ b) ∧ (putL 3 l ps).any nullT = (l.any nullT || ps.any nullT) ∧ placesL (putL 3 l ps) ≤ placesL l + pvL ps ∧ ((l ≠ [] ∨ ∃ y ∈ ps, LeanP y) → putL 3 l ps ≠ []) := by
  induction n with
  | zero => intro l ps h; omega
  | succ n ih =>
    intro l ps hn hl hw hp
    cases ps with
    | nil => rw [putL]; exact ⟨hl, hw, by simp, by omega, fun h => by rcases h with h | ⟨y, hy, _⟩; exact h; cases hy⟩
    | cons p ps =>
      rw [cntL] at hn
      have hc := cntT_eq p
      have hP := placesT_eq p
      have hpl := hp p List.mem_cons_self
      have h1 : (∀ y ∈ putP 3 l p, LeanP y ∧ y.f0 ≠ 3) ∧ ((putP 3 l p).Pairwise fun a b => a ≠ b) ∧ (putP 3 l p).any nullT = (l.any nullT || nullT p) ∧ placesL (putP 3 l p) ≤ placesL l + (if voidT p = true then 0 else placesT p) ∧ ((l ≠ [] ∨ LeanP p) → putP 3 l p ≠ []) := by
        rcases hpl with rfl | hpl
        · rw [putP_eq, if_neg (by decide), if_neg (by decide), if_pos ⟨rfl, by rw [void_vT]; trivial⟩, void_vT, null_vT]
          exact ⟨hl, hw, by simp, by simp, fun h => by rcases h with h | h; exact h; exact absurd void_vT (by rw [(lean_formed h).2]; decide)⟩
        · have hv := (lean_formed hpl).2
          rw [putP_eq, hv]
          simp only [Bool.false_eq_true, if_false, Bool.false_or]
          split
          · next e =>
            obtain ⟨h2, he, hq, hpw⟩ := (lean_kind hpl).2.2 e
            obtain ⟨a, b, c, d, f⟩ := ih l p.f2 (by omega) hl hw (fun y hy => .inr (hq y hy).1)
            have hle := pvL_le p.f2
            refine ⟨a, b, ?_, by omega, fun _ => f (.inr ?_)⟩
            · rw [c, nullT_eq p, e]; rfl
            · match hps : p.f2, h2 with
              | q :: qs, _ => exact ⟨q, by simp, (hq q (by rw [hps]; simp)).1⟩
          · next e0 =>
            rw [if_neg (by omega)]
            split
            · next e =>
              obtain ⟨_, hs⟩ := e
              obtain ⟨q, hq, hqs⟩ := List.any_eq_true.1 hs
              have hqe := (sameT_iff p q).1 hqs
              subst hqe
              refine ⟨hl, hw, ?_, by omega, fun _ h => by rw [h] at hq; cases hq⟩
              cases hnp : nullT p with
              | false => simp
              | true => rw [show l.any nullT = true from List.any_eq_true.2 ⟨p, hq, hnp⟩]; rfl
            · next e =>
              refine ⟨fun y hy => ?_, ?_, by simp, by rw [placesL_append]; simp [placesL], fun _ => by simp⟩
              · rcases List.mem_append.1 hy with hy | hy
                · exact hl y hy
                · rw [List.mem_singleton.1 hy]; exact ⟨hpl, e0⟩
              · rw [List.pairwise_append]
                refine ⟨hw, by simp, fun a ha b hb => ?_⟩
                rw [List.mem_singleton.1 hb]
                rintro rfl
                exact e ⟨trivial, List.any_eq_true.2 ⟨a, ha, (sameT_iff a a).2 rfl⟩⟩
      obtain ⟨a, b, c, d, f⟩ := ih (putP 3 l p) ps (by omega) h1.1 h1.2.1 (fun y hy => hp y (List.mem_cons_of_mem _ hy))
      rw [putL]
      refine ⟨a, b, ?_, by rw [pvL]; have := h1.2.2.2.1; omega, fun h => f ?_⟩
      · rw [c, h1.2.2.1]; simp [Bool.or_assoc]
      · rcases h with h | ⟨y, hy, hly⟩
        · exact .inl (h1.2.2.2.2 (.inl h))
        · rcases List.mem_cons.1 hy with rfl | hy
          · exact .inl (h1.2.2.2.2 (.inr hly))
          · exact .inr ⟨y, hy, hly⟩
end Go.Proofs.Ytgcgijmjlnhdnaa.P
