/- Plain laws of trees: a simple tree is lean. -/
import Derived.Test.YtgcgijmjlnhdnaaT04d
namespace Go.Proofs.Ytgcgijmjlnhdnaa.P
open Go.RowKit Go.Proofs.YtgcgijmjlnhdnaaW.PrintWords Go.Proofs.YtgcgijmjlnhdnaaW.PrintLast Go.Proofs.YtgcgijmjlnhdnaaW.PrintMore
set_option linter.unusedVariables false
set_option linter.unusedSimpArgs false
theorem emptyB_eq {c : S24} (h : emptyB c = true) : c = ⟨0, 0, 0, 0⟩ := by
  cases c; simp [emptyB] at h; simp [h]
theorem node_eq {x : S27} {k lo hi : Int} {s : S24} {ps : List S27} (h0 : x.f0 = k) (h1 : x.f1 = s) (h2 : x.f2 = ps) (h3 : x.f3 = lo) (h4 : x.f4 = hi) : x = ⟨k, s, ps, lo, hi⟩ := by
  cases x; simp_all
theorem formed_zero {x : S27} (h : formedT x = true) (e : x.f0 = 0) : x = zT := by
  obtain ⟨_, _, _, h0, h3, h5, _⟩ := formedT_kind h
  exact node_eq e (emptyB_eq (h5 (by omega))) (h0 (by omega)) (h3 (by omega)).1 (h3 (by omega)).2
theorem simple_void {x : S27} (h : voidT x = true) : simpleT x = vT := by rw [simpleT_eq, if_pos h]; rfl
def Good (x : S27) : Prop := LeanP (simpleT x) ∧ nullT (simpleT x) = nullT x ∧ placesT (simpleT x) ≤ placesT x ∧ depthT (simpleT x) ≤ depthT x
theorem depth_vT : depthT vT = 1 := by rw [depthT_eq]; simp [vT, depthL]
theorem depth_zT : depthT zT = 1 := by rw [depthT_eq]; simp [zT, depthL]
theorem places_zT : placesT zT = 0 := by rw [placesT_eq]; simp [zT, placesL]
theorem map_facts (l : List S27) (hf : ∀ y ∈ l, formedT y = true) (h : ∀ y ∈ l, voidT y = false → Good y) :
    depthL (l.map simpleT) ≤ depthL l ∧ pvL (l.map simpleT) ≤ placesL l ∧ ((∀ y ∈ l, voidT y = false) → placesL (l.map simpleT) ≤ placesL l) ∧ (l.map simpleT).any nullT = l.any nullT ∧ (l.map simpleT).all nullT = l.all nullT ∧ (∀ y ∈ l.map simpleT, y = vT ∨ LeanP y) ∧ ((∀ y ∈ l, voidT y = false) → ∀ y ∈ l.map simpleT, LeanP y) := by
  induction l with
  | nil => simp [depthL, pvL, placesL]
  | cons p l ih =>
    obtain ⟨a, b, c, d, e, f, g⟩ := ih (fun y hy => hf y (List.mem_cons_of_mem _ hy)) (fun y hy => h y (List.mem_cons_of_mem _ hy))
    have hp := h p List.mem_cons_self
    have hpf := hf p List.mem_cons_self
    have hd := depthT_eq p
    cases hv : voidT p with
    | true =>
      have hs := simple_void hv
      have hn := void_null _ p (Nat.lt_succ_self _) hpf hv
      simp only [List.map_cons, hs, depthL, pvL, placesL, void_vT, if_true, depth_vT, List.any_cons, List.all_cons, null_vT, hn, d, e]
      refine ⟨by omega, by omega, fun hh => ?_, trivial, trivial, ?_, fun hh => ?_⟩
      · have := hh p List.mem_cons_self; rw [hv] at this; cases this
      · intro y hy
        rcases List.mem_cons.1 hy with rfl | hy
        · exact .inl rfl
        · exact f y hy
      · have := hh p List.mem_cons_self; rw [hv] at this; cases this
    | false =>
      obtain ⟨q1, q2, q3, q4⟩ := hp hv
      simp only [List.map_cons, depthL, pvL, placesL, (lean_formed q1).2, Bool.false_eq_true, if_false, List.any_cons, List.all_cons, q2, d, e]
      refine ⟨by omega, by omega, fun hh => ?_, trivial, trivial, ?_, fun hh => ?_⟩
      · have := c (fun y hy => hh y (List.mem_cons_of_mem _ hy)); omega
      · intro y hy
        rcases List.mem_cons.1 hy with rfl | hy
        · exact .inr q1
        · exact f y hy
      · intro y hy
        rcases List.mem_cons.1 hy with rfl | hy
        · exact q1
        · exact g (fun y hy => hh y (List.mem_cons_of_mem _ hy)) y hy
theorem oneT_size (k : Int) (hk : k ≠ 1) (l : List S27) : depthT (oneT k l) ≤ depthL l + 1 ∧ placesT (oneT k l) ≤ placesL l := by
  unfold oneT
  split
  · rw [depth_zT, places_zT]; omega
  · simp only [depthL, placesL]; omega
  · rw [depthT_eq, placesT_eq]; simp [hk]
theorem simple_good (n : Nat) : ∀ (x : S27), SizeOf.sizeOf x < n → formedT x = true → voidT x = false → Good x := by
  induction n with
  | zero => intro x h; omega
  | succ n ih =>
    intro x hn hx hv
    obtain ⟨hk, h2, h4, h0, h3, h5, hparts⟩ := formedT_kind hx
    have ihp : ∀ y ∈ x.f2, voidT y = false → Good y := fun y hy => ih y (by have := mem_lt hy; omega) (hparts y hy)
    have hm := map_facts x.f2 hparts ihp
    have hD := depthT_eq x
    have hP := placesT_eq x
    have hsx : simpleT x = if x.f0 = 2 ∨ x.f0 = 3 then oneT x.f0 (putL x.f0 [] (x.f2.map simpleT)) else if x.f0 = 4 then timesT (simpleH x.f2) x.f3 x.f4 else x := by
      rw [simpleT_eq, if_neg (by rw [hv]; decide)]
    unfold Good
    rcases hk with e | e | e | e | e
    · rw [hsx, if_neg (by omega), if_neg (by omega)]
      refine ⟨?_, rfl, Nat.le_refl _, Nat.le_refl _⟩
      rw [formed_zero hx e]; exact .zero
    · rw [hsx, if_neg (by omega), if_neg (by omega)]
      refine ⟨?_, rfl, Nat.le_refl _, Nat.le_refl _⟩
      rw [voidT_eq, if_pos e] at hv
      rw [node_eq (x := x) e rfl (h0 (.inr e)) (h3 (by omega)).1 (h3 (by omega)).2]
      exact .bytes _ hv
    · have hv' : x.f2.any voidT = false := by rw [voidT_eq, e] at hv; exact hv
      have hnv : ∀ y ∈ x.f2, voidT y = false := fun y hy => by have := List.any_eq_false.1 hv' y hy; simpa using this
      obtain ⟨a, b, c⟩ := put_cat _ [] (x.f2.map simpleT) (Nat.lt_succ_self _) (by simp) (hm.2.2.2.2.2.2 hnv)
      have hdp := put_depth 2 _ [] (x.f2.map simpleT) (Nat.lt_succ_self _)
      have hpl := hm.2.2.1 hnv
      obtain ⟨s1, s2⟩ := oneT_size 2 (by decide) (putL 2 [] (x.f2.map simpleT))
      simp only [depthL, placesL] at hdp c
      have hnx : nullT x = (putL 2 [] (x.f2.map simpleT)).all nullT := by
        rw [b, hm.2.2.2.2.1, nullT_eq, e]; simp [List.all_eq_not_any_not]
      rw [hsx, if_pos (.inl e), e, hnx]
      refine ⟨?_, ?_, by omega, by omega⟩
      · generalize putL 2 [] (x.f2.map simpleT) = l at a ⊢
        match l, a with
        | [], _ => exact .zero
        | [y], a => exact (a y (by simp)).1
        | y :: z :: l, a => exact .cat _ (by simp) (fun p hp => (a p hp).1) (fun p hp => (a p hp).2)
      · generalize putL 2 [] (x.f2.map simpleT) = l at a ⊢
        match l, a with
        | [], _ => exact null_zT
        | [y], a => simp [oneT]
        | y :: z :: l, a => show nullT ⟨2, ⟨0, 0, 0, 0⟩, y :: z :: l, 0, 0⟩ = _; rw [nullT_eq]; simp [List.all_eq_not_any_not]
    · have hv' : (!(x.f2.any fun y => !voidT y)) = false := by rw [voidT_eq, e] at hv; exact hv
      obtain ⟨y0, hy0, hv0⟩ := List.any_eq_true.1 (by simpa using hv' : (x.f2.any fun y => !voidT y) = true)
      have hg0 := ihp y0 hy0 (by simpa using hv0)
      obtain ⟨a, b, c, d, f⟩ := put_alt _ [] (x.f2.map simpleT) (Nat.lt_succ_self _) (by simp) (by simp) hm.2.2.2.2.2.1
      have hne := f (.inr ⟨simpleT y0, List.mem_map_of_mem hy0, hg0.1⟩)
      have hdp := put_depth 3 _ [] (x.f2.map simpleT) (Nat.lt_succ_self _)
      obtain ⟨s1, s2⟩ := oneT_size 3 (by decide) (putL 3 [] (x.f2.map simpleT))
      simp only [depthL, placesL] at hdp d
      have hpl := hm.2.1
      have hnx : nullT x = (putL 3 [] (x.f2.map simpleT)).any nullT := by
        rw [c, hm.2.2.2.1, nullT_eq, e]; simp
      rw [hsx, if_pos (.inr e), e, hnx]
      refine ⟨?_, ?_, by omega, by omega⟩
      · generalize putL 3 [] (x.f2.map simpleT) = l at a b hne ⊢
        match l, a, b, hne with
        | [], _, _, hne => exact absurd rfl hne
        | [y], a, _, _ => exact (a y (by simp)).1
        | y :: z :: l, a, b, _ => exact .alt _ (by simp) (fun p hp => (a p hp).1) (fun p hp => (a p hp).2) b
      · generalize putL 3 [] (x.f2.map simpleT) = l at a b hne ⊢
        match l, a, b, hne with
        | [], _, _, hne => exact absurd rfl hne
        | [y], a, _, _ => simp [oneT]
        | y :: z :: l, a, _, _ => show nullT ⟨3, ⟨0, 0, 0, 0⟩, y :: z :: l, 0, 0⟩ = _; rw [nullT_eq]; rfl
    · obtain ⟨hl, hlo, hlo', hhi⟩ := h4 e
      obtain ⟨p, hp⟩ := list_one hl
      have hpp := hparts p (by rw [hp]; simp)
      have hgp := ihp p (by rw [hp]; simp)
      have hv' : (decide (0 < x.f3) && voidT p) = false := by rw [voidT_eq, e, hp] at hv; simpa [voidH] using hv
      have hnx : nullT x = (x.f3 == 0 || nullT p) := by rw [nullT_eq, e, hp]; simp [nullH]
      simp only [hp, depthL, placesL] at hD hP
      rw [if_neg (by omega)] at hP
      rw [hsx, if_neg (by omega), if_pos e, hp, simpleH, hnx]
      generalize x.f3 = lo at *
      generalize x.f4 = hi at *
      unfold timesT
      split
      · next hc =>
        refine ⟨.zero, ?_, by rw [places_zT]; omega, by rw [depth_zT]; omega⟩
        rw [null_zT]
        rcases hc with hc | hc | hc
        · have : lo = 0 := by omega
          simp [this]
        · cases hvp : voidT p with
          | true => rw [simple_void hvp] at hc; exact absurd hc (by decide)
          | false =>
            obtain ⟨q1, q2, _⟩ := hgp hvp
            rw [← q2, (lean_kind q1).1 hc, null_zT]; simp
        · cases hvp : voidT p with
          | true =>
            rw [hvp] at hv'
            have : lo = 0 := by simp at hv'; omega
            simp [this]
          | false => rw [(lean_formed (hgp hvp).1).2] at hc; cases hc
      · next hc =>
        have hc1 : hi ≠ 0 := fun h => hc (.inl h)
        have hc2 : (simpleT p).f0 ≠ 0 := fun h => hc (.inr (.inl h))
        have hc3 : ¬ voidT (simpleT p) = true := fun h => hc (.inr (.inr h))
        have hvp : voidT p = false := by
          cases hvp : voidT p with
          | true => rw [simple_void hvp] at hc3; exact absurd void_vT hc3
          | false => rfl
        obtain ⟨q1, q2, q3, q4⟩ := hgp hvp
        split
        · next h1 =>
          obtain ⟨rfl, rfl⟩ := h1
          exact ⟨q1, by rw [q2]; rfl, by omega, by omega⟩
        · next h1 =>
          refine ⟨.times _ _ _ q1 hc2 hc1 ?_ ?_ ?_ ?_ ?_, ?_, ?_, ?_⟩
          · split
            · rintro ⟨h, _⟩; cases h
            · exact h1
          · intro h; rw [if_pos h]
          · split <;> omega
          · split <;> omega
          · split <;> omega
          · rw [nullT_eq]
            cases hnn : nullT (simpleT p) with
            | true => rw [← q2, hnn]; simp
            | false => rw [← q2, hnn]; simp [nullH, hnn]
          · rw [placesT_eq]; simp only [placesL]; rw [if_neg (by decide)]; omega
          · rw [depthT_eq]; simp only [depthL]; omega
end Go.Proofs.Ytgcgijmjlnhdnaa.P
