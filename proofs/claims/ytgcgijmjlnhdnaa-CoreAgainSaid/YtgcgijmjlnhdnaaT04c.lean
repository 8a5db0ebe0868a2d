/- Plain laws of trees: the simple tree. -/
import Derived.Test.YtgcgijmjlnhdnaaU04b
import Derived.Test.YtgcgijmjlnhdnaaQ04c
namespace Go.Proofs.Ytgcgijmjlnhdnaa.P
open Go.RowKit Go.Proofs.YtgcgijmjlnhdnaaW.PrintWords Go.Proofs.YtgcgijmjlnhdnaaW.PrintLast Go.Proofs.YtgcgijmjlnhdnaaW.PrintMore
set_option linter.unusedVariables false
set_option linter.unusedSimpArgs false
def zT : S27 := ⟨0, ⟨0, 0, 0, 0⟩, [], 0, 0⟩
def oneT (kind : Int) (l : List S27) : S27 := match l with
  | [] => zT
  | [x] => x
  | l => ⟨kind, ⟨0, 0, 0, 0⟩, l, 0, 0⟩
def timesT (p : S27) (lo hi : Int) : S27 :=
  if hi = 0 ∨ p.f0 = 0 ∨ voidT p = true then zT else if lo = 1 ∧ hi = 1 then p else ⟨4, ⟨0, 0, 0, 0⟩, [p], if nullT p = true then 0 else lo, hi⟩
mutual
def simpleT : S27 → S27
  | ⟨k, s, ps, lo, hi⟩ => if voidT ⟨k, s, ps, lo, hi⟩ = true then ⟨1, ⟨0, 0, 0, 0⟩, [], 0, 0⟩ else if k = 2 ∨ k = 3 then oneT k (putL k [] (simpleL ps)) else if k = 4 then timesT (simpleH ps) lo hi else ⟨k, s, ps, lo, hi⟩
def simpleL : List S27 → List S27
  | [] => []
  | p :: ps => simpleT p :: simpleL ps
def simpleH : List S27 → S27
  | [] => zT
  | p :: _ => simpleT p
end
theorem simpleL_map (l : List S27) : simpleL l = l.map simpleT := by
  induction l with
  | nil => rw [simpleL]; rfl
  | cons p l ih => rw [simpleL, ih]; rfl
theorem simpleT_eq (x : S27) : simpleT x = if voidT x = true then ⟨1, ⟨0, 0, 0, 0⟩, [], 0, 0⟩ else if x.f0 = 2 ∨ x.f0 = 3 then oneT x.f0 (putL x.f0 [] (x.f2.map simpleT)) else if x.f0 = 4 then timesT (simpleH x.f2) x.f3 x.f4 else x := by
  cases x; rw [simpleT, simpleL_map]
abbrev tup (x : S27) := (x.f0, x.f1.f0, x.f1.f1, x.f1.f2, x.f1.f3, x.f2, x.f3, x.f4)

theorem etaN (x : S27) : (⟨x.f0, ⟨x.f1.f0, x.f1.f1, x.f1.f2, x.f1.f3⟩, x.f2, x.f3, x.f4⟩ : S27) = x := by cases x; rfl

/-! #### counts, and what is told of parts -/
theorem cntL_append (l m : List S27) : cntL (l ++ m) = cntL l + cntL m := by
  induction l with
  | nil => simp [cntL]
  | cons p l ih => rw [List.cons_append, cntL, cntL, ih]; omega
mutual
theorem putP_cnt (kind : Int) : ∀ (l : List S27) (x : S27), cntL (putP kind l x) ≤ cntL l + cntT x
  | l, ⟨k, s, ps, lo, hi⟩ => by
    have := putL_cnt kind l ps
    rw [putP]
    split
    · rw [cntT]; omega
    · split
      · omega
      · split
        · omega
        · rw [cntL_append]; simp [cntL]
theorem putL_cnt (kind : Int) : ∀ (l ps : List S27), cntL (putL kind l ps) ≤ cntL l + cntL ps
  | l, [] => by simp [putL, cntL]
  | l, p :: ps => by
    have h1 := putP_cnt kind l p
    have h2 := putL_cnt kind (putP kind l p) ps
    rw [putL, cntL]
    omega
end
/-- What holds of each part of what is put, holds of all: Q goes down to parts of the kind. -/
theorem putL_all {Q : S27 → Prop} (kind : Int) (hd : ∀ x, Q x → x.f0 = kind → ∀ y ∈ x.f2, Q y) (n : Nat) : ∀ (l ps : List S27), cntL ps < n → (∀ y ∈ l, Q y) → (∀ y ∈ ps, Q y) → ∀ y ∈ putL kind l ps, Q y := by
  induction n with
  | zero => intro l ps h; omega
  | succ n ih =>
    intro l ps hn hl hp
    cases ps with
    | nil => rw [putL]; exact hl
    | cons p ps =>
      rw [cntL] at hn
      have hc := cntT_eq p
      rw [putL]
      refine ih _ ps (by omega) ?_ (fun y hy => hp y (List.mem_cons_of_mem _ hy))
      rw [putP_eq]
      split
      · next e => exact ih l p.f2 (by omega) hl (hd p (hp p List.mem_cons_self) e)
      · split
        · exact hl
        · split
          · exact hl
          · intro y hy
            rcases List.mem_append.1 hy with hy | hy
            · exact hl y hy
            · rw [List.mem_singleton.1 hy]; exact hp p List.mem_cons_self
theorem oneT_cnt (kind : Int) (l : List S27) : cntT (oneT kind l) ≤ 1 + cntL l := by
  unfold oneT
  split
  · simp [cntT, cntL, zT]
  · simp [cntL]
  · rw [cntT]; omega
theorem ok_zT : okT zT = true := by rw [okT_eq]; rfl
theorem oneT_ok (kind : Int) (hk : kind ≠ 4) (l : List S27) (h : ∀ y ∈ l, okT y = true) : okT (oneT kind l) = true := by
  unfold oneT
  split
  · exact ok_zT
  · next x => exact h x (by simp)
  · rw [okT_eq]; simp [hk]; exact h
theorem timesT_ok (p : S27) (lo hi : Int) (h : okT p = true) : okT (timesT p lo hi) = true := by
  unfold timesT
  split
  · exact ok_zT
  · split
    · exact h
    · rw [okT_eq]; simp [h]
theorem timesT_cnt (p : S27) (lo hi : Int) : cntT (timesT p lo hi) ≤ 1 + cntT p := by
  unfold timesT
  have := cntT_eq p
  split
  · simp [cntT, cntL, zT]
  · split
    · omega
    · simp [cntT, cntL]
theorem okT_parts {x : S27} (h : okT x = true) : (x.f0 = 4 → x.f2 ≠ []) ∧ ∀ y ∈ x.f2, okT y = true := by
  rw [okT_eq] at h
  simpa [Decidable.imp_iff_not_or] using h
theorem simpleT_ok (n : Nat) : ∀ (x : S27), SizeOf.sizeOf x < n → okT x = true → okT (simpleT x) = true ∧ cntT (simpleT x) ≤ cntT x := by
  induction n with
  | zero => intro x h; omega
  | succ n ih =>
    intro x hn hx
    obtain ⟨h4, hp⟩ := okT_parts hx
    have hc := cntT_eq x
    have ihp : ∀ y ∈ x.f2, okT (simpleT y) = true ∧ cntT (simpleT y) ≤ cntT y := fun y hy => ih y (by have := mem_lt hy; omega) (hp y hy)
    have hm : ∀ l : List S27, (∀ y ∈ l, okT (simpleT y) = true ∧ cntT (simpleT y) ≤ cntT y) → (∀ y ∈ l.map simpleT, okT y = true) ∧ cntL (l.map simpleT) ≤ cntL l := by
      intro l
      induction l with
      | nil => intro _; simp [cntL]
      | cons p l ihl =>
        intro h
        obtain ⟨a, b⟩ := ihl (fun y hy => h y (List.mem_cons_of_mem _ hy))
        have hp0 := h p List.mem_cons_self
        refine ⟨fun y hy => ?_, by rw [List.map_cons, cntL, cntL]; omega⟩
        rw [List.map_cons] at hy
        rcases List.mem_cons.1 hy with rfl | hy
        · exact hp0.1
        · exact a y hy
    obtain ⟨ma, mb⟩ := hm x.f2 ihp
    rw [simpleT_eq]
    split
    · exact ⟨by rw [okT_eq]; rfl, by simp [cntT, cntL]; omega⟩
    · split
      · next e =>
        refine ⟨oneT_ok _ (by omega) _ (putL_all x.f0 (fun y hy _ => (okT_parts hy).2) _ [] _ (Nat.lt_succ_self _) (by simp) ma), ?_⟩
        have h1 := oneT_cnt x.f0 (putL x.f0 [] (x.f2.map simpleT))
        have h2 := putL_cnt x.f0 [] (x.f2.map simpleT)
        simp only [cntL] at h2
        omega
      · split
        · next e =>
          cases hq : x.f2 with
          | nil => exact absurd hq (h4 e)
          | cons p ps =>
            have hp0 := ihp p (by rw [hq]; exact List.mem_cons_self)
            rw [simpleH]
            have h1 := timesT_cnt (simpleT p) x.f3 x.f4
            rw [hq, cntL] at hc
            exact ⟨timesT_ok _ _ _ hp0.1, by omega⟩
        · exact ⟨hx, Nat.le_refl _⟩

/-! #### what is printed comes to it -/
theorem one_eq (kind : Int) (l : List S27) : core_one.f kind l = some (tup (oneT kind l)) := by
  unfold core_one.f
  match l with
  | [] => rfl
  | [x] => simp [oneT, rd_T27, tup]
  | x :: y :: l => rw [if_neg (by simp; omega), if_neg (by simp; omega)]; rfl
theorem times_ev (p : S27) (lo hi : Int) (h : okT p = true) : Ev (fun k => core_times.f k p.f0 p.f1.f0 p.f1.f1 p.f1.f2 p.f1.f3 p.f2 p.f3 p.f4 lo hi) (tup (timesT p lo hi)) := by
  obtain ⟨a, ⟨b0, b1, b2, b3⟩, ps, plo, phi⟩ := p
  have yes : (hi = 0 ∨ a = 0 ∨ voidT ⟨a, ⟨b0, b1, b2, b3⟩, ps, plo, phi⟩ = true) → Ev (fun k => core_times.j0 k lo hi true a b0 b1 b2 b3 ps plo phi) (tup (timesT ⟨a, ⟨b0, b1, b2, b3⟩, ps, plo, phi⟩ lo hi)) := by
    intro hc
    unfold timesT
    rw [if_pos hc]
    exact Ev.step (f := fun _ => some (tup zT)) (fun k => by simp only [core_times.j0]; rfl) (Ev.now _)
  by_cases c0 : hi = 0
  · refine Ev.congr (fun k => ?_) (yes (.inl c0))
    simp only [core_times.f]; rw [if_pos c0]
  · by_cases c1 : a = 0
    · refine Ev.congr (fun k => ?_) (yes (.inr (.inl c1)))
      simp only [core_times.f]; rw [if_neg c0, if_pos c1]
    · cases hv : voidT ⟨a, ⟨b0, b1, b2, b3⟩, ps, plo, phi⟩ with
      | true =>
        refine Ev.congr (fun k => ?_) (yes (.inr (.inr hv)))
        simp only [core_times.f]; rw [if_neg c0, if_neg c1]
        simp only [core_void.f]; rw [if_pos h, hv]; rfl
      | false =>
        have hT : timesT ⟨a, ⟨b0, b1, b2, b3⟩, ps, plo, phi⟩ lo hi = if lo = 1 ∧ hi = 1 then ⟨a, ⟨b0, b1, b2, b3⟩, ps, plo, phi⟩ else ⟨4, ⟨0, 0, 0, 0⟩, [⟨a, ⟨b0, b1, b2, b3⟩, ps, plo, phi⟩], if nullT ⟨a, ⟨b0, b1, b2, b3⟩, ps, plo, phi⟩ = true then 0 else lo, hi⟩ := by
          unfold timesT
          rw [if_neg (by simp [c0, c1, hv])]
        have j1 : ∀ b : Bool, b = decide (lo = 1 ∧ hi = 1) → Ev (fun k => core_times.j1 k lo hi b a b0 b1 b2 b3 ps plo phi) (tup (timesT ⟨a, ⟨b0, b1, b2, b3⟩, ps, plo, phi⟩ lo hi)) := by
          intro b hb
          rw [hT]
          cases b with
          | true =>
            rw [if_pos (by simpa using hb.symm)]
            refine Ev.step (f := fun _ => some (tup ⟨a, ⟨b0, b1, b2, b3⟩, ps, plo, phi⟩)) (fun k => by simp only [core_times.j1]; rfl) (Ev.now _)
          | false =>
            rw [if_neg (by simpa using hb.symm)]
            refine Ev.step (f := fun _ => some (tup ⟨4, ⟨0, 0, 0, 0⟩, [⟨a, ⟨b0, b1, b2, b3⟩, ps, plo, phi⟩], if nullT ⟨a, ⟨b0, b1, b2, b3⟩, ps, plo, phi⟩ = true then 0 else lo, hi⟩)) (fun k => ?_) (Ev.now _)
            simp only [core_times.j1]
            rw [if_neg (by decide)]
            simp only [core_nullable.f]
            rw [if_pos h]
            cases nullT ⟨a, ⟨b0, b1, b2, b3⟩, ps, plo, phi⟩ <;> rfl
        refine Ev.congr (f := fun k => core_times.j0 k lo hi false a b0 b1 b2 b3 ps plo phi) (fun k => ?_) ?_
        · simp only [core_times.f]; rw [if_neg c0, if_neg c1]
          simp only [core_void.f]; rw [if_pos h, hv]; rfl
        · by_cases c2 : lo = 1
          · refine Ev.step (fun k => ?_) (j1 (hi == 1) (by rw [Bool.eq_iff_iff]; simp [c2]))
            simp only [core_times.j0]; rw [if_neg (by decide), if_pos c2]
          · refine Ev.step (fun k => ?_) (j1 false (by simp [c2]))
            simp only [core_times.j0]; rw [if_neg (by decide), if_neg c2]
abbrev simpleF (k : Nat) (x : S27) := core_simple.f k x.f0 x.f1.f0 x.f1.f1 x.f1.f2 x.f1.f3 x.f2 x.f3 x.f4
theorem simple_ev (n : Nat) : ∀ (x : S27), cntT x < n → cntT x ≤ 1000000 → okT x = true → Ev (fun k => simpleF k x) (tup (simpleT x)) := by
  induction n with
  | zero => intro x h; omega
  | succ n ih =>
    intro x hn hc hx
    obtain ⟨h4, hp⟩ := okT_parts hx
    have hS := simpleT_eq x
    obtain ⟨a, ⟨b0, b1, b2, b3⟩, ps, lo, hi⟩ := x
    rw [cntT] at hn hc
    simp only at h4 hp hS
    have hll := len_le_cntL ps
    cases hv : voidT ⟨a, ⟨b0, b1, b2, b3⟩, ps, lo, hi⟩ with
    | true =>
      rw [hv, if_pos rfl] at hS
      rw [hS]
      refine Ev.step (f := fun _ => some (tup ⟨1, ⟨0, 0, 0, 0⟩, [], 0, 0⟩)) (fun k => ?_) (Ev.now _)
      simp only [simpleF, core_simple.f, core_void.f]
      rw [if_pos hx, hv]; rfl
    | false =>
      rw [hv, if_neg (by decide)] at hS
      have hms : (∀ y ∈ ps.map simpleT, okT y = true) ∧ cntL (ps.map simpleT) ≤ cntL ps := by
        have : ∀ l : List S27, (∀ y ∈ l, okT y = true) → (∀ y ∈ l.map simpleT, okT y = true) ∧ cntL (l.map simpleT) ≤ cntL l := by
          intro l
          induction l with
          | nil => intro _; simp [cntL]
          | cons p l ihl =>
            intro h
            obtain ⟨u, v⟩ := ihl (fun y hy => h y (List.mem_cons_of_mem _ hy))
            have hp0 := simpleT_ok _ p (Nat.lt_succ_self _) (h p List.mem_cons_self)
            refine ⟨fun y hy => ?_, by rw [List.map_cons, cntL, cntL]; omega⟩
            rw [List.map_cons] at hy
            rcases List.mem_cons.1 hy with rfl | hy
            · exact hp0.1
            · exact u y hy
        exact this ps hp
      -- behind the loop
      have fin : ∀ b : Bool, b = decide (a = 2 ∨ a = 3) → Ev (fun k => core_simple.j1 k (ps.map simpleT) a b a b0 b1 b2 b3 ps lo hi) (tup (simpleT ⟨a, ⟨b0, b1, b2, b3⟩, ps, lo, hi⟩)) := by
        intro b hb
        rw [hS]
        cases b with
        | true =>
          have hk : a = 2 ∨ a = 3 := by simpa using hb.symm
          rw [if_pos hk]
          refine Ev.step (f := fun _ => some (tup (oneT a (putL a [] (ps.map simpleT))))) (fun k => ?_) (Ev.now _)
          simp only [core_simple.j1, core_put.f]
          rw [if_pos trivial, if_pos ⟨trivial, by rw [okL_all, List.all_eq_true]; exact hms.1, by omega⟩]
          simp only [Option.bind_some, one_eq]
        | false =>
          have hk : ¬ (a = 2 ∨ a = 3) := by simpa using hb.symm
          rw [if_neg hk]
          by_cases k4 : a = 4
          · rw [if_pos k4]
            subst k4
            cases ps with
            | nil => exact absurd rfl (h4 rfl)
            | cons p ps =>
              rw [simpleH]
              have ht := times_ev (simpleT p) lo hi (hms.1 _ (by simp))
              refine Ev.step (f := fun k => (core_times.f k (simpleT p).f0 (simpleT p).f1.f0 (simpleT p).f1.f1 (simpleT p).f1.f2 (simpleT p).f1.f3 (simpleT p).f2 (simpleT p).f3 (simpleT p).f4 lo hi).bind fun t => some t) (fun k => ?_) (Ev.bind ht (Ev.now _))
              simp only [core_simple.j1]
              rw [if_neg (by decide), if_pos trivial, if_pos (by simp)]
              rfl
          · rw [if_neg k4]
            refine Ev.step (f := fun _ => some (tup ⟨a, ⟨b0, b1, b2, b3⟩, ps, lo, hi⟩)) (fun k => ?_) (Ev.now _)
            simp only [core_simple.j1]
            rw [if_neg (by decide), if_neg k4]
      have loop : ∀ (d i : Nat), ps.length - i = d → i ≤ ps.length → Ev (fun k => core_simple.l0 k ((ps.take i).map simpleT) ps (ps.length : Int) (i : Int) a b0 b1 b2 b3 ps lo hi) (tup (simpleT ⟨a, ⟨b0, b1, b2, b3⟩, ps, lo, hi⟩)) := by
        intro d
        induction d with
        | zero =>
          intro i hd hile
          have hi' : i = ps.length := by omega
          subst hi'
          rw [List.take_length]
          by_cases k2 : a = 2
          · refine Ev.step (fun k => ?_) (fin (a == 2) (by simp [k2]))
            simp only [core_simple.l0]
            rw [if_neg (by omega), if_pos k2]
          · refine Ev.step (fun k => ?_) (fin (a == 3) (by rw [Bool.eq_iff_iff]; simp [k2]))
            simp only [core_simple.l0]
            rw [if_neg (by omega), if_neg k2]
        | succ d ihd =>
          intro i hd hile
          have hlt : i < ps.length := by omega
          have hmem := List.getElem_mem hlt
          have hcm := cntL_mem hmem
          have hp1 := ih ps[i] (by omega) (by omega) (hp _ hmem)
          have hr := ihd (i + 1) (by omega) (by omega)
          have htk : (ps.take (i + 1)).map simpleT = (ps.take i).map simpleT ++ [simpleT ps[i]] := by
            rw [List.take_add_one, List.getElem?_eq_getElem hlt, List.map_append]; rfl
          rw [htk] at hr
          refine Ev.step (f := fun k => (simpleF k ps[i]).bind fun bt => core_simple.l0 k ((ps.take i).map simpleT ++ [⟨bt.1, ⟨bt.2.1, bt.2.2.1, bt.2.2.2.1, bt.2.2.2.2.1⟩, bt.2.2.2.2.2.1, bt.2.2.2.2.2.2.1, bt.2.2.2.2.2.2.2⟩]) ps (ps.length : Int) ((i + 1 : Nat) : Int) a b0 b1 b2 b3 ps lo hi) (fun k => ?_) (Ev.bind hp1 (by simp only [tup, etaN]; exact hr))
          have hl : ((ps.take i).map simpleT).length < 1759218604441 := by rw [List.length_map, List.length_take]; omega
          simp only [core_simple.l0]
          rw [if_pos (by omega), if_pos (by omega), if_pos (by omega), rdN ps i hlt, wrapS i (by omega)]
          simp only [if_pos hl]
      refine Ev.step (f := fun k => core_simple.l0 k ((ps.take 0).map simpleT) ps (ps.length : Int) ((0 : Nat) : Int) a b0 b1 b2 b3 ps lo hi) (fun k => ?_) (loop ps.length 0 (by omega) (by omega))
      simp only [simpleF, core_simple.f, core_void.f]
      rw [if_pos hx, hv]; rfl
theorem Simple_ev (x : S27) (hc : cntT x ≤ 1000000) (hx : formedT x = true) : Ev (fun k => core_Simple.f k x.f0 x.f1.f0 x.f1.f1 x.f1.f2 x.f1.f3 x.f2 x.f3 x.f4) ((simpleT x).f0, (simpleT x).f1.f0, (simpleT x).f1.f1, (simpleT x).f1.f2, (simpleT x).f1.f3, (simpleT x).f2, (simpleT x).f3, (simpleT x).f4, 0) := by
  have hs := simple_ev _ x (Nat.lt_succ_self _) hc (ok_formed hx)
  obtain ⟨a, ⟨b0, b1, b2, b3⟩, ps, lo, hi⟩ := x
  refine Ev.congr (f := fun k => (simpleF k ⟨a, ⟨b0, b1, b2, b3⟩, ps, lo, hi⟩).bind fun bt => some (bt.1, bt.2.1, bt.2.2.1, bt.2.2.2.1, bt.2.2.2.2.1, bt.2.2.2.2.2.1, bt.2.2.2.2.2.2.1, bt.2.2.2.2.2.2.2, 0)) (fun k => ?_) (Ev.bind hs (Ev.now _))
  simp only [core_Simple.f, syntax_Formed.f, Option.bind_some]
  rw [if_pos hx]
theorem Simple_bad (x : S27) (hx : formedT x = false) (k : Nat) : core_Simple.f k x.f0 x.f1.f0 x.f1.f1 x.f1.f2 x.f1.f3 x.f2 x.f3 x.f4 = some (0, 0, 0, 0, 0, [], 0, 0, 1) := by
  obtain ⟨a, ⟨b0, b1, b2, b3⟩, ps, lo, hi⟩ := x
  simp only [core_Simple.f, syntax_Formed.f, Option.bind_some]
  rw [hx]; rfl

end Go.Proofs.Ytgcgijmjlnhdnaa.P
