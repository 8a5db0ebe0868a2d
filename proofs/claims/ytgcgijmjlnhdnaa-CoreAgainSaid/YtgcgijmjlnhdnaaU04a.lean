/- Plain laws of trees: what the reference's functions on trees come to (no memory in sight). -/
import Derived.Test.YtgcgijmjlnhdnaaP04l
namespace Go.Proofs.Ytgcgijmjlnhdnaa.P
open Go.RowKit Go.Proofs.YtgcgijmjlnhdnaaW.PrintWords Go.Proofs.YtgcgijmjlnhdnaaW.PrintLast Go.Proofs.YtgcgijmjlnhdnaaW.PrintMore
set_option linter.unusedVariables false
set_option linter.unusedSimpArgs false
theorem rdN (xs : List S27) (i : Nat) (h : i < xs.length) : rd_T27 xs (i : Int) = xs[i] := by
  simp [rd_T27, List.getD_eq_getElem?_getD, List.getElem?_eq_getElem h]
theorem dropN (xs : List S27) (i : Nat) (h : i < xs.length) : xs.drop i = xs[i] :: xs.drop (i + 1) := List.drop_eq_getElem_cons h
theorem wrapS (i : Nat) (h : i < 9223372036854775807) : wrap64 ((i : Int) + 1) = ((i + 1 : Nat) : Int) := by unfold wrap64; omega
theorem wrapI {n : Int} (h0 : -9223372036854775808 ≤ n) (h1 : n ≤ 9223372036854775807) : wrap64 n = n := by unfold wrap64; omega
theorem len_le_cntL (ps : List S27) : ps.length ≤ cntL ps := by
  induction ps with
  | nil => simp [cntL]
  | cons p ps ih => rw [cntL, List.length_cons]; have := cntT_eq p; omega
theorem cntL_mem {p : S27} {ps : List S27} (h : p ∈ ps) : cntT p ≤ cntL ps := by
  induction ps with
  | nil => cases h
  | cons q ps ih =>
    rw [cntL]
    rcases List.mem_cons.1 h with rfl | h
    · omega
    · have := ih h; omega
theorem cntL_drop (ps : List S27) (i : Nat) : cntL (ps.drop i) ≤ cntL ps := by
  induction ps generalizing i with
  | nil => simp [cntL]
  | cons p ps ih =>
    cases i with
    | zero => simp
    | succ i => rw [List.drop_succ_cons, cntL]; have := ih i; omega

/-! #### how many nodes -/
abbrev sizeF (k : Nat) (x : S27) (m : Int) : Option Int := ostinatoref02_Size.f k x.f0 x.f1.f0 x.f1.f1 x.f1.f2 x.f1.f3 x.f2 x.f3 x.f4 m
theorem size_ev (n : Nat) : ∀ (x : S27) (m : Int), SizeOf.sizeOf x < n → 0 ≤ m → m ≤ 1000000 → ∃ s : Int, Ev (fun k => sizeF k x m) s ∧ 1 ≤ s ∧ s ≤ m + 1 ∧ ((s ≤ m ∨ (cntT x : Int) ≤ m) → s = cntT x) := by
  induction n with
  | zero => intro x m h; omega
  | succ n ih =>
    intro x m hn h0 h1
    obtain ⟨a, ⟨b0, b1, b2, b3⟩, ps, lo, hi⟩ := x
    have hm : ∀ p ∈ ps, SizeOf.sizeOf p < n := fun p hp => by have := mem_lt (t := ⟨a, ⟨b0, b1, b2, b3⟩, ps, lo, hi⟩) hp; omega
    have loop : ∀ (d i : Nat) (s : Int), ps.length - i = d → i ≤ ps.length → (i : Int) < s → s ≤ m + 1 → ∃ r : Int, Ev (fun k => ostinatoref02_Size.l0 k m s (i : Int) a b0 b1 b2 b3 ps lo hi) r ∧ s ≤ r ∧ r ≤ m + 1 ∧ ((r ≤ m ∨ s + (cntL (ps.drop i) : Int) ≤ m) → r = s + cntL (ps.drop i)) := by
      intro d
      induction d with
      | zero =>
        intro i s hd hi' hs hs1
        refine ⟨s, Ev.step (f := fun _ => some s) (fun k => ?_) (Ev.now s), by omega, hs1, fun _ => ?_⟩
        · simp only [ostinatoref02_Size.l0]
          rw [if_neg (by omega)]
        · rw [show i = ps.length by omega, List.drop_length]; simp [cntL]
      | succ d ihd =>
        intro i s hd hi' hs hs1
        have hlt : i < ps.length := by omega
        by_cases hsm : s ≤ m
        · obtain ⟨s', hs', q1, q2, q3⟩ := ih ps[i] (m - s) (hm _ (List.getElem_mem hlt)) (by omega) (by omega)
          obtain ⟨r, hr, r1, r2, r3⟩ := ihd (i + 1) (s + s') (by omega) (by omega) (by omega) (by omega)
          have hc : cntL (ps.drop i) = cntT ps[i] + cntL (ps.drop (i + 1)) := by rw [dropN ps i hlt, cntL]
          refine ⟨r, Ev.step (f := fun k => (sizeF k ps[i] (m - s)).bind fun t => ostinatoref02_Size.l0 k m (wrap64 (s + t)) ((i + 1 : Nat) : Int) a b0 b1 b2 b3 ps lo hi) (fun k => ?_) (Ev.bind hs' ?_), by omega, r2, fun h => ?_⟩
          · simp only [ostinatoref02_Size.l0]
            rw [if_pos (by omega), if_pos hsm, if_pos (by omega), rdN ps i hlt, wrapI (by omega) (by omega), wrapI (n := (i : Int) + 1) (by omega) (by omega)]
            rfl
          · show Ev (fun k => ostinatoref02_Size.l0 k m (wrap64 (s + s')) ((i + 1 : Nat) : Int) a b0 b1 b2 b3 ps lo hi) r
            rw [wrapI (by omega) (by omega)]
            exact hr
          · rw [hc]; rw [hc] at h
            have : s' = cntT ps[i] := q3 (by rcases h with h | h; exact .inl (by omega); exact .inr (by omega))
            have := r3 (by omega)
            omega
        · refine ⟨s, Ev.step (f := fun _ => some s) (fun k => ?_) (Ev.now s), by omega, hs1, fun h => by omega⟩
          simp only [ostinatoref02_Size.l0]
          rw [if_pos (by omega), if_neg hsm]
    obtain ⟨r, hr, r1, r2, r3⟩ := loop ps.length 0 1 (by omega) (by omega) (by omega) (by omega)
    refine ⟨r, Ev.step (f := fun k => ostinatoref02_Size.l0 k m 1 ((0 : Nat) : Int) a b0 b1 b2 b3 ps lo hi) (fun k => ?_) hr, r1, r2, fun h => ?_⟩
    · simp only [sizeF, ostinatoref02_Size.f]; rfl
    · rw [cntT]
      rw [List.drop_zero] at r3
      have := r3 (by rcases h with h | h; exact .inl h; exact .inr (by rw [cntT] at h; omega))
      omega

/-! #### formed -/
abbrev formedF (k : Nat) (x : S27) : Option Bool := ostinatoref02_Formed.f k x.f0 x.f1.f0 x.f1.f1 x.f1.f2 x.f1.f3 x.f2 x.f3 x.f4
theorem formed_head (a b0 b1 b2 b3 lo hi : Int) (ps : List S27) (r : Bool) (h : Ev (fun k => ostinatoref02_Formed.j2 k (shapedB ⟨a, ⟨b0, b1, b2, b3⟩, ps, lo, hi⟩) a b0 b1 b2 b3 ps lo hi) r) : Ev (fun k => formedF k ⟨a, ⟨b0, b1, b2, b3⟩, ps, lo, hi⟩) r := by
  have e0 : ((ps.length : Int) == 0) = (ps.length == 0) := by rw [Bool.eq_iff_iff]; simp
  have e2 : decide ((ps.length : Int) > 1) = decide (2 ≤ ps.length) := by rw [Bool.eq_iff_iff]; simp; omega
  have e1 : ((ps.length : Int) = 1) ↔ (ps.length = 1) := by omega
  have e1' : (ps.length == 1) = decide (ps.length = 1) := by rw [Bool.eq_iff_iff]; simp
  have head : ∀ fr : Bool, fr = (lo == 0 && hi == 0) → Ev (fun k => ostinatoref02_Formed.j0 k (b0 == 0 && (b1 == 0 && (b2 == 0 && b3 == 0))) fr a b0 b1 b2 b3 ps lo hi) r := by
    intro fr hfr
    by_cases k0 : a = 0
    · subst k0
      refine Ev.step (fun k => ?_) h
      simp only [ostinatoref02_Formed.j0, shapedB, emptyB, e0, hfr]
      cases (b0 == 0 && (b1 == 0 && (b2 == 0 && b3 == 0))) <;> cases (lo == 0 && hi == 0) <;> simp
    · by_cases k1 : a = 1
      · subst k1
        refine Ev.step (fun k => ?_) h
        simp only [ostinatoref02_Formed.j0, shapedB, emptyB, e0, hfr]
        cases (lo == 0 && hi == 0) <;> simp
      · by_cases k2 : a = 2
        · subst k2
          refine Ev.step (f := fun k => ostinatoref02_Formed.j1 k (b0 == 0 && (b1 == 0 && (b2 == 0 && b3 == 0))) fr false 2 true 2 b0 b1 b2 b3 ps lo hi) (fun k => by simp [ostinatoref02_Formed.j0]) (Ev.step (fun k => ?_) h)
          simp only [ostinatoref02_Formed.j1, shapedB, emptyB, e2, hfr]
          cases (b0 == 0 && (b1 == 0 && (b2 == 0 && b3 == 0))) <;> cases (lo == 0 && hi == 0) <;> simp
        · by_cases k3 : a = 3
          · subst k3
            refine Ev.step (f := fun k => ostinatoref02_Formed.j1 k (b0 == 0 && (b1 == 0 && (b2 == 0 && b3 == 0))) fr false 3 true 3 b0 b1 b2 b3 ps lo hi) (fun k => by simp [ostinatoref02_Formed.j0]) (Ev.step (fun k => ?_) h)
            simp only [ostinatoref02_Formed.j1, shapedB, emptyB, e2, hfr]
            cases (b0 == 0 && (b1 == 0 && (b2 == 0 && b3 == 0))) <;> cases (lo == 0 && hi == 0) <;> simp
          · have q : Ev (fun k => ostinatoref02_Formed.j1 k (b0 == 0 && (b1 == 0 && (b2 == 0 && b3 == 0))) fr false a false a b0 b1 b2 b3 ps lo hi) r := by
              refine Ev.step (fun k => ?_) h
              by_cases k4 : a = 4
              · subst k4
                simp only [ostinatoref02_Formed.j1, shapedB, emptyB, e1']
                cases (b0 == 0 && (b1 == 0 && (b2 == 0 && b3 == 0)))
                · simp
                · by_cases l1 : ps.length = 1
                  · by_cases g0 : 0 ≤ lo
                    · by_cases g1 : lo ≤ 2147483647
                      · by_cases g2 : hi = -1
                        · subst g2; simp [e1, l1, g0, g1]
                        · have g2' : (hi == -1) = false := by simpa using g2
                          by_cases g3 : hi ≤ 2147483647 <;> by_cases g4 : lo ≤ hi <;> simp [e1, l1, g0, g1, g2, g2', g3, g4]
                      · simp [e1, l1, g0, g1]
                    · simp [e1, l1, g0]
                  · simp [e1, l1]
              · simp [ostinatoref02_Formed.j1, shapedB, k0, k1, k2, k3, k4]
            refine Ev.step (fun k => ?_) q
            have e3 : (a == 3) = false := by simpa using k3
            simp [ostinatoref02_Formed.j0, k0, k1, k2, e3]
  by_cases h3 : lo = 0
  · refine Ev.step (fun k => ?_) (head (hi == 0) (by simp [h3]))
    simp [formedF, ostinatoref02_Formed.f, h3]
  · refine Ev.step (fun k => ?_) (head false (by simp [h3]))
    simp [formedF, ostinatoref02_Formed.f, h3]
theorem formed_ev (n : Nat) : ∀ (x : S27), cntT x < n → cntT x ≤ 1000000 → Ev (fun k => formedF k x) (formedT x) := by
  induction n with
  | zero => intro x h; omega
  | succ n ih =>
    intro x hn hc
    have hx := formedT_eq x
    obtain ⟨a, ⟨b0, b1, b2, b3⟩, ps, lo, hi⟩ := x
    rw [cntT] at hn hc
    refine formed_head a b0 b1 b2 b3 lo hi ps _ ?_
    have loop : ∀ (d i : Nat) (g : Bool), ps.length - i = d → i ≤ ps.length → Ev (fun k => ostinatoref02_Formed.l0 k g (i : Int) a b0 b1 b2 b3 ps lo hi) (g && !((ps.drop i).any fun y => !formedT y)) := by
      intro d
      induction d with
      | zero =>
        intro i g hd hi'
        refine Ev.step (f := fun _ => some g) (fun k => ?_) (by rw [show i = ps.length by omega, List.drop_length]; simpa using Ev.now g)
        simp only [ostinatoref02_Formed.l0]
        rw [if_neg (by omega)]
      | succ d ihd =>
        intro i g hd hi'
        have hlt : i < ps.length := by omega
        cases g with
        | false =>
          refine Ev.step (f := fun _ => some false) (fun k => ?_) (by simpa using Ev.now false)
          simp only [ostinatoref02_Formed.l0]
          rw [if_pos (by omega)]; simp
        | true =>
          have hp := ih ps[i] (by have := cntL_mem (List.getElem_mem hlt); omega) (by have := cntL_mem (List.getElem_mem hlt); omega)
          have hr := ihd (i + 1) (formedT ps[i]) (by omega) (by omega)
          refine Ev.step (f := fun k => (formedF k ps[i]).bind fun t => ostinatoref02_Formed.l0 k t ((i + 1 : Nat) : Int) a b0 b1 b2 b3 ps lo hi) (fun k => ?_) (Ev.bind hp ?_)
          · simp only [ostinatoref02_Formed.l0]
            rw [if_pos (by omega), if_pos trivial, if_pos (by omega), rdN ps i hlt, wrapS i (by have := len_le_cntL ps; omega)]
          · show Ev (fun k => ostinatoref02_Formed.l0 k (formedT ps[i]) ((i + 1 : Nat) : Int) a b0 b1 b2 b3 ps lo hi) _
            have e : (true && !((ps[i] :: ps.drop (i + 1)).any fun y => !formedT y)) = (formedT ps[i] && !((ps.drop (i + 1)).any fun y => !formedT y)) := by simp only [List.any_cons, Bool.not_or, Bool.true_and, Bool.not_not]
            rw [dropN ps i hlt, e]
            exact hr
    refine Ev.step (f := fun k => ostinatoref02_Formed.l0 k (shapedB ⟨a, ⟨b0, b1, b2, b3⟩, ps, lo, hi⟩) ((0 : Nat) : Int) a b0 b1 b2 b3 ps lo hi) (fun k => by simp only [ostinatoref02_Formed.j2]; rfl) ?_
    have := loop ps.length 0 (shapedB ⟨a, ⟨b0, b1, b2, b3⟩, ps, lo, hi⟩) (by omega) (by omega)
    rw [hx]
    simpa using this

/-! #### void, nullable -/
theorem formedT_kind {x : S27} (h : formedT x = true) : (x.f0 = 0 ∨ x.f0 = 1 ∨ x.f0 = 2 ∨ x.f0 = 3 ∨ x.f0 = 4) ∧ ((x.f0 = 2 ∨ x.f0 = 3) → 2 ≤ x.f2.length) ∧ (x.f0 = 4 → x.f2.length = 1 ∧ 0 ≤ x.f3 ∧ x.f3 ≤ 2147483647 ∧ (x.f4 = -1 ∨ x.f3 ≤ x.f4 ∧ x.f4 ≤ 2147483647)) ∧ ((x.f0 = 0 ∨ x.f0 = 1) → x.f2 = []) ∧ (x.f0 ≠ 4 → x.f3 = 0 ∧ x.f4 = 0) ∧ (x.f0 ≠ 1 → emptyB x.f1 = true) ∧ ∀ y ∈ x.f2, formedT y = true := by
  rw [formedT_eq] at h
  simp only [Bool.and_eq_true, Bool.not_eq_true'] at h
  obtain ⟨hs, hp⟩ := h
  have hp' : ∀ y ∈ x.f2, formedT y = true := fun y hy => by have := List.any_eq_false.1 hp y hy; simpa using this
  unfold shapedB at hs
  split at hs
  · next e => simp only [Bool.and_eq_true, beq_iff_eq] at hs; exact ⟨by omega, by omega, by omega, fun _ => List.eq_nil_of_length_eq_zero hs.2, fun _ => hs.1.1, fun _ => hs.1.2, hp'⟩
  · split at hs
    · next e => simp only [Bool.and_eq_true, beq_iff_eq] at hs; exact ⟨by omega, by omega, by omega, fun _ => List.eq_nil_of_length_eq_zero hs.2, fun _ => hs.1, fun h => absurd e h, hp'⟩
    · split at hs
      · next e => simp only [Bool.and_eq_true, beq_iff_eq, decide_eq_true_eq] at hs; exact ⟨by omega, fun _ => hs.2, by omega, by omega, fun _ => hs.1.1, fun _ => hs.1.2, hp'⟩
      · split at hs
        · next e =>
          simp only [Bool.and_eq_true, Bool.or_eq_true, beq_iff_eq, decide_eq_true_eq] at hs
          exact ⟨by omega, by omega, fun _ => ⟨hs.1.1.1.2, hs.1.1.2, hs.1.2, hs.2⟩, by omega, fun h => absurd e h, fun _ => hs.1.1.1.1, hp'⟩
        · cases hs
theorem voidT_eq (x : S27) : voidT x = if x.f0 = 1 then emptyB x.f1 else if x.f0 = 2 then x.f2.any voidT else if x.f0 = 3 then !(x.f2.any fun y => !voidT y) else if x.f0 = 4 then decide (0 < x.f3) && voidH x.f2 else false := by
  cases x; rw [voidT, voidE_any, voidA_all]
theorem nullT_eq (x : S27) : nullT x = if x.f0 = 1 then false else if x.f0 = 2 then !(x.f2.any fun y => !nullT y) else if x.f0 = 3 then x.f2.any nullT else if x.f0 = 4 then x.f3 == 0 || nullH x.f2 else true := by
  cases x; rw [nullT, nullE_any, nullA_all]
theorem list_one {α : Type} {l : List α} (h : l.length = 1) : ∃ x, l = [x] := by
  match l, h with
  | [x], _ => exact ⟨x, rfl⟩
theorem ok_of_formed (n : Nat) : ∀ (x : S27), SizeOf.sizeOf x < n → formedT x = true → okT x = true := by
  induction n with
  | zero => intro x h; omega
  | succ n ih =>
    intro x hn hx
    obtain ⟨_, _, h4, _, _, _, hp⟩ := formedT_kind hx
    rw [okT_eq]
    simp only [Bool.and_eq_true, Bool.or_eq_true, Bool.not_eq_true', beq_eq_false_iff_ne, List.all_eq_true]
    refine ⟨?_, fun y hy => ih y (by have := mem_lt hy; omega) (hp y hy)⟩
    by_cases k : x.f0 = 4
    · right
      have := (h4 k).1
      cases hq : x.f2 with
      | nil => rw [hq] at this; cases this
      | cons _ _ => rfl
    · left; exact k
theorem ok_formed {x : S27} (h : formedT x = true) : okT x = true := ok_of_formed _ x (Nat.lt_succ_self _) h
/-- No tree is both void and nullable. -/
theorem void_null (n : Nat) : ∀ (x : S27), SizeOf.sizeOf x < n → formedT x = true → voidT x = true → nullT x = false := by
  induction n with
  | zero => intro x h; omega
  | succ n ih =>
    intro x hn hx hv
    obtain ⟨hk, h2, h4, _, _, _, hp⟩ := formedT_kind hx
    rw [voidT_eq] at hv
    rw [nullT_eq]
    have ihp : ∀ y ∈ x.f2, voidT y = true → nullT y = false := fun y hy hvy => ih y (by have := mem_lt hy; omega) (hp y hy) hvy
    rcases hk with k | k | k | k | k
    · rw [k] at hv; cases hv
    · rw [k]; rfl
    · rw [k] at hv ⊢
      obtain ⟨y, hy, hvy⟩ := List.any_eq_true.1 (show x.f2.any voidT = true from hv)
      show (!(x.f2.any fun y => !nullT y)) = false
      rw [show (x.f2.any fun y => !nullT y) = true from List.any_eq_true.2 ⟨y, hy, by rw [ihp y hy hvy]; rfl⟩]; rfl
    · rw [k] at hv ⊢
      have hv' : (x.f2.any fun y => !voidT y) = false := by simpa using hv
      show x.f2.any nullT = false
      refine List.any_eq_false.2 fun y hy => ?_
      have := List.any_eq_false.1 hv' y hy
      rw [ihp y hy (by simpa using this)]; simp
    · rw [k] at hv ⊢
      obtain ⟨p, hpe⟩ := list_one (h4 k).1
      have hv' : (decide (0 < x.f3) && voidH x.f2) = true := hv
      show (x.f3 == 0 || nullH x.f2) = false
      rw [hpe] at hv' ⊢
      simp only [voidH, Bool.and_eq_true, decide_eq_true_eq] at hv'
      simp only [nullH, Bool.or_eq_false_iff, beq_eq_false_iff_ne]
      exact ⟨by omega, ihp p (by rw [hpe]; simp) hv'.2⟩
end Go.Proofs.Ytgcgijmjlnhdnaa.P
