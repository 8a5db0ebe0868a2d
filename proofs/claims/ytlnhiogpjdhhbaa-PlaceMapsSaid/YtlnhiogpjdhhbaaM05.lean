/- The plain laws of trees, in one text. -/
import Derived.Test.YtlnhiogpjdhhbaaPx2
import Derived.Test.YtlnhiogpjdhhbaaPx7
import Derived.Test.YtlnhiogpjdhhbaaPx8
import Derived.Test.YtlnhiogpjdhhbaaPx9
import Derived.Test.YtlnhiogpjdhhbaaPx10
import Derived.Test.YtlnhiogpjdhhbaaPx11
import Derived.Test.YtlnhiogpjdhhbaaPx12
import Derived.Test.YtlnhiogpjdhhbaaPx13
import Derived.Test.YtlnhiogpjdhhbaaPx14
import Derived.Test.YtlnhiogpjdhhbaaPx15
import Derived.Test.YtlnhiogpjdhhbaaPx16
import Derived.Test.YtlnhiogpjdhhbaaPx17
namespace Go.Proofs.Ytlnhiogpjdhhbaa.P
open Go.RowKit Go.Proofs.YtlnhiogpjdhhbaaW.PrintWords Go.Proofs.YtlnhiogpjdhhbaaW.PrintLast Go.Proofs.YtlnhiogpjdhhbaaW.PrintMore
set_option linter.unusedVariables false
set_option linter.unusedSimpArgs false
/- Plain laws of trees: what the reference's functions on trees come to (no memory in sight). -/
theorem rdN (xs : List S27) (i : Nat) (h : i < xs.length) : rd_T27 xs (i : Int) = xs[i] := by
  simp [rd_T27, List.getD_eq_getElem?_getD, List.getElem?_eq_getElem h]
theorem dropN (xs : List S27) (i : Nat) (h : i < xs.length) : xs.drop i = xs[i] :: xs.drop (i + 1) := List.drop_eq_getElem_cons h
theorem wrapS (i : Nat) (h : i < 9223372036854775807) : wrap64 ((i : Int) + 1) = ((i + 1 : Nat) : Int) := by unfold wrap64; omega
theorem wrapI {n : Int} (h0 : -9223372036854775808 ≤ n) (h1 : n ≤ 9223372036854775807) : wrap64 n = n := by unfold wrap64; omega
theorem len_le_cntL (ps : List S27) : ps.length ≤ cntL ps := by
  induction ps with
  | nil => simp [cntL]
  | cons p ps ih => rw [cntL, List.length_cons]; have := cntT_eq p; omega
theorem cntL_mem {p : S27} {ps : List S27} (h : p ∈ ps) : cntT p ≤ cntL ps := by
  induction ps with
  | nil => cases h
  | cons q ps ih =>
    rw [cntL]
    rcases List.mem_cons.1 h with rfl | h
    · omega
    · have := ih h; omega
abbrev sizeF (k : Nat) (x : S27) (m : Int) : Option Int := ostinatoref02_Size.f k x.f0 x.f1.f0 x.f1.f1 x.f1.f2 x.f1.f3 x.f2 x.f3 x.f4 m
theorem size_ev (n : Nat) : ∀ (x : S27) (m : Int), SizeOf.sizeOf x < n → 0 ≤ m → m ≤ 1000000 → ∃ s : Int, Ev (fun k => sizeF k x m) s ∧ 1 ≤ s ∧ s ≤ m + 1 ∧ ((s ≤ m ∨ (cntT x : Int) ≤ m) → s = cntT x) := by
  induction n with
  | zero => intro x m h; omega
  | succ n ih =>
    intro x m hn h0 h1
    obtain ⟨a, ⟨b0, b1, b2, b3⟩, ps, lo, hi⟩ := x
    have hm : ∀ p ∈ ps, SizeOf.sizeOf p < n := fun p hp => by have := mem_lt (t := ⟨a, ⟨b0, b1, b2, b3⟩, ps, lo, hi⟩) hp; omega
    have loop : ∀ (d i : Nat) (s : Int), ps.length - i = d → i ≤ ps.length → (i : Int) < s → s ≤ m + 1 → ∃ r : Int, Ev (fun k => ostinatoref02_Size.l0 k m s (i : Int) a b0 b1 b2 b3 ps lo hi) r ∧ s ≤ r ∧ r ≤ m + 1 ∧ ((r ≤ m ∨ s + (cntL (ps.drop i) : Int) ≤ m) → r = s + cntL (ps.drop i)) := by
      intro d
      induction d with
      | zero =>
        intro i s hd hi' hs hs1
        refine ⟨s, Ev.step (f := fun _ => some s) (fun k => ?_) (Ev.now s), by omega, hs1, fun _ => ?_⟩
        · simp only [ostinatoref02_Size.l0]
          rw [if_neg (by omega)]
        · rw [show i = ps.length by omega, List.drop_length]; simp [cntL]
      | succ d ihd =>
        intro i s hd hi' hs hs1
        have hlt : i < ps.length := by omega
        by_cases hsm : s ≤ m
        · obtain ⟨s', hs', q1, q2, q3⟩ := ih ps[i] (m - s) (hm _ (List.getElem_mem hlt)) (by omega) (by omega)
          obtain ⟨r, hr, r1, r2, r3⟩ := ihd (i + 1) (s + s') (by omega) (by omega) (by omega) (by omega)
          have hc : cntL (ps.drop i) = cntT ps[i] + cntL (ps.drop (i + 1)) := by rw [dropN ps i hlt, cntL]
          refine ⟨r, Ev.step (f := fun k => (sizeF k ps[i] (m - s)).bind fun t => ostinatoref02_Size.l0 k m (wrap64 (s + t)) ((i + 1 : Nat) : Int) a b0 b1 b2 b3 ps lo hi) (fun k => ?_) (Ev.bind hs' ?_), by omega, r2, fun h => ?_⟩
          · simp only [ostinatoref02_Size.l0]
            rw [if_pos (by omega), if_pos hsm, if_pos (by omega), rdN ps i hlt, wrapI (by omega) (by omega), wrapI (n := (i : Int) + 1) (by omega) (by omega)]
            rfl
          · show Ev (fun k => ostinatoref02_Size.l0 k m (wrap64 (s + s')) ((i + 1 : Nat) : Int) a b0 b1 b2 b3 ps lo hi) r
            rw [wrapI (by omega) (by omega)]
            exact hr
          · rw [hc]; rw [hc] at h
            have : s' = cntT ps[i] := q3 (by rcases h with h | h; exact .inl (by omega); exact .inr (by omega))
            have := r3 (by omega)
            omega
        · refine ⟨s, Ev.step (f := fun _ => some s) (fun k => ?_) (Ev.now s), by omega, hs1, fun h => by omega⟩
          simp only [ostinatoref02_Size.l0]
          rw [if_pos (by omega), if_neg hsm]
    obtain ⟨r, hr, r1, r2, r3⟩ := loop ps.length 0 1 (by omega) (by omega) (by omega) (by omega)
    refine ⟨r, Ev.step (f := fun k => ostinatoref02_Size.l0 k m 1 ((0 : Nat) : Int) a b0 b1 b2 b3 ps lo hi) (fun k => ?_) hr, r1, r2, fun h => ?_⟩
    · simp only [sizeF, ostinatoref02_Size.f]; rfl
    · rw [cntT]
      rw [List.drop_zero] at r3
      have := r3 (by rcases h with h | h; exact .inl h; exact .inr (by rw [cntT] at h; omega))
      omega

abbrev formedF (k : Nat) (x : S27) : Option Bool := ostinatoref02_Formed.f k x.f0 x.f1.f0 x.f1.f1 x.f1.f2 x.f1.f3 x.f2 x.f3 x.f4
theorem formed_head (a b0 b1 b2 b3 lo hi : Int) (ps : List S27) (r : Bool) (h : Ev (fun k => ostinatoref02_Formed.j2 k (shapedB ⟨a, ⟨b0, b1, b2, b3⟩, ps, lo, hi⟩) a b0 b1 b2 b3 ps lo hi) r) : Ev (fun k => formedF k ⟨a, ⟨b0, b1, b2, b3⟩, ps, lo, hi⟩) r := by
  have e0 : ((ps.length : Int) == 0) = (ps.length == 0) := by rw [Bool.eq_iff_iff]; simp
  have e2 : decide ((ps.length : Int) > 1) = decide (2 ≤ ps.length) := by rw [Bool.eq_iff_iff]; simp; omega
  have e1 : ((ps.length : Int) = 1) ↔ (ps.length = 1) := by omega
  have e1' : (ps.length == 1) = decide (ps.length = 1) := by rw [Bool.eq_iff_iff]; simp
  have head : ∀ fr : Bool, fr = (lo == 0 && hi == 0) → Ev (fun k => ostinatoref02_Formed.j0 k (b0 == 0 && (b1 == 0 && (b2 == 0 && b3 == 0))) fr a b0 b1 b2 b3 ps lo hi) r := by
    intro fr hfr
    by_cases k0 : a = 0
    · subst k0
      refine Ev.step (fun k => ?_) h
      simp only [ostinatoref02_Formed.j0, shapedB, emptyB, e0, hfr]
      cases (b0 == 0 && (b1 == 0 && (b2 == 0 && b3 == 0))) <;> cases (lo == 0 && hi == 0) <;> simp
    · by_cases k1 : a = 1
      · subst k1
        refine Ev.step (fun k => ?_) h
        simp only [ostinatoref02_Formed.j0, shapedB, emptyB, e0, hfr]
        cases (lo == 0 && hi == 0) <;> simp
      · by_cases k2 : a = 2
        · subst k2
          refine Ev.step (f := fun k => ostinatoref02_Formed.j1 k (b0 == 0 && (b1 == 0 && (b2 == 0 && b3 == 0))) fr false 2 true 2 b0 b1 b2 b3 ps lo hi) (fun k => by simp [ostinatoref02_Formed.j0]) (Ev.step (fun k => ?_) h)
          simp only [ostinatoref02_Formed.j1, shapedB, emptyB, e2, hfr]
          cases (b0 == 0 && (b1 == 0 && (b2 == 0 && b3 == 0))) <;> cases (lo == 0 && hi == 0) <;> simp
        · by_cases k3 : a = 3
          · subst k3
            refine Ev.step (f := fun k => ostinatoref02_Formed.j1 k (b0 == 0 && (b1 == 0 && (b2 == 0 && b3 == 0))) fr false 3 true 3 b0 b1 b2 b3 ps lo hi) (fun k => by simp [ostinatoref02_Formed.j0]) (Ev.step (fun k => ?_) h)
            simp only [ostinatoref02_Formed.j1, shapedB, emptyB, e2, hfr]
            cases (b0 == 0 && (b1 == 0 && (b2 == 0 && b3 == 0))) <;> cases (lo == 0 && hi == 0) <;> simp
          · have q : Ev (fun k => ostinatoref02_Formed.j1 k (b0 == 0 && (b1 == 0 && (b2 == 0 && b3 == 0))) fr false a false a b0 b1 b2 b3 ps lo hi) r := by
              refine Ev.step (fun k => ?_) h
              by_cases k4 : a = 4
              · subst k4
                simp only [ostinatoref02_Formed.j1, shapedB, emptyB, e1']
                cases (b0 == 0 && (b1 == 0 && (b2 == 0 && b3 == 0)))
                · simp
                · by_cases l1 : ps.length = 1
                  · by_cases g0 : 0 ≤ lo
                    · by_cases g1 : lo ≤ 2147483647
                      · by_cases g2 : hi = -1
                        · subst g2; simp [e1, l1, g0, g1]
                        · have g2' : (hi == -1) = false := by simpa using g2
                          by_cases g3 : hi ≤ 2147483647 <;> by_cases g4 : lo ≤ hi <;> simp [e1, l1, g0, g1, g2, g2', g3, g4]
                      · simp [e1, l1, g0, g1]
                    · simp [e1, l1, g0]
                  · simp [e1, l1]
              · simp [ostinatoref02_Formed.j1, shapedB, k0, k1, k2, k3, k4]
            refine Ev.step (fun k => ?_) q
            have e3 : (a == 3) = false := by simpa using k3
            simp [ostinatoref02_Formed.j0, k0, k1, k2, e3]
  by_cases h3 : lo = 0
  · refine Ev.step (fun k => ?_) (head (hi == 0) (by simp [h3]))
    simp [formedF, ostinatoref02_Formed.f, h3]
  · refine Ev.step (fun k => ?_) (head false (by simp [h3]))
    simp [formedF, ostinatoref02_Formed.f, h3]
theorem formed_ev (n : Nat) : ∀ (x : S27), cntT x < n → cntT x ≤ 1000000 → Ev (fun k => formedF k x) (formedT x) := by
  induction n with
  | zero => intro x h; omega
  | succ n ih =>
    intro x hn hc
    have hx := formedT_eq x
    obtain ⟨a, ⟨b0, b1, b2, b3⟩, ps, lo, hi⟩ := x
    rw [cntT] at hn hc
    refine formed_head a b0 b1 b2 b3 lo hi ps _ ?_
    have loop : ∀ (d i : Nat) (g : Bool), ps.length - i = d → i ≤ ps.length → Ev (fun k => ostinatoref02_Formed.l0 k g (i : Int) a b0 b1 b2 b3 ps lo hi) (g && !((ps.drop i).any fun y => !formedT y)) := by
      intro d
      induction d with
      | zero =>
        intro i g hd hi'
        refine Ev.step (f := fun _ => some g) (fun k => ?_) (by rw [show i = ps.length by omega, List.drop_length]; simpa using Ev.now g)
        simp only [ostinatoref02_Formed.l0]
        rw [if_neg (by omega)]
      | succ d ihd =>
        intro i g hd hi'
        have hlt : i < ps.length := by omega
        cases g with
        | false =>
          refine Ev.step (f := fun _ => some false) (fun k => ?_) (by simpa using Ev.now false)
          simp only [ostinatoref02_Formed.l0]
          rw [if_pos (by omega)]; simp
        | true =>
          have hp := ih ps[i] (by have := cntL_mem (List.getElem_mem hlt); omega) (by have := cntL_mem (List.getElem_mem hlt); omega)
          have hr := ihd (i + 1) (formedT ps[i]) (by omega) (by omega)
          refine Ev.step (f := fun k => (formedF k ps[i]).bind fun t => ostinatoref02_Formed.l0 k t ((i + 1 : Nat) : Int) a b0 b1 b2 b3 ps lo hi) (fun k => ?_) (Ev.bind hp ?_)
          · simp only [ostinatoref02_Formed.l0]
            rw [if_pos (by omega), if_pos trivial, if_pos (by omega), rdN ps i hlt, wrapS i (by have := len_le_cntL ps; omega)]
          · show Ev (fun k => ostinatoref02_Formed.l0 k (formedT ps[i]) ((i + 1 : Nat) : Int) a b0 b1 b2 b3 ps lo hi) _
            have e : (true && !((ps[i] :: ps.drop (i + 1)).any fun y => !formedT y)) = (formedT ps[i] && !((ps.drop (i + 1)).any fun y => !formedT y)) := by simp only [List.any_cons, Bool.not_or, Bool.true_and, Bool.not_not]
            rw [dropN ps i hlt, e]
            exact hr
    refine Ev.step (f := fun k => ostinatoref02_Formed.l0 k (shapedB ⟨a, ⟨b0, b1, b2, b3⟩, ps, lo, hi⟩) ((0 : Nat) : Int) a b0 b1 b2 b3 ps lo hi) (fun k => by simp only [ostinatoref02_Formed.j2]; rfl) ?_
    have := loop ps.length 0 (shapedB ⟨a, ⟨b0, b1, b2, b3⟩, ps, lo, hi⟩) (by omega) (by omega)
    rw [hx]
    simpa using this

theorem formedT_kind {x : S27} (h : formedT x = true) : (x.f0 = 0 ∨ x.f0 = 1 ∨ x.f0 = 2 ∨ x.f0 = 3 ∨ x.f0 = 4) ∧ ((x.f0 = 2 ∨ x.f0 = 3) → 2 ≤ x.f2.length) ∧ (x.f0 = 4 → x.f2.length = 1 ∧ 0 ≤ x.f3 ∧ x.f3 ≤ 2147483647 ∧ (x.f4 = -1 ∨ x.f3 ≤ x.f4 ∧ x.f4 ≤ 2147483647)) ∧ ((x.f0 = 0 ∨ x.f0 = 1) → x.f2 = []) ∧ (x.f0 ≠ 4 → x.f3 = 0 ∧ x.f4 = 0) ∧ (x.f0 ≠ 1 → emptyB x.f1 = true) ∧ ∀ y ∈ x.f2, formedT y = true := by
  rw [formedT_eq] at h
  simp only [Bool.and_eq_true, Bool.not_eq_true'] at h
  obtain ⟨hs, hp⟩ := h
  have hp' : ∀ y ∈ x.f2, formedT y = true := fun y hy => by have := List.any_eq_false.1 hp y hy; simpa using this
  unfold shapedB at hs
  split at hs
  · next e => simp only [Bool.and_eq_true, beq_iff_eq] at hs; exact ⟨by omega, by omega, by omega, fun _ => List.eq_nil_of_length_eq_zero hs.2, fun _ => hs.1.1, fun _ => hs.1.2, hp'⟩
  · split at hs
    · next e => simp only [Bool.and_eq_true, beq_iff_eq] at hs; exact ⟨by omega, by omega, by omega, fun _ => List.eq_nil_of_length_eq_zero hs.2, fun _ => hs.1, fun h => absurd e h, hp'⟩
    · split at hs
      · next e => simp only [Bool.and_eq_true, beq_iff_eq, decide_eq_true_eq] at hs; exact ⟨by omega, fun _ => hs.2, by omega, by omega, fun _ => hs.1.1, fun _ => hs.1.2, hp'⟩
      · split at hs
        · next e =>
          simp only [Bool.and_eq_true, Bool.or_eq_true, beq_iff_eq, decide_eq_true_eq] at hs
          exact ⟨by omega, by omega, fun _ => ⟨hs.1.1.1.2, hs.1.1.2, hs.1.2, hs.2⟩, by omega, fun h => absurd e h, fun _ => hs.1.1.1.1, hp'⟩
        · cases hs
theorem voidT_eq (x : S27) : voidT x = if x.f0 = 1 then emptyB x.f1 else if x.f0 = 2 then x.f2.any voidT else if x.f0 = 3 then !(x.f2.any fun y => !voidT y) else if x.f0 = 4 then decide (0 < x.f3) && voidH x.f2 else false := by
  cases x; rw [voidT, voidE_any, voidA_all]
theorem nullT_eq (x : S27) : nullT x = if x.f0 = 1 then false else if x.f0 = 2 then !(x.f2.any fun y => !nullT y) else if x.f0 = 3 then x.f2.any nullT else if x.f0 = 4 then x.f3 == 0 || nullH x.f2 else true := by
  cases x; rw [nullT, nullE_any, nullA_all]
theorem list_one {α : Type} {l : List α} (h : l.length = 1) : ∃ x, l = [x] := by
  match l, h with
  | [x], _ => exact ⟨x, rfl⟩
theorem ok_of_formed (n : Nat) : ∀ (x : S27), SizeOf.sizeOf x < n → formedT x = true → okT x = true := by
  induction n with
  | zero => intro x h; omega
  | succ n ih =>
    intro x hn hx
    obtain ⟨_, _, h4, _, _, _, hp⟩ := formedT_kind hx
    rw [okT_eq]
    simp only [Bool.and_eq_true, Bool.or_eq_true, Bool.not_eq_true', beq_eq_false_iff_ne, List.all_eq_true]
    refine ⟨?_, fun y hy => ih y (by have := mem_lt hy; omega) (hp y hy)⟩
    by_cases k : x.f0 = 4
    · right
      have := (h4 k).1
      cases hq : x.f2 with
      | nil => rw [hq] at this; cases this
      | cons _ _ => rfl
    · left; exact k
theorem ok_formed {x : S27} (h : formedT x = true) : okT x = true := ok_of_formed _ x (Nat.lt_succ_self _) h
theorem void_null (n : Nat) : ∀ (x : S27), SizeOf.sizeOf x < n → formedT x = true → voidT x = true → nullT x = false := by
  induction n with
  | zero => intro x h; omega
  | succ n ih =>
    intro x hn hx hv
    obtain ⟨hk, h2, h4, _, _, _, hp⟩ := formedT_kind hx
    rw [voidT_eq] at hv
    rw [nullT_eq]
    have ihp : ∀ y ∈ x.f2, voidT y = true → nullT y = false := fun y hy hvy => ih y (by have := mem_lt hy; omega) (hp y hy) hvy
    rcases hk with k | k | k | k | k
    · rw [k] at hv; cases hv
    · rw [k]; rfl
    · rw [k] at hv ⊢
      obtain ⟨y, hy, hvy⟩ := List.any_eq_true.1 (show x.f2.any voidT = true from hv)
      show (!(x.f2.any fun y => !nullT y)) = false
      rw [show (x.f2.any fun y => !nullT y) = true from List.any_eq_true.2 ⟨y, hy, by rw [ihp y hy hvy]; rfl⟩]; rfl
    · rw [k] at hv ⊢
      have hv' : (x.f2.any fun y => !voidT y) = false := by simpa using hv
      show x.f2.any nullT = false
      refine List.any_eq_false.2 fun y hy => ?_
      have := List.any_eq_false.1 hv' y hy
      rw [ihp y hy (by simpa using this)]; simp
    · rw [k] at hv ⊢
      obtain ⟨p, hpe⟩ := list_one (h4 k).1
      have hv' : (decide (0 < x.f3) && voidH x.f2) = true := hv
      show (x.f3 == 0 || nullH x.f2) = false
      rw [hpe] at hv' ⊢
      simp only [voidH, Bool.and_eq_true, decide_eq_true_eq] at hv'
      simp only [nullH, Bool.or_eq_false_iff, beq_eq_false_iff_ne]
      exact ⟨by omega, ihp p (by rw [hpe]; simp) hv'.2⟩
/- Plain laws of trees: the reference's Same. -/
abbrev sameF (k : Nat) (x y : S27) : Option Bool := ostinatoref02_Same.f k x.f0 x.f1.f0 x.f1.f1 x.f1.f2 x.f1.f3 x.f2 x.f3 x.f4 y.f0 y.f1.f0 y.f1.f1 y.f1.f2 y.f1.f3 y.f2 y.f3 y.f4
theorem refSame_ev (n : Nat) : ∀ (x y : S27), cntT x < n → cntT x ≤ 1000000 → Ev (fun k => sameF k x y) (sameT x y) := by
  induction n with
  | zero => intro x y h; omega
  | succ n ih =>
    intro x y hn hc
    obtain ⟨a, ⟨b0, b1, b2, b3⟩, ps, lo, hi⟩ := x
    obtain ⟨a', ⟨c0, c1, c2, c3⟩, qs, lo', hi'⟩ := y
    rw [cntT] at hn hc
    have hs : sameT ⟨a, ⟨b0, b1, b2, b3⟩, ps, lo, hi⟩ ⟨a', ⟨c0, c1, c2, c3⟩, qs, lo', hi'⟩ = (a == a' && (b0 == c0 && (b1 == c1 && (b2 == c2 && b3 == c3))) && lo == lo' && hi == hi' && sameL ps qs) := by rw [sameT]
    have bad : sameT ⟨a, ⟨b0, b1, b2, b3⟩, ps, lo, hi⟩ ⟨a', ⟨c0, c1, c2, c3⟩, qs, lo', hi'⟩ = false → Ev (fun k => ostinatoref02_Same.j0 k true a b0 b1 b2 b3 ps lo hi a' c0 c1 c2 c3 qs lo' hi') (sameT ⟨a, ⟨b0, b1, b2, b3⟩, ps, lo, hi⟩ ⟨a', ⟨c0, c1, c2, c3⟩, qs, lo', hi'⟩) := by
      intro h
      rw [h]
      exact Ev.step (f := fun _ => some false) (fun k => by simp [ostinatoref02_Same.j0]) (Ev.now false)
    have loop : ps.length = qs.length → ∀ (d i : Nat), ps.length - i = d → i ≤ ps.length → Ev (fun k => ostinatoref02_Same.l0 k (i : Int) a b0 b1 b2 b3 ps lo hi a' c0 c1 c2 c3 qs lo' hi') (sameL (ps.drop i) (qs.drop i)) := by
      intro hl d
      induction d with
      | zero =>
        intro i hd hile
        refine Ev.step (f := fun _ => some true) (fun k => ?_) (by rw [show i = ps.length by omega, List.drop_length, hl, List.drop_length]; simpa [sameL] using Ev.now true)
        simp only [ostinatoref02_Same.l0]
        rw [if_neg (by omega)]
      | succ d ihd =>
        intro i hd hile
        have hlt : i < ps.length := by omega
        have hlq : i < qs.length := by omega
        have hp := ih ps[i] qs[i] (by have := cntL_mem (List.getElem_mem hlt); omega) (by have := cntL_mem (List.getElem_mem hlt); omega)
        have hr := ihd (i + 1) (by omega) (by omega)
        refine Ev.step (f := fun k => (sameF k ps[i] qs[i]).bind fun t => if t = true then ostinatoref02_Same.l0 k ((i + 1 : Nat) : Int) a b0 b1 b2 b3 ps lo hi a' c0 c1 c2 c3 qs lo' hi' else some false) (fun k => ?_) (Ev.bind hp ?_)
        · simp only [ostinatoref02_Same.l0]
          rw [if_pos (by omega), if_pos (by omega), if_pos (by omega), rdN ps i hlt, rdN qs i hlq, wrapS i (by have := len_le_cntL ps; omega)]
        · rw [dropN ps i hlt, dropN qs i hlq, sameL]
          cases sameT ps[i] qs[i] with
          | true => simpa using hr
          | false => simpa using Ev.now false
    by_cases k0 : a = a'
    · by_cases k1 : (b0 == c0 && (b1 == c1 && (b2 == c2 && b3 == c3))) = true
      · have k1' : (!(b0 == c0) || (!(b1 == c1) || (!(b2 == c2) || (!(b3 == c3))))) = false := by
          simp only [Bool.and_eq_true] at k1; simp [k1]
        by_cases k2 : lo = lo'
        · by_cases k3 : hi = hi'
          · by_cases hl : ps.length = qs.length
            · have hq := loop hl ps.length 0 (by omega) (by omega)
              rw [hs]
              refine Ev.step (f := fun k => ostinatoref02_Same.j0 k ((ps.length : Int) != (qs.length : Int)) a b0 b1 b2 b3 ps lo hi a' c0 c1 c2 c3 qs lo' hi') (fun k => by simp [sameF, ostinatoref02_Same.f, k0, k1', k2, k3]) ?_
              refine Ev.step (f := fun k => ostinatoref02_Same.l0 k ((0 : Nat) : Int) a b0 b1 b2 b3 ps lo hi a' c0 c1 c2 c3 qs lo' hi') (fun k => by simp [ostinatoref02_Same.j0, hl]) ?_
              simpa [k0, k1, k2, k3] using hq
            · refine Ev.step (f := fun k => ostinatoref02_Same.j0 k true a b0 b1 b2 b3 ps lo hi a' c0 c1 c2 c3 qs lo' hi') (fun k => ?_) (bad (by rw [hs, sameL_len ps qs hl]; simp))
              have : ((ps.length : Int) != (qs.length : Int)) = true := by simp; omega
              simp [sameF, ostinatoref02_Same.f, k0, k1', k2, k3, this]
          · refine Ev.step (f := fun k => ostinatoref02_Same.j0 k true a b0 b1 b2 b3 ps lo hi a' c0 c1 c2 c3 qs lo' hi') (fun k => ?_) (bad (by rw [hs]; simp [k3]))
            simp [sameF, ostinatoref02_Same.f, k0, k1', k2, k3]
        · refine Ev.step (f := fun k => ostinatoref02_Same.j0 k true a b0 b1 b2 b3 ps lo hi a' c0 c1 c2 c3 qs lo' hi') (fun k => ?_) (bad (by rw [hs]; simp [k2]))
          simp [sameF, ostinatoref02_Same.f, k0, k1', k2]
      · have k1' : (!(b0 == c0) || (!(b1 == c1) || (!(b2 == c2) || (!(b3 == c3))))) = true := by
          have := Bool.eq_false_iff.2 k1
          cases h0 : b0 == c0 <;> cases h1 : b1 == c1 <;> cases h2 : b2 == c2 <;> cases h3 : b3 == c3 <;> simp_all
        refine Ev.step (f := fun k => ostinatoref02_Same.j0 k true a b0 b1 b2 b3 ps lo hi a' c0 c1 c2 c3 qs lo' hi') (fun k => ?_) (bad (by rw [hs, Bool.eq_false_iff.2 k1]; simp))
        simp only [sameF, ostinatoref02_Same.f]
        rw [if_pos k0, if_pos k1']
    · refine Ev.step (f := fun k => ostinatoref02_Same.j0 k true a b0 b1 b2 b3 ps lo hi a' c0 c1 c2 c3 qs lo' hi') (fun k => ?_) (bad (by rw [hs]; simp [k0]))
      simp [sameF, ostinatoref02_Same.f, k0]

/- Plain laws of trees: the simple tree. -/
def zT : S27 := ⟨0, ⟨0, 0, 0, 0⟩, [], 0, 0⟩
def oneT (kind : Int) (l : List S27) : S27 := match l with
  | [] => zT
  | [x] => x
  | l => ⟨kind, ⟨0, 0, 0, 0⟩, l, 0, 0⟩
def timesT (p : S27) (lo hi : Int) : S27 :=
  if hi = 0 ∨ p.f0 = 0 ∨ voidT p = true then zT else if lo = 1 ∧ hi = 1 then p else ⟨4, ⟨0, 0, 0, 0⟩, [p], if nullT p = true then 0 else lo, hi⟩
mutual
def simpleT : S27 → S27
  | ⟨k, s, ps, lo, hi⟩ => if voidT ⟨k, s, ps, lo, hi⟩ = true then ⟨1, ⟨0, 0, 0, 0⟩, [], 0, 0⟩ else if k = 2 ∨ k = 3 then oneT k (putL k [] (simpleL ps)) else if k = 4 then timesT (simpleH ps) lo hi else ⟨k, s, ps, lo, hi⟩
def simpleL : List S27 → List S27
  | [] => []
  | p :: ps => simpleT p :: simpleL ps
def simpleH : List S27 → S27
  | [] => zT
  | p :: _ => simpleT p
end
theorem simpleL_map (l : List S27) : simpleL l = l.map simpleT := by
  induction l with
  | nil => rw [simpleL]; rfl
  | cons p l ih => rw [simpleL, ih]; rfl
theorem simpleT_eq (x : S27) : simpleT x = if voidT x = true then ⟨1, ⟨0, 0, 0, 0⟩, [], 0, 0⟩ else if x.f0 = 2 ∨ x.f0 = 3 then oneT x.f0 (putL x.f0 [] (x.f2.map simpleT)) else if x.f0 = 4 then timesT (simpleH x.f2) x.f3 x.f4 else x := by
  cases x; rw [simpleT, simpleL_map]
abbrev tup (x : S27) := (x.f0, x.f1.f0, x.f1.f1, x.f1.f2, x.f1.f3, x.f2, x.f3, x.f4)

theorem etaN (x : S27) : (⟨x.f0, ⟨x.f1.f0, x.f1.f1, x.f1.f2, x.f1.f3⟩, x.f2, x.f3, x.f4⟩ : S27) = x := by cases x; rfl

theorem cntL_append (l m : List S27) : cntL (l ++ m) = cntL l + cntL m := by
  induction l with
  | nil => simp [cntL]
  | cons p l ih => rw [List.cons_append, cntL, cntL, ih]; omega
mutual
theorem putP_cnt (kind : Int) : ∀ (l : List S27) (x : S27), cntL (putP kind l x) ≤ cntL l + cntT x
  | l, ⟨k, s, ps, lo, hi⟩ => by
    have := putL_cnt kind l ps
    rw [putP]
    split
    · rw [cntT]; omega
    · split
      · omega
      · split
        · omega
        · rw [cntL_append]; simp [cntL]
theorem putL_cnt (kind : Int) : ∀ (l ps : List S27), cntL (putL kind l ps) ≤ cntL l + cntL ps
  | l, [] => by simp [putL, cntL]
  | l, p :: ps => by
    have h1 := putP_cnt kind l p
    have h2 := putL_cnt kind (putP kind l p) ps
    rw [putL, cntL]
    omega
end
theorem putL_all {Q : S27 → Prop} (kind : Int) (hd : ∀ x, Q x → x.f0 = kind → ∀ y ∈ x.f2, Q y) (n : Nat) : ∀ (l ps : List S27), cntL ps < n → (∀ y ∈ l, Q y) → (∀ y ∈ ps, Q y) → ∀ y ∈ putL kind l ps, Q y := by
  induction n with
  | zero => intro l ps h; omega
  | succ n ih =>
    intro l ps hn hl hp
    cases ps with
    | nil => rw [putL]; exact hl
    | cons p ps =>
      rw [cntL] at hn
      have hc := cntT_eq p
      rw [putL]
      refine ih _ ps (by omega) ?_ (fun y hy => hp y (List.mem_cons_of_mem _ hy))
      rw [putP_eq]
      split
      · next e => exact ih l p.f2 (by omega) hl (hd p (hp p List.mem_cons_self) e)
      · split
        · exact hl
        · split
          · exact hl
          · intro y hy
            rcases List.mem_append.1 hy with hy | hy
            · exact hl y hy
            · rw [List.mem_singleton.1 hy]; exact hp p List.mem_cons_self
theorem oneT_cnt (kind : Int) (l : List S27) : cntT (oneT kind l) ≤ 1 + cntL l := by
  unfold oneT
  split
  · simp [cntT, cntL, zT]
  · simp [cntL]
  · rw [cntT]; omega
theorem ok_zT : okT zT = true := by rw [okT_eq]; rfl
theorem oneT_ok (kind : Int) (hk : kind ≠ 4) (l : List S27) (h : ∀ y ∈ l, okT y = true) : okT (oneT kind l) = true := by
  unfold oneT
  split
  · exact ok_zT
  · next x => exact h x (by simp)
  · rw [okT_eq]; simp [hk]; exact h
theorem timesT_ok (p : S27) (lo hi : Int) (h : okT p = true) : okT (timesT p lo hi) = true := by
  unfold timesT
  split
  · exact ok_zT
  · split
    · exact h
    · rw [okT_eq]; simp [h]
theorem timesT_cnt (p : S27) (lo hi : Int) : cntT (timesT p lo hi) ≤ 1 + cntT p := by
  unfold timesT
  have := cntT_eq p
  split
  · simp [cntT, cntL, zT]
  · split
    · omega
    · simp [cntT, cntL]
theorem okT_parts {x : S27} (h : okT x = true) : (x.f0 = 4 → x.f2 ≠ []) ∧ ∀ y ∈ x.f2, okT y = true := by
  rw [okT_eq] at h
  simpa [Decidable.imp_iff_not_or] using h
theorem simpleT_ok (n : Nat) : ∀ (x : S27), SizeOf.sizeOf x < n → okT x = true → okT (simpleT x) = true ∧ cntT (simpleT x) ≤ cntT x := by
  induction n with
  | zero => intro x h; omega
  | succ n ih =>
    intro x hn hx
    obtain ⟨h4, hp⟩ := okT_parts hx
    have hc := cntT_eq x
    have ihp : ∀ y ∈ x.f2, okT (simpleT y) = true ∧ cntT (simpleT y) ≤ cntT y := fun y hy => ih y (by have := mem_lt hy; omega) (hp y hy)
    have hm : ∀ l : List S27, (∀ y ∈ l, okT (simpleT y) = true ∧ cntT (simpleT y) ≤ cntT y) → (∀ y ∈ l.map simpleT, okT y = true) ∧ cntL (l.map simpleT) ≤ cntL l := by
      intro l
      induction l with
      | nil => intro _; simp [cntL]
      | cons p l ihl =>
        intro h
        obtain ⟨a, b⟩ := ihl (fun y hy => h y (List.mem_cons_of_mem _ hy))
        have hp0 := h p List.mem_cons_self
        refine ⟨fun y hy => ?_, by rw [List.map_cons, cntL, cntL]; omega⟩
        rw [List.map_cons] at hy
        rcases List.mem_cons.1 hy with rfl | hy
        · exact hp0.1
        · exact a y hy
    obtain ⟨ma, mb⟩ := hm x.f2 ihp
    rw [simpleT_eq]
    split
    · exact ⟨by rw [okT_eq]; rfl, by simp [cntT, cntL]; omega⟩
    · split
      · next e =>
        refine ⟨oneT_ok _ (by omega) _ (putL_all x.f0 (fun y hy _ => (okT_parts hy).2) _ [] _ (Nat.lt_succ_self _) (by simp) ma), ?_⟩
        have h1 := oneT_cnt x.f0 (putL x.f0 [] (x.f2.map simpleT))
        have h2 := putL_cnt x.f0 [] (x.f2.map simpleT)
        simp only [cntL] at h2
        omega
      · split
        · next e =>
          cases hq : x.f2 with
          | nil => exact absurd hq (h4 e)
          | cons p ps =>
            have hp0 := ihp p (by rw [hq]; exact List.mem_cons_self)
            rw [simpleH]
            have h1 := timesT_cnt (simpleT p) x.f3 x.f4
            rw [hq, cntL] at hc
            exact ⟨timesT_ok _ _ _ hp0.1, by omega⟩
        · exact ⟨hx, Nat.le_refl _⟩

theorem one_eq (kind : Int) (l : List S27) : core_one.f kind l = some (tup (oneT kind l)) := by
  unfold core_one.f
  match l with
  | [] => rfl
  | [x] => simp [oneT, rd_T27, tup]
  | x :: y :: l => rw [if_neg (by simp; omega), if_neg (by simp; omega)]; rfl
theorem times_ev (p : S27) (lo hi : Int) (h : okT p = true) : Ev (fun k => core_times.f k p.f0 p.f1.f0 p.f1.f1 p.f1.f2 p.f1.f3 p.f2 p.f3 p.f4 lo hi) (tup (timesT p lo hi)) := by
  obtain ⟨a, ⟨b0, b1, b2, b3⟩, ps, plo, phi⟩ := p
  have yes : (hi = 0 ∨ a = 0 ∨ voidT ⟨a, ⟨b0, b1, b2, b3⟩, ps, plo, phi⟩ = true) → Ev (fun k => core_times.j0 k lo hi true a b0 b1 b2 b3 ps plo phi) (tup (timesT ⟨a, ⟨b0, b1, b2, b3⟩, ps, plo, phi⟩ lo hi)) := by
    intro hc
    unfold timesT
    rw [if_pos hc]
    exact Ev.step (f := fun _ => some (tup zT)) (fun k => by simp only [core_times.j0]; rfl) (Ev.now _)
  by_cases c0 : hi = 0
  · refine Ev.congr (fun k => ?_) (yes (.inl c0))
    simp only [core_times.f]; rw [if_pos c0]
  · by_cases c1 : a = 0
    · refine Ev.congr (fun k => ?_) (yes (.inr (.inl c1)))
      simp only [core_times.f]; rw [if_neg c0, if_pos c1]
    · cases hv : voidT ⟨a, ⟨b0, b1, b2, b3⟩, ps, plo, phi⟩ with
      | true =>
        refine Ev.congr (fun k => ?_) (yes (.inr (.inr hv)))
        simp only [core_times.f]; rw [if_neg c0, if_neg c1]
        simp only [core_void.f]; rw [if_pos h, hv]; rfl
      | false =>
        have hT : timesT ⟨a, ⟨b0, b1, b2, b3⟩, ps, plo, phi⟩ lo hi = if lo = 1 ∧ hi = 1 then ⟨a, ⟨b0, b1, b2, b3⟩, ps, plo, phi⟩ else ⟨4, ⟨0, 0, 0, 0⟩, [⟨a, ⟨b0, b1, b2, b3⟩, ps, plo, phi⟩], if nullT ⟨a, ⟨b0, b1, b2, b3⟩, ps, plo, phi⟩ = true then 0 else lo, hi⟩ := by
          unfold timesT
          rw [if_neg (by simp [c0, c1, hv])]
        have j1 : ∀ b : Bool, b = decide (lo = 1 ∧ hi = 1) → Ev (fun k => core_times.j1 k lo hi b a b0 b1 b2 b3 ps plo phi) (tup (timesT ⟨a, ⟨b0, b1, b2, b3⟩, ps, plo, phi⟩ lo hi)) := by
          intro b hb
          rw [hT]
          cases b with
          | true =>
            rw [if_pos (by simpa using hb.symm)]
            refine Ev.step (f := fun _ => some (tup ⟨a, ⟨b0, b1, b2, b3⟩, ps, plo, phi⟩)) (fun k => by simp only [core_times.j1]; rfl) (Ev.now _)
          | false =>
            rw [if_neg (by simpa using hb.symm)]
            refine Ev.step (f := fun _ => some (tup ⟨4, ⟨0, 0, 0, 0⟩, [⟨a, ⟨b0, b1, b2, b3⟩, ps, plo, phi⟩], if nullT ⟨a, ⟨b0, b1, b2, b3⟩, ps, plo, phi⟩ = true then 0 else lo, hi⟩)) (fun k => ?_) (Ev.now _)
            simp only [core_times.j1]
            rw [if_neg (by decide)]
            simp only [core_nullable.f]
            rw [if_pos h]
            cases nullT ⟨a, ⟨b0, b1, b2, b3⟩, ps, plo, phi⟩ <;> rfl
        refine Ev.congr (f := fun k => core_times.j0 k lo hi false a b0 b1 b2 b3 ps plo phi) (fun k => ?_) ?_
        · simp only [core_times.f]; rw [if_neg c0, if_neg c1]
          simp only [core_void.f]; rw [if_pos h, hv]; rfl
        · by_cases c2 : lo = 1
          · refine Ev.step (fun k => ?_) (j1 (hi == 1) (by rw [Bool.eq_iff_iff]; simp [c2]))
            simp only [core_times.j0]; rw [if_neg (by decide), if_pos c2]
          · refine Ev.step (fun k => ?_) (j1 false (by simp [c2]))
            simp only [core_times.j0]; rw [if_neg (by decide), if_neg c2]
abbrev simpleF (k : Nat) (x : S27) := core_simple.f k x.f0 x.f1.f0 x.f1.f1 x.f1.f2 x.f1.f3 x.f2 x.f3 x.f4
theorem simple_ev (n : Nat) : ∀ (x : S27), cntT x < n → cntT x ≤ 1000000 → okT x = true → Ev (fun k => simpleF k x) (tup (simpleT x)) := by
  induction n with
  | zero => intro x h; omega
  | succ n ih =>
    intro x hn hc hx
    obtain ⟨h4, hp⟩ := okT_parts hx
    have hS := simpleT_eq x
    obtain ⟨a, ⟨b0, b1, b2, b3⟩, ps, lo, hi⟩ := x
    rw [cntT] at hn hc
    simp only at h4 hp hS
    have hll := len_le_cntL ps
    cases hv : voidT ⟨a, ⟨b0, b1, b2, b3⟩, ps, lo, hi⟩ with
    | true =>
      rw [hv, if_pos rfl] at hS
      rw [hS]
      refine Ev.step (f := fun _ => some (tup ⟨1, ⟨0, 0, 0, 0⟩, [], 0, 0⟩)) (fun k => ?_) (Ev.now _)
      simp only [simpleF, core_simple.f, core_void.f]
      rw [if_pos hx, hv]; rfl
    | false =>
      rw [hv, if_neg (by decide)] at hS
      have hms : (∀ y ∈ ps.map simpleT, okT y = true) ∧ cntL (ps.map simpleT) ≤ cntL ps := by
        have : ∀ l : List S27, (∀ y ∈ l, okT y = true) → (∀ y ∈ l.map simpleT, okT y = true) ∧ cntL (l.map simpleT) ≤ cntL l := by
          intro l
          induction l with
          | nil => intro _; simp [cntL]
          | cons p l ihl =>
            intro h
            obtain ⟨u, v⟩ := ihl (fun y hy => h y (List.mem_cons_of_mem _ hy))
            have hp0 := simpleT_ok _ p (Nat.lt_succ_self _) (h p List.mem_cons_self)
            refine ⟨fun y hy => ?_, by rw [List.map_cons, cntL, cntL]; omega⟩
            rw [List.map_cons] at hy
            rcases List.mem_cons.1 hy with rfl | hy
            · exact hp0.1
            · exact u y hy
        exact this ps hp
      -- behind the loop
      have fin : ∀ b : Bool, b = decide (a = 2 ∨ a = 3) → Ev (fun k => core_simple.j1 k (ps.map simpleT) a b a b0 b1 b2 b3 ps lo hi) (tup (simpleT ⟨a, ⟨b0, b1, b2, b3⟩, ps, lo, hi⟩)) := by
        intro b hb
        rw [hS]
        cases b with
        | true =>
          have hk : a = 2 ∨ a = 3 := by simpa using hb.symm
          rw [if_pos hk]
          refine Ev.step (f := fun _ => some (tup (oneT a (putL a [] (ps.map simpleT))))) (fun k => ?_) (Ev.now _)
          simp only [core_simple.j1, core_put.f]
          rw [if_pos trivial, if_pos ⟨trivial, by rw [okL_all, List.all_eq_true]; exact hms.1, by omega⟩]
          simp only [Option.bind_some, one_eq]
        | false =>
          have hk : ¬ (a = 2 ∨ a = 3) := by simpa using hb.symm
          rw [if_neg hk]
          by_cases k4 : a = 4
          · rw [if_pos k4]
            subst k4
            cases ps with
            | nil => exact absurd rfl (h4 rfl)
            | cons p ps =>
              rw [simpleH]
              have ht := times_ev (simpleT p) lo hi (hms.1 _ (by simp))
              refine Ev.step (f := fun k => (core_times.f k (simpleT p).f0 (simpleT p).f1.f0 (simpleT p).f1.f1 (simpleT p).f1.f2 (simpleT p).f1.f3 (simpleT p).f2 (simpleT p).f3 (simpleT p).f4 lo hi).bind fun t => some t) (fun k => ?_) (Ev.bind ht (Ev.now _))
              simp only [core_simple.j1]
              rw [if_neg (by decide), if_pos trivial, if_pos (by simp)]
              rfl
          · rw [if_neg k4]
            refine Ev.step (f := fun _ => some (tup ⟨a, ⟨b0, b1, b2, b3⟩, ps, lo, hi⟩)) (fun k => ?_) (Ev.now _)
            simp only [core_simple.j1]
            rw [if_neg (by decide), if_neg k4]
      have loop : ∀ (d i : Nat), ps.length - i = d → i ≤ ps.length → Ev (fun k => core_simple.l0 k ((ps.take i).map simpleT) ps (ps.length : Int) (i : Int) a b0 b1 b2 b3 ps lo hi) (tup (simpleT ⟨a, ⟨b0, b1, b2, b3⟩, ps, lo, hi⟩)) := by
        intro d
        induction d with
        | zero =>
          intro i hd hile
          have hi' : i = ps.length := by omega
          subst hi'
          rw [List.take_length]
          by_cases k2 : a = 2
          · refine Ev.step (fun k => ?_) (fin (a == 2) (by simp [k2]))
            simp only [core_simple.l0]
            rw [if_neg (by omega), if_pos k2]
          · refine Ev.step (fun k => ?_) (fin (a == 3) (by rw [Bool.eq_iff_iff]; simp [k2]))
            simp only [core_simple.l0]
            rw [if_neg (by omega), if_neg k2]
        | succ d ihd =>
          intro i hd hile
          have hlt : i < ps.length := by omega
          have hmem := List.getElem_mem hlt
          have hcm := cntL_mem hmem
          have hp1 := ih ps[i] (by omega) (by omega) (hp _ hmem)
          have hr := ihd (i + 1) (by omega) (by omega)
          have htk : (ps.take (i + 1)).map simpleT = (ps.take i).map simpleT ++ [simpleT ps[i]] := by
            rw [List.take_add_one, List.getElem?_eq_getElem hlt, List.map_append]; rfl
          rw [htk] at hr
          refine Ev.step (f := fun k => (simpleF k ps[i]).bind fun bt => core_simple.l0 k ((ps.take i).map simpleT ++ [⟨bt.1, ⟨bt.2.1, bt.2.2.1, bt.2.2.2.1, bt.2.2.2.2.1⟩, bt.2.2.2.2.2.1, bt.2.2.2.2.2.2.1, bt.2.2.2.2.2.2.2⟩]) ps (ps.length : Int) ((i + 1 : Nat) : Int) a b0 b1 b2 b3 ps lo hi) (fun k => ?_) (Ev.bind hp1 (by simp only [tup, etaN]; exact hr))
          have hl : ((ps.take i).map simpleT).length < 1759218604441 := by rw [List.length_map, List.length_take]; omega
          simp only [core_simple.l0]
          rw [if_pos (by omega), if_pos (by omega), if_pos (by omega), rdN ps i hlt, wrapS i (by omega)]
          simp only [if_pos hl]
      refine Ev.step (f := fun k => core_simple.l0 k ((ps.take 0).map simpleT) ps (ps.length : Int) ((0 : Nat) : Int) a b0 b1 b2 b3 ps lo hi) (fun k => ?_) (loop ps.length 0 (by omega) (by omega))
      simp only [simpleF, core_simple.f, core_void.f]
      rw [if_pos hx, hv]; rfl
theorem Simple_ev (x : S27) (hc : cntT x ≤ 1000000) (hx : formedT x = true) : Ev (fun k => core_Simple.f k x.f0 x.f1.f0 x.f1.f1 x.f1.f2 x.f1.f3 x.f2 x.f3 x.f4) ((simpleT x).f0, (simpleT x).f1.f0, (simpleT x).f1.f1, (simpleT x).f1.f2, (simpleT x).f1.f3, (simpleT x).f2, (simpleT x).f3, (simpleT x).f4, 0) := by
  have hs := simple_ev _ x (Nat.lt_succ_self _) hc (ok_formed hx)
  obtain ⟨a, ⟨b0, b1, b2, b3⟩, ps, lo, hi⟩ := x
  refine Ev.congr (f := fun k => (simpleF k ⟨a, ⟨b0, b1, b2, b3⟩, ps, lo, hi⟩).bind fun bt => some (bt.1, bt.2.1, bt.2.2.1, bt.2.2.2.1, bt.2.2.2.2.1, bt.2.2.2.2.2.1, bt.2.2.2.2.2.2.1, bt.2.2.2.2.2.2.2, 0)) (fun k => ?_) (Ev.bind hs (Ev.now _))
  simp only [core_Simple.f, syntax_Formed.f, Option.bind_some]
  rw [if_pos hx]
theorem Simple_bad (x : S27) (hx : formedT x = false) (k : Nat) : core_Simple.f k x.f0 x.f1.f0 x.f1.f1 x.f1.f2 x.f1.f3 x.f2 x.f3 x.f4 = some (0, 0, 0, 0, 0, [], 0, 0, 1) := by
  obtain ⟨a, ⟨b0, b1, b2, b3⟩, ps, lo, hi⟩ := x
  simp only [core_Simple.f, syntax_Formed.f, Option.bind_some]
  rw [hx]; rfl

/- Plain laws of trees: what simple trees are. -/
def vT : S27 := ⟨1, ⟨0, 0, 0, 0⟩, [], 0, 0⟩
theorem void_vT : voidT vT = true := by rw [voidT_eq]; rfl
theorem null_vT : nullT vT = false := by rw [nullT_eq]; rfl
theorem formed_vT : formedT vT = true := by rw [formedT_eq]; rfl
theorem formed_zT : formedT zT = true := by rw [formedT_eq]; rfl
theorem void_zT : voidT zT = false := by rw [voidT_eq]; rfl
theorem null_zT : nullT zT = true := by rw [nullT_eq]; rfl
inductive LeanP : S27 → Prop
  | zero : LeanP zT
  | bytes (s : S24) (h : emptyB s = false) : LeanP ⟨1, s, [], 0, 0⟩
  | cat (ps : List S27) (hl : 2 ≤ ps.length) (h1 : ∀ p ∈ ps, LeanP p) (h2 : ∀ p ∈ ps, p.f0 ≠ 0 ∧ p.f0 ≠ 2) : LeanP ⟨2, ⟨0, 0, 0, 0⟩, ps, 0, 0⟩
  | alt (ps : List S27) (hl : 2 ≤ ps.length) (h1 : ∀ p ∈ ps, LeanP p) (h2 : ∀ p ∈ ps, p.f0 ≠ 3) (h3 : ps.Pairwise fun a b => a ≠ b) : LeanP ⟨3, ⟨0, 0, 0, 0⟩, ps, 0, 0⟩
  | times (p : S27) (lo hi : Int) (h1 : LeanP p) (h2 : p.f0 ≠ 0) (h3 : hi ≠ 0) (h4 : ¬ (lo = 1 ∧ hi = 1)) (h5 : nullT p = true → lo = 0) (h6 : 0 ≤ lo) (h7 : lo ≤ 2147483647) (h8 : hi = -1 ∨ lo ≤ hi ∧ hi ≤ 2147483647) : LeanP ⟨4, ⟨0, 0, 0, 0⟩, [p], lo, hi⟩
theorem lean_formed {x : S27} (h : LeanP x) : formedT x = true ∧ voidT x = false := by
  induction h with
  | zero => exact ⟨formed_zT, void_zT⟩
  | bytes s h => exact ⟨by rw [formedT_eq]; rfl, by rw [voidT_eq]; exact h⟩
  | cat ps hl h1 h2 ih =>
    refine ⟨?_, ?_⟩
    · rw [formedT_eq]
      simp only [Bool.and_eq_true, Bool.not_eq_true']
      refine ⟨?_, List.any_eq_false.2 fun y hy => by simp [(ih y hy).1]⟩
      simp [shapedB, emptyB, hl]
    · rw [voidT_eq]
      show ps.any voidT = false
      exact List.any_eq_false.2 fun y hy => by simp [(ih y hy).2]
  | alt ps hl h1 h2 h3 ih =>
    refine ⟨?_, ?_⟩
    · rw [formedT_eq]
      simp only [Bool.and_eq_true, Bool.not_eq_true']
      refine ⟨?_, List.any_eq_false.2 fun y hy => by simp [(ih y hy).1]⟩
      simp [shapedB, emptyB, hl]
    · rw [voidT_eq]
      show (!(ps.any fun y => !voidT y)) = false
      match ps, hl with
      | p :: ps, _ => simp [(ih p (by simp)).2]
  | times p lo hi h1 h2 h3 h4 h5 h6 h7 h8 ih =>
    refine ⟨?_, ?_⟩
    · rw [formedT_eq]
      simp only [Bool.and_eq_true, Bool.not_eq_true']
      refine ⟨?_, by simp [ih.1]⟩
      have h8' : (hi == -1 || decide (lo ≤ hi) && decide (hi ≤ 2147483647)) = true := by simpa using h8
      simp [shapedB, emptyB, h6, h7]
      simpa using h8
    · rw [voidT_eq]
      show (decide (0 < lo) && voidH [p]) = false
      simp [voidH, ih.2]
theorem lean_kind {x : S27} (h : LeanP x) :
    (x.f0 = 0 → x = zT) ∧ (x.f0 = 2 → 2 ≤ x.f2.length ∧ x = ⟨2, ⟨0, 0, 0, 0⟩, x.f2, 0, 0⟩ ∧ ∀ p ∈ x.f2, LeanP p ∧ p.f0 ≠ 0 ∧ p.f0 ≠ 2) ∧ (x.f0 = 3 → 2 ≤ x.f2.length ∧ x = ⟨3, ⟨0, 0, 0, 0⟩, x.f2, 0, 0⟩ ∧ (∀ p ∈ x.f2, LeanP p ∧ p.f0 ≠ 3) ∧ x.f2.Pairwise fun a b => a ≠ b) := by
  cases h with
  | zero => exact ⟨fun _ => rfl, (fun h => by cases h), (fun h => by cases h)⟩
  | bytes s h => exact ⟨(fun h => by cases h), (fun h => by cases h), (fun h => by cases h)⟩
  | cat ps hl h1 h2 => exact ⟨(fun h => by cases h), fun _ => ⟨hl, rfl, fun p hp => ⟨h1 p hp, h2 p hp⟩⟩, (fun h => by cases h)⟩
  | alt ps hl h1 h2 h3 => exact ⟨(fun h => by cases h), (fun h => by cases h), fun _ => ⟨hl, rfl, fun p hp => ⟨h1 p hp, h2 p hp⟩, h3⟩⟩
  | times p lo hi => exact ⟨(fun h => by cases h), (fun h => by cases h), (fun h => by cases h)⟩

mutual
def depthT : S27 → Nat
  | ⟨_, _, ps, _, _⟩ => depthL ps + 1
def depthL : List S27 → Nat
  | [] => 0
  | p :: ps => max (depthT p) (depthL ps)
end
mutual
def placesT : S27 → Nat
  | ⟨k, _, ps, _, _⟩ => (if k = 1 then 1 else 0) + placesL ps
def placesL : List S27 → Nat
  | [] => 0
  | p :: ps => placesT p + placesL ps
end
theorem depthT_eq (x : S27) : depthT x = depthL x.f2 + 1 := by cases x; rw [depthT]
theorem placesT_eq (x : S27) : placesT x = (if x.f0 = 1 then 1 else 0) + placesL x.f2 := by cases x; rw [placesT]
theorem depthL_append (l m : List S27) : depthL (l ++ m) = max (depthL l) (depthL m) := by
  induction l with
  | nil => simp [depthL]
  | cons p l ih => rw [List.cons_append, depthL, depthL, ih]; omega
theorem placesL_append (l m : List S27) : placesL (l ++ m) = placesL l + placesL m := by
  induction l with
  | nil => simp [placesL]
  | cons p l ih => rw [List.cons_append, placesL, placesL, ih]; omega
def pvL : List S27 → Nat
  | [] => 0
  | p :: ps => (if voidT p = true then 0 else placesT p) + pvL ps
theorem pvL_le (l : List S27) : pvL l ≤ placesL l := by
  induction l with
  | nil => simp [pvL, placesL]
  | cons p l ih => rw [pvL, placesL]; split <;> omega
theorem put_depth (kind : Int) (n : Nat) : ∀ (l ps : List S27), cntL ps < n → depthL (putL kind l ps) ≤ max (depthL l) (depthL ps) := by
  induction n with
  | zero => intro l ps h; omega
  | succ n ih =>
    intro l ps hn
    cases ps with
    | nil => rw [putL]; omega
    | cons p ps =>
      rw [cntL] at hn
      have hc := cntT_eq p
      have hd := depthT_eq p
      have h1 : depthL (putP kind l p) ≤ max (depthL l) (depthT p) := by
        rw [putP_eq]
        split
        · have := ih l p.f2 (by omega); omega
        · split
          · omega
          · split
            · omega
            · rw [depthL_append]; simp [depthL]
      have h2 := ih (putP kind l p) ps (by omega)
      rw [putL, depthL]
      omega

theorem put_cat (n : Nat) : ∀ (l ps : List S27), cntL ps < n → (∀ y ∈ l, LeanP y ∧ y.f0 ≠ 0 ∧ y.f0 ≠ 2) → (∀ y ∈ ps, LeanP y) →
    (∀ y ∈ putL 2 l ps, LeanP y ∧ y.f0 ≠ 0 ∧ y.f0 ≠ 2) ∧ (putL 2 l ps).all nullT = (l.all nullT && ps.all nullT) ∧ placesL (putL 2 l ps) ≤ placesL l + placesL ps := by
  induction n with
  | zero => intro l ps h; omega
  | succ n ih =>
    intro l ps hn hl hp
    cases ps with
    | nil => rw [putL]; exact ⟨hl, by simp, by omega⟩
    | cons p ps =>
      rw [cntL] at hn
      have hc := cntT_eq p
      have hP := placesT_eq p
      have hpl := hp p List.mem_cons_self
      have h1 : (∀ y ∈ putP 2 l p, LeanP y ∧ y.f0 ≠ 0 ∧ y.f0 ≠ 2) ∧ (putP 2 l p).all nullT = (l.all nullT && nullT p) ∧ placesL (putP 2 l p) ≤ placesL l + placesT p := by
        rw [putP_eq]
        split
        · next e =>
          obtain ⟨_, he, hq⟩ := (lean_kind hpl).2.1 e
          obtain ⟨a, b, c⟩ := ih l p.f2 (by omega) hl (fun y hy => (hq y hy).1)
          refine ⟨a, ?_, by omega⟩
          rw [b, nullT_eq p, e]
          simp [List.all_eq_not_any_not]
        · split
          · next e =>
            refine ⟨hl, ?_, by omega⟩
            rw [(lean_kind hpl).1 e.2, null_zT]; simp
          · next e0 e =>
            rw [if_neg (by omega)]
            refine ⟨fun y hy => ?_, by simp, by rw [placesL_append]; simp [placesL]⟩
            rcases List.mem_append.1 hy with hy | hy
            · exact hl y hy
            · rw [List.mem_singleton.1 hy]; exact ⟨hpl, fun h => e ⟨rfl, h⟩, e0⟩
      obtain ⟨a, b, c⟩ := ih (putP 2 l p) ps (by omega) h1.1 (fun y hy => hp y (List.mem_cons_of_mem _ hy))
      rw [putL]
      refine ⟨a, ?_, by rw [placesL]; omega⟩
      rw [b, h1.2.1]; simp [Bool.and_assoc]
theorem put_alt (n : Nat) : ∀ (l ps : List S27), cntL ps < n → (∀ y ∈ l, LeanP y ∧ y.f0 ≠ 3) → (l.Pairwise fun a b => a ≠ b) → (∀ y ∈ ps, y = vT ∨ LeanP y) →
    (∀ y ∈ putL 3 l ps, LeanP y ∧ y.f0 ≠ 3) ∧ ((putL 3 l ps).Pairwise fun a b => a ≠ b) ∧ (putL 3 l ps).any nullT = (l.any nullT || ps.any nullT) ∧ placesL (putL 3 l ps) ≤ placesL l + pvL ps ∧ ((l ≠ [] ∨ ∃ y ∈ ps, LeanP y) → putL 3 l ps ≠ []) := by
  induction n with
  | zero => intro l ps h; omega
  | succ n ih =>
    intro l ps hn hl hw hp
    cases ps with
    | nil => rw [putL]; exact ⟨hl, hw, by simp, by omega, fun h => by rcases h with h | ⟨y, hy, _⟩; exact h; cases hy⟩
    | cons p ps =>
      rw [cntL] at hn
      have hc := cntT_eq p
      have hP := placesT_eq p
      have hpl := hp p List.mem_cons_self
      have h1 : (∀ y ∈ putP 3 l p, LeanP y ∧ y.f0 ≠ 3) ∧ ((putP 3 l p).Pairwise fun a b => a ≠ b) ∧ (putP 3 l p).any nullT = (l.any nullT || nullT p) ∧ placesL (putP 3 l p) ≤ placesL l + (if voidT p = true then 0 else placesT p) ∧ ((l ≠ [] ∨ LeanP p) → putP 3 l p ≠ []) := by
        rcases hpl with rfl | hpl
        · rw [putP_eq, if_neg (by decide), if_neg (by decide), if_pos ⟨rfl, by rw [void_vT]; trivial⟩, void_vT, null_vT]
          exact ⟨hl, hw, by simp, by simp, fun h => by rcases h with h | h; exact h; exact absurd void_vT (by rw [(lean_formed h).2]; decide)⟩
        · have hv := (lean_formed hpl).2
          rw [putP_eq, hv]
          simp only [Bool.false_eq_true, if_false, Bool.false_or]
          split
          · next e =>
            obtain ⟨h2, he, hq, hpw⟩ := (lean_kind hpl).2.2 e
            obtain ⟨a, b, c, d, f⟩ := ih l p.f2 (by omega) hl hw (fun y hy => .inr (hq y hy).1)
            have hle := pvL_le p.f2
            refine ⟨a, b, ?_, by omega, fun _ => f (.inr ?_)⟩
            · rw [c, nullT_eq p, e]; rfl
            · match hps : p.f2, h2 with
              | q :: qs, _ => exact ⟨q, by simp, (hq q (by rw [hps]; simp)).1⟩
          · next e0 =>
            rw [if_neg (by omega)]
            split
            · next e =>
              obtain ⟨_, hs⟩ := e
              obtain ⟨q, hq, hqs⟩ := List.any_eq_true.1 hs
              have hqe := (sameT_iff p q).1 hqs
              subst hqe
              refine ⟨hl, hw, ?_, by omega, fun _ h => by rw [h] at hq; cases hq⟩
              cases hnp : nullT p with
              | false => simp
              | true => rw [show l.any nullT = true from List.any_eq_true.2 ⟨p, hq, hnp⟩]; rfl
            · next e =>
              refine ⟨fun y hy => ?_, ?_, by simp, by rw [placesL_append]; simp [placesL], fun _ => by simp⟩
              · rcases List.mem_append.1 hy with hy | hy
                · exact hl y hy
                · rw [List.mem_singleton.1 hy]; exact ⟨hpl, e0⟩
              · rw [List.pairwise_append]
                refine ⟨hw, by simp, fun a ha b hb => ?_⟩
                rw [List.mem_singleton.1 hb]
                rintro rfl
                exact e ⟨trivial, List.any_eq_true.2 ⟨a, ha, (sameT_iff a a).2 rfl⟩⟩
      obtain ⟨a, b, c, d, f⟩ := ih (putP 3 l p) ps (by omega) h1.1 h1.2.1 (fun y hy => hp y (List.mem_cons_of_mem _ hy))
      rw [putL]
      refine ⟨a, b, ?_, by rw [pvL]; have := h1.2.2.2.1; omega, fun h => f ?_⟩
      · rw [c, h1.2.2.1]; simp [Bool.or_assoc]
      · rcases h with h | ⟨y, hy, hly⟩
        · exact .inl (h1.2.2.2.2 (.inl h))
        · rcases List.mem_cons.1 hy with rfl | hy
          · exact .inl (h1.2.2.2.2 (.inr hly))
          · exact .inr ⟨y, hy, hly⟩
/- Plain laws of trees: a simple tree is lean. -/
theorem emptyB_eq {c : S24} (h : emptyB c = true) : c = ⟨0, 0, 0, 0⟩ := by
  cases c; simp [emptyB] at h; simp [h]
theorem node_eq {x : S27} {k lo hi : Int} {s : S24} {ps : List S27} (h0 : x.f0 = k) (h1 : x.f1 = s) (h2 : x.f2 = ps) (h3 : x.f3 = lo) (h4 : x.f4 = hi) : x = ⟨k, s, ps, lo, hi⟩ := by
  cases x; simp_all
theorem formed_zero {x : S27} (h : formedT x = true) (e : x.f0 = 0) : x = zT := by
  obtain ⟨_, _, _, h0, h3, h5, _⟩ := formedT_kind h
  exact node_eq e (emptyB_eq (h5 (by omega))) (h0 (by omega)) (h3 (by omega)).1 (h3 (by omega)).2
theorem simple_void {x : S27} (h : voidT x = true) : simpleT x = vT := by rw [simpleT_eq, if_pos h]; rfl
def Good (x : S27) : Prop := LeanP (simpleT x) ∧ nullT (simpleT x) = nullT x ∧ placesT (simpleT x) ≤ placesT x ∧ depthT (simpleT x) ≤ depthT x
theorem depth_vT : depthT vT = 1 := by rw [depthT_eq]; simp [vT, depthL]
theorem depth_zT : depthT zT = 1 := by rw [depthT_eq]; simp [zT, depthL]
theorem places_zT : placesT zT = 0 := by rw [placesT_eq]; simp [zT, placesL]
theorem map_facts (l : List S27) (hf : ∀ y ∈ l, formedT y = true) (h : ∀ y ∈ l, voidT y = false → Good y) :
    depthL (l.map simpleT) ≤ depthL l ∧ pvL (l.map simpleT) ≤ placesL l ∧ ((∀ y ∈ l, voidT y = false) → placesL (l.map simpleT) ≤ placesL l) ∧ (l.map simpleT).any nullT = l.any nullT ∧ (l.map simpleT).all nullT = l.all nullT ∧ (∀ y ∈ l.map simpleT, y = vT ∨ LeanP y) ∧ ((∀ y ∈ l, voidT y = false) → ∀ y ∈ l.map simpleT, LeanP y) := by
  induction l with
  | nil => simp [depthL, pvL, placesL]
  | cons p l ih =>
    obtain ⟨a, b, c, d, e, f, g⟩ := ih (fun y hy => hf y (List.mem_cons_of_mem _ hy)) (fun y hy => h y (List.mem_cons_of_mem _ hy))
    have hp := h p List.mem_cons_self
    have hpf := hf p List.mem_cons_self
    have hd := depthT_eq p
    cases hv : voidT p with
    | true =>
      have hs := simple_void hv
      have hn := void_null _ p (Nat.lt_succ_self _) hpf hv
      simp only [List.map_cons, hs, depthL, pvL, placesL, void_vT, if_true, depth_vT, List.any_cons, List.all_cons, null_vT, hn, d, e]
      refine ⟨by omega, by omega, fun hh => ?_, trivial, trivial, ?_, fun hh => ?_⟩
      · have := hh p List.mem_cons_self; rw [hv] at this; cases this
      · intro y hy
        rcases List.mem_cons.1 hy with rfl | hy
        · exact .inl rfl
        · exact f y hy
      · have := hh p List.mem_cons_self; rw [hv] at this; cases this
    | false =>
      obtain ⟨q1, q2, q3, q4⟩ := hp hv
      simp only [List.map_cons, depthL, pvL, placesL, (lean_formed q1).2, Bool.false_eq_true, if_false, List.any_cons, List.all_cons, q2, d, e]
      refine ⟨by omega, by omega, fun hh => ?_, trivial, trivial, ?_, fun hh => ?_⟩
      · have := c (fun y hy => hh y (List.mem_cons_of_mem _ hy)); omega
      · intro y hy
        rcases List.mem_cons.1 hy with rfl | hy
        · exact .inr q1
        · exact f y hy
      · intro y hy
        rcases List.mem_cons.1 hy with rfl | hy
        · exact q1
        · exact g (fun y hy => hh y (List.mem_cons_of_mem _ hy)) y hy
theorem oneT_size (k : Int) (hk : k ≠ 1) (l : List S27) : depthT (oneT k l) ≤ depthL l + 1 ∧ placesT (oneT k l) ≤ placesL l := by
  unfold oneT
  split
  · rw [depth_zT, places_zT]; omega
  · simp only [depthL, placesL]; omega
  · rw [depthT_eq, placesT_eq]; simp [hk]
theorem simple_good (n : Nat) : ∀ (x : S27), SizeOf.sizeOf x < n → formedT x = true → voidT x = false → Good x := by
  induction n with
  | zero => intro x h; omega
  | succ n ih =>
    intro x hn hx hv
    obtain ⟨hk, h2, h4, h0, h3, h5, hparts⟩ := formedT_kind hx
    have ihp : ∀ y ∈ x.f2, voidT y = false → Good y := fun y hy => ih y (by have := mem_lt hy; omega) (hparts y hy)
    have hm := map_facts x.f2 hparts ihp
    have hD := depthT_eq x
    have hP := placesT_eq x
    have hsx : simpleT x = if x.f0 = 2 ∨ x.f0 = 3 then oneT x.f0 (putL x.f0 [] (x.f2.map simpleT)) else if x.f0 = 4 then timesT (simpleH x.f2) x.f3 x.f4 else x := by
      rw [simpleT_eq, if_neg (by rw [hv]; decide)]
    unfold Good
    rcases hk with e | e | e | e | e
    · rw [hsx, if_neg (by omega), if_neg (by omega)]
      refine ⟨?_, rfl, Nat.le_refl _, Nat.le_refl _⟩
      rw [formed_zero hx e]; exact .zero
    · rw [hsx, if_neg (by omega), if_neg (by omega)]
      refine ⟨?_, rfl, Nat.le_refl _, Nat.le_refl _⟩
      rw [voidT_eq, if_pos e] at hv
      rw [node_eq (x := x) e rfl (h0 (.inr e)) (h3 (by omega)).1 (h3 (by omega)).2]
      exact .bytes _ hv
    · have hv' : x.f2.any voidT = false := by rw [voidT_eq, e] at hv; exact hv
      have hnv : ∀ y ∈ x.f2, voidT y = false := fun y hy => by have := List.any_eq_false.1 hv' y hy; simpa using this
      obtain ⟨a, b, c⟩ := put_cat _ [] (x.f2.map simpleT) (Nat.lt_succ_self _) (by simp) (hm.2.2.2.2.2.2 hnv)
      have hdp := put_depth 2 _ [] (x.f2.map simpleT) (Nat.lt_succ_self _)
      have hpl := hm.2.2.1 hnv
      obtain ⟨s1, s2⟩ := oneT_size 2 (by decide) (putL 2 [] (x.f2.map simpleT))
      simp only [depthL, placesL] at hdp c
      have hnx : nullT x = (putL 2 [] (x.f2.map simpleT)).all nullT := by
        rw [b, hm.2.2.2.2.1, nullT_eq, e]; simp [List.all_eq_not_any_not]
      rw [hsx, if_pos (.inl e), e, hnx]
      refine ⟨?_, ?_, by omega, by omega⟩
      · generalize putL 2 [] (x.f2.map simpleT) = l at a ⊢
        match l, a with
        | [], _ => exact .zero
        | [y], a => exact (a y (by simp)).1
        | y :: z :: l, a => exact .cat _ (by simp) (fun p hp => (a p hp).1) (fun p hp => (a p hp).2)
      · generalize putL 2 [] (x.f2.map simpleT) = l at a ⊢
        match l, a with
        | [], _ => exact null_zT
        | [y], a => simp [oneT]
        | y :: z :: l, a => show nullT ⟨2, ⟨0, 0, 0, 0⟩, y :: z :: l, 0, 0⟩ = _; rw [nullT_eq]; simp [List.all_eq_not_any_not]
    · have hv' : (!(x.f2.any fun y => !voidT y)) = false := by rw [voidT_eq, e] at hv; exact hv
      obtain ⟨y0, hy0, hv0⟩ := List.any_eq_true.1 (by simpa using hv' : (x.f2.any fun y => !voidT y) = true)
      have hg0 := ihp y0 hy0 (by simpa using hv0)
      obtain ⟨a, b, c, d, f⟩ := put_alt _ [] (x.f2.map simpleT) (Nat.lt_succ_self _) (by simp) (by simp) hm.2.2.2.2.2.1
      have hne := f (.inr ⟨simpleT y0, List.mem_map_of_mem hy0, hg0.1⟩)
      have hdp := put_depth 3 _ [] (x.f2.map simpleT) (Nat.lt_succ_self _)
      obtain ⟨s1, s2⟩ := oneT_size 3 (by decide) (putL 3 [] (x.f2.map simpleT))
      simp only [depthL, placesL] at hdp d
      have hpl := hm.2.1
      have hnx : nullT x = (putL 3 [] (x.f2.map simpleT)).any nullT := by
        rw [c, hm.2.2.2.1, nullT_eq, e]; simp
      rw [hsx, if_pos (.inr e), e, hnx]
      refine ⟨?_, ?_, by omega, by omega⟩
      · generalize putL 3 [] (x.f2.map simpleT) = l at a b hne ⊢
        match l, a, b, hne with
        | [], _, _, hne => exact absurd rfl hne
        | [y], a, _, _ => exact (a y (by simp)).1
        | y :: z :: l, a, b, _ => exact .alt _ (by simp) (fun p hp => (a p hp).1) (fun p hp => (a p hp).2) b
      · generalize putL 3 [] (x.f2.map simpleT) = l at a b hne ⊢
        match l, a, b, hne with
        | [], _, _, hne => exact absurd rfl hne
        | [y], a, _, _ => simp [oneT]
        | y :: z :: l, a, _, _ => show nullT ⟨3, ⟨0, 0, 0, 0⟩, y :: z :: l, 0, 0⟩ = _; rw [nullT_eq]; rfl
    · obtain ⟨hl, hlo, hlo', hhi⟩ := h4 e
      obtain ⟨p, hp⟩ := list_one hl
      have hpp := hparts p (by rw [hp]; simp)
      have hgp := ihp p (by rw [hp]; simp)
      have hv' : (decide (0 < x.f3) && voidT p) = false := by rw [voidT_eq, e, hp] at hv; simpa [voidH] using hv
      have hnx : nullT x = (x.f3 == 0 || nullT p) := by rw [nullT_eq, e, hp]; simp [nullH]
      simp only [hp, depthL, placesL] at hD hP
      rw [if_neg (by omega)] at hP
      rw [hsx, if_neg (by omega), if_pos e, hp, simpleH, hnx]
      generalize x.f3 = lo at *
      generalize x.f4 = hi at *
      unfold timesT
      split
      · next hc =>
        refine ⟨.zero, ?_, by rw [places_zT]; omega, by rw [depth_zT]; omega⟩
        rw [null_zT]
        rcases hc with hc | hc | hc
        · have : lo = 0 := by omega
          simp [this]
        · cases hvp : voidT p with
          | true => rw [simple_void hvp] at hc; exact absurd hc (by decide)
          | false =>
            obtain ⟨q1, q2, _⟩ := hgp hvp
            rw [← q2, (lean_kind q1).1 hc, null_zT]; simp
        · cases hvp : voidT p with
          | true =>
            rw [hvp] at hv'
            have : lo = 0 := by simp at hv'; omega
            simp [this]
          | false => rw [(lean_formed (hgp hvp).1).2] at hc; cases hc
      · next hc =>
        have hc1 : hi ≠ 0 := fun h => hc (.inl h)
        have hc2 : (simpleT p).f0 ≠ 0 := fun h => hc (.inr (.inl h))
        have hc3 : ¬ voidT (simpleT p) = true := fun h => hc (.inr (.inr h))
        have hvp : voidT p = false := by
          cases hvp : voidT p with
          | true => rw [simple_void hvp] at hc3; exact absurd void_vT hc3
          | false => rfl
        obtain ⟨q1, q2, q3, q4⟩ := hgp hvp
        split
        · next h1 =>
          obtain ⟨rfl, rfl⟩ := h1
          exact ⟨q1, by rw [q2]; rfl, by omega, by omega⟩
        · next h1 =>
          refine ⟨.times _ _ _ q1 hc2 hc1 ?_ ?_ ?_ ?_ ?_, ?_, ?_, ?_⟩
          · split
            · rintro ⟨h, _⟩; cases h
            · exact h1
          · intro h; rw [if_pos h]
          · split <;> omega
          · split <;> omega
          · split <;> omega
          · rw [nullT_eq]
            cases hnn : nullT (simpleT p) with
            | true => rw [← q2, hnn]; simp
            | false => rw [← q2, hnn]; simp [nullH, hnn]
          · rw [placesT_eq]; simp only [placesL]; rw [if_neg (by decide)]; omega
          · rw [depthT_eq]; simp only [depthL]; omega
/- Plain laws of trees: trees that have the same simple one. -/
end Go.Proofs.Ytlnhiogpjdhhbaa.P
