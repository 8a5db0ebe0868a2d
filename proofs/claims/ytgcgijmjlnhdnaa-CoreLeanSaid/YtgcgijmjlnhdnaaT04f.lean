/- Plain laws of trees: what lean says of lean trees, and the law CoreLean. -/
import Derived.Test.YtgcgijmjlnhdnaaT04e
import Derived.Test.YtgcgijmjlnhdnaaQ04f
namespace Go.Proofs.Ytgcgijmjlnhdnaa.P
open Go.RowKit Go.Proofs.YtgcgijmjlnhdnaaW.PrintWords Go.Proofs.YtgcgijmjlnhdnaaW.PrintLast Go.Proofs.YtgcgijmjlnhdnaaW.PrintMore
set_option linter.unusedVariables false
set_option linter.unusedSimpArgs false
abbrev leanF (k : Nat) (x : S27) : Option Bool := ostinatolaw04_lean.f k x.f0 x.f1.f0 x.f1.f1 x.f1.f2 x.f1.f3 x.f2 x.f3 x.f4
theorem lean_step (a b0 b1 b2 b3 lo hi : Int) (ps : List S27) (i : Nat) (h : i < ps.length) (c3 : a = 3 → ps[i].f0 ≠ 3) (c0 : a ≠ 3 → ps[i].f0 ≠ 0) (c4 : a = 4 → hi ≠ 0 ∧ ¬ (lo = 1 ∧ hi = 1) ∧ (lo > 0 → nullT ps[i] = false)) (c2 : a ≠ 3 → a ≠ 4 → a ≠ ps[i].f0) (k : Nat) :
    ostinatolaw04_lean.l0 (k + 1) (i : Int) a b0 b1 b2 b3 ps lo hi = (leanF k ps[i]).bind fun t => ostinatolaw04_lean.j1 k (i : Int) (!t) a b0 b1 b2 b3 ps lo hi := by
  simp only [ostinatolaw04_lean.l0, leanF]
  rw [if_pos (by omega), if_pos (by omega), rdN ps i h]
  by_cases k3 : a = 3
  · rw [if_pos k3, if_neg (show ¬ a = 4 by omega), if_neg (show ¬ a = ps[i].f0 by have := c3 k3; omega)]
  · rw [if_neg k3, if_neg (c0 k3)]
    by_cases k4 : a = 4
    · obtain ⟨q1, q2, q3⟩ := c4 k4
      rw [if_pos k4, if_neg q1]
      by_cases l1 : lo = 1
      · have q4 : ¬ hi = 1 := fun h => q2 ⟨l1, h⟩
        rw [if_pos l1, if_neg q4, if_pos (by omega), Nullable_eq, q3 (by omega), Bool.and_false]
        rfl
      · rw [if_neg l1]
        by_cases l0 : lo > 0
        · rw [if_pos l0, Nullable_eq, q3 l0, Bool.and_false]
          rfl
        · rw [if_neg l0]
    · rw [if_neg k4, if_neg (c2 k3 k4)]
theorem lean_loop (a b0 b1 b2 b3 lo hi : Int) (ps : List S27) (hl : ps.length ≤ 1000000) (hp : ∀ p ∈ ps, Ev (fun k => leanF k p) true) (c3 : a = 3 → ∀ p ∈ ps, p.f0 ≠ 3) (c0 : a ≠ 3 → ∀ p ∈ ps, p.f0 ≠ 0) (c4 : a = 4 → hi ≠ 0 ∧ ¬ (lo = 1 ∧ hi = 1) ∧ (lo > 0 → ∀ p ∈ ps, nullT p = false)) (c2 : a ≠ 3 → a ≠ 4 → ∀ p ∈ ps, a ≠ p.f0) :
    ∀ (d i : Nat), ps.length - i = d → i ≤ ps.length → Ev (fun k => ostinatolaw04_lean.l0 k (i : Int) a b0 b1 b2 b3 ps lo hi) true := by
  intro d
  induction d with
  | zero =>
    intro i hd hile
    refine Ev.step (f := fun _ => some true) (fun k => ?_) (Ev.now true)
    simp only [ostinatolaw04_lean.l0]
    rw [if_neg (by omega)]
  | succ d ihd =>
    intro i hd hile
    have hlt : i < ps.length := by omega
    have hmem := List.getElem_mem hlt
    refine Ev.step (f := fun k => (leanF k ps[i]).bind fun t => ostinatolaw04_lean.j1 k (i : Int) (!t) a b0 b1 b2 b3 ps lo hi) (fun k => ?_) (Ev.bind (hp _ hmem) ?_)
    · exact lean_step a b0 b1 b2 b3 lo hi ps i hlt (fun h => c3 h _ hmem) (fun h => c0 h _ hmem) (fun h => ⟨(c4 h).1, (c4 h).2.1, fun g => (c4 h).2.2 g _ hmem⟩) (fun h g => c2 h g _ hmem) k
    · refine Ev.step (fun k => ?_) (ihd (i + 1) (by omega) (by omega))
      simp only [ostinatolaw04_lean.j1]
      rw [wrapS i (by omega)]
      rfl
theorem lean_ev {x : S27} (h : LeanP x) : cntT x ≤ 1000000 → Ev (fun k => leanF k x) true := by
  have head : ∀ y : S27, LeanP y → Ev (fun k => ostinatolaw04_lean.l0 k ((0 : Nat) : Int) y.f0 y.f1.f0 y.f1.f1 y.f1.f2 y.f1.f3 y.f2 y.f3 y.f4) true → Ev (fun k => leanF k y) true := by
    intro y hy hl
    refine Ev.step (fun k => ?_) hl
    simp only [leanF, ostinatolaw04_lean.f, Void_eq, (lean_formed hy).2, Bool.and_false, Option.bind_some, Bool.false_eq_true, if_false]
    rfl
  induction h with
  | zero => exact fun _ => head _ .zero (lean_loop 0 0 0 0 0 0 0 [] (by simp) (by simp) (by simp) (by simp) (by simp) (by simp) 0 0 rfl (by simp))
  | bytes s hs => exact fun _ => head _ (.bytes s hs) (lean_loop 1 _ _ _ _ 0 0 [] (by simp) (by simp) (by simp) (by simp) (by simp) (by simp) 0 0 rfl (by simp))
  | cat ps hl h1 h2 ih =>
    intro hc
    rw [cntT] at hc
    have hll := len_le_cntL ps
    exact head _ (.cat ps hl h1 h2) (lean_loop 2 _ _ _ _ 0 0 ps (by omega) (fun p hp => ih p hp (by have := cntL_mem hp; omega)) (by simp) (fun _ p hp => (h2 p hp).1) (by simp) (fun _ _ p hp => Ne.symm (h2 p hp).2) _ 0 rfl (by omega))
  | alt ps hl h1 h2 h3 ih =>
    intro hc
    rw [cntT] at hc
    have hll := len_le_cntL ps
    exact head _ (.alt ps hl h1 h2 h3) (lean_loop 3 _ _ _ _ 0 0 ps (by omega) (fun p hp => ih p hp (by have := cntL_mem hp; omega)) (fun _ p hp => h2 p hp) (by simp) (by simp) (by simp) _ 0 rfl (by omega))
  | times p lo hi h1 h2 h3 h4 h5 h6 h7 h8 ih =>
    intro hc
    rw [cntT, cntL] at hc
    refine head _ (.times p lo hi h1 h2 h3 h4 h5 h6 h7 h8) (lean_loop 4 _ _ _ _ lo hi [p] (by simp) ?_ (by simp) ?_ ?_ (by simp) _ 0 rfl (by simp))
    · intro q hq; rw [List.mem_singleton.1 hq]; exact ih (by omega)
    · intro _ q hq; rw [List.mem_singleton.1 hq]; exact h2
    · refine fun _ => ⟨h3, h4, fun hlo q hq => ?_⟩
      rw [List.mem_singleton.1 hq]
      cases hn : nullT p with
      | false => rfl
      | true => have := h5 hn; omega
theorem lean_law_ev (x : S27) : Ev (fun k => ostinatolaw04_CoreLean.f k x.f0 x.f1.f0 x.f1.f1 x.f1.f2 x.f1.f3 x.f2 x.f3 x.f4) true := by
  obtain ⟨s, hs, h1, h2, h3⟩ := size_ev _ x 100 (Nat.lt_succ_self _) (by omega) (by omega)
  have early : Ev (fun k => ostinatolaw04_CoreLean.j0 k true x.f0 x.f1.f0 x.f1.f1 x.f1.f2 x.f1.f3 x.f2 x.f3 x.f4) true :=
    Ev.step (f := fun k => (ostinatolaw04_awake.f k).bind fun t => some t) (fun k => by simp only [ostinatolaw04_CoreLean.j0]; rfl) (Ev.bind awake_ev (Ev.now true))
  refine Ev.congr (f := fun k => (ostinatolaw04_awake.f k).bind fun t => if t = true then (sizeF k x 100).bind fun t2 => if t2 > 100 then ostinatolaw04_CoreLean.j0 k true x.f0 x.f1.f0 x.f1.f1 x.f1.f2 x.f1.f3 x.f2 x.f3 x.f4 else (formedF k x).bind fun t3 => ostinatolaw04_CoreLean.j0 k (!t3) x.f0 x.f1.f0 x.f1.f1 x.f1.f2 x.f1.f3 x.f2 x.f3 x.f4 else ostinatolaw04_CoreLean.j0 k true x.f0 x.f1.f0 x.f1.f1 x.f1.f2 x.f1.f3 x.f2 x.f3 x.f4) (fun k => rfl) ?_
  refine Ev.bind awake_ev ?_
  simp only [if_true]
  refine Ev.bind hs ?_
  by_cases hb : s > 100
  · simp only [if_pos hb]; exact early
  · simp only [if_neg hb]
    have hc : (s : Int) = cntT x := h3 (.inl (by omega))
    have hf := formed_ev _ x (Nat.lt_succ_self _) (by omega)
    refine Ev.bind hf ?_
    cases hF : formedT x with
    | false => exact early
    | true =>
      have hS := Simple_ev x (by omega) hF
      have hcs := (simpleT_ok _ x (Nat.lt_succ_self _) (ok_formed hF)).2
      refine Ev.step (fun k => by simp only [ostinatolaw04_CoreLean.j0]; rfl) ?_
      simp only [Bool.not_true, Bool.false_eq_true, if_false]
      refine Ev.bind hS ?_
      simp only [if_true, Void_eq, Option.bind_some]
      cases hv : voidT x with
      | true =>
        rw [simple_void hv, formed_vT, void_vT]
        exact Ev.now true
      | false =>
        obtain ⟨q1, _⟩ := simple_good _ x (Nat.lt_succ_self _) hF hv
        simp only [(lean_formed q1).2, Bool.and_false, Bool.false_eq_true, if_false]
        exact Ev.bind (lean_ev q1 (by omega)) (Ev.now true)
end Go.Proofs.Ytgcgijmjlnhdnaa.P
