/- The plain law of CoreTells: whether trees are void, and nullable. -/
import Derived.Test.YtgcgijmjlnhdnaaT04a
import Derived.Test.YtgcgijmjlnhdnaaQ04b
namespace Go.Proofs.Ytgcgijmjlnhdnaa.P
open Go.RowKit Go.Proofs.YtgcgijmjlnhdnaaW.PrintWords Go.Proofs.YtgcgijmjlnhdnaaW.PrintLast Go.Proofs.YtgcgijmjlnhdnaaW.PrintMore
set_option linter.unusedVariables false
set_option linter.unusedSimpArgs false
theorem awake_ev : Ev ostinatolaw04_awake.f true := Ev.of ostinatolaw04_awake.mono (k := 12) (by kernel_rfl)
theorem Void_eq (x : S27) : core_Void.f x.f0 x.f1.f0 x.f1.f1 x.f1.f2 x.f1.f3 x.f2 x.f3 x.f4 = some (formedT x && voidT x) := by
  obtain ⟨a, ⟨b0, b1, b2, b3⟩, ps, lo, hi⟩ := x
  simp only [core_Void.f, syntax_Formed.f, core_void.f, Option.bind_some]
  cases h : formedT ⟨a, ⟨b0, b1, b2, b3⟩, ps, lo, hi⟩ with
  | false => rfl
  | true => rw [if_pos rfl, if_pos (ok_formed h)]; rfl
theorem Nullable_eq (x : S27) : core_Nullable.f x.f0 x.f1.f0 x.f1.f1 x.f1.f2 x.f1.f3 x.f2 x.f3 x.f4 = some (formedT x && nullT x) := by
  obtain ⟨a, ⟨b0, b1, b2, b3⟩, ps, lo, hi⟩ := x
  simp only [core_Nullable.f, syntax_Formed.f, core_nullable.f, Option.bind_some]
  cases h : formedT ⟨a, ⟨b0, b1, b2, b3⟩, ps, lo, hi⟩ with
  | false => rfl
  | true => rw [if_pos rfl, if_pos (ok_formed h)]; rfl
theorem tells_ev (x : S27) : Ev (fun k => ostinatolaw04_CoreTells.f k x.f0 x.f1.f0 x.f1.f1 x.f1.f2 x.f1.f3 x.f2 x.f3 x.f4) true := by
  obtain ⟨s, hs, h1, h2, h3⟩ := size_ev _ x 100 (Nat.lt_succ_self _) (by omega) (by omega)
  refine Ev.congr (f := fun k => (ostinatolaw04_awake.f k).bind fun t => if t = true then (sizeF k x 100).bind fun t293 => ostinatolaw04_CoreTells.j0 k (decide (t293 > 100)) x.f0 x.f1.f0 x.f1.f1 x.f1.f2 x.f1.f3 x.f2 x.f3 x.f4 else ostinatolaw04_CoreTells.j0 k true x.f0 x.f1.f0 x.f1.f1 x.f1.f2 x.f1.f3 x.f2 x.f3 x.f4) (fun k => rfl) ?_
  refine Ev.bind awake_ev ?_
  simp only [if_true]
  refine Ev.bind hs ?_
  by_cases hb : s > 100
  · rw [decide_eq_true hb]
    refine Ev.step (f := fun k => (ostinatolaw04_awake.f k).bind fun t => some t) (fun k => by simp only [ostinatolaw04_CoreTells.j0]; rfl) (Ev.bind awake_ev (Ev.now true))
  · rw [decide_eq_false hb]
    have hc : (s : Int) = cntT x := h3 (.inl (by omega))
    have hf := formed_ev _ x (Nat.lt_succ_self _) (by omega)
    cases hF : formedT x with
    | false =>
      rw [hF] at hf
      refine Ev.step (fun k => by simp only [ostinatolaw04_CoreTells.j0]; rfl) ?_
      simp only [Bool.false_eq_true, if_false]
      refine Ev.bind hf ?_
      simp only [Void_eq, Nullable_eq, hF, Bool.false_and, Option.bind_some, Bool.false_eq_true, if_false]
      exact Ev.now true
    | true =>
      rw [hF] at hf
      have ht := told_ev _ x (Nat.lt_succ_self _) (by omega) hF
      refine Ev.step (fun k => by simp only [ostinatolaw04_CoreTells.j0]; rfl) ?_
      simp only [Bool.false_eq_true, if_false]
      refine Ev.bind hf ?_
      simp only [if_true]
      refine Ev.bind ht ?_
      simp only [Void_eq, Nullable_eq, hF, Bool.true_and, Option.bind_some, beq_self_eq_true, if_true]
      cases hv : voidT x with
      | false => simpa using Ev.now true
      | true => rw [void_null _ x (Nat.lt_succ_self _) hF hv]; simpa using Ev.now true
end Go.Proofs.Ytgcgijmjlnhdnaa.P
