/- Plain laws of trees: whether they are void, and nullable. -/
import Derived.Test.YtgcgijmjlnhdnaaU04a
import Derived.Test.YtgcgijmjlnhdnaaQ04l
namespace Go.Proofs.Ytgcgijmjlnhdnaa.P
open Go.RowKit Go.Proofs.YtgcgijmjlnhdnaaW.PrintWords Go.Proofs.YtgcgijmjlnhdnaaW.PrintLast Go.Proofs.YtgcgijmjlnhdnaaW.PrintMore
set_option linter.unusedVariables false
set_option linter.unusedSimpArgs false
theorem awake_ev : Ev ostinatolaw04_awake.f true := Ev.of ostinatolaw04_awake.mono (k := 12) (by kernel_rfl)
theorem Void_eq (x : S27) : core_Void.f x.f0 x.f1.f0 x.f1.f1 x.f1.f2 x.f1.f3 x.f2 x.f3 x.f4 = some (formedT x && voidT x) := by
  obtain ⟨a, ⟨b0, b1, b2, b3⟩, ps, lo, hi⟩ := x
  simp only [core_Void.f, syntax_Formed.f, core_void.f, Option.bind_some]
  cases h : formedT ⟨a, ⟨b0, b1, b2, b3⟩, ps, lo, hi⟩ with
  | false => rfl
  | true => rw [if_pos rfl, if_pos (ok_formed h)]; rfl
theorem Nullable_eq (x : S27) : core_Nullable.f x.f0 x.f1.f0 x.f1.f1 x.f1.f2 x.f1.f3 x.f2 x.f3 x.f4 = some (formedT x && nullT x) := by
  obtain ⟨a, ⟨b0, b1, b2, b3⟩, ps, lo, hi⟩ := x
  simp only [core_Nullable.f, syntax_Formed.f, core_nullable.f, Option.bind_some]
  cases h : formedT ⟨a, ⟨b0, b1, b2, b3⟩, ps, lo, hi⟩ with
  | false => rfl
  | true => rw [if_pos rfl, if_pos (ok_formed h)]; rfl
end Go.Proofs.Ytgcgijmjlnhdnaa.P
