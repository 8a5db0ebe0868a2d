import Derived.Test.YtlnhiogpjdhhbaaPx0
-- Written by wip/xp.
namespace Go.Proofs.Ytlnhiogpjdhhbaa.P
open Go.RowKit Go.Proofs.YtlnhiogpjdhhbaaW.PrintWords Go.Proofs.YtlnhiogpjdhhbaaW.PrintLast Go.Proofs.YtlnhiogpjdhhbaaW.PrintMore
attribute [local go_sem] max2_int min2_int max_two min_two max_three min_three max_four min_four   -- for this text's walks alone
set_option linter.unusedVariables false
set_option linter.unusedSimpArgs false

theorem eqA24 (d : Nat) (w : World) (x0 y0 : Int) (x1 y1 : Int) (x2 y2 : Int) (x3 y3 : Int) :
    (Op.equalIn (d + 2) 24 (.agg #[.int .u64 x0, .int .u64 x1, .int .u64 x2, .int .u64 x3]) (.agg #[.int .u64 y0, .int .u64 y1, .int .u64 y2, .int .u64 y3])).run Try.prog w = .ok (x0 == y0 && (x1 == y1 && (x2 == y2 && (x3 == y3)))) w := by
  have he := fun (w : World) (a b : Int) => run_equalIn_int (P := Try.prog) w d 22 .u64 .u64 a b Try.underlying22
  have hs : ∀ w : World, (sizeOf 22).run Try.prog w = .ok 1 w := fun w => by kernel_rfl
  have p0 : ∀ (w : World) (z0 z1 z2 z3 : Int), (part 22 #[.int .u64 z0, .int .u64 z1, .int .u64 z2, .int .u64 z3] 0).run Try.prog w = .ok (.int .u64 z0) w := fun w z0 z1 z2 z3 => by simp [part, go_sem]
  have p1 : ∀ (w : World) (z0 z1 z2 z3 : Int), (part 22 #[.int .u64 z0, .int .u64 z1, .int .u64 z2, .int .u64 z3] 1).run Try.prog w = .ok (.int .u64 z1) w := fun w z0 z1 z2 z3 => by simp [part, go_sem]
  have p2 : ∀ (w : World) (z0 z1 z2 z3 : Int), (part 22 #[.int .u64 z0, .int .u64 z1, .int .u64 z2, .int .u64 z3] 2).run Try.prog w = .ok (.int .u64 z2) w := fun w z0 z1 z2 z3 => by simp [part, go_sem]
  have p3 : ∀ (w : World) (z0 z1 z2 z3 : Int), (part 22 #[.int .u64 z0, .int .u64 z1, .int .u64 z2, .int .u64 z3] 3).run Try.prog w = .ok (.int .u64 z3) w := fun w z0 z1 z2 z3 => by simp [part, go_sem]
  rw [show d + 2 = (d + 1) + 1 from rfl]
  unfold Op.equalIn
  simp only [Sem.run_bind, run_underlying Try.underlying24, Result.andThen_ok, hs]
  simp
  rw [show List.range' 0 4 = [0, 1, 2, 3] from rfl]
  cases e0 : x0 == y0 <;> cases e1 : x1 == y1 <;> cases e2 : x2 == y2 <;> cases e3 : x3 == y3 <;>
    simp only [List.forIn_cons, List.forIn_nil, Sem.run_bind, p0, p1, p2, p3, he, Result.andThen_ok, e0, e1, e2, e3, Bool.false_eq_true, if_true, if_false, Sem.run_pure, reduceCtorEq, Bool.and_true, Bool.and_false, Bool.false_and]
end Go.Proofs.Ytlnhiogpjdhhbaa.P
