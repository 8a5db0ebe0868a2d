/- Words that come in. -/
import Derived.Test.YthknfjiggdkcaaaDoorRows
import Derived.Test.YthknfjiggdkcaaaDoorCl1
import Derived.ProofKit
import Derived.LaidLaws
import Derived.Handed
import Derived.OpenShut
import Derived.Lib.SmallJoins
namespace Go.Proofs.YthknfjiggdkcaaaDoor
open Go.ChangeShapes Go.WideShapes Go.ChangeAt Go.RowKit Go.Joins
theorem wf_u64 {n : Int} (h : (Lit.int .u64 n).wf = true) : 0 ≤ n ∧ n < U64 := by
  simp [Lit.wf, IntKind.min, IntKind.max, IntKind.signed, IntKind.bits] at h
  unfold U64
  omega
end Go.Proofs.YthknfjiggdkcaaaDoor
