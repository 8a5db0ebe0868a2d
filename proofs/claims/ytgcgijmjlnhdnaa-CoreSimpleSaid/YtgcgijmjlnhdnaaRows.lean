/-
  NARROWER THAN 'FOR EVERY INPUT', by the rows' own cells (each row's printed sentence says how): CoreSimple: loops · CoreSame: loops · CoreTells: loops · CoreAgain: loops · CoreLean: loops.
  DERIVED. THE GIVEN ROWS OF THIS SEAT. 5 by the template 'for every input the law returns true; each argument reads behind the call as it read before'; 0 by the template 'total and deterministic' (their statements: YtgcgijmjlnhdnaaTotals.lean).
  GIVEN WITH THE SEED: the statements are not yours to turn. If you find one false, say at which input.
  Laid BY PROGRAM, IN A SANDBOX (cutbox-rows.mjs): the forced cells as the released guide's own fill.sh prints them over the translation 575a420ae2cd6170… (all of the seat's roots in one cut). By AI agents, Wed Nov 11 2026. No macro, syntax, notation, axiom, sorry.
-/
import Derived.Test.YtgcgijmjlnhdnaaChecked
import GoSem.Claim
import GoSem.ClaimJoined
import GoSem.ClaimMapViews
import Derived.JoinedTies
import Derived.KernelRfl
namespace Go.Proofs.Ytgcgijmjlnhdnaa
/- THE CELL 'sum', in the pinned program and in every row, IS THE sha256 OF THE DUMP (.gsa) THAT YtgcgijmjlnhdnaaProg.lean LOADS. Nothing in Lean hashes anything: it is a label: what it is worth is what the hold of that sum in a sandbox is worth. -/
noncomputable def Try.pinned : Pinned := { name := "ytgcgijmjlnhdnaa", sum := "575a420ae2cd61708b26cef32f29b9618cdfc277ae42670fdbe41f34866ec4bd", checked := Try.checked }
namespace Rows
def none {H : Type} : Left H := { results := [], args := [] }

/-- 'ostinatolaw04.CoreSimple': WHATEVER THE INPUT: true; the input reads as it did. -/
def coreSimpleSpec : ChangeSpec := { name := "coreSimple", fn := fun _ => fun
  | [d] => { results := [.lit (.bool true)], args := [d] }
  | _ => none }
def coreSimpleRow : OpenClaim := { program := "ytgcgijmjlnhdnaa", sum := "575a420ae2cd61708b26cef32f29b9618cdfc277ae42670fdbe41f34866ec4bd", func := "ostinato/ostinatolaw04.CoreSimple", spec := "coreSimple", unfollowed := true, recurses := true, loops := true, apart := false }
def CoreSimpleSaid : Prop := coreSimpleRow.holds Try.pinned (OpenSpec.ofChange coreSimpleSpec)

/-- ITS FALSE NEIGHBOUR: 'it returns false'. Refute it at one input. -/
def coreSimpleWrong : ChangeSpec := { name := "coreSimple", fn := fun _ => fun
  | [d] => { results := [.lit (.bool false)], args := [d] }
  | _ => none }
def CoreSimpleWrongFalsely : Prop := coreSimpleRow.holds Try.pinned (OpenSpec.ofChange coreSimpleWrong)

/-- 'ostinatolaw04.CoreSame': WHATEVER THE INPUT: true; the input reads as it did. -/
def coreSameSpec : ChangeSpec := { name := "coreSame", fn := fun _ => fun
  | [d] => { results := [.lit (.bool true)], args := [d] }
  | _ => none }
def coreSameRow : OpenClaim := { program := "ytgcgijmjlnhdnaa", sum := "575a420ae2cd61708b26cef32f29b9618cdfc277ae42670fdbe41f34866ec4bd", func := "ostinato/ostinatolaw04.CoreSame", spec := "coreSame", unfollowed := true, recurses := true, loops := true, apart := false }
def CoreSameSaid : Prop := coreSameRow.holds Try.pinned (OpenSpec.ofChange coreSameSpec)

/-- ITS FALSE NEIGHBOUR: 'it returns false'. Refute it at one input. -/
def coreSameWrong : ChangeSpec := { name := "coreSame", fn := fun _ => fun
  | [d] => { results := [.lit (.bool false)], args := [d] }
  | _ => none }
def CoreSameWrongFalsely : Prop := coreSameRow.holds Try.pinned (OpenSpec.ofChange coreSameWrong)

/-- 'ostinatolaw04.CoreTells': WHATEVER THE INPUT: true; the input reads as it did. -/
def coreTellsSpec : ChangeSpec := { name := "coreTells", fn := fun _ => fun
  | [d] => { results := [.lit (.bool true)], args := [d] }
  | _ => none }
def coreTellsRow : OpenClaim := { program := "ytgcgijmjlnhdnaa", sum := "575a420ae2cd61708b26cef32f29b9618cdfc277ae42670fdbe41f34866ec4bd", func := "ostinato/ostinatolaw04.CoreTells", spec := "coreTells", unfollowed := true, recurses := true, loops := true, apart := false }
def CoreTellsSaid : Prop := coreTellsRow.holds Try.pinned (OpenSpec.ofChange coreTellsSpec)

/-- ITS FALSE NEIGHBOUR: 'it returns false'. Refute it at one input. -/
def coreTellsWrong : ChangeSpec := { name := "coreTells", fn := fun _ => fun
  | [d] => { results := [.lit (.bool false)], args := [d] }
  | _ => none }
def CoreTellsWrongFalsely : Prop := coreTellsRow.holds Try.pinned (OpenSpec.ofChange coreTellsWrong)

/-- 'ostinatolaw04.CoreAgain': WHATEVER THE INPUT: true; the input reads as it did. -/
def coreAgainSpec : ChangeSpec := { name := "coreAgain", fn := fun _ => fun
  | [d] => { results := [.lit (.bool true)], args := [d] }
  | _ => none }
def coreAgainRow : OpenClaim := { program := "ytgcgijmjlnhdnaa", sum := "575a420ae2cd61708b26cef32f29b9618cdfc277ae42670fdbe41f34866ec4bd", func := "ostinato/ostinatolaw04.CoreAgain", spec := "coreAgain", unfollowed := true, recurses := true, loops := true, apart := false }
def CoreAgainSaid : Prop := coreAgainRow.holds Try.pinned (OpenSpec.ofChange coreAgainSpec)

/-- ITS FALSE NEIGHBOUR: 'it returns false'. Refute it at one input. -/
def coreAgainWrong : ChangeSpec := { name := "coreAgain", fn := fun _ => fun
  | [d] => { results := [.lit (.bool false)], args := [d] }
  | _ => none }
def CoreAgainWrongFalsely : Prop := coreAgainRow.holds Try.pinned (OpenSpec.ofChange coreAgainWrong)

/-- 'ostinatolaw04.CoreLean': WHATEVER THE INPUT: true; the input reads as it did. -/
def coreLeanSpec : ChangeSpec := { name := "coreLean", fn := fun _ => fun
  | [d] => { results := [.lit (.bool true)], args := [d] }
  | _ => none }
def coreLeanRow : OpenClaim := { program := "ytgcgijmjlnhdnaa", sum := "575a420ae2cd61708b26cef32f29b9618cdfc277ae42670fdbe41f34866ec4bd", func := "ostinato/ostinatolaw04.CoreLean", spec := "coreLean", unfollowed := true, recurses := true, loops := true, apart := false }
def CoreLeanSaid : Prop := coreLeanRow.holds Try.pinned (OpenSpec.ofChange coreLeanSpec)

/-- ITS FALSE NEIGHBOUR: 'it returns false'. Refute it at one input. -/
def coreLeanWrong : ChangeSpec := { name := "coreLean", fn := fun _ => fun
  | [d] => { results := [.lit (.bool false)], args := [d] }
  | _ => none }
def CoreLeanWrongFalsely : Prop := coreLeanRow.holds Try.pinned (OpenSpec.ofChange coreLeanWrong)

/- THE SECOND FORM. 'bulk': how many values and letters a reading holds, each counted each time it is reached (what is shared counts as often as it is met; a slice's spare places count too). A statement '..UptoSaid' is the law's where the arguments, and the package variables that the reading takes, are together of bulk at most 1048576: NARROWER than '..Said'. Prove '..Said' where nothing that the law and all that it calls make is longer than what came in: it says more and counts as full. Else prove '..UptoSaid'. A law counts once. -/
mutual
def uptoBulk {H : Type} : DataW H → Nat
  | .lit (.string bytes) => bytes.length + 1
  | .lit _ => 1
  | .nil => 1
  | .ptr d => uptoBulk d + 1
  | .slice elems spare => uptoBulkAll elems + uptoBulkAll spare + 1
  | .agg parts => uptoBulkAll parts + 1
  | .iface _ d => uptoBulk d + 1
  | .map entries => uptoBulkEntries entries + 1
  | .held _ => 1
def uptoBulkAll {H : Type} : List (DataW H) → Nat
  | [] => 0
  | d :: r => uptoBulk d + uptoBulkAll r
def uptoBulkEntries {H : Type} : List (Lit × DataW H) → Nat
  | [] => 0
  | x :: r => uptoBulkEntry x + uptoBulkEntries r
def uptoBulkEntry {H : Type} : Lit × DataW H → Nat
  | (.string bytes, d) => bytes.length + uptoBulk d + 1
  | (_, d) => uptoBulk d + 1
 end
def uptoSmall : (H : Type) → List (DataW H) → Bool := fun _ ds => decide (uptoBulkAll ds ≤ 1048576)
def OpenSpec.upto (s : _root_.Go.ChangeSpec) : _root_.Go.OpenSpec := { _root_.Go.OpenSpec.ofChange s with cond := some uptoSmall }

/-- 'ostinatolaw04.CoreSimple', WHERE WHAT IT READS IS OF BULK AT MOST 1048576: true; the input reads as it did. -/
def coreSimpleUptoRow : OpenClaim := { program := "ytgcgijmjlnhdnaa", sum := "575a420ae2cd61708b26cef32f29b9618cdfc277ae42670fdbe41f34866ec4bd", func := "ostinato/ostinatolaw04.CoreSimple", spec := "coreSimple", unfollowed := true, recurses := true, loops := true, apart := false, narrowed := true }
def CoreSimpleUptoSaid : Prop := coreSimpleUptoRow.holds Try.pinned (OpenSpec.upto coreSimpleSpec)

/-- 'ostinatolaw04.CoreSame', WHERE WHAT IT READS IS OF BULK AT MOST 1048576: true; the input reads as it did. -/
def coreSameUptoRow : OpenClaim := { program := "ytgcgijmjlnhdnaa", sum := "575a420ae2cd61708b26cef32f29b9618cdfc277ae42670fdbe41f34866ec4bd", func := "ostinato/ostinatolaw04.CoreSame", spec := "coreSame", unfollowed := true, recurses := true, loops := true, apart := false, narrowed := true }
def CoreSameUptoSaid : Prop := coreSameUptoRow.holds Try.pinned (OpenSpec.upto coreSameSpec)

/-- 'ostinatolaw04.CoreTells', WHERE WHAT IT READS IS OF BULK AT MOST 1048576: true; the input reads as it did. -/
def coreTellsUptoRow : OpenClaim := { program := "ytgcgijmjlnhdnaa", sum := "575a420ae2cd61708b26cef32f29b9618cdfc277ae42670fdbe41f34866ec4bd", func := "ostinato/ostinatolaw04.CoreTells", spec := "coreTells", unfollowed := true, recurses := true, loops := true, apart := false, narrowed := true }
def CoreTellsUptoSaid : Prop := coreTellsUptoRow.holds Try.pinned (OpenSpec.upto coreTellsSpec)

/-- 'ostinatolaw04.CoreAgain', WHERE WHAT IT READS IS OF BULK AT MOST 1048576: true; the input reads as it did. -/
def coreAgainUptoRow : OpenClaim := { program := "ytgcgijmjlnhdnaa", sum := "575a420ae2cd61708b26cef32f29b9618cdfc277ae42670fdbe41f34866ec4bd", func := "ostinato/ostinatolaw04.CoreAgain", spec := "coreAgain", unfollowed := true, recurses := true, loops := true, apart := false, narrowed := true }
def CoreAgainUptoSaid : Prop := coreAgainUptoRow.holds Try.pinned (OpenSpec.upto coreAgainSpec)

/-- 'ostinatolaw04.CoreLean', WHERE WHAT IT READS IS OF BULK AT MOST 1048576: true; the input reads as it did. -/
def coreLeanUptoRow : OpenClaim := { program := "ytgcgijmjlnhdnaa", sum := "575a420ae2cd61708b26cef32f29b9618cdfc277ae42670fdbe41f34866ec4bd", func := "ostinato/ostinatolaw04.CoreLean", spec := "coreLean", unfollowed := true, recurses := true, loops := true, apart := false, narrowed := true }
def CoreLeanUptoSaid : Prop := coreLeanUptoRow.holds Try.pinned (OpenSpec.upto coreLeanSpec)

end Rows
end Go.Proofs.Ytgcgijmjlnhdnaa
