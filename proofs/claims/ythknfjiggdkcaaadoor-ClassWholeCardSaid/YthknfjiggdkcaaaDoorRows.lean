/-
  NARROWER THAN 'FOR EVERY INPUT', by the rows' own cells (each row's printed sentence says how): ClassBytes: laid · ClassParts: laid · ClassTwice: laid · ClassWhole: laid.
  DERIVED. THE GIVEN ROWS OF THIS SEAT. 4 by the template 'for every input the law returns true; each argument reads behind the call as it read before'; 0 by the template 'total and deterministic' (their statements: YthknfjiggdkcaaaDoorTotals.lean).
  GIVEN WITH THE SEED: the statements are not yours to turn. If you find one false, say at which input.
  Laid BY PROGRAM, IN A SANDBOX (cutbox-rows.mjs): the forced cells as the released guide's own fill.sh prints them over the translation a1cd3192f24fc326… (all of the seat's roots in one cut). By AI agents, Wed Nov 11 2026. No macro, syntax, notation, axiom, sorry.
-/
import Derived.Test.YthknfjiggdkcaaaDoorChecked
import GoSem.Claim
import GoSem.ClaimJoined
import GoSem.ClaimMapViews
import Derived.JoinedTies
import Derived.KernelRfl
namespace Go.Proofs.YthknfjiggdkcaaaDoor
/- THE CELL 'sum', in the pinned program and in every row, IS THE sha256 OF THE DUMP (.gsa) THAT YthknfjiggdkcaaaDoorProg.lean LOADS. Nothing in Lean hashes anything: it is a label: what it is worth is what the hold of that sum in a sandbox is worth. -/
noncomputable def Tryd.pinned : Pinned := { name := "ythknfjiggdkcaaadoor", sum := "a1cd3192f24fc3263026b7353860a6cc072a9d1f540c94bf0e37adba68c78588", checked := Tryd.checked }
namespace Rows
def none {H : Type} : Left H := { results := [], args := [] }

/- WHAT THE LISTED PACKAGE-LEVEL VARIABLES READ AS WHEN THE CALL BEGINS. Each datum BY PROGRAM (the guide's laid-datum.mjs) off the statement by which the dump's own 'gosem.cut.vars' lays the variable. In a bare row this is a premise. The card (YthknfjiggdkcaaaDoorCards.lean) ties it to the program's text. -/
def laid_math_bits_deBruijn64tab {H : Type} : DataW H := .agg [.lit (.int .u8 0), .lit (.int .u8 1), .lit (.int .u8 56), .lit (.int .u8 2), .lit (.int .u8 57), .lit (.int .u8 49), .lit (.int .u8 28), .lit (.int .u8 3), .lit (.int .u8 61), .lit (.int .u8 58), .lit (.int .u8 42), .lit (.int .u8 50), .lit (.int .u8 38), .lit (.int .u8 29), .lit (.int .u8 17), .lit (.int .u8 4), .lit (.int .u8 62), .lit (.int .u8 47), .lit (.int .u8 59), .lit (.int .u8 36), .lit (.int .u8 45), .lit (.int .u8 43), .lit (.int .u8 51), .lit (.int .u8 22), .lit (.int .u8 53), .lit (.int .u8 39), .lit (.int .u8 33), .lit (.int .u8 30), .lit (.int .u8 24), .lit (.int .u8 18), .lit (.int .u8 12), .lit (.int .u8 5), .lit (.int .u8 63), .lit (.int .u8 55), .lit (.int .u8 48), .lit (.int .u8 27), .lit (.int .u8 60), .lit (.int .u8 41), .lit (.int .u8 37), .lit (.int .u8 16), .lit (.int .u8 46), .lit (.int .u8 35), .lit (.int .u8 44), .lit (.int .u8 21), .lit (.int .u8 52), .lit (.int .u8 32), .lit (.int .u8 23), .lit (.int .u8 11), .lit (.int .u8 54), .lit (.int .u8 26), .lit (.int .u8 40), .lit (.int .u8 15), .lit (.int .u8 34), .lit (.int .u8 20), .lit (.int .u8 31), .lit (.int .u8 10), .lit (.int .u8 25), .lit (.int .u8 14), .lit (.int .u8 19), .lit (.int .u8 9), .lit (.int .u8 13), .lit (.int .u8 8), .lit (.int .u8 7), .lit (.int .u8 6)]
def laid_ostinato_class_all {H : Type} : DataW H := .lit (.int .i64 256)

/-- 'ostinatolaw01.ClassBytes': WHATEVER THE INPUT: true; the input reads as it did. -/
def classBytesSpec : ChangeSpec := { name := "classBytes", fn := fun _ => fun
  | [d1, d2] => { results := [.lit (.bool true)], args := [d1, d2] }
  | _ => none }
def classBytesRow : OpenClaim := { program := "ythknfjiggdkcaaadoor", sum := "a1cd3192f24fc3263026b7353860a6cc072a9d1f540c94bf0e37adba68c78588", func := "ostinato/ostinatolaw01.ClassBytes", spec := "classBytes", named := ["math/bits.deBruijn64tab"], plainKeys := false, apart := false, laid := [("math/bits.deBruijn64tab", laid_math_bits_deBruijn64tab)] }
def ClassBytesSaid : Prop := classBytesRow.holds Tryd.pinned (OpenSpec.ofChange classBytesSpec)

/-- ITS FALSE NEIGHBOUR: 'it returns false'. Refute it at one input. -/
def classBytesWrong : ChangeSpec := { name := "classBytes", fn := fun _ => fun
  | [d1, d2] => { results := [.lit (.bool false)], args := [d1, d2] }
  | _ => none }
def ClassBytesWrongFalsely : Prop := classBytesRow.holds Tryd.pinned (OpenSpec.ofChange classBytesWrong)

/-- 'ostinatolaw01.ClassParts': WHATEVER THE INPUT: true; the input reads as it did. -/
def classPartsSpec : ChangeSpec := { name := "classParts", fn := fun _ => fun
  | [d] => { results := [.lit (.bool true)], args := [d] }
  | _ => none }
def classPartsRow : OpenClaim := { program := "ythknfjiggdkcaaadoor", sum := "a1cd3192f24fc3263026b7353860a6cc072a9d1f540c94bf0e37adba68c78588", func := "ostinato/ostinatolaw01.ClassParts", spec := "classParts", named := ["ostinato/class.all"], plainKeys := false, apart := false, laid := [("ostinato/class.all", laid_ostinato_class_all)] }
def ClassPartsSaid : Prop := classPartsRow.holds Tryd.pinned (OpenSpec.ofChange classPartsSpec)

/-- ITS FALSE NEIGHBOUR: 'it returns false'. Refute it at one input. -/
def classPartsWrong : ChangeSpec := { name := "classParts", fn := fun _ => fun
  | [d] => { results := [.lit (.bool false)], args := [d] }
  | _ => none }
def ClassPartsWrongFalsely : Prop := classPartsRow.holds Tryd.pinned (OpenSpec.ofChange classPartsWrong)

/-- 'ostinatolaw01.ClassTwice': WHATEVER THE INPUT: true; the input reads as it did. -/
def classTwiceSpec : ChangeSpec := { name := "classTwice", fn := fun _ => fun
  | [d1, d2] => { results := [.lit (.bool true)], args := [d1, d2] }
  | _ => none }
def classTwiceRow : OpenClaim := { program := "ythknfjiggdkcaaadoor", sum := "a1cd3192f24fc3263026b7353860a6cc072a9d1f540c94bf0e37adba68c78588", func := "ostinato/ostinatolaw01.ClassTwice", spec := "classTwice", named := ["ostinato/class.all"], plainKeys := false, apart := false, laid := [("ostinato/class.all", laid_ostinato_class_all)] }
def ClassTwiceSaid : Prop := classTwiceRow.holds Tryd.pinned (OpenSpec.ofChange classTwiceSpec)

/-- ITS FALSE NEIGHBOUR: 'it returns false'. Refute it at one input. -/
def classTwiceWrong : ChangeSpec := { name := "classTwice", fn := fun _ => fun
  | [d1, d2] => { results := [.lit (.bool false)], args := [d1, d2] }
  | _ => none }
def ClassTwiceWrongFalsely : Prop := classTwiceRow.holds Tryd.pinned (OpenSpec.ofChange classTwiceWrong)

/-- 'ostinatolaw01.ClassWhole': WHATEVER THE INPUT: true; the input reads as it did. -/
def classWholeSpec : ChangeSpec := { name := "classWhole", fn := fun _ => fun
  | [d] => { results := [.lit (.bool true)], args := [d] }
  | _ => none }
def classWholeRow : OpenClaim := { program := "ythknfjiggdkcaaadoor", sum := "a1cd3192f24fc3263026b7353860a6cc072a9d1f540c94bf0e37adba68c78588", func := "ostinato/ostinatolaw01.ClassWhole", spec := "classWhole", named := ["ostinato/class.all"], plainKeys := false, apart := false, laid := [("ostinato/class.all", laid_ostinato_class_all)] }
def ClassWholeSaid : Prop := classWholeRow.holds Tryd.pinned (OpenSpec.ofChange classWholeSpec)

/-- ITS FALSE NEIGHBOUR: 'it returns false'. Refute it at one input. -/
def classWholeWrong : ChangeSpec := { name := "classWhole", fn := fun _ => fun
  | [d] => { results := [.lit (.bool false)], args := [d] }
  | _ => none }
def ClassWholeWrongFalsely : Prop := classWholeRow.holds Tryd.pinned (OpenSpec.ofChange classWholeWrong)

/- THE SECOND FORM. 'bulk': how many values and letters a reading holds, each counted each time it is reached (what is shared counts as often as it is met; a slice's spare places count too). A statement '..UptoSaid' is the law's where the arguments, and the package variables that the reading takes, are together of bulk at most 1048576: NARROWER than '..Said'. Prove '..Said' where nothing that the law and all that it calls make is longer than what came in: it says more and counts as full. Else prove '..UptoSaid'. A law counts once. -/
mutual
def uptoBulk {H : Type} : DataW H → Nat
  | .lit (.string bytes) => bytes.length + 1
  | .lit _ => 1
  | .nil => 1
  | .ptr d => uptoBulk d + 1
  | .slice elems spare => uptoBulkAll elems + uptoBulkAll spare + 1
  | .agg parts => uptoBulkAll parts + 1
  | .iface _ d => uptoBulk d + 1
  | .map entries => uptoBulkEntries entries + 1
  | .held _ => 1
def uptoBulkAll {H : Type} : List (DataW H) → Nat
  | [] => 0
  | d :: r => uptoBulk d + uptoBulkAll r
def uptoBulkEntries {H : Type} : List (Lit × DataW H) → Nat
  | [] => 0
  | x :: r => uptoBulkEntry x + uptoBulkEntries r
def uptoBulkEntry {H : Type} : Lit × DataW H → Nat
  | (.string bytes, d) => bytes.length + uptoBulk d + 1
  | (_, d) => uptoBulk d + 1
 end
def uptoSmall : (H : Type) → List (DataW H) → Bool := fun _ ds => decide (uptoBulkAll ds ≤ 1048576)
def OpenSpec.upto (s : _root_.Go.ChangeSpec) : _root_.Go.OpenSpec := { _root_.Go.OpenSpec.ofChange s with cond := some uptoSmall }

/-- 'ostinatolaw01.ClassBytes', WHERE WHAT IT READS IS OF BULK AT MOST 1048576: true; the input reads as it did. -/
def classBytesUptoRow : OpenClaim := { program := "ythknfjiggdkcaaadoor", sum := "a1cd3192f24fc3263026b7353860a6cc072a9d1f540c94bf0e37adba68c78588", func := "ostinato/ostinatolaw01.ClassBytes", spec := "classBytes", named := ["math/bits.deBruijn64tab"], plainKeys := false, apart := false, laid := [("math/bits.deBruijn64tab", laid_math_bits_deBruijn64tab)], narrowed := true }
def ClassBytesUptoSaid : Prop := classBytesUptoRow.holds Tryd.pinned (OpenSpec.upto classBytesSpec)

/-- 'ostinatolaw01.ClassParts', WHERE WHAT IT READS IS OF BULK AT MOST 1048576: true; the input reads as it did. -/
def classPartsUptoRow : OpenClaim := { program := "ythknfjiggdkcaaadoor", sum := "a1cd3192f24fc3263026b7353860a6cc072a9d1f540c94bf0e37adba68c78588", func := "ostinato/ostinatolaw01.ClassParts", spec := "classParts", named := ["ostinato/class.all"], plainKeys := false, apart := false, laid := [("ostinato/class.all", laid_ostinato_class_all)], narrowed := true }
def ClassPartsUptoSaid : Prop := classPartsUptoRow.holds Tryd.pinned (OpenSpec.upto classPartsSpec)

/-- 'ostinatolaw01.ClassTwice', WHERE WHAT IT READS IS OF BULK AT MOST 1048576: true; the input reads as it did. -/
def classTwiceUptoRow : OpenClaim := { program := "ythknfjiggdkcaaadoor", sum := "a1cd3192f24fc3263026b7353860a6cc072a9d1f540c94bf0e37adba68c78588", func := "ostinato/ostinatolaw01.ClassTwice", spec := "classTwice", named := ["ostinato/class.all"], plainKeys := false, apart := false, laid := [("ostinato/class.all", laid_ostinato_class_all)], narrowed := true }
def ClassTwiceUptoSaid : Prop := classTwiceUptoRow.holds Tryd.pinned (OpenSpec.upto classTwiceSpec)

/-- 'ostinatolaw01.ClassWhole', WHERE WHAT IT READS IS OF BULK AT MOST 1048576: true; the input reads as it did. -/
def classWholeUptoRow : OpenClaim := { program := "ythknfjiggdkcaaadoor", sum := "a1cd3192f24fc3263026b7353860a6cc072a9d1f540c94bf0e37adba68c78588", func := "ostinato/ostinatolaw01.ClassWhole", spec := "classWhole", named := ["ostinato/class.all"], plainKeys := false, apart := false, laid := [("ostinato/class.all", laid_ostinato_class_all)], narrowed := true }
def ClassWholeUptoSaid : Prop := classWholeUptoRow.holds Tryd.pinned (OpenSpec.upto classWholeSpec)

end Rows
end Go.Proofs.YthknfjiggdkcaaaDoor
