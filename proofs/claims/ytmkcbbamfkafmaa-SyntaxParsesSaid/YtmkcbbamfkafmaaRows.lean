/-
  NARROWER THAN 'FOR EVERY INPUT', by the rows' own cells (each row's printed sentence says how): SyntaxTrees: loops.
  DERIVED. THE GIVEN ROWS OF THIS SEAT. 7 by the template 'for every input the law returns true; each argument reads behind the call as it read before'; 0 by the template 'total and deterministic' (their statements: YtmkcbbamfkafmaaTotals.lean).
  GIVEN WITH THE SEED: the statements are not yours to turn. If you find one false, say at which input.
  Laid BY PROGRAM, IN A SANDBOX (cutbox-rows.mjs): the forced cells as the released guide's own fill.sh prints them over the translation 845ef5262fbf684e… (all of the seat's roots in one cut). By AI agents, Wed Nov 11 2026. No macro, syntax, notation, axiom, sorry.
-/
import Derived.Test.YtmkcbbamfkafmaaChecked
import GoSem.Claim
import GoSem.ClaimJoined
import GoSem.ClaimMapViews
import Derived.JoinedTies
import Derived.KernelRfl
namespace Go.Proofs.Ytmkcbbamfkafmaa
/- THE CELL 'sum', in the pinned program and in every row, IS THE sha256 OF THE DUMP (.gsa) THAT YtmkcbbamfkafmaaProg.lean LOADS. Nothing in Lean hashes anything: it is a label: what it is worth is what the hold of that sum in a sandbox is worth. -/
noncomputable def Try.pinned : Pinned := { name := "ytmkcbbamfkafmaa", sum := "845ef5262fbf684e8949f42ac554315558f0275a142eb78682d9670b7bf0023b", checked := Try.checked }
namespace Rows
def none {H : Type} : Left H := { results := [], args := [] }

/-- 'ostinatolaw02.SyntaxRepeats': WHATEVER THE INPUT: true; the input reads as it did. -/
def syntaxRepeatsSpec : ChangeSpec := { name := "syntaxRepeats", fn := fun _ => fun
  | [d1, d2, d3] => { results := [.lit (.bool true)], args := [d1, d2, d3] }
  | _ => none }
def syntaxRepeatsRow : OpenClaim := { program := "ytmkcbbamfkafmaa", sum := "845ef5262fbf684e8949f42ac554315558f0275a142eb78682d9670b7bf0023b", func := "ostinato/ostinatolaw02.SyntaxRepeats", spec := "syntaxRepeats", inPlace := ["internal/bytealg.IndexByteString", "internal/bytealg.IndexString"], recurses := true, named := ["internal/bytealg.MaxLen"], apart := false }
def SyntaxRepeatsSaid : Prop := syntaxRepeatsRow.holds Try.pinned (OpenSpec.ofChange syntaxRepeatsSpec)

/-- ITS FALSE NEIGHBOUR: 'it returns false'. Refute it at one input. -/
def syntaxRepeatsWrong : ChangeSpec := { name := "syntaxRepeats", fn := fun _ => fun
  | [d1, d2, d3] => { results := [.lit (.bool false)], args := [d1, d2, d3] }
  | _ => none }
def SyntaxRepeatsWrongFalsely : Prop := syntaxRepeatsRow.holds Try.pinned (OpenSpec.ofChange syntaxRepeatsWrong)

/-- 'ostinatolaw02.SyntaxBytes': WHATEVER THE INPUT: true; the input reads as it did. -/
def syntaxBytesSpec : ChangeSpec := { name := "syntaxBytes", fn := fun _ => fun
  | [d1, d2] => { results := [.lit (.bool true)], args := [d1, d2] }
  | _ => none }
def syntaxBytesRow : OpenClaim := { program := "ytmkcbbamfkafmaa", sum := "845ef5262fbf684e8949f42ac554315558f0275a142eb78682d9670b7bf0023b", func := "ostinato/ostinatolaw02.SyntaxBytes", spec := "syntaxBytes", inPlace := ["internal/bytealg.IndexByteString", "internal/bytealg.IndexString"], recurses := true, named := ["internal/bytealg.MaxLen"], apart := false }
def SyntaxBytesSaid : Prop := syntaxBytesRow.holds Try.pinned (OpenSpec.ofChange syntaxBytesSpec)

/-- ITS FALSE NEIGHBOUR: 'it returns false'. Refute it at one input. -/
def syntaxBytesWrong : ChangeSpec := { name := "syntaxBytes", fn := fun _ => fun
  | [d1, d2] => { results := [.lit (.bool false)], args := [d1, d2] }
  | _ => none }
def SyntaxBytesWrongFalsely : Prop := syntaxBytesRow.holds Try.pinned (OpenSpec.ofChange syntaxBytesWrong)

/-- 'ostinatolaw02.SyntaxBegins': WHATEVER THE INPUT: true; the input reads as it did. -/
def syntaxBeginsSpec : ChangeSpec := { name := "syntaxBegins", fn := fun _ => fun
  | [d] => { results := [.lit (.bool true)], args := [d] }
  | _ => none }
def syntaxBeginsRow : OpenClaim := { program := "ytmkcbbamfkafmaa", sum := "845ef5262fbf684e8949f42ac554315558f0275a142eb78682d9670b7bf0023b", func := "ostinato/ostinatolaw02.SyntaxBegins", spec := "syntaxBegins", inPlace := ["internal/bytealg.IndexByteString", "internal/bytealg.IndexString"], recurses := true, named := ["internal/bytealg.MaxLen"], apart := false }
def SyntaxBeginsSaid : Prop := syntaxBeginsRow.holds Try.pinned (OpenSpec.ofChange syntaxBeginsSpec)

/-- ITS FALSE NEIGHBOUR: 'it returns false'. Refute it at one input. -/
def syntaxBeginsWrong : ChangeSpec := { name := "syntaxBegins", fn := fun _ => fun
  | [d] => { results := [.lit (.bool false)], args := [d] }
  | _ => none }
def SyntaxBeginsWrongFalsely : Prop := syntaxBeginsRow.holds Try.pinned (OpenSpec.ofChange syntaxBeginsWrong)

/-- 'ostinatolaw02.SyntaxGroups': WHATEVER THE INPUT: true; the input reads as it did. -/
def syntaxGroupsSpec : ChangeSpec := { name := "syntaxGroups", fn := fun _ => fun
  | [d] => { results := [.lit (.bool true)], args := [d] }
  | _ => none }
def syntaxGroupsRow : OpenClaim := { program := "ytmkcbbamfkafmaa", sum := "845ef5262fbf684e8949f42ac554315558f0275a142eb78682d9670b7bf0023b", func := "ostinato/ostinatolaw02.SyntaxGroups", spec := "syntaxGroups", inPlace := ["internal/bytealg.IndexByteString", "internal/bytealg.IndexString"], recurses := true, named := ["internal/bytealg.MaxLen"], apart := false }
def SyntaxGroupsSaid : Prop := syntaxGroupsRow.holds Try.pinned (OpenSpec.ofChange syntaxGroupsSpec)

/-- ITS FALSE NEIGHBOUR: 'it returns false'. Refute it at one input. -/
def syntaxGroupsWrong : ChangeSpec := { name := "syntaxGroups", fn := fun _ => fun
  | [d] => { results := [.lit (.bool false)], args := [d] }
  | _ => none }
def SyntaxGroupsWrongFalsely : Prop := syntaxGroupsRow.holds Try.pinned (OpenSpec.ofChange syntaxGroupsWrong)

/-- 'ostinatolaw02.SyntaxBounds': WHATEVER THE INPUT: true; the input reads as it did. -/
def syntaxBoundsSpec : ChangeSpec := { name := "syntaxBounds", fn := fun _ => fun
  | [d1, d2, d3] => { results := [.lit (.bool true)], args := [d1, d2, d3] }
  | _ => none }
def syntaxBoundsRow : OpenClaim := { program := "ytmkcbbamfkafmaa", sum := "845ef5262fbf684e8949f42ac554315558f0275a142eb78682d9670b7bf0023b", func := "ostinato/ostinatolaw02.SyntaxBounds", spec := "syntaxBounds", inPlace := ["internal/bytealg.IndexByteString", "internal/bytealg.IndexString"], recurses := true, named := ["internal/bytealg.MaxLen"], apart := false }
def SyntaxBoundsSaid : Prop := syntaxBoundsRow.holds Try.pinned (OpenSpec.ofChange syntaxBoundsSpec)

/-- ITS FALSE NEIGHBOUR: 'it returns false'. Refute it at one input. -/
def syntaxBoundsWrong : ChangeSpec := { name := "syntaxBounds", fn := fun _ => fun
  | [d1, d2, d3] => { results := [.lit (.bool false)], args := [d1, d2, d3] }
  | _ => none }
def SyntaxBoundsWrongFalsely : Prop := syntaxBoundsRow.holds Try.pinned (OpenSpec.ofChange syntaxBoundsWrong)

/-- 'ostinatolaw02.SyntaxParses': WHATEVER THE INPUT: true; the input reads as it did. -/
def syntaxParsesSpec : ChangeSpec := { name := "syntaxParses", fn := fun _ => fun
  | [d] => { results := [.lit (.bool true)], args := [d] }
  | _ => none }
def syntaxParsesRow : OpenClaim := { program := "ytmkcbbamfkafmaa", sum := "845ef5262fbf684e8949f42ac554315558f0275a142eb78682d9670b7bf0023b", func := "ostinato/ostinatolaw02.SyntaxParses", spec := "syntaxParses", inPlace := ["internal/bytealg.IndexByteString", "internal/bytealg.IndexString"], unfollowed := true, recurses := true, named := ["internal/bytealg.MaxLen"], apart := false }
def SyntaxParsesSaid : Prop := syntaxParsesRow.holds Try.pinned (OpenSpec.ofChange syntaxParsesSpec)

/-- ITS FALSE NEIGHBOUR: 'it returns false'. Refute it at one input. -/
def syntaxParsesWrong : ChangeSpec := { name := "syntaxParses", fn := fun _ => fun
  | [d] => { results := [.lit (.bool false)], args := [d] }
  | _ => none }
def SyntaxParsesWrongFalsely : Prop := syntaxParsesRow.holds Try.pinned (OpenSpec.ofChange syntaxParsesWrong)

/-- 'ostinatolaw02.SyntaxTrees': WHATEVER THE INPUT: true; the input reads as it did. -/
def syntaxTreesSpec : ChangeSpec := { name := "syntaxTrees", fn := fun _ => fun
  | [d1, d2] => { results := [.lit (.bool true)], args := [d1, d2] }
  | _ => none }
def syntaxTreesRow : OpenClaim := { program := "ytmkcbbamfkafmaa", sum := "845ef5262fbf684e8949f42ac554315558f0275a142eb78682d9670b7bf0023b", func := "ostinato/ostinatolaw02.SyntaxTrees", spec := "syntaxTrees", inPlace := ["internal/bytealg.IndexByteString", "internal/bytealg.IndexString"], unfollowed := true, recurses := true, named := ["internal/bytealg.MaxLen"], loops := true, apart := false }
def SyntaxTreesSaid : Prop := syntaxTreesRow.holds Try.pinned (OpenSpec.ofChange syntaxTreesSpec)

/-- ITS FALSE NEIGHBOUR: 'it returns false'. Refute it at one input. -/
def syntaxTreesWrong : ChangeSpec := { name := "syntaxTrees", fn := fun _ => fun
  | [d1, d2] => { results := [.lit (.bool false)], args := [d1, d2] }
  | _ => none }
def SyntaxTreesWrongFalsely : Prop := syntaxTreesRow.holds Try.pinned (OpenSpec.ofChange syntaxTreesWrong)

/- THE SECOND FORM. 'bulk': how many values and letters a reading holds, each counted each time it is reached (what is shared counts as often as it is met; a slice's spare places count too). A statement '..UptoSaid' is the law's where the arguments, and the package variables that the reading takes, are together of bulk at most 1048576: NARROWER than '..Said'. Prove '..Said' where nothing that the law and all that it calls make is longer than what came in: it says more and counts as full. Else prove '..UptoSaid'. A law counts once. -/
mutual
def uptoBulk {H : Type} : DataW H → Nat
  | .lit (.string bytes) => bytes.length + 1
  | .lit _ => 1
  | .nil => 1
  | .ptr d => uptoBulk d + 1
  | .slice elems spare => uptoBulkAll elems + uptoBulkAll spare + 1
  | .agg parts => uptoBulkAll parts + 1
  | .iface _ d => uptoBulk d + 1
  | .map entries => uptoBulkEntries entries + 1
  | .held _ => 1
def uptoBulkAll {H : Type} : List (DataW H) → Nat
  | [] => 0
  | d :: r => uptoBulk d + uptoBulkAll r
def uptoBulkEntries {H : Type} : List (Lit × DataW H) → Nat
  | [] => 0
  | x :: r => uptoBulkEntry x + uptoBulkEntries r
def uptoBulkEntry {H : Type} : Lit × DataW H → Nat
  | (.string bytes, d) => bytes.length + uptoBulk d + 1
  | (_, d) => uptoBulk d + 1
 end
def uptoSmall : (H : Type) → List (DataW H) → Bool := fun _ ds => decide (uptoBulkAll ds ≤ 1048576)
def OpenSpec.upto (s : _root_.Go.ChangeSpec) : _root_.Go.OpenSpec := { _root_.Go.OpenSpec.ofChange s with cond := some uptoSmall }

/-- 'ostinatolaw02.SyntaxRepeats', WHERE WHAT IT READS IS OF BULK AT MOST 1048576: true; the input reads as it did. -/
def syntaxRepeatsUptoRow : OpenClaim := { program := "ytmkcbbamfkafmaa", sum := "845ef5262fbf684e8949f42ac554315558f0275a142eb78682d9670b7bf0023b", func := "ostinato/ostinatolaw02.SyntaxRepeats", spec := "syntaxRepeats", inPlace := ["internal/bytealg.IndexByteString", "internal/bytealg.IndexString"], recurses := true, named := ["internal/bytealg.MaxLen"], apart := false, narrowed := true }
def SyntaxRepeatsUptoSaid : Prop := syntaxRepeatsUptoRow.holds Try.pinned (OpenSpec.upto syntaxRepeatsSpec)

/-- 'ostinatolaw02.SyntaxBytes', WHERE WHAT IT READS IS OF BULK AT MOST 1048576: true; the input reads as it did. -/
def syntaxBytesUptoRow : OpenClaim := { program := "ytmkcbbamfkafmaa", sum := "845ef5262fbf684e8949f42ac554315558f0275a142eb78682d9670b7bf0023b", func := "ostinato/ostinatolaw02.SyntaxBytes", spec := "syntaxBytes", inPlace := ["internal/bytealg.IndexByteString", "internal/bytealg.IndexString"], recurses := true, named := ["internal/bytealg.MaxLen"], apart := false, narrowed := true }
def SyntaxBytesUptoSaid : Prop := syntaxBytesUptoRow.holds Try.pinned (OpenSpec.upto syntaxBytesSpec)

/-- 'ostinatolaw02.SyntaxBegins', WHERE WHAT IT READS IS OF BULK AT MOST 1048576: true; the input reads as it did. -/
def syntaxBeginsUptoRow : OpenClaim := { program := "ytmkcbbamfkafmaa", sum := "845ef5262fbf684e8949f42ac554315558f0275a142eb78682d9670b7bf0023b", func := "ostinato/ostinatolaw02.SyntaxBegins", spec := "syntaxBegins", inPlace := ["internal/bytealg.IndexByteString", "internal/bytealg.IndexString"], recurses := true, named := ["internal/bytealg.MaxLen"], apart := false, narrowed := true }
def SyntaxBeginsUptoSaid : Prop := syntaxBeginsUptoRow.holds Try.pinned (OpenSpec.upto syntaxBeginsSpec)

/-- 'ostinatolaw02.SyntaxGroups', WHERE WHAT IT READS IS OF BULK AT MOST 1048576: true; the input reads as it did. -/
def syntaxGroupsUptoRow : OpenClaim := { program := "ytmkcbbamfkafmaa", sum := "845ef5262fbf684e8949f42ac554315558f0275a142eb78682d9670b7bf0023b", func := "ostinato/ostinatolaw02.SyntaxGroups", spec := "syntaxGroups", inPlace := ["internal/bytealg.IndexByteString", "internal/bytealg.IndexString"], recurses := true, named := ["internal/bytealg.MaxLen"], apart := false, narrowed := true }
def SyntaxGroupsUptoSaid : Prop := syntaxGroupsUptoRow.holds Try.pinned (OpenSpec.upto syntaxGroupsSpec)

/-- 'ostinatolaw02.SyntaxBounds', WHERE WHAT IT READS IS OF BULK AT MOST 1048576: true; the input reads as it did. -/
def syntaxBoundsUptoRow : OpenClaim := { program := "ytmkcbbamfkafmaa", sum := "845ef5262fbf684e8949f42ac554315558f0275a142eb78682d9670b7bf0023b", func := "ostinato/ostinatolaw02.SyntaxBounds", spec := "syntaxBounds", inPlace := ["internal/bytealg.IndexByteString", "internal/bytealg.IndexString"], recurses := true, named := ["internal/bytealg.MaxLen"], apart := false, narrowed := true }
def SyntaxBoundsUptoSaid : Prop := syntaxBoundsUptoRow.holds Try.pinned (OpenSpec.upto syntaxBoundsSpec)

/-- 'ostinatolaw02.SyntaxParses', WHERE WHAT IT READS IS OF BULK AT MOST 1048576: true; the input reads as it did. -/
def syntaxParsesUptoRow : OpenClaim := { program := "ytmkcbbamfkafmaa", sum := "845ef5262fbf684e8949f42ac554315558f0275a142eb78682d9670b7bf0023b", func := "ostinato/ostinatolaw02.SyntaxParses", spec := "syntaxParses", inPlace := ["internal/bytealg.IndexByteString", "internal/bytealg.IndexString"], unfollowed := true, recurses := true, named := ["internal/bytealg.MaxLen"], apart := false, narrowed := true }
def SyntaxParsesUptoSaid : Prop := syntaxParsesUptoRow.holds Try.pinned (OpenSpec.upto syntaxParsesSpec)

/-- 'ostinatolaw02.SyntaxTrees', WHERE WHAT IT READS IS OF BULK AT MOST 1048576: true; the input reads as it did. -/
def syntaxTreesUptoRow : OpenClaim := { program := "ytmkcbbamfkafmaa", sum := "845ef5262fbf684e8949f42ac554315558f0275a142eb78682d9670b7bf0023b", func := "ostinato/ostinatolaw02.SyntaxTrees", spec := "syntaxTrees", inPlace := ["internal/bytealg.IndexByteString", "internal/bytealg.IndexString"], unfollowed := true, recurses := true, named := ["internal/bytealg.MaxLen"], loops := true, apart := false, narrowed := true }
def SyntaxTreesUptoSaid : Prop := syntaxTreesUptoRow.holds Try.pinned (OpenSpec.upto syntaxTreesSpec)

end Rows
end Go.Proofs.Ytmkcbbamfkafmaa
