/-
  NARROWER THAN 'FOR EVERY INPUT', by the rows' own cells (each row's printed sentence says how): PlaceSimple: loops · PlaceMaps: loops · PlaceNested: loops.
  DERIVED. THE GIVEN ROWS OF THIS SEAT. 4 by the template 'for every input the law returns true; each argument reads behind the call as it read before'; 0 by the template 'total and deterministic' (their statements: YtlnhiogpjdhhbaaTotals.lean).
  GIVEN WITH THE SEED: the statements are not yours to turn. If you find one false, say at which input.
  Laid BY PROGRAM, IN A SANDBOX (cutbox-rows.mjs): the forced cells as the released guide's own fill.sh prints them over the translation ec260ab0ba6e3c8a… (all of the seat's roots in one cut). By AI agents, Wed Nov 11 2026. No macro, syntax, notation, axiom, sorry.
-/
import Derived.Test.YtlnhiogpjdhhbaaChecked
import GoSem.Claim
import GoSem.ClaimJoined
import GoSem.ClaimMapViews
import Derived.JoinedTies
import Derived.KernelRfl
namespace Go.Proofs.Ytlnhiogpjdhhbaa
/- THE CELL 'sum', in the pinned program and in every row, IS THE sha256 OF THE DUMP (.gsa) THAT YtlnhiogpjdhhbaaProg.lean LOADS. Nothing in Lean hashes anything: it is a label: what it is worth is what the hold of that sum in a sandbox is worth. -/
noncomputable def Try.pinned : Pinned := { name := "ytlnhiogpjdhhbaa", sum := "ec260ab0ba6e3c8aa54c40a12517bc76f74b3f4255ec7ae4badc804ab07b933a", checked := Try.checked }
namespace Rows
def none {H : Type} : Left H := { results := [], args := [] }

/-- 'ostinatolaw05.PlaceSimple': WHATEVER THE INPUT: true; the input reads as it did. -/
def placeSimpleSpec : ChangeSpec := { name := "placeSimple", fn := fun _ => fun
  | [d] => { results := [.lit (.bool true)], args := [d] }
  | _ => none }
def placeSimpleRow : OpenClaim := { program := "ytlnhiogpjdhhbaa", sum := "ec260ab0ba6e3c8aa54c40a12517bc76f74b3f4255ec7ae4badc804ab07b933a", func := "ostinato/ostinatolaw05.PlaceSimple", spec := "placeSimple", unfollowed := true, recurses := true, loops := true, apart := false }
def PlaceSimpleSaid : Prop := placeSimpleRow.holds Try.pinned (OpenSpec.ofChange placeSimpleSpec)

/-- ITS FALSE NEIGHBOUR: 'it returns false'. Refute it at one input. -/
def placeSimpleWrong : ChangeSpec := { name := "placeSimple", fn := fun _ => fun
  | [d] => { results := [.lit (.bool false)], args := [d] }
  | _ => none }
def PlaceSimpleWrongFalsely : Prop := placeSimpleRow.holds Try.pinned (OpenSpec.ofChange placeSimpleWrong)

/-- 'ostinatolaw05.PlaceMaps': WHATEVER THE INPUT: true; the input reads as it did. -/
def placeMapsSpec : ChangeSpec := { name := "placeMaps", fn := fun _ => fun
  | [d] => { results := [.lit (.bool true)], args := [d] }
  | _ => none }
def placeMapsRow : OpenClaim := { program := "ytlnhiogpjdhhbaa", sum := "ec260ab0ba6e3c8aa54c40a12517bc76f74b3f4255ec7ae4badc804ab07b933a", func := "ostinato/ostinatolaw05.PlaceMaps", spec := "placeMaps", unfollowed := true, recurses := true, loops := true, apart := false }
def PlaceMapsSaid : Prop := placeMapsRow.holds Try.pinned (OpenSpec.ofChange placeMapsSpec)

/-- ITS FALSE NEIGHBOUR: 'it returns false'. Refute it at one input. -/
def placeMapsWrong : ChangeSpec := { name := "placeMaps", fn := fun _ => fun
  | [d] => { results := [.lit (.bool false)], args := [d] }
  | _ => none }
def PlaceMapsWrongFalsely : Prop := placeMapsRow.holds Try.pinned (OpenSpec.ofChange placeMapsWrong)

/-- 'ostinatolaw05.PlaceNested': WHATEVER THE INPUT: true; the input reads as it did. -/
def placeNestedSpec : ChangeSpec := { name := "placeNested", fn := fun _ => fun
  | [d1, d2] => { results := [.lit (.bool true)], args := [d1, d2] }
  | _ => none }
def placeNestedRow : OpenClaim := { program := "ytlnhiogpjdhhbaa", sum := "ec260ab0ba6e3c8aa54c40a12517bc76f74b3f4255ec7ae4badc804ab07b933a", func := "ostinato/ostinatolaw05.PlaceNested", spec := "placeNested", unfollowed := true, recurses := true, loops := true, apart := false }
def PlaceNestedSaid : Prop := placeNestedRow.holds Try.pinned (OpenSpec.ofChange placeNestedSpec)

/-- ITS FALSE NEIGHBOUR: 'it returns false'. Refute it at one input. -/
def placeNestedWrong : ChangeSpec := { name := "placeNested", fn := fun _ => fun
  | [d1, d2] => { results := [.lit (.bool false)], args := [d1, d2] }
  | _ => none }
def PlaceNestedWrongFalsely : Prop := placeNestedRow.holds Try.pinned (OpenSpec.ofChange placeNestedWrong)

/-- 'ostinatolaw05.PlaceCounts': WHATEVER THE INPUT: true; the input reads as it did. -/
def placeCountsSpec : ChangeSpec := { name := "placeCounts", fn := fun _ => fun
  | [d1, d2, d3] => { results := [.lit (.bool true)], args := [d1, d2, d3] }
  | _ => none }
def placeCountsRow : OpenClaim := { program := "ytlnhiogpjdhhbaa", sum := "ec260ab0ba6e3c8aa54c40a12517bc76f74b3f4255ec7ae4badc804ab07b933a", func := "ostinato/ostinatolaw05.PlaceCounts", spec := "placeCounts", unfollowed := true, recurses := true, apart := false }
def PlaceCountsSaid : Prop := placeCountsRow.holds Try.pinned (OpenSpec.ofChange placeCountsSpec)

/-- ITS FALSE NEIGHBOUR: 'it returns false'. Refute it at one input. -/
def placeCountsWrong : ChangeSpec := { name := "placeCounts", fn := fun _ => fun
  | [d1, d2, d3] => { results := [.lit (.bool false)], args := [d1, d2, d3] }
  | _ => none }
def PlaceCountsWrongFalsely : Prop := placeCountsRow.holds Try.pinned (OpenSpec.ofChange placeCountsWrong)

/- THE SECOND FORM. 'bulk': how many values and letters a reading holds, each counted each time it is reached (what is shared counts as often as it is met; a slice's spare places count too). A statement '..UptoSaid' is the law's where the arguments, and the package variables that the reading takes, are together of bulk at most 1048576: NARROWER than '..Said'. Prove '..Said' where nothing that the law and all that it calls make is longer than what came in: it says more and counts as full. Else prove '..UptoSaid'. A law counts once. -/
mutual
def uptoBulk {H : Type} : DataW H → Nat
  | .lit (.string bytes) => bytes.length + 1
  | .lit _ => 1
  | .nil => 1
  | .ptr d => uptoBulk d + 1
  | .slice elems spare => uptoBulkAll elems + uptoBulkAll spare + 1
  | .agg parts => uptoBulkAll parts + 1
  | .iface _ d => uptoBulk d + 1
  | .map entries => uptoBulkEntries entries + 1
  | .held _ => 1
def uptoBulkAll {H : Type} : List (DataW H) → Nat
  | [] => 0
  | d :: r => uptoBulk d + uptoBulkAll r
def uptoBulkEntries {H : Type} : List (Lit × DataW H) → Nat
  | [] => 0
  | x :: r => uptoBulkEntry x + uptoBulkEntries r
def uptoBulkEntry {H : Type} : Lit × DataW H → Nat
  | (.string bytes, d) => bytes.length + uptoBulk d + 1
  | (_, d) => uptoBulk d + 1
 end
def uptoSmall : (H : Type) → List (DataW H) → Bool := fun _ ds => decide (uptoBulkAll ds ≤ 1048576)
def OpenSpec.upto (s : _root_.Go.ChangeSpec) : _root_.Go.OpenSpec := { _root_.Go.OpenSpec.ofChange s with cond := some uptoSmall }

/-- 'ostinatolaw05.PlaceSimple', WHERE WHAT IT READS IS OF BULK AT MOST 1048576: true; the input reads as it did. -/
def placeSimpleUptoRow : OpenClaim := { program := "ytlnhiogpjdhhbaa", sum := "ec260ab0ba6e3c8aa54c40a12517bc76f74b3f4255ec7ae4badc804ab07b933a", func := "ostinato/ostinatolaw05.PlaceSimple", spec := "placeSimple", unfollowed := true, recurses := true, loops := true, apart := false, narrowed := true }
def PlaceSimpleUptoSaid : Prop := placeSimpleUptoRow.holds Try.pinned (OpenSpec.upto placeSimpleSpec)

/-- 'ostinatolaw05.PlaceMaps', WHERE WHAT IT READS IS OF BULK AT MOST 1048576: true; the input reads as it did. -/
def placeMapsUptoRow : OpenClaim := { program := "ytlnhiogpjdhhbaa", sum := "ec260ab0ba6e3c8aa54c40a12517bc76f74b3f4255ec7ae4badc804ab07b933a", func := "ostinato/ostinatolaw05.PlaceMaps", spec := "placeMaps", unfollowed := true, recurses := true, loops := true, apart := false, narrowed := true }
def PlaceMapsUptoSaid : Prop := placeMapsUptoRow.holds Try.pinned (OpenSpec.upto placeMapsSpec)

/-- 'ostinatolaw05.PlaceNested', WHERE WHAT IT READS IS OF BULK AT MOST 1048576: true; the input reads as it did. -/
def placeNestedUptoRow : OpenClaim := { program := "ytlnhiogpjdhhbaa", sum := "ec260ab0ba6e3c8aa54c40a12517bc76f74b3f4255ec7ae4badc804ab07b933a", func := "ostinato/ostinatolaw05.PlaceNested", spec := "placeNested", unfollowed := true, recurses := true, loops := true, apart := false, narrowed := true }
def PlaceNestedUptoSaid : Prop := placeNestedUptoRow.holds Try.pinned (OpenSpec.upto placeNestedSpec)

/-- 'ostinatolaw05.PlaceCounts', WHERE WHAT IT READS IS OF BULK AT MOST 1048576: true; the input reads as it did. -/
def placeCountsUptoRow : OpenClaim := { program := "ytlnhiogpjdhhbaa", sum := "ec260ab0ba6e3c8aa54c40a12517bc76f74b3f4255ec7ae4badc804ab07b933a", func := "ostinato/ostinatolaw05.PlaceCounts", spec := "placeCounts", unfollowed := true, recurses := true, apart := false, narrowed := true }
def PlaceCountsUptoSaid : Prop := placeCountsUptoRow.holds Try.pinned (OpenSpec.upto placeCountsSpec)

end Rows
end Go.Proofs.Ytlnhiogpjdhhbaa
