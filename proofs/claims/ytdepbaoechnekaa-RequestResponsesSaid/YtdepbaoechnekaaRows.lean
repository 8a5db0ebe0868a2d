/-
  No cell of these rows narrows 'for every input' (looked for: loops, veiled, ifaces, maps, wideKeys, modest, calm, conditions, laid).
  DERIVED. THE GIVEN ROWS OF THIS SEAT. 4 by the template 'for every input the law returns true; each argument reads behind the call as it read before'; 0 by the template 'total and deterministic' (their statements: YtdepbaoechnekaaTotals.lean).
  GIVEN WITH THE SEED: the statements are not yours to turn. If you find one false, say at which input.
  Laid BY PROGRAM, IN A SANDBOX (cutbox-rows.mjs): the forced cells as the released guide's own fill.sh prints them over the translation d26a6a4bac1a979a… (all of the seat's roots in one cut). By AI agents, Wed Nov 11 2026. No macro, syntax, notation, axiom, sorry.
-/
import Derived.Test.YtdepbaoechnekaaChecked
import GoSem.Claim
import GoSem.ClaimJoined
import GoSem.ClaimMapViews
import Derived.JoinedTies
import Derived.KernelRfl
namespace Go.Proofs.Ytdepbaoechnekaa
/- THE CELL 'sum', in the pinned program and in every row, IS THE sha256 OF THE DUMP (.gsa) THAT YtdepbaoechnekaaProg.lean LOADS. Nothing in Lean hashes anything: it is a label: what it is worth is what the hold of that sum in a sandbox is worth. -/
noncomputable def Try.pinned : Pinned := { name := "ytdepbaoechnekaa", sum := "d26a6a4bac1a979a1bd12f77c257fb0a60a987a312bc48a80123fa540af9be4e", checked := Try.checked }
namespace Rows
def none {H : Type} : Left H := { results := [], args := [] }

/-- 'ostinatolaw19.RequestWrites': WHATEVER THE INPUT: true; the input reads as it did. -/
def requestWritesSpec : ChangeSpec := { name := "requestWrites", fn := fun _ => fun
  | [d] => { results := [.lit (.bool true)], args := [d] }
  | _ => none }
def requestWritesRow : OpenClaim := { program := "ytdepbaoechnekaa", sum := "d26a6a4bac1a979a1bd12f77c257fb0a60a987a312bc48a80123fa540af9be4e", func := "ostinato/ostinatolaw19.RequestWrites", spec := "requestWrites", apart := false }
def RequestWritesSaid : Prop := requestWritesRow.holds Try.pinned (OpenSpec.ofChange requestWritesSpec)

/-- ITS FALSE NEIGHBOUR: 'it returns false'. Refute it at one input. -/
def requestWritesWrong : ChangeSpec := { name := "requestWrites", fn := fun _ => fun
  | [d] => { results := [.lit (.bool false)], args := [d] }
  | _ => none }
def RequestWritesWrongFalsely : Prop := requestWritesRow.holds Try.pinned (OpenSpec.ofChange requestWritesWrong)

/-- 'ostinatolaw19.RequestReads': WHATEVER THE INPUT: true; the input reads as it did. -/
def requestReadsSpec : ChangeSpec := { name := "requestReads", fn := fun _ => fun
  | [d] => { results := [.lit (.bool true)], args := [d] }
  | _ => none }
def requestReadsRow : OpenClaim := { program := "ytdepbaoechnekaa", sum := "d26a6a4bac1a979a1bd12f77c257fb0a60a987a312bc48a80123fa540af9be4e", func := "ostinato/ostinatolaw19.RequestReads", spec := "requestReads", apart := false }
def RequestReadsSaid : Prop := requestReadsRow.holds Try.pinned (OpenSpec.ofChange requestReadsSpec)

/-- ITS FALSE NEIGHBOUR: 'it returns false'. Refute it at one input. -/
def requestReadsWrong : ChangeSpec := { name := "requestReads", fn := fun _ => fun
  | [d] => { results := [.lit (.bool false)], args := [d] }
  | _ => none }
def RequestReadsWrongFalsely : Prop := requestReadsRow.holds Try.pinned (OpenSpec.ofChange requestReadsWrong)

/-- 'ostinatolaw19.RequestAnswers': WHATEVER THE INPUT: true; the input reads as it did. -/
def requestAnswersSpec : ChangeSpec := { name := "requestAnswers", fn := fun _ => fun
  | [d] => { results := [.lit (.bool true)], args := [d] }
  | _ => none }
def requestAnswersRow : OpenClaim := { program := "ytdepbaoechnekaa", sum := "d26a6a4bac1a979a1bd12f77c257fb0a60a987a312bc48a80123fa540af9be4e", func := "ostinato/ostinatolaw19.RequestAnswers", spec := "requestAnswers", apart := false }
def RequestAnswersSaid : Prop := requestAnswersRow.holds Try.pinned (OpenSpec.ofChange requestAnswersSpec)

/-- ITS FALSE NEIGHBOUR: 'it returns false'. Refute it at one input. -/
def requestAnswersWrong : ChangeSpec := { name := "requestAnswers", fn := fun _ => fun
  | [d] => { results := [.lit (.bool false)], args := [d] }
  | _ => none }
def RequestAnswersWrongFalsely : Prop := requestAnswersRow.holds Try.pinned (OpenSpec.ofChange requestAnswersWrong)

/-- 'ostinatolaw19.RequestResponses': WHATEVER THE INPUT: true; the input reads as it did. -/
def requestResponsesSpec : ChangeSpec := { name := "requestResponses", fn := fun _ => fun
  | [d] => { results := [.lit (.bool true)], args := [d] }
  | _ => none }
def requestResponsesRow : OpenClaim := { program := "ytdepbaoechnekaa", sum := "d26a6a4bac1a979a1bd12f77c257fb0a60a987a312bc48a80123fa540af9be4e", func := "ostinato/ostinatolaw19.RequestResponses", spec := "requestResponses", apart := false }
def RequestResponsesSaid : Prop := requestResponsesRow.holds Try.pinned (OpenSpec.ofChange requestResponsesSpec)

/-- ITS FALSE NEIGHBOUR: 'it returns false'. Refute it at one input. -/
def requestResponsesWrong : ChangeSpec := { name := "requestResponses", fn := fun _ => fun
  | [d] => { results := [.lit (.bool false)], args := [d] }
  | _ => none }
def RequestResponsesWrongFalsely : Prop := requestResponsesRow.holds Try.pinned (OpenSpec.ofChange requestResponsesWrong)

/- THE SECOND FORM. 'bulk': how many values and letters a reading holds, each counted each time it is reached (what is shared counts as often as it is met; a slice's spare places count too). A statement '..UptoSaid' is the law's where the arguments, and the package variables that the reading takes, are together of bulk at most 1048576: NARROWER than '..Said'. Prove '..Said' where nothing that the law and all that it calls make is longer than what came in: it says more and counts as full. Else prove '..UptoSaid'. A law counts once. -/
mutual
def uptoBulk {H : Type} : DataW H → Nat
  | .lit (.string bytes) => bytes.length + 1
  | .lit _ => 1
  | .nil => 1
  | .ptr d => uptoBulk d + 1
  | .slice elems spare => uptoBulkAll elems + uptoBulkAll spare + 1
  | .agg parts => uptoBulkAll parts + 1
  | .iface _ d => uptoBulk d + 1
  | .map entries => uptoBulkEntries entries + 1
  | .held _ => 1
def uptoBulkAll {H : Type} : List (DataW H) → Nat
  | [] => 0
  | d :: r => uptoBulk d + uptoBulkAll r
def uptoBulkEntries {H : Type} : List (Lit × DataW H) → Nat
  | [] => 0
  | x :: r => uptoBulkEntry x + uptoBulkEntries r
def uptoBulkEntry {H : Type} : Lit × DataW H → Nat
  | (.string bytes, d) => bytes.length + uptoBulk d + 1
  | (_, d) => uptoBulk d + 1
 end
def uptoSmall : (H : Type) → List (DataW H) → Bool := fun _ ds => decide (uptoBulkAll ds ≤ 1048576)
def OpenSpec.upto (s : _root_.Go.ChangeSpec) : _root_.Go.OpenSpec := { _root_.Go.OpenSpec.ofChange s with cond := some uptoSmall }

/-- 'ostinatolaw19.RequestWrites', WHERE WHAT IT READS IS OF BULK AT MOST 1048576: true; the input reads as it did. -/
def requestWritesUptoRow : OpenClaim := { program := "ytdepbaoechnekaa", sum := "d26a6a4bac1a979a1bd12f77c257fb0a60a987a312bc48a80123fa540af9be4e", func := "ostinato/ostinatolaw19.RequestWrites", spec := "requestWrites", apart := false, narrowed := true }
def RequestWritesUptoSaid : Prop := requestWritesUptoRow.holds Try.pinned (OpenSpec.upto requestWritesSpec)

/-- 'ostinatolaw19.RequestReads', WHERE WHAT IT READS IS OF BULK AT MOST 1048576: true; the input reads as it did. -/
def requestReadsUptoRow : OpenClaim := { program := "ytdepbaoechnekaa", sum := "d26a6a4bac1a979a1bd12f77c257fb0a60a987a312bc48a80123fa540af9be4e", func := "ostinato/ostinatolaw19.RequestReads", spec := "requestReads", apart := false, narrowed := true }
def RequestReadsUptoSaid : Prop := requestReadsUptoRow.holds Try.pinned (OpenSpec.upto requestReadsSpec)

/-- 'ostinatolaw19.RequestAnswers', WHERE WHAT IT READS IS OF BULK AT MOST 1048576: true; the input reads as it did. -/
def requestAnswersUptoRow : OpenClaim := { program := "ytdepbaoechnekaa", sum := "d26a6a4bac1a979a1bd12f77c257fb0a60a987a312bc48a80123fa540af9be4e", func := "ostinato/ostinatolaw19.RequestAnswers", spec := "requestAnswers", apart := false, narrowed := true }
def RequestAnswersUptoSaid : Prop := requestAnswersUptoRow.holds Try.pinned (OpenSpec.upto requestAnswersSpec)

/-- 'ostinatolaw19.RequestResponses', WHERE WHAT IT READS IS OF BULK AT MOST 1048576: true; the input reads as it did. -/
def requestResponsesUptoRow : OpenClaim := { program := "ytdepbaoechnekaa", sum := "d26a6a4bac1a979a1bd12f77c257fb0a60a987a312bc48a80123fa540af9be4e", func := "ostinato/ostinatolaw19.RequestResponses", spec := "requestResponses", apart := false, narrowed := true }
def RequestResponsesUptoSaid : Prop := requestResponsesUptoRow.holds Try.pinned (OpenSpec.upto requestResponsesSpec)

end Rows
end Go.Proofs.Ytdepbaoechnekaa
