/-
  No cell of these rows narrows 'for every input' (looked for: loops, veiled, ifaces, maps, wideKeys, modest, calm, conditions, laid).
  DERIVED. THE GIVEN ROWS OF THIS SEAT. 5 by the template 'for every input the law returns true; each argument reads behind the call as it read before'; 0 by the template 'total and deterministic' (their statements: YtmfmniecoaihhaaTotals.lean).
  GIVEN WITH THE SEED: the statements are not yours to turn. If you find one false, say at which input.
  Laid BY PROGRAM, IN A SANDBOX (cutbox-rows.mjs): the forced cells as the released guide's own fill.sh prints them over the translation 6abc6db25cf0850a… (all of the seat's roots in one cut). By AI agents, Wed Nov 11 2026. No macro, syntax, notation, axiom, sorry.
-/
import Derived.Test.YtmfmniecoaihhaaChecked
import GoSem.Claim
import GoSem.ClaimJoined
import GoSem.ClaimMapViews
import Derived.JoinedTies
import Derived.KernelRfl
namespace Go.Proofs.Ytmfmniecoaihhaa
/- THE CELL 'sum', in the pinned program and in every row, IS THE sha256 OF THE DUMP (.gsa) THAT YtmfmniecoaihhaaProg.lean LOADS. Nothing in Lean hashes anything: it is a label: what it is worth is what the hold of that sum in a sandbox is worth. -/
noncomputable def Try.pinned : Pinned := { name := "ytmfmniecoaihhaa", sum := "6abc6db25cf0850a29a204964a3efd3cc9aed73a653cd0378278aa97daf0ce67", checked := Try.checked }
namespace Rows
def none {H : Type} : Left H := { results := [], args := [] }

/-- 'ostinatolaw09.CsetCounts': WHATEVER THE INPUT: true; the input reads as it did. -/
def csetCountsSpec : ChangeSpec := { name := "csetCounts", fn := fun _ => fun
  | [d1, d2] => { results := [.lit (.bool true)], args := [d1, d2] }
  | _ => none }
def csetCountsRow : OpenClaim := { program := "ytmfmniecoaihhaa", sum := "6abc6db25cf0850a29a204964a3efd3cc9aed73a653cd0378278aa97daf0ce67", func := "ostinato/ostinatolaw09.CsetCounts", spec := "csetCounts", unfollowed := true, recurses := true, apart := false }
def CsetCountsSaid : Prop := csetCountsRow.holds Try.pinned (OpenSpec.ofChange csetCountsSpec)

/-- ITS FALSE NEIGHBOUR: 'it returns false'. Refute it at one input. -/
def csetCountsWrong : ChangeSpec := { name := "csetCounts", fn := fun _ => fun
  | [d1, d2] => { results := [.lit (.bool false)], args := [d1, d2] }
  | _ => none }
def CsetCountsWrongFalsely : Prop := csetCountsRow.holds Try.pinned (OpenSpec.ofChange csetCountsWrong)

/-- 'ostinatolaw09.CsetSteps': WHATEVER THE INPUT: true; the input reads as it did. -/
def csetStepsSpec : ChangeSpec := { name := "csetSteps", fn := fun _ => fun
  | [d1, d2] => { results := [.lit (.bool true)], args := [d1, d2] }
  | _ => none }
def csetStepsRow : OpenClaim := { program := "ytmfmniecoaihhaa", sum := "6abc6db25cf0850a29a204964a3efd3cc9aed73a653cd0378278aa97daf0ce67", func := "ostinato/ostinatolaw09.CsetSteps", spec := "csetSteps", apart := false }
def CsetStepsSaid : Prop := csetStepsRow.holds Try.pinned (OpenSpec.ofChange csetStepsSpec)

/-- ITS FALSE NEIGHBOUR: 'it returns false'. Refute it at one input. -/
def csetStepsWrong : ChangeSpec := { name := "csetSteps", fn := fun _ => fun
  | [d1, d2] => { results := [.lit (.bool false)], args := [d1, d2] }
  | _ => none }
def CsetStepsWrongFalsely : Prop := csetStepsRow.holds Try.pinned (OpenSpec.ofChange csetStepsWrong)

/-- 'ostinatolaw09.CsetPlays': WHATEVER THE INPUT: true; the input reads as it did. -/
def csetPlaysSpec : ChangeSpec := { name := "csetPlays", fn := fun _ => fun
  | [d1, d2] => { results := [.lit (.bool true)], args := [d1, d2] }
  | _ => none }
def csetPlaysRow : OpenClaim := { program := "ytmfmniecoaihhaa", sum := "6abc6db25cf0850a29a204964a3efd3cc9aed73a653cd0378278aa97daf0ce67", func := "ostinato/ostinatolaw09.CsetPlays", spec := "csetPlays", unfollowed := true, recurses := true, apart := false }
def CsetPlaysSaid : Prop := csetPlaysRow.holds Try.pinned (OpenSpec.ofChange csetPlaysSpec)

/-- ITS FALSE NEIGHBOUR: 'it returns false'. Refute it at one input. -/
def csetPlaysWrong : ChangeSpec := { name := "csetPlays", fn := fun _ => fun
  | [d1, d2] => { results := [.lit (.bool false)], args := [d1, d2] }
  | _ => none }
def CsetPlaysWrongFalsely : Prop := csetPlaysRow.holds Try.pinned (OpenSpec.ofChange csetPlaysWrong)

/-- 'ostinatolaw09.CsetClones': WHATEVER THE INPUT: true; the input reads as it did. -/
def csetClonesSpec : ChangeSpec := { name := "csetClones", fn := fun _ => fun
  | [d1, d2, d3] => { results := [.lit (.bool true)], args := [d1, d2, d3] }
  | _ => none }
def csetClonesRow : OpenClaim := { program := "ytmfmniecoaihhaa", sum := "6abc6db25cf0850a29a204964a3efd3cc9aed73a653cd0378278aa97daf0ce67", func := "ostinato/ostinatolaw09.CsetClones", spec := "csetClones", unfollowed := true, recurses := true, apart := false }
def CsetClonesSaid : Prop := csetClonesRow.holds Try.pinned (OpenSpec.ofChange csetClonesSpec)

/-- ITS FALSE NEIGHBOUR: 'it returns false'. Refute it at one input. -/
def csetClonesWrong : ChangeSpec := { name := "csetClones", fn := fun _ => fun
  | [d1, d2, d3] => { results := [.lit (.bool false)], args := [d1, d2, d3] }
  | _ => none }
def CsetClonesWrongFalsely : Prop := csetClonesRow.holds Try.pinned (OpenSpec.ofChange csetClonesWrong)

/-- 'ostinatolaw09.CsetMerges': WHATEVER THE INPUT: true; the input reads as it did. -/
def csetMergesSpec : ChangeSpec := { name := "csetMerges", fn := fun _ => fun
  | [d1, d2, d3] => { results := [.lit (.bool true)], args := [d1, d2, d3] }
  | _ => none }
def csetMergesRow : OpenClaim := { program := "ytmfmniecoaihhaa", sum := "6abc6db25cf0850a29a204964a3efd3cc9aed73a653cd0378278aa97daf0ce67", func := "ostinato/ostinatolaw09.CsetMerges", spec := "csetMerges", unfollowed := true, recurses := true, apart := false }
def CsetMergesSaid : Prop := csetMergesRow.holds Try.pinned (OpenSpec.ofChange csetMergesSpec)

/-- ITS FALSE NEIGHBOUR: 'it returns false'. Refute it at one input. -/
def csetMergesWrong : ChangeSpec := { name := "csetMerges", fn := fun _ => fun
  | [d1, d2, d3] => { results := [.lit (.bool false)], args := [d1, d2, d3] }
  | _ => none }
def CsetMergesWrongFalsely : Prop := csetMergesRow.holds Try.pinned (OpenSpec.ofChange csetMergesWrong)

/- THE SECOND FORM. 'bulk': how many values and letters a reading holds, each counted each time it is reached (what is shared counts as often as it is met; a slice's spare places count too). A statement '..UptoSaid' is the law's where the arguments, and the package variables that the reading takes, are together of bulk at most 1048576: NARROWER than '..Said'. Prove '..Said' where nothing that the law and all that it calls make is longer than what came in: it says more and counts as full. Else prove '..UptoSaid'. A law counts once. -/
mutual
def uptoBulk {H : Type} : DataW H → Nat
  | .lit (.string bytes) => bytes.length + 1
  | .lit _ => 1
  | .nil => 1
  | .ptr d => uptoBulk d + 1
  | .slice elems spare => uptoBulkAll elems + uptoBulkAll spare + 1
  | .agg parts => uptoBulkAll parts + 1
  | .iface _ d => uptoBulk d + 1
  | .map entries => uptoBulkEntries entries + 1
  | .held _ => 1
def uptoBulkAll {H : Type} : List (DataW H) → Nat
  | [] => 0
  | d :: r => uptoBulk d + uptoBulkAll r
def uptoBulkEntries {H : Type} : List (Lit × DataW H) → Nat
  | [] => 0
  | x :: r => uptoBulkEntry x + uptoBulkEntries r
def uptoBulkEntry {H : Type} : Lit × DataW H → Nat
  | (.string bytes, d) => bytes.length + uptoBulk d + 1
  | (_, d) => uptoBulk d + 1
 end
def uptoSmall : (H : Type) → List (DataW H) → Bool := fun _ ds => decide (uptoBulkAll ds ≤ 1048576)
def OpenSpec.upto (s : _root_.Go.ChangeSpec) : _root_.Go.OpenSpec := { _root_.Go.OpenSpec.ofChange s with cond := some uptoSmall }

/-- 'ostinatolaw09.CsetCounts', WHERE WHAT IT READS IS OF BULK AT MOST 1048576: true; the input reads as it did. -/
def csetCountsUptoRow : OpenClaim := { program := "ytmfmniecoaihhaa", sum := "6abc6db25cf0850a29a204964a3efd3cc9aed73a653cd0378278aa97daf0ce67", func := "ostinato/ostinatolaw09.CsetCounts", spec := "csetCounts", unfollowed := true, recurses := true, apart := false, narrowed := true }
def CsetCountsUptoSaid : Prop := csetCountsUptoRow.holds Try.pinned (OpenSpec.upto csetCountsSpec)

/-- 'ostinatolaw09.CsetSteps', WHERE WHAT IT READS IS OF BULK AT MOST 1048576: true; the input reads as it did. -/
def csetStepsUptoRow : OpenClaim := { program := "ytmfmniecoaihhaa", sum := "6abc6db25cf0850a29a204964a3efd3cc9aed73a653cd0378278aa97daf0ce67", func := "ostinato/ostinatolaw09.CsetSteps", spec := "csetSteps", apart := false, narrowed := true }
def CsetStepsUptoSaid : Prop := csetStepsUptoRow.holds Try.pinned (OpenSpec.upto csetStepsSpec)

/-- 'ostinatolaw09.CsetPlays', WHERE WHAT IT READS IS OF BULK AT MOST 1048576: true; the input reads as it did. -/
def csetPlaysUptoRow : OpenClaim := { program := "ytmfmniecoaihhaa", sum := "6abc6db25cf0850a29a204964a3efd3cc9aed73a653cd0378278aa97daf0ce67", func := "ostinato/ostinatolaw09.CsetPlays", spec := "csetPlays", unfollowed := true, recurses := true, apart := false, narrowed := true }
def CsetPlaysUptoSaid : Prop := csetPlaysUptoRow.holds Try.pinned (OpenSpec.upto csetPlaysSpec)

/-- 'ostinatolaw09.CsetClones', WHERE WHAT IT READS IS OF BULK AT MOST 1048576: true; the input reads as it did. -/
def csetClonesUptoRow : OpenClaim := { program := "ytmfmniecoaihhaa", sum := "6abc6db25cf0850a29a204964a3efd3cc9aed73a653cd0378278aa97daf0ce67", func := "ostinato/ostinatolaw09.CsetClones", spec := "csetClones", unfollowed := true, recurses := true, apart := false, narrowed := true }
def CsetClonesUptoSaid : Prop := csetClonesUptoRow.holds Try.pinned (OpenSpec.upto csetClonesSpec)

/-- 'ostinatolaw09.CsetMerges', WHERE WHAT IT READS IS OF BULK AT MOST 1048576: true; the input reads as it did. -/
def csetMergesUptoRow : OpenClaim := { program := "ytmfmniecoaihhaa", sum := "6abc6db25cf0850a29a204964a3efd3cc9aed73a653cd0378278aa97daf0ce67", func := "ostinato/ostinatolaw09.CsetMerges", spec := "csetMerges", unfollowed := true, recurses := true, apart := false, narrowed := true }
def CsetMergesUptoSaid : Prop := csetMergesUptoRow.holds Try.pinned (OpenSpec.upto csetMergesSpec)

end Rows
end Go.Proofs.Ytmfmniecoaihhaa
