/-
  DERIVED. GIVEN WITH THE SEED: THE CARDS: each row of YtbdgfbkhplhpkaaDoorRows.lean that lists a variable, with what it lists TIED to the program's text (the seventh form; the later family's looks); each row that meets fmt, with fmt's text TOLD by the authors' own Lean function (tested against real Go, not proved from fmt's source: count such statements apart). THE CARD IS WHAT COUNTS. Prove the row's statement (the work); the ties are given (YtbdgfbkhplhpkaaDoorTie.lean); close each card by the builder's one call (the guide's Derived/Test/ToyasCard.lean, 'card_holds'). Laid BY PROGRAM, IN A SANDBOX (cutbox-door.mjs). By AI agents, Wed Nov 11 2026. No macro, syntax, notation, axiom, sorry.
-/
import Derived.Test.YtbdgfbkhplhpkaaDoorRows
import GoSem.ClaimSeven
namespace Go.Proofs.YtbdgfbkhplhpkaaDoor
namespace Rows

/-- THE TIED CARD OF 'ostinatolaw12.RunsJoins'. -/
def runsJoinsCard : Claim7 := { stood := { row := runsJoinsRow, standIns := [], harness := (true, "40dbe0ba3830c11854c1551b49c6d4daecfb37941d4ce1505c8fb14f1a8a4586"), looks := false }, kinds := [], alts := [], laidByText := true, laidKinds := [.data, .data, .data], laidTests := true, laidLooks := .later }
def RunsJoinsCardSaid : Prop := Claim7.holds Tryd.pinned (.plain (OpenSpec.ofChange runsJoinsSpec)) runsJoinsCard

/-- THE TIED CARD OF 'ostinatolaw12.RunsTells'. -/
def runsTellsCard : Claim7 := { stood := { row := runsTellsRow, standIns := [], harness := (true, "40dbe0ba3830c11854c1551b49c6d4daecfb37941d4ce1505c8fb14f1a8a4586"), looks := false }, kinds := [], alts := [], laidByText := true, laidKinds := [.data, .data, .data], laidTests := true, laidLooks := .later }
def RunsTellsCardSaid : Prop := Claim7.holds Tryd.pinned (.plain (OpenSpec.ofChange runsTellsSpec)) runsTellsCard

/-- THE TIED CARD OF 'ostinatolaw12.RunsPacks'. -/
def runsPacksCard : Claim7 := { stood := { row := runsPacksRow, standIns := [], harness := (true, "40dbe0ba3830c11854c1551b49c6d4daecfb37941d4ce1505c8fb14f1a8a4586"), looks := false }, kinds := [], alts := [], laidByText := true, laidKinds := [.data, .data, .data], laidTests := true, laidLooks := .later }
def RunsPacksCardSaid : Prop := Claim7.holds Tryd.pinned (.plain (OpenSpec.ofChange runsPacksSpec)) runsPacksCard

/-- THE SECOND FORM's CARD OF 'ostinatolaw12.RunsJoins'. -/
def runsJoinsUptoCard : Claim7 := { stood := { row := runsJoinsUptoRow, standIns := [], harness := (true, "40dbe0ba3830c11854c1551b49c6d4daecfb37941d4ce1505c8fb14f1a8a4586"), looks := false }, kinds := [], alts := [], laidByText := true, laidKinds := [.data, .data, .data], laidTests := true, laidLooks := .later }
def RunsJoinsUptoCardSaid : Prop := Claim7.holds Tryd.pinned (.plain (OpenSpec.upto runsJoinsSpec)) runsJoinsUptoCard

/-- THE SECOND FORM's CARD OF 'ostinatolaw12.RunsTells'. -/
def runsTellsUptoCard : Claim7 := { stood := { row := runsTellsUptoRow, standIns := [], harness := (true, "40dbe0ba3830c11854c1551b49c6d4daecfb37941d4ce1505c8fb14f1a8a4586"), looks := false }, kinds := [], alts := [], laidByText := true, laidKinds := [.data, .data, .data], laidTests := true, laidLooks := .later }
def RunsTellsUptoCardSaid : Prop := Claim7.holds Tryd.pinned (.plain (OpenSpec.upto runsTellsSpec)) runsTellsUptoCard

/-- THE SECOND FORM's CARD OF 'ostinatolaw12.RunsPacks'. -/
def runsPacksUptoCard : Claim7 := { stood := { row := runsPacksUptoRow, standIns := [], harness := (true, "40dbe0ba3830c11854c1551b49c6d4daecfb37941d4ce1505c8fb14f1a8a4586"), looks := false }, kinds := [], alts := [], laidByText := true, laidKinds := [.data, .data, .data], laidTests := true, laidLooks := .later }
def RunsPacksUptoCardSaid : Prop := Claim7.holds Tryd.pinned (.plain (OpenSpec.upto runsPacksSpec)) runsPacksUptoCard
end Rows
end Go.Proofs.YtbdgfbkhplhpkaaDoor
