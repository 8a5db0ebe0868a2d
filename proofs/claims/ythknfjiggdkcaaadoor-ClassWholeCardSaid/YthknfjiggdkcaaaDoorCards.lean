/-
  DERIVED. GIVEN WITH THE SEED: THE CARDS: each row of YthknfjiggdkcaaaDoorRows.lean that lists a variable, with what it lists TIED to the program's text (the seventh form; the later family's looks); each row that meets fmt, with fmt's text TOLD by the authors' own Lean function (tested against real Go, not proved from fmt's source: count such statements apart). THE CARD IS WHAT COUNTS. Prove the row's statement (the work); the ties are given (YthknfjiggdkcaaaDoorTie.lean); close each card by the builder's one call (the guide's Derived/Test/ToyasCard.lean, 'card_holds'). Laid BY PROGRAM, IN A SANDBOX (cutbox-door.mjs). By AI agents, Wed Nov 11 2026. No macro, syntax, notation, axiom, sorry.
-/
import Derived.Test.YthknfjiggdkcaaaDoorRows
import GoSem.ClaimSeven
namespace Go.Proofs.YthknfjiggdkcaaaDoor
namespace Rows

/-- THE TIED CARD OF 'ostinatolaw01.ClassBytes'. -/
def classBytesCard : Claim7 := { stood := { row := classBytesRow, standIns := [], harness := (true, "18a2d3852438216601801a2103c6df767bf8aee33f19b1ced03a1ebabc83b9ee"), looks := false }, kinds := [], alts := [], laidByText := true, laidKinds := [.data], laidTests := true, laidLooks := .later }
def ClassBytesCardSaid : Prop := Claim7.holds Tryd.pinned (.plain (OpenSpec.ofChange classBytesSpec)) classBytesCard

/-- THE TIED CARD OF 'ostinatolaw01.ClassParts'. -/
def classPartsCard : Claim7 := { stood := { row := classPartsRow, standIns := [], harness := (true, "18a2d3852438216601801a2103c6df767bf8aee33f19b1ced03a1ebabc83b9ee"), looks := false }, kinds := [], alts := [], laidByText := true, laidKinds := [.data], laidTests := true, laidLooks := .later }
def ClassPartsCardSaid : Prop := Claim7.holds Tryd.pinned (.plain (OpenSpec.ofChange classPartsSpec)) classPartsCard

/-- THE TIED CARD OF 'ostinatolaw01.ClassTwice'. -/
def classTwiceCard : Claim7 := { stood := { row := classTwiceRow, standIns := [], harness := (true, "18a2d3852438216601801a2103c6df767bf8aee33f19b1ced03a1ebabc83b9ee"), looks := false }, kinds := [], alts := [], laidByText := true, laidKinds := [.data], laidTests := true, laidLooks := .later }
def ClassTwiceCardSaid : Prop := Claim7.holds Tryd.pinned (.plain (OpenSpec.ofChange classTwiceSpec)) classTwiceCard

/-- THE TIED CARD OF 'ostinatolaw01.ClassWhole'. -/
def classWholeCard : Claim7 := { stood := { row := classWholeRow, standIns := [], harness := (true, "18a2d3852438216601801a2103c6df767bf8aee33f19b1ced03a1ebabc83b9ee"), looks := false }, kinds := [], alts := [], laidByText := true, laidKinds := [.data], laidTests := true, laidLooks := .later }
def ClassWholeCardSaid : Prop := Claim7.holds Tryd.pinned (.plain (OpenSpec.ofChange classWholeSpec)) classWholeCard

/-- THE SECOND FORM's CARD OF 'ostinatolaw01.ClassBytes'. -/
def classBytesUptoCard : Claim7 := { stood := { row := classBytesUptoRow, standIns := [], harness := (true, "18a2d3852438216601801a2103c6df767bf8aee33f19b1ced03a1ebabc83b9ee"), looks := false }, kinds := [], alts := [], laidByText := true, laidKinds := [.data], laidTests := true, laidLooks := .later }
def ClassBytesUptoCardSaid : Prop := Claim7.holds Tryd.pinned (.plain (OpenSpec.upto classBytesSpec)) classBytesUptoCard

/-- THE SECOND FORM's CARD OF 'ostinatolaw01.ClassParts'. -/
def classPartsUptoCard : Claim7 := { stood := { row := classPartsUptoRow, standIns := [], harness := (true, "18a2d3852438216601801a2103c6df767bf8aee33f19b1ced03a1ebabc83b9ee"), looks := false }, kinds := [], alts := [], laidByText := true, laidKinds := [.data], laidTests := true, laidLooks := .later }
def ClassPartsUptoCardSaid : Prop := Claim7.holds Tryd.pinned (.plain (OpenSpec.upto classPartsSpec)) classPartsUptoCard

/-- THE SECOND FORM's CARD OF 'ostinatolaw01.ClassTwice'. -/
def classTwiceUptoCard : Claim7 := { stood := { row := classTwiceUptoRow, standIns := [], harness := (true, "18a2d3852438216601801a2103c6df767bf8aee33f19b1ced03a1ebabc83b9ee"), looks := false }, kinds := [], alts := [], laidByText := true, laidKinds := [.data], laidTests := true, laidLooks := .later }
def ClassTwiceUptoCardSaid : Prop := Claim7.holds Tryd.pinned (.plain (OpenSpec.upto classTwiceSpec)) classTwiceUptoCard

/-- THE SECOND FORM's CARD OF 'ostinatolaw01.ClassWhole'. -/
def classWholeUptoCard : Claim7 := { stood := { row := classWholeUptoRow, standIns := [], harness := (true, "18a2d3852438216601801a2103c6df767bf8aee33f19b1ced03a1ebabc83b9ee"), looks := false }, kinds := [], alts := [], laidByText := true, laidKinds := [.data], laidTests := true, laidLooks := .later }
def ClassWholeUptoCardSaid : Prop := Claim7.holds Tryd.pinned (.plain (OpenSpec.upto classWholeSpec)) classWholeUptoCard
end Rows
end Go.Proofs.YthknfjiggdkcaaaDoor
