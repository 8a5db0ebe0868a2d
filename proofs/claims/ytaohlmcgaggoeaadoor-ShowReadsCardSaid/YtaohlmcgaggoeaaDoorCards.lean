/-
  DERIVED. GIVEN WITH THE SEED: THE CARDS: each row of YtaohlmcgaggoeaaDoorRows.lean that lists a variable, with what it lists TIED to the program's text (the seventh form; the later family's looks); each row that meets fmt, with fmt's text TOLD by the authors' own Lean function (tested against real Go, not proved from fmt's source: count such statements apart). THE CARD IS WHAT COUNTS. Prove the row's statement (the work); the ties are given (YtaohlmcgaggoeaaDoorTie.lean); close each card by the builder's one call (the guide's Derived/Test/ToyasCard.lean, 'card_holds'). Laid BY PROGRAM, IN A SANDBOX (cutbox-door.mjs). By AI agents, Wed Nov 11 2026. No macro, syntax, notation, axiom, sorry.
-/
import Derived.Test.YtaohlmcgaggoeaaDoorRows
import GoSem.ClaimSeven
namespace Go.Proofs.YtaohlmcgaggoeaaDoor
namespace Rows

/-- THE TIED CARD OF 'ostinatolaw03.ShowTells'. -/
def showTellsCard : Claim7 := { stood := { row := showTellsRow, standIns := [], harness := (true, "e47f7e23222bceddcfee81981e030ccc7a2982ee53dc3389aeb95330faf0fdbe"), looks := false }, kinds := [], alts := [], laidByText := true, laidKinds := [.data, .data, .data], laidTests := true, laidLooks := .later }
def ShowTellsCardSaid : Prop := Claim7.holds Tryd.pinned (.plain (OpenSpec.ofChange showTellsSpec)) showTellsCard

/-- THE TIED CARD OF 'ostinatolaw03.ShowBack'. -/
def showBackCard : Claim7 := { stood := { row := showBackRow, standIns := [], harness := (true, "e47f7e23222bceddcfee81981e030ccc7a2982ee53dc3389aeb95330faf0fdbe"), looks := false }, kinds := [], alts := [], laidByText := true, laidKinds := [.data, .data, .data], laidTests := true, laidLooks := .later }
def ShowBackCardSaid : Prop := Claim7.holds Tryd.pinned (.plain (OpenSpec.ofChange showBackSpec)) showBackCard

/-- THE TIED CARD OF 'ostinatolaw03.ShowReads'. -/
def showReadsCard : Claim7 := { stood := { row := showReadsRow, standIns := [], harness := (true, "e47f7e23222bceddcfee81981e030ccc7a2982ee53dc3389aeb95330faf0fdbe"), looks := false }, kinds := [], alts := [], laidByText := true, laidKinds := [.data, .data, .data], laidTests := true, laidLooks := .later }
def ShowReadsCardSaid : Prop := Claim7.holds Tryd.pinned (.plain (OpenSpec.ofChange showReadsSpec)) showReadsCard

/-- THE TIED CARD OF 'ostinatolaw03.ShowBytes'. -/
def showBytesCard : Claim7 := { stood := { row := showBytesRow, standIns := [], harness := (true, "e47f7e23222bceddcfee81981e030ccc7a2982ee53dc3389aeb95330faf0fdbe"), looks := false }, kinds := [], alts := [], laidByText := true, laidKinds := [.data, .data, .data], laidTests := true, laidLooks := .later }
def ShowBytesCardSaid : Prop := Claim7.holds Tryd.pinned (.plain (OpenSpec.ofChange showBytesSpec)) showBytesCard

/-- THE SECOND FORM's CARD OF 'ostinatolaw03.ShowTells'. -/
def showTellsUptoCard : Claim7 := { stood := { row := showTellsUptoRow, standIns := [], harness := (true, "e47f7e23222bceddcfee81981e030ccc7a2982ee53dc3389aeb95330faf0fdbe"), looks := false }, kinds := [], alts := [], laidByText := true, laidKinds := [.data, .data, .data], laidTests := true, laidLooks := .later }
def ShowTellsUptoCardSaid : Prop := Claim7.holds Tryd.pinned (.plain (OpenSpec.upto showTellsSpec)) showTellsUptoCard

/-- THE SECOND FORM's CARD OF 'ostinatolaw03.ShowBack'. -/
def showBackUptoCard : Claim7 := { stood := { row := showBackUptoRow, standIns := [], harness := (true, "e47f7e23222bceddcfee81981e030ccc7a2982ee53dc3389aeb95330faf0fdbe"), looks := false }, kinds := [], alts := [], laidByText := true, laidKinds := [.data, .data, .data], laidTests := true, laidLooks := .later }
def ShowBackUptoCardSaid : Prop := Claim7.holds Tryd.pinned (.plain (OpenSpec.upto showBackSpec)) showBackUptoCard

/-- THE SECOND FORM's CARD OF 'ostinatolaw03.ShowReads'. -/
def showReadsUptoCard : Claim7 := { stood := { row := showReadsUptoRow, standIns := [], harness := (true, "e47f7e23222bceddcfee81981e030ccc7a2982ee53dc3389aeb95330faf0fdbe"), looks := false }, kinds := [], alts := [], laidByText := true, laidKinds := [.data, .data, .data], laidTests := true, laidLooks := .later }
def ShowReadsUptoCardSaid : Prop := Claim7.holds Tryd.pinned (.plain (OpenSpec.upto showReadsSpec)) showReadsUptoCard

/-- THE SECOND FORM's CARD OF 'ostinatolaw03.ShowBytes'. -/
def showBytesUptoCard : Claim7 := { stood := { row := showBytesUptoRow, standIns := [], harness := (true, "e47f7e23222bceddcfee81981e030ccc7a2982ee53dc3389aeb95330faf0fdbe"), looks := false }, kinds := [], alts := [], laidByText := true, laidKinds := [.data, .data, .data], laidTests := true, laidLooks := .later }
def ShowBytesUptoCardSaid : Prop := Claim7.holds Tryd.pinned (.plain (OpenSpec.upto showBytesSpec)) showBytesUptoCard
end Rows
end Go.Proofs.YtaohlmcgaggoeaaDoor
