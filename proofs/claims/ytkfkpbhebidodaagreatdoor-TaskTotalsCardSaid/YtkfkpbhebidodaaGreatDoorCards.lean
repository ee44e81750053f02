/-
  DERIVED. GIVEN WITH THE SEED: THE CARDS: each row of YtkfkpbhebidodaaGreatDoorRows.lean that lists a variable, with what it lists TIED to the program's text (the seventh form; the later family's looks); each row that meets fmt, with fmt's text TOLD by the authors' own Lean function (tested against real Go, not proved from fmt's source: count such statements apart). THE CARD IS WHAT COUNTS. Prove the row's statement (the work); the ties are given (YtkfkpbhebidodaaGreatDoorTie.lean); close each card by the builder's one call (the guide's Derived/Test/ToyasCard.lean, 'card_holds'). Laid BY PROGRAM, IN A SANDBOX (cutbox-door.mjs). By AI agents, Wed Nov 11 2026. No macro, syntax, notation, axiom, sorry.
-/
import Derived.Test.YtkfkpbhebidodaaGreatDoorRows
import GoSem.ClaimSeven
namespace Go.Proofs.YtkfkpbhebidodaaGreatDoor
namespace Rows

/-- THE TIED CARD OF 'primerlaw11.RefactorFlat'. -/
def refactorFlatCard : Claim7 := { stood := { row := refactorFlatRow, standIns := [], harness := (true, "956794b407093a81294e1a8607df732fb39fa6baeacbb89528bbb1ea544d114b"), looks := true }, kinds := [], alts := [], laidByText := true, laidKinds := [.data, .data, .data], laidTests := true, laidLooks := .later }
def RefactorFlatCardSaid : Prop := Claim7.holds Tryz.pinned (.plain (OpenSpec.ofChange refactorFlatSpec)) refactorFlatCard

/-- THE TIED CARD OF 'primerlaw11.RefactorBack'. -/
def refactorBackCard : Claim7 := { stood := { row := refactorBackRow, standIns := [], harness := (true, "956794b407093a81294e1a8607df732fb39fa6baeacbb89528bbb1ea544d114b"), looks := true }, kinds := [], alts := [], laidByText := true, laidKinds := [.data, .data, .data], laidTests := true, laidLooks := .later }
def RefactorBackCardSaid : Prop := Claim7.holds Tryz.pinned (.plain (OpenSpec.ofChange refactorBackSpec)) refactorBackCard

/-- THE TIED CARD OF 'primerlaw11.RefactorChanges'. -/
def refactorChangesCard : Claim7 := { stood := { row := refactorChangesRow, standIns := [], harness := (true, "956794b407093a81294e1a8607df732fb39fa6baeacbb89528bbb1ea544d114b"), looks := true }, kinds := [], alts := [], laidByText := true, laidKinds := [.data, .data, .data], laidTests := true, laidLooks := .later }
def RefactorChangesCardSaid : Prop := Claim7.holds Tryz.pinned (.plain (OpenSpec.ofChange refactorChangesSpec)) refactorChangesCard

/-- THE TIED CARD OF 'primerlaw11.RefactorChains'. -/
def refactorChainsCard : Claim7 := { stood := { row := refactorChainsRow, standIns := [], harness := (true, "956794b407093a81294e1a8607df732fb39fa6baeacbb89528bbb1ea544d114b"), looks := true }, kinds := [], alts := [], laidByText := true, laidKinds := [.data, .data, .data], laidTests := true, laidLooks := .later }
def RefactorChainsCardSaid : Prop := Claim7.holds Tryz.pinned (.plain (OpenSpec.ofChange refactorChainsSpec)) refactorChainsCard

/-- THE TIED CARD OF 'primerlaw19.DraftRight'. -/
def draftRightCard : Claim7 := { stood := { row := draftRightRow, standIns := [], harness := (true, "956794b407093a81294e1a8607df732fb39fa6baeacbb89528bbb1ea544d114b"), looks := true }, kinds := [], alts := [], laidByText := true, laidKinds := [.data, .data, .data], laidTests := true, laidLooks := .later }
def DraftRightCardSaid : Prop := Claim7.holds Tryz.pinned (.plain (OpenSpec.ofChange draftRightSpec)) draftRightCard

/-- THE TIED CARD OF 'primerlaw20.TaskSure'. -/
def taskSureCard : Claim7 := { stood := { row := taskSureRow, standIns := [], harness := (true, "956794b407093a81294e1a8607df732fb39fa6baeacbb89528bbb1ea544d114b"), looks := true }, kinds := [], alts := [], laidByText := true, laidKinds := [.data, .data, .data], laidTests := true, laidLooks := .later }
def TaskSureCardSaid : Prop := Claim7.holds Tryz.pinned (.plain (OpenSpec.ofChange taskSureSpec)) taskSureCard

/-- THE TIED CARD OF 'primerlaw20.TaskTotals'. -/
def taskTotalsCard : Claim7 := { stood := { row := taskTotalsRow, standIns := [], harness := (true, "956794b407093a81294e1a8607df732fb39fa6baeacbb89528bbb1ea544d114b"), looks := true }, kinds := [], alts := [], laidByText := true, laidKinds := [.data, .data, .data], laidTests := true, laidLooks := .later }
def TaskTotalsCardSaid : Prop := Claim7.holds Tryz.pinned (.plain (OpenSpec.ofChange taskTotalsSpec)) taskTotalsCard

/-- THE TIED CARD OF 'primerlaw11.RefactorWords'. -/
def refactorWordsCard : Claim7 := { stood := { row := refactorWordsRow, standIns := [], harness := (true, "956794b407093a81294e1a8607df732fb39fa6baeacbb89528bbb1ea544d114b"), looks := true }, kinds := [], alts := [], laidByText := true, laidKinds := [.data, .data, .data], laidTests := true, laidLooks := .later }
def RefactorWordsCardSaid : Prop := Claim7.holds Tryz.pinned (.plain (OpenSpec.ofChange refactorWordsSpec)) refactorWordsCard

/-- THE SECOND FORM's CARD OF 'primerlaw11.RefactorFlat'. -/
def refactorFlatUptoCard : Claim7 := { stood := { row := refactorFlatUptoRow, standIns := [], harness := (true, "956794b407093a81294e1a8607df732fb39fa6baeacbb89528bbb1ea544d114b"), looks := true }, kinds := [], alts := [], laidByText := true, laidKinds := [.data, .data, .data], laidTests := true, laidLooks := .later }
def RefactorFlatUptoCardSaid : Prop := Claim7.holds Tryz.pinned (.plain (OpenSpec.upto refactorFlatSpec)) refactorFlatUptoCard

/-- THE SECOND FORM's CARD OF 'primerlaw11.RefactorBack'. -/
def refactorBackUptoCard : Claim7 := { stood := { row := refactorBackUptoRow, standIns := [], harness := (true, "956794b407093a81294e1a8607df732fb39fa6baeacbb89528bbb1ea544d114b"), looks := true }, kinds := [], alts := [], laidByText := true, laidKinds := [.data, .data, .data], laidTests := true, laidLooks := .later }
def RefactorBackUptoCardSaid : Prop := Claim7.holds Tryz.pinned (.plain (OpenSpec.upto refactorBackSpec)) refactorBackUptoCard

/-- THE SECOND FORM's CARD OF 'primerlaw11.RefactorChanges'. -/
def refactorChangesUptoCard : Claim7 := { stood := { row := refactorChangesUptoRow, standIns := [], harness := (true, "956794b407093a81294e1a8607df732fb39fa6baeacbb89528bbb1ea544d114b"), looks := true }, kinds := [], alts := [], laidByText := true, laidKinds := [.data, .data, .data], laidTests := true, laidLooks := .later }
def RefactorChangesUptoCardSaid : Prop := Claim7.holds Tryz.pinned (.plain (OpenSpec.upto refactorChangesSpec)) refactorChangesUptoCard

/-- THE SECOND FORM's CARD OF 'primerlaw11.RefactorChains'. -/
def refactorChainsUptoCard : Claim7 := { stood := { row := refactorChainsUptoRow, standIns := [], harness := (true, "956794b407093a81294e1a8607df732fb39fa6baeacbb89528bbb1ea544d114b"), looks := true }, kinds := [], alts := [], laidByText := true, laidKinds := [.data, .data, .data], laidTests := true, laidLooks := .later }
def RefactorChainsUptoCardSaid : Prop := Claim7.holds Tryz.pinned (.plain (OpenSpec.upto refactorChainsSpec)) refactorChainsUptoCard

/-- THE SECOND FORM's CARD OF 'primerlaw19.DraftRight'. -/
def draftRightUptoCard : Claim7 := { stood := { row := draftRightUptoRow, standIns := [], harness := (true, "956794b407093a81294e1a8607df732fb39fa6baeacbb89528bbb1ea544d114b"), looks := true }, kinds := [], alts := [], laidByText := true, laidKinds := [.data, .data, .data], laidTests := true, laidLooks := .later }
def DraftRightUptoCardSaid : Prop := Claim7.holds Tryz.pinned (.plain (OpenSpec.upto draftRightSpec)) draftRightUptoCard

/-- THE SECOND FORM's CARD OF 'primerlaw20.TaskSure'. -/
def taskSureUptoCard : Claim7 := { stood := { row := taskSureUptoRow, standIns := [], harness := (true, "956794b407093a81294e1a8607df732fb39fa6baeacbb89528bbb1ea544d114b"), looks := true }, kinds := [], alts := [], laidByText := true, laidKinds := [.data, .data, .data], laidTests := true, laidLooks := .later }
def TaskSureUptoCardSaid : Prop := Claim7.holds Tryz.pinned (.plain (OpenSpec.upto taskSureSpec)) taskSureUptoCard

/-- THE SECOND FORM's CARD OF 'primerlaw20.TaskTotals'. -/
def taskTotalsUptoCard : Claim7 := { stood := { row := taskTotalsUptoRow, standIns := [], harness := (true, "956794b407093a81294e1a8607df732fb39fa6baeacbb89528bbb1ea544d114b"), looks := true }, kinds := [], alts := [], laidByText := true, laidKinds := [.data, .data, .data], laidTests := true, laidLooks := .later }
def TaskTotalsUptoCardSaid : Prop := Claim7.holds Tryz.pinned (.plain (OpenSpec.upto taskTotalsSpec)) taskTotalsUptoCard

/-- THE SECOND FORM's CARD OF 'primerlaw11.RefactorWords'. -/
def refactorWordsUptoCard : Claim7 := { stood := { row := refactorWordsUptoRow, standIns := [], harness := (true, "956794b407093a81294e1a8607df732fb39fa6baeacbb89528bbb1ea544d114b"), looks := true }, kinds := [], alts := [], laidByText := true, laidKinds := [.data, .data, .data], laidTests := true, laidLooks := .later }
def RefactorWordsUptoCardSaid : Prop := Claim7.holds Tryz.pinned (.plain (OpenSpec.upto refactorWordsSpec)) refactorWordsUptoCard
end Rows
end Go.Proofs.YtkfkpbhebidodaaGreatDoor
