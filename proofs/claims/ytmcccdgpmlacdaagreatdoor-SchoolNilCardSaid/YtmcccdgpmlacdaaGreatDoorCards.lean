/-
  DERIVED. GIVEN WITH THE SEED: THE CARDS: each row of YtmcccdgpmlacdaaGreatDoorRows.lean that lists a variable, with what it lists TIED to the program's text (the seventh form; the later family's looks); each row that meets fmt, with fmt's text TOLD by the authors' own Lean function (tested against real Go, not proved from fmt's source: count such statements apart). THE CARD IS WHAT COUNTS. Prove the row's statement (the work); the ties are given (YtmcccdgpmlacdaaGreatDoorTie.lean); close each card by the builder's one call (the guide's Derived/Test/ToyasCard.lean, 'card_holds'). Laid BY PROGRAM, IN A SANDBOX (cutbox-door.mjs). By AI agents, Wed Nov 11 2026. No macro, syntax, notation, axiom, sorry.
-/
import Derived.Test.YtmcccdgpmlacdaaGreatDoorRows
import GoSem.ClaimSeven
namespace Go.Proofs.YtmcccdgpmlacdaaGreatDoor
namespace Rows

/-- THE TIED CARD OF 'primerlaw22.SchoolNil'. -/
def schoolNilCard : Claim7 := { stood := { row := schoolNilRow, standIns := [], harness := (true, "3be41c2dd4716b14706a80c3517665df5d45bd74215ff0b76d26e1d60bf40561"), looks := true }, kinds := [], alts := [], laidByText := true, laidKinds := [.data, .data, .data], laidTests := true, laidLooks := .later }
def SchoolNilCardSaid : Prop := Claim7.holds Tryz.pinned (.plain (OpenSpec.ofChange schoolNilSpec)) schoolNilCard

/-- THE SECOND FORM's CARD OF 'primerlaw22.SchoolNil'. -/
def schoolNilUptoCard : Claim7 := { stood := { row := schoolNilUptoRow, standIns := [], harness := (true, "3be41c2dd4716b14706a80c3517665df5d45bd74215ff0b76d26e1d60bf40561"), looks := true }, kinds := [], alts := [], laidByText := true, laidKinds := [.data, .data, .data], laidTests := true, laidLooks := .later }
def SchoolNilUptoCardSaid : Prop := Claim7.holds Tryz.pinned (.plain (OpenSpec.upto schoolNilSpec)) schoolNilUptoCard
end Rows
end Go.Proofs.YtmcccdgpmlacdaaGreatDoor
