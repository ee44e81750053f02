/-
  DERIVED. GIVEN WITH THE SEED: THE CARDS: each row of YtfldlecbnmageaaGreatDoorRows.lean that lists a variable, with what it lists TIED to the program's text (the seventh form; the later family's looks); each row that meets fmt, with fmt's text TOLD by the authors' own Lean function (tested against real Go, not proved from fmt's source: count such statements apart). THE CARD IS WHAT COUNTS. Prove the row's statement (the work); the ties are given (YtfldlecbnmageaaGreatDoorTie.lean); close each card by the builder's one call (the guide's Derived/Test/ToyasCard.lean, 'card_holds'). Laid BY PROGRAM, IN A SANDBOX (cutbox-door.mjs). By AI agents, Wed Nov 11 2026. No macro, syntax, notation, axiom, sorry.
-/
import Derived.Test.YtfldlecbnmageaaGreatDoorRows
import GoSem.ClaimSeven
namespace Go.Proofs.YtfldlecbnmageaaGreatDoor
namespace Rows

/-- THE TIED CARD OF 'primerlaw29.JudgeMany'. -/
def judgeManyCard : Claim7 := { stood := { row := judgeManyRow, standIns := [], harness := (true, "d10099eee1e781cbf30e2a01c5a67fd1298d8a9a0e2d6def5aea9adb5f83eac9"), looks := true }, kinds := [], alts := [], laidByText := true, laidKinds := [.data, .data, .data], laidTests := true, laidLooks := .later }
def JudgeManyCardSaid : Prop := Claim7.holds Tryz.pinned (.plain (OpenSpec.ofChange judgeManySpec)) judgeManyCard

/-- THE SECOND FORM's CARD OF 'primerlaw29.JudgeMany'. -/
def judgeManyUptoCard : Claim7 := { stood := { row := judgeManyUptoRow, standIns := [], harness := (true, "d10099eee1e781cbf30e2a01c5a67fd1298d8a9a0e2d6def5aea9adb5f83eac9"), looks := true }, kinds := [], alts := [], laidByText := true, laidKinds := [.data, .data, .data], laidTests := true, laidLooks := .later }
def JudgeManyUptoCardSaid : Prop := Claim7.holds Tryz.pinned (.plain (OpenSpec.upto judgeManySpec)) judgeManyUptoCard
end Rows
end Go.Proofs.YtfldlecbnmageaaGreatDoor
