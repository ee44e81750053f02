/-
  DERIVED. GIVEN WITH THE SEED: THE CARDS: each row of YtljejfiecaihfaaGreatDoorRows.lean that lists a variable, with what it lists TIED to the program's text (the seventh form; the later family's looks); each row that meets fmt, with fmt's text TOLD by the authors' own Lean function (tested against real Go, not proved from fmt's source: count such statements apart). THE CARD IS WHAT COUNTS. Prove the row's statement (the work); the ties are given (YtljejfiecaihfaaGreatDoorTie.lean); close each card by the builder's one call (the guide's Derived/Test/ToyasCard.lean, 'card_holds'). Laid BY PROGRAM, IN A SANDBOX (cutbox-door.mjs). By AI agents, Wed Nov 11 2026. No macro, syntax, notation, axiom, sorry.
-/
import Derived.Test.YtljejfiecaihfaaGreatDoorRows
import GoSem.ClaimSeven
namespace Go.Proofs.YtljejfiecaihfaaGreatDoor
namespace Rows

/-- THE TIED CARD OF 'primerlaw24.OplogAgrees'. -/
def oplogAgreesCard : Claim7 := { stood := { row := oplogAgreesRow, standIns := [], harness := (true, "1b93955e8e60f01a2472ea7852f900aa392e1a82470ec705b4e157c8105792e3"), looks := true }, kinds := [], alts := [], laidByText := true, laidKinds := [.data, .data, .data], laidTests := true, laidLooks := .later }
def OplogAgreesCardSaid : Prop := Claim7.holds Tryz.pinned (.plain (OpenSpec.ofChange oplogAgreesSpec)) oplogAgreesCard

/-- THE SECOND FORM's CARD OF 'primerlaw24.OplogAgrees'. -/
def oplogAgreesUptoCard : Claim7 := { stood := { row := oplogAgreesUptoRow, standIns := [], harness := (true, "1b93955e8e60f01a2472ea7852f900aa392e1a82470ec705b4e157c8105792e3"), looks := true }, kinds := [], alts := [], laidByText := true, laidKinds := [.data, .data, .data], laidTests := true, laidLooks := .later }
def OplogAgreesUptoCardSaid : Prop := Claim7.holds Tryz.pinned (.plain (OpenSpec.upto oplogAgreesSpec)) oplogAgreesUptoCard
end Rows
end Go.Proofs.YtljejfiecaihfaaGreatDoor
