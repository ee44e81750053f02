/-
  DERIVED. GIVEN WITH THE SEED: THE CARDS: each row of YtkbjogpeolmdeaaGreatDoorRows.lean that lists a variable, with what it lists TIED to the program's text (the seventh form; the later family's looks); each row that meets fmt, with fmt's text TOLD by the authors' own Lean function (tested against real Go, not proved from fmt's source: count such statements apart). THE CARD IS WHAT COUNTS. Prove the row's statement (the work); the ties are given (YtkbjogpeolmdeaaGreatDoorTie.lean); close each card by the builder's one call (the guide's Derived/Test/ToyasCard.lean, 'card_holds'). Laid BY PROGRAM, IN A SANDBOX (cutbox-door.mjs). By AI agents, Wed Nov 11 2026. No macro, syntax, notation, axiom, sorry.
-/
import Derived.Test.YtkbjogpeolmdeaaGreatDoorRows
import GoSem.ClaimSeven
namespace Go.Proofs.YtkbjogpeolmdeaaGreatDoor
namespace Rows

/-- THE TIED CARD OF 'primerlaw25.ReplicaDeaf'. -/
def replicaDeafCard : Claim7 := { stood := { row := replicaDeafRow, standIns := [], harness := (true, "dd966249a3cca3edb9aa26917b4aa000b865e49dcb536630c02f3fb868f5f29b"), looks := true }, kinds := [], alts := [], laidByText := true, laidKinds := [.data, .data, .data, .data], laidTests := true, laidLooks := .later }
def ReplicaDeafCardSaid : Prop := Claim7.holds Tryz.pinned (.plain (OpenSpec.ofChange replicaDeafSpec)) replicaDeafCard

/-- THE TIED CARD OF 'primerlaw25.ReplicaNone'. -/
def replicaNoneCard : Claim7 := { stood := { row := replicaNoneRow, standIns := [], harness := (true, "dd966249a3cca3edb9aa26917b4aa000b865e49dcb536630c02f3fb868f5f29b"), looks := true }, kinds := [], alts := [], laidByText := true, laidKinds := [.data, .data, .data, .data], laidTests := true, laidLooks := .later }
def ReplicaNoneCardSaid : Prop := Claim7.holds Tryz.pinned (.plain (OpenSpec.ofChange replicaNoneSpec)) replicaNoneCard

/-- THE SECOND FORM's CARD OF 'primerlaw25.ReplicaDeaf'. -/
def replicaDeafUptoCard : Claim7 := { stood := { row := replicaDeafUptoRow, standIns := [], harness := (true, "dd966249a3cca3edb9aa26917b4aa000b865e49dcb536630c02f3fb868f5f29b"), looks := true }, kinds := [], alts := [], laidByText := true, laidKinds := [.data, .data, .data, .data], laidTests := true, laidLooks := .later }
def ReplicaDeafUptoCardSaid : Prop := Claim7.holds Tryz.pinned (.plain (OpenSpec.upto replicaDeafSpec)) replicaDeafUptoCard

/-- THE SECOND FORM's CARD OF 'primerlaw25.ReplicaNone'. -/
def replicaNoneUptoCard : Claim7 := { stood := { row := replicaNoneUptoRow, standIns := [], harness := (true, "dd966249a3cca3edb9aa26917b4aa000b865e49dcb536630c02f3fb868f5f29b"), looks := true }, kinds := [], alts := [], laidByText := true, laidKinds := [.data, .data, .data, .data], laidTests := true, laidLooks := .later }
def ReplicaNoneUptoCardSaid : Prop := Claim7.holds Tryz.pinned (.plain (OpenSpec.upto replicaNoneSpec)) replicaNoneUptoCard
end Rows
end Go.Proofs.YtkbjogpeolmdeaaGreatDoor
