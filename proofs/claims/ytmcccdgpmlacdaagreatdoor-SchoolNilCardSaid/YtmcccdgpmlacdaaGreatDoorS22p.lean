/- command.Put of a command with a long text of zero bytes. -/
import Derived.Test.YtmcccdgpmlacdaaGreatDoorS22r
namespace Go.Proofs.YtmcccdgpmlacdaaGreatDoor
open Go Go.RowKit Go.Cre
set_option maxRecDepth 1000000
noncomputable section
def sA : ByteArray := ⟨⟨[97]⟩⟩
def sE : ByteArray := ⟨⟨[]⟩⟩
def cmd (t : Value) : Value := .agg ⟨[nt 9, .string sA, .string sE, .string sE, t, .slice none 0 0, nt 0, nt 0, nt 0, nt 0]⟩
def zPut (n : Nat) : ByteArray := ⟨⟨[1, 9, 1, 1, 97, 0, 0, 2, UInt8.ofNat (n / 256), UInt8.ofNat (n % 256)] ++ (List.replicate n 0 ++ [0, 0, 0, 0, 0])⟩⟩
def puOk (k : Nat) : Bool := chk ((R22 ⟨0, []⟩).call 7 [cmd (.string (zs (8160 + k)))] ⟨putAll .leaf [], 20⟩) fun r => veq depth r.1 (.string (zPut (8160 + k)))
end
end Go.Proofs.YtmcccdgpmlacdaaGreatDoor
