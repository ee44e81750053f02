/- The closed run of function 4 (speaks of layer 29). -/
import Derived.Test.YtfldlecbnmageaaGreatDoorCreY
import Derived.Test.YtfldlecbnmageaaGreatDoorProg
open Go
noncomputable section
namespace Go.Cre
def x29 : Known := mkKnown [275] [] [] []
def R29 (G : Gl) : Rec := run x29 (drawnA x29 Go.Proofs.Tryz.prog G) Go.Proofs.Tryz.prog G 100000
def tab29 (k : Nat) : Gl := ⟨0, [(.bin .and 3 (.chan (some 1)) (.int .i64 15), .int .i64 k)]⟩
end Go.Cre
end
