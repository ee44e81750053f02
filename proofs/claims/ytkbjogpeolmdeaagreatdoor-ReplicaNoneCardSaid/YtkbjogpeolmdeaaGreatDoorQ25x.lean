/- The evaluator over the program of ReplicaNone. -/
import Derived.Test.YtkbjogpeolmdeaaGreatDoorCreY
import Derived.Test.YtkbjogpeolmdeaaGreatDoorCreWc
import Derived.Test.YtkbjogpeolmdeaaGreatDoorProg
open Go
noncomputable section
namespace Go.Cre
def x25 : Known := mkKnown [206] [] [] []
def R25 (G : Gl) : Rec := run x25 (drawnB x25 Go.Proofs.Tryz.prog G) Go.Proofs.Tryz.prog G 100000
def halves : AObj := .cells ([0, 498536548, 997073096, 651767980, 1994146192, 1802195444, 1303535960, 1342533948, 3988292384, 4027552580, 3604390888, 3412177804, 2607071920, 2262029012, 2685067896, 3183342108].map (.int .u32)) 205 16 false .no true
end Go.Cre
end
