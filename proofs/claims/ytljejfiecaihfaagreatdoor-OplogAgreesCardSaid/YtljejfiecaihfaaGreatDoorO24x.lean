/- The evaluator over the program of OplogAgrees. -/
import Derived.Test.YtljejfiecaihfaaGreatDoorCreY
import Derived.Test.YtljejfiecaihfaaGreatDoorCreWc
import Derived.Test.YtljejfiecaihfaaGreatDoorProg
open Go
noncomputable section
namespace Go.Cre
def x24 : Known := mkKnown [274] [78] [] []
def R24 (G : Gl) : Rec := run x24 (drawnB x24 Go.Proofs.Tryz.prog G) Go.Proofs.Tryz.prog G 100000
end Go.Cre
end
