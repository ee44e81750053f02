/- The evaluator over the program of SchoolNil. -/
import Derived.Test.YtmcccdgpmlacdaaGreatDoorCreZc
import Derived.Test.YtmcccdgpmlacdaaGreatDoorProg
open Go
noncomputable section
namespace Go.Cre
def x22 : Known := mkKnown [219] [91] [] []
def R22 (G : Gl) : Rec := run x22 (drawnB x22 Go.Proofs.Tryz.prog G) Go.Proofs.Tryz.prog G 100000
set_option maxRecDepth 1000000
/-- speaks of layer 22: the closed run, by the kernel. -/
theorem main22 : truth ((R22 ⟨0, []⟩).call 4 [] ⟨putAll .leaf [], 5⟩) = true := by decide +kernel
end Go.Cre
end
