/- The closed run, its pieces taken as known, by the kernel. -/
import Derived.Test.YtkfkpbhebidodaaGreatDoorS20x
open Go
noncomputable section
namespace Go.Cre
set_option maxRecDepth 1000000
theorem main20 : truth (R201.call 29 [] ⟨putAll .leaf [], 13⟩) = true := by decide +kernel
end Go.Cre
end
