/- The closed run, by the kernel. -/
import Derived.Test.YtfldlecbnmageaaGreatDoorJ29x
open Go
noncomputable section
namespace Go.Cre
set_option maxRecDepth 1000000
theorem main29 : truth ((R29 ⟨0, []⟩).call 4 [] ⟨putAll .leaf [], 5⟩) = true := by decide +kernel
end Go.Cre
end
