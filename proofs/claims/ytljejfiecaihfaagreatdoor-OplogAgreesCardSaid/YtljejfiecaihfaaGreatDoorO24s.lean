/- speaks of layer 24: the closed run, by the kernel. -/
import Derived.Test.YtljejfiecaihfaaGreatDoorO24x
open Go
noncomputable section
namespace Go.Cre
set_option maxRecDepth 1000000
theorem main24 : truth ((R24 ⟨0, []⟩).call 4 [] ⟨putAll .leaf [], 5⟩) = true := by decide +kernel
end Go.Cre
end
