/- JudgeMany: four of the sixteen cases, by the kernel. -/
import Derived.Test.YtfldlecbnmageaaGreatDoorJ29x
open Go
noncomputable section
namespace Go.Cre
set_option maxRecDepth 1000000
theorem many29_12 : truth ((R29 (tab29 12)).call 3 [.chan (some 1)] ⟨putAll .leaf [], 5⟩) = true := by decide +kernel
theorem many29_13 : truth ((R29 (tab29 13)).call 3 [.chan (some 1)] ⟨putAll .leaf [], 5⟩) = true := by decide +kernel
theorem many29_14 : truth ((R29 (tab29 14)).call 3 [.chan (some 1)] ⟨putAll .leaf [], 5⟩) = true := by decide +kernel
theorem many29_15 : truth ((R29 (tab29 15)).call 3 [.chan (some 1)] ⟨putAll .leaf [], 5⟩) = true := by decide +kernel
end Go.Cre
end
