/- JudgeMany: four of the sixteen cases, by the kernel. -/
import Derived.Test.YtfldlecbnmageaaGreatDoorJ29x
open Go
noncomputable section
namespace Go.Cre
set_option maxRecDepth 1000000
theorem many29_0 : truth ((R29 (tab29 0)).call 3 [.chan (some 1)] ⟨putAll .leaf [], 5⟩) = true := by decide +kernel
theorem many29_1 : truth ((R29 (tab29 1)).call 3 [.chan (some 1)] ⟨putAll .leaf [], 5⟩) = true := by decide +kernel
theorem many29_2 : truth ((R29 (tab29 2)).call 3 [.chan (some 1)] ⟨putAll .leaf [], 5⟩) = true := by decide +kernel
theorem many29_3 : truth ((R29 (tab29 3)).call 3 [.chan (some 1)] ⟨putAll .leaf [], 5⟩) = true := by decide +kernel
end Go.Cre
end
