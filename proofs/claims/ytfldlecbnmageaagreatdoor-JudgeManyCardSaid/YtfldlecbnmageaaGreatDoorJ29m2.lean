/- JudgeMany: four of the sixteen cases, by the kernel. -/
import Derived.Test.YtfldlecbnmageaaGreatDoorJ29x
open Go
noncomputable section
namespace Go.Cre
set_option maxRecDepth 1000000
theorem many29_8 : truth ((R29 (tab29 8)).call 3 [.chan (some 1)] ⟨putAll .leaf [], 5⟩) = true := by decide +kernel
theorem many29_9 : truth ((R29 (tab29 9)).call 3 [.chan (some 1)] ⟨putAll .leaf [], 5⟩) = true := by decide +kernel
theorem many29_10 : truth ((R29 (tab29 10)).call 3 [.chan (some 1)] ⟨putAll .leaf [], 5⟩) = true := by decide +kernel
theorem many29_11 : truth ((R29 (tab29 11)).call 3 [.chan (some 1)] ⟨putAll .leaf [], 5⟩) = true := by decide +kernel
end Go.Cre
end
