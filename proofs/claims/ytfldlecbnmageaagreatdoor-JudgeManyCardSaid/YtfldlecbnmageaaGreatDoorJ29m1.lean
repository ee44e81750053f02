/- JudgeMany: four of the sixteen cases, by the kernel. -/
import Derived.Test.YtfldlecbnmageaaGreatDoorJ29x
open Go
noncomputable section
namespace Go.Cre
set_option maxRecDepth 1000000
theorem many29_4 : truth ((R29 (tab29 4)).call 3 [.chan (some 1)] ⟨putAll .leaf [], 5⟩) = true := by decide +kernel
theorem many29_5 : truth ((R29 (tab29 5)).call 3 [.chan (some 1)] ⟨putAll .leaf [], 5⟩) = true := by decide +kernel
theorem many29_6 : truth ((R29 (tab29 6)).call 3 [.chan (some 1)] ⟨putAll .leaf [], 5⟩) = true := by decide +kernel
theorem many29_7 : truth ((R29 (tab29 7)).call 3 [.chan (some 1)] ⟨putAll .leaf [], 5⟩) = true := by decide +kernel
end Go.Cre
end
