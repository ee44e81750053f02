/- Pieces of the closed run, by the kernel. -/
import Derived.Test.YtkbjogpeolmdeaaGreatDoorQ25y
open Go
noncomputable section
namespace Go.Cre
set_option maxRecDepth 1000000
theorem pc25_9_1_ok : pieceB (R25 ⟨1, []⟩) pc25_9_1 = true := by decide +kernel
theorem pc25_10_1_ok : pieceB (R25 ⟨1, []⟩) pc25_10_1 = true := by decide +kernel
theorem pc25_9_2_ok : pieceB (R25 ⟨1, []⟩) pc25_9_2 = true := by decide +kernel
end Go.Cre
end
