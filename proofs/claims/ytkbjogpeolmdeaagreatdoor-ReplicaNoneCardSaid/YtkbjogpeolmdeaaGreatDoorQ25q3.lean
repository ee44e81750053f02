/- Pieces of the closed run, by the kernel. -/
import Derived.Test.YtkbjogpeolmdeaaGreatDoorQ25y
open Go
noncomputable section
namespace Go.Cre
set_option maxRecDepth 1000000
theorem pc25_9_6_ok : pieceB (R25 ⟨1, []⟩) pc25_9_6 = true := by decide +kernel
theorem pc25_10_5_ok : pieceB (R25 ⟨1, []⟩) pc25_10_5 = true := by decide +kernel
theorem pc25_10_6_ok : pieceB (R25 ⟨1, []⟩) pc25_10_6 = true := by decide +kernel
end Go.Cre
end
