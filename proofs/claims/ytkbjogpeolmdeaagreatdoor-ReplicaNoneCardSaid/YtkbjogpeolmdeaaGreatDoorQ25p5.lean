/- The closed run of speaks as a piece, by the kernel. -/
import Derived.Test.YtkbjogpeolmdeaaGreatDoorQ25n
open Go
noncomputable section
namespace Go.Cre
set_option maxRecDepth 1000000
theorem pc25_5_ok : pieceB (R25p ⟨1, []⟩) pc25_5 = true := by decide +kernel
end Go.Cre
end
