/- A piece of the closed run, by the kernel. -/
import Derived.Test.YtkfkpbhebidodaaGreatDoorS20x
open Go
noncomputable section
namespace Go.Cre
set_option maxRecDepth 1000000
theorem pc20_182_ok : pieceB R200 pc20_182 = true := by decide +kernel
end Go.Cre
end
