/- command.Put at eight lengths, by the kernel. -/
import Derived.Test.YtmcccdgpmlacdaaGreatDoorS22p
namespace Go.Proofs.YtmcccdgpmlacdaaGreatDoor
open Go Go.RowKit Go.Cre
set_option maxRecDepth 1000000
noncomputable section
theorem pu0 : puOk 0 = true := by decide +kernel
theorem pu1 : puOk 1 = true := by decide +kernel
theorem pu2 : puOk 2 = true := by decide +kernel
theorem pu3 : puOk 3 = true := by decide +kernel
theorem pu4 : puOk 4 = true := by decide +kernel
theorem pu5 : puOk 5 = true := by decide +kernel
theorem pu6 : puOk 6 = true := by decide +kernel
theorem pu7 : puOk 7 = true := by decide +kernel
end
end Go.Proofs.YtmcccdgpmlacdaaGreatDoor
