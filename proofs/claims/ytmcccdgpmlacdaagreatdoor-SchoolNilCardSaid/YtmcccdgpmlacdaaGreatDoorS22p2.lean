/- command.Put at eight lengths, by the kernel. -/
import Derived.Test.YtmcccdgpmlacdaaGreatDoorS22p
namespace Go.Proofs.YtmcccdgpmlacdaaGreatDoor
open Go Go.RowKit Go.Cre
set_option maxRecDepth 1000000
noncomputable section
theorem pu16 : puOk 16 = true := by decide +kernel
theorem pu17 : puOk 17 = true := by decide +kernel
theorem pu18 : puOk 18 = true := by decide +kernel
theorem pu19 : puOk 19 = true := by decide +kernel
theorem pu20 : puOk 20 = true := by decide +kernel
theorem pu21 : puOk 21 = true := by decide +kernel
theorem pu22 : puOk 22 = true := by decide +kernel
theorem pu23 : puOk 23 = true := by decide +kernel
end
end Go.Proofs.YtmcccdgpmlacdaaGreatDoor
