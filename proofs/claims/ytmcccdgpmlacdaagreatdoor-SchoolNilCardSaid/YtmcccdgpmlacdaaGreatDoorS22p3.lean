/- command.Put at eight lengths, by the kernel. -/
import Derived.Test.YtmcccdgpmlacdaaGreatDoorS22p
namespace Go.Proofs.YtmcccdgpmlacdaaGreatDoor
open Go Go.RowKit Go.Cre
set_option maxRecDepth 1000000
noncomputable section
theorem pu24 : puOk 24 = true := by decide +kernel
theorem pu25 : puOk 25 = true := by decide +kernel
theorem pu26 : puOk 26 = true := by decide +kernel
theorem pu27 : puOk 27 = true := by decide +kernel
theorem pu28 : puOk 28 = true := by decide +kernel
theorem pu29 : puOk 29 = true := by decide +kernel
theorem pu30 : puOk 30 = true := by decide +kernel
theorem pu31 : puOk 31 = true := by decide +kernel
end
end Go.Proofs.YtmcccdgpmlacdaaGreatDoor
