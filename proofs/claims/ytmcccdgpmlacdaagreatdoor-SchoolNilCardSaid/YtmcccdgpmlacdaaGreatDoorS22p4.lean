/- command.Put at eight lengths, by the kernel. -/
import Derived.Test.YtmcccdgpmlacdaaGreatDoorS22p
namespace Go.Proofs.YtmcccdgpmlacdaaGreatDoor
open Go Go.RowKit Go.Cre
set_option maxRecDepth 1000000
noncomputable section
theorem pu32 : puOk 32 = true := by decide +kernel
theorem pu33 : puOk 33 = true := by decide +kernel
theorem pu34 : puOk 34 = true := by decide +kernel
theorem pu35 : puOk 35 = true := by decide +kernel
theorem pu36 : puOk 36 = true := by decide +kernel
theorem pu37 : puOk 37 = true := by decide +kernel
theorem pu38 : puOk 38 = true := by decide +kernel
theorem pu39 : puOk 39 = true := by decide +kernel
end
end Go.Proofs.YtmcccdgpmlacdaaGreatDoor
