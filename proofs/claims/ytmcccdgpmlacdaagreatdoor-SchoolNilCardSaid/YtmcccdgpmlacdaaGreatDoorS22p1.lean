/- command.Put at eight lengths, by the kernel. -/
import Derived.Test.YtmcccdgpmlacdaaGreatDoorS22p
namespace Go.Proofs.YtmcccdgpmlacdaaGreatDoor
open Go Go.RowKit Go.Cre
set_option maxRecDepth 1000000
noncomputable section
theorem pu8 : puOk 8 = true := by decide +kernel
theorem pu9 : puOk 9 = true := by decide +kernel
theorem pu10 : puOk 10 = true := by decide +kernel
theorem pu11 : puOk 11 = true := by decide +kernel
theorem pu12 : puOk 12 = true := by decide +kernel
theorem pu13 : puOk 13 = true := by decide +kernel
theorem pu14 : puOk 14 = true := by decide +kernel
theorem pu15 : puOk 15 = true := by decide +kernel
end
end Go.Proofs.YtmcccdgpmlacdaaGreatDoor
