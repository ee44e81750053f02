/- command.Put at eight lengths, by the kernel. -/
import Derived.Test.YtmcccdgpmlacdaaGreatDoorS22p
namespace Go.Proofs.YtmcccdgpmlacdaaGreatDoor
open Go Go.RowKit Go.Cre
set_option maxRecDepth 1000000
noncomputable section
theorem pu40 : puOk 40 = true := by decide +kernel
theorem pu41 : puOk 41 = true := by decide +kernel
theorem pu42 : puOk 42 = true := by decide +kernel
theorem pu43 : puOk 43 = true := by decide +kernel
theorem pu44 : puOk 44 = true := by decide +kernel
theorem pu45 : puOk 45 = true := by decide +kernel
theorem pu46 : puOk 46 = true := by decide +kernel
theorem pu47 : puOk 47 = true := by decide +kernel
end
end Go.Proofs.YtmcccdgpmlacdaaGreatDoor
