/- command.Put at eight lengths, by the kernel. -/
import Derived.Test.YtmcccdgpmlacdaaGreatDoorS22p
namespace Go.Proofs.YtmcccdgpmlacdaaGreatDoor
open Go Go.RowKit Go.Cre
set_option maxRecDepth 1000000
noncomputable section
theorem pu48 : puOk 48 = true := by decide +kernel
theorem pu49 : puOk 49 = true := by decide +kernel
theorem pu50 : puOk 50 = true := by decide +kernel
theorem pu51 : puOk 51 = true := by decide +kernel
theorem pu52 : puOk 52 = true := by decide +kernel
theorem pu53 : puOk 53 = true := by decide +kernel
theorem pu54 : puOk 54 = true := by decide +kernel
theorem pu55 : puOk 55 = true := by decide +kernel
end
end Go.Proofs.YtmcccdgpmlacdaaGreatDoor
