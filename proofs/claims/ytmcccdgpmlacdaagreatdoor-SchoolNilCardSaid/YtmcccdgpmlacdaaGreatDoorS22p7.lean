/- command.Put at eight lengths, by the kernel. -/
import Derived.Test.YtmcccdgpmlacdaaGreatDoorS22p
namespace Go.Proofs.YtmcccdgpmlacdaaGreatDoor
open Go Go.RowKit Go.Cre
set_option maxRecDepth 1000000
noncomputable section
theorem pu56 : puOk 56 = true := by decide +kernel
theorem pu57 : puOk 57 = true := by decide +kernel
theorem pu58 : puOk 58 = true := by decide +kernel
theorem pu59 : puOk 59 = true := by decide +kernel
theorem pu60 : puOk 60 = true := by decide +kernel
theorem pu61 : puOk 61 = true := by decide +kernel
theorem pu62 : puOk 62 = true := by decide +kernel
theorem pu63 : puOk 63 = true := by decide +kernel
end
end Go.Proofs.YtmcccdgpmlacdaaGreatDoor
