/- ReplicaNone: the arguments that are taken, by the kernel. -/
import Derived.Test.YtkbjogpeolmdeaaGreatDoorQ25n
open Go
noncomputable section
namespace Go.Cre
set_option maxRecDepth 1000000
theorem none25_D2 : ∀ i, i < 5 → none25 (tabD false false) (nt (i : Nat)) (nt 2) (tk 3) = true := by decide +kernel
theorem none25_D2b : ∀ i, i < 5 → none25 (tabD true false) (nt (i : Nat)) (nt 2) (tk 3) = true := by decide +kernel
theorem none25_D2a : ∀ i, i < 5 → none25 (tabD false true) (nt (i : Nat)) (nt 2) (tk 3) = true := by decide +kernel
end Go.Cre
end
