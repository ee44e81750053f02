/- ReplicaNone: the arguments that are refused, by the kernel. -/
import Derived.Test.YtkbjogpeolmdeaaGreatDoorQ25n
open Go
noncomputable section
namespace Go.Cre
set_option maxRecDepth 1000000
theorem none25_A : none25 tabA (tk 1) (tk 2) (tk 3) = true := by decide +kernel
theorem none25_B1 : none25 (tabB tabB1) (tk 1) (tk 2) (tk 3) = true := by decide +kernel
theorem none25_B2 : none25 (tabB tabB2) (tk 1) (tk 2) (tk 3) = true := by decide +kernel
theorem none25_B3 : none25 (tabB tabB3) (tk 1) (tk 2) (tk 3) = true := by decide +kernel
theorem none25_C1 : ∀ m, m < 3 → none25 tabC1 (tk 1) (nt ((m : Nat) + 1)) (tk 3) = true := by decide +kernel
theorem none25_C2 : ∀ m, m < 3 → none25 (tabC2 (m + 1)) (tk 1) (nt ((m : Nat) + 1)) (tk 3) = true := by decide +kernel
end Go.Cre
end
