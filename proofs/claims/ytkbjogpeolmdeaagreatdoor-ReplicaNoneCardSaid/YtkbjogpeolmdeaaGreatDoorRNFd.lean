/- The closed facts of the row of ReplicaNone that look at all functions reached. Printed by program. -/
import Derived.Test.YtkbjogpeolmdeaaGreatDoorRows
import Derived.Test.YtkbjogpeolmdeaaGreatDoorRNFc
import Derived.JoinedOf
import Derived.KernelRfl
namespace Go.Proofs.YtkbjogpeolmdeaaGreatDoor
open Go
set_option maxRecDepth 100000
theorem vars4 : Tryz.prog.varsNamed 4 = Rows.replicaNoneRow.named := by
  unfold Program.varsNamed
  rw [closure4]
  kernel_rfl
theorem inPlace4 : Tryz.prog.inPlace 4 = Rows.replicaNoneRow.inPlace := by
  unfold Program.inPlace
  rw [closure4]
  kernel_rfl
theorem unf4 : Tryz.prog.unfollowed 4 = true := by
  unfold Program.unfollowed
  rw [closure4]
  kernel_rfl
theorem rec4 : Tryz.prog.recurses 4 = true := by
  unfold Program.recurses
  rw [unf4, Bool.true_or]
theorem replicaNone_fact9 : ((Rows.replicaNoneRow.inPlace == Tryz.prog.inPlace 4)) = true := by
  rw [inPlace4]
  kernel_rfl
theorem replicaNone_fact10 : ((Rows.replicaNoneRow.unfollowed == Tryz.prog.unfollowed 4)) = true := by
  rw [unf4]
  kernel_rfl
theorem replicaNone_fact11 : ((Rows.replicaNoneRow.recurses == Tryz.prog.recurses 4)) = true := by
  rw [rec4]
  kernel_rfl
theorem replicaNone_fact12 : ((Rows.replicaNoneRow.named == Tryz.prog.varsNamed 4)) = true := by
  rw [vars4]
  kernel_rfl
end Go.Proofs.YtkbjogpeolmdeaaGreatDoor
