/- The card of TaskTotals: the given statement TaskTotalsCardSaid holds; for every two rows of 64-bit words. -/
import Derived.Test.YtkfkpbhebidodaaGreatDoorTT2
import Derived.Test.YtkfkpbhebidodaaGreatDoorTTF
namespace Go.Proofs.YtkfkpbhebidodaaGreatDoor
open Go Go.ChangeShapes Go.WideShapes Go.ChangeAt Go.RowKit
set_option maxRecDepth 100000
theorem named9 : Tryz.prog.funcNamed "primer/primerlaw20.TaskTotals" = some 9 := by kernel_rfl
theorem inst9 : Tryz.f9.isInstance Tryz.prog Rows.taskTotalsRow.origin Rows.taskTotalsRow.targs := of_decide_eq_true (by kernel_rfl)
theorem wrap9 : Tryz.f9.isWrapper Tryz.prog Rows.taskTotalsRow.wrapper Rows.taskTotalsRow.mainSum := by
  unfold Func.isWrapper; first | (rw [if_pos (by decide +kernel)]; kernel_rfl) | (rw [if_neg (by decide +kernel)]; exact ⟨rfl, rfl⟩)
theorem law_holds : Rows.TaskTotalsSaid :=
  OpenClaim.holds_of_wide 9 Tryz.f9 rfl rfl rfl rfl rfl rfl rfl ⟨rfl, rfl, rfl, rfl, rfl⟩ rfl rfl rfl rfl rfl named9 Tryz.func9 taskTotals_facts
    inst9 wrap9 (fun os started H enc _ => lifted os started H enc)
theorem stand9 (j : Nat) (t : TypeId) (ht : Tryz.f9.params[j]? = some t) : Tryz.prog.wantsStandIn t = false := by
  rw [Tryz.params9] at ht
  have h91 : Tryz.prog.wantsStandIn 91 = false := by kernel_rfl
  rcases j with _ | _ | j
  · simp at ht; subst ht; exact h91
  · simp at ht; subst ht; exact h91
  · simp at ht
theorem wf9 : Rows.taskTotalsRow.wfByText (OpenSpec.ofChange Rows.taskTotalsSpec) = true := by kernel_rfl
theorem main9 : Tryz.pinned.checked.prog.mainIs = some (true, "956794b407093a81294e1a8607df732fb39fa6baeacbb89528bbb1ea544d114b".toList) := by kernel_rfl
theorem looks9 : true = Tryz.pinned.checked.prog.looks [] := by kernel_rfl
theorem goes9 : false = Rows.taskTotalsRow.goesBy Tryz.pinned.checked.prog := by kernel_rfl
theorem card_holds : Rows.TaskTotalsCardSaid :=
  Claim7.holds_tied_plain_at .later [] [.data, .data, .data] true (true, "956794b407093a81294e1a8607df732fb39fa6baeacbb89528bbb1ea544d114b") true
    law_holds (fun _ h => by cases h) wf9 (fun _ h => by cases h) taskTotals_row_tie rfl ⟨rfl, rfl⟩ main9 rfl
    (fun f fn hf hfn => by
      obtain rfl : f = 9 := Option.some.inj (named9.symm.trans hf) |>.symm
      obtain rfl : fn = Tryz.f9 := (Option.some.inj (Tryz.func9.symm.trans hfn)).symm
      exact ⟨looks9, stand9⟩)
    goes9
end Go.Proofs.YtkfkpbhebidodaaGreatDoor
