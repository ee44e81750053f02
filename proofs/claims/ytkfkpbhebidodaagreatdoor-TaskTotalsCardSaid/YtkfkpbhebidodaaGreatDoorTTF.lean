/- The closed facts of the row of TaskTotals, each by itself. Printed by program. -/
import Derived.Test.YtkfkpbhebidodaaGreatDoorRows
import Derived.JoinedOf
import Derived.KernelRfl
namespace Go.Proofs.YtkfkpbhebidodaaGreatDoor
open Go
set_option maxRecDepth 100000
theorem taskTotals_fact0 : (Rows.taskTotalsRow.wf (OpenSpec.ofChange Rows.taskTotalsSpec)) = true := by kernel_rfl
theorem taskTotals_fact1 : (laidOutB Tryz.prog) = true := by kernel_rfl
theorem taskTotals_fact2 : (mapsRowed Tryz.prog) = true := by kernel_rfl
theorem taskTotals_fact3 : (Tryz.f9.params.all (Tryz.prog.readableRec ·)) = true := by kernel_rfl
theorem taskTotals_fact4 : (namedTie Tryz.prog Rows.taskTotalsRow.named Rows.taskTotalsSpec.vars) = true := by kernel_rfl
theorem taskTotals_fact5 : ((Rows.taskTotalsRow.stops == [])) = true := by kernel_rfl
theorem taskTotals_fact6 : ((Tryz.prog.stops == [])) = true := by kernel_rfl
theorem taskTotals_fact7 : ((Rows.taskTotalsRow.knobs == [])) = true := by kernel_rfl
theorem taskTotals_fact8 : ((Tryz.prog.stopKnobs == [])) = true := by kernel_rfl
theorem taskTotals_fact9 : ((Rows.taskTotalsRow.inPlace == Tryz.prog.inPlace 9)) = true := by kernel_rfl
theorem taskTotals_fact10 : ((Rows.taskTotalsRow.unfollowed == Tryz.prog.unfollowed 9)) = true := by kernel_rfl
theorem taskTotals_fact11 : ((Rows.taskTotalsRow.recurses == Tryz.prog.recurses 9)) = true := by kernel_rfl
theorem taskTotals_fact12 : ((Rows.taskTotalsRow.named == Tryz.prog.varsNamed 9)) = true := by kernel_rfl
theorem taskTotals_fact13 : ((Rows.taskTotalsRow.maps == (Tryz.f9.params.toList ++ Rows.taskTotalsSpec.plain.varTypes Tryz.prog).any (Tryz.prog.mapsRec ·))) = true := by kernel_rfl
theorem taskTotals_fact14 : ((Rows.taskTotalsRow.ifaces == (Tryz.f9.params.toList ++ Rows.taskTotalsSpec.plain.varTypes Tryz.prog).any (Tryz.prog.ifacesRec ·))) = true := by kernel_rfl
theorem taskTotals_fact15 : ((Rows.taskTotalsRow.mapsOut == Tryz.prog.mapsAmong Tryz.f9.resultTypes.toList)) = true := by kernel_rfl
theorem taskTotals_fact16 : ((Rows.taskTotalsRow.loops == (Tryz.f9.params.toList ++ Rows.taskTotalsSpec.plain.varTypes Tryz.prog).any (Tryz.prog.loopsFrom ·))) = true := by kernel_rfl
theorem taskTotals_fact17 : ((Rows.taskTotalsRow.wideKeys == (Tryz.f9.params.toList ++ Rows.taskTotalsSpec.plain.varTypes Tryz.prog ++ Tryz.f9.resultTypes.toList).any (Tryz.prog.wideKeysFrom ·))) = true := by kernel_rfl
theorem taskTotals_fact18 : (Rows.taskTotalsSpec.vars.all (Tryz.prog.varReadable ·)) = true := by kernel_rfl
theorem taskTotals_fact19 : (Tryz.f9.resultTypes.all (fun t => Tryz.prog.readableRec t && decide (t < Tryz.prog.types.size))) = true := by kernel_rfl
theorem taskTotals_fact20 : ((Rows.taskTotalsRow.ifacesOut == Tryz.f9.resultTypes.toList.any (Tryz.prog.ifacesRec ·))) = true := by kernel_rfl
theorem taskTotals_fact21 : ((Rows.taskTotalsRow.loopsOut == Tryz.f9.resultTypes.toList.any (Tryz.prog.loopsFrom ·))) = true := by kernel_rfl
theorem taskTotals_fact22 : ((Rows.taskTotalsRow.plainKeys == Tryz.prog.plainKeys)) = true := by kernel_rfl
theorem taskTotals_fact23 : (Rows.taskTotalsRow.shortTexts.isNone) = true := by kernel_rfl
theorem taskTotals_fact24 : (Tryz.prog.stopsHeard) = true := by kernel_rfl
theorem taskTotals_fact25 : (Tryz.prog.mayEnter) = true := by kernel_rfl
theorem taskTotals_fact26 : ((Rows.taskTotalsRow.lifted == Tryz.prog.liftsFinal)) = true := by kernel_rfl
theorem taskTotals_fact27 : ((Tryz.prog.make == some Rows.taskTotalsRow.make)) = true := by kernel_rfl
theorem taskTotals_fact28 : ((Rows.taskTotalsRow.kinds == (if Rows.taskTotalsRow.domain.isEmpty then [] else Tryz.f9.params.toList.map fun t => match Tryz.prog.underlying t with | some (.int k) => some k | _ => none))) = true := by kernel_rfl
theorem taskTotals_fact29 : ((Rows.taskTotalsRow.pinned == Rows.taskTotalsRow.pinnedBy)) = true := by kernel_rfl
theorem taskTotals_fact30 : ((Rows.taskTotalsRow.veiled == (Tryz.f9.params.toList ++ Rows.taskTotalsSpec.plain.varTypes Tryz.prog ++ Tryz.f9.resultTypes.toList).any (Tryz.prog.veiledRec ·))) = true := by kernel_rfl
theorem taskTotals_fact31 : (Rows.taskTotalsRow.veiledFits Tryz.prog Tryz.f9.params.toList (Tryz.f9.params.toList ++ Rows.taskTotalsSpec.plain.varTypes Tryz.prog ++ Tryz.f9.resultTypes.toList)) = true := by kernel_rfl
theorem taskTotals_facts : joinedFacts Tryz.prog 9 Tryz.f9 Rows.taskTotalsSpec Rows.taskTotalsRow = true := by
  simp only [joinedFacts, Bool.and_eq_true]
  exact ⟨⟨⟨⟨⟨⟨⟨⟨⟨⟨⟨⟨⟨⟨⟨⟨⟨⟨⟨⟨⟨⟨⟨⟨⟨⟨⟨⟨⟨⟨⟨taskTotals_fact0, taskTotals_fact1⟩, taskTotals_fact2⟩, taskTotals_fact3⟩, taskTotals_fact4⟩, taskTotals_fact5⟩, taskTotals_fact6⟩, taskTotals_fact7⟩, taskTotals_fact8⟩, taskTotals_fact9⟩, taskTotals_fact10⟩, taskTotals_fact11⟩, taskTotals_fact12⟩, taskTotals_fact13⟩, taskTotals_fact14⟩, taskTotals_fact15⟩, taskTotals_fact16⟩, taskTotals_fact17⟩, taskTotals_fact18⟩, taskTotals_fact19⟩, taskTotals_fact20⟩, taskTotals_fact21⟩, taskTotals_fact22⟩, taskTotals_fact23⟩, taskTotals_fact24⟩, taskTotals_fact25⟩, taskTotals_fact26⟩, taskTotals_fact27⟩, taskTotals_fact28⟩, taskTotals_fact29⟩, taskTotals_fact30⟩, taskTotals_fact31⟩
end Go.Proofs.YtkfkpbhebidodaaGreatDoor
