/- The closed facts of the row of JudgeMany, each by itself. Printed by program. -/
import Derived.Test.YtfldlecbnmageaaGreatDoorRows
import Derived.JoinedOf
import Derived.KernelRfl
namespace Go.Proofs.YtfldlecbnmageaaGreatDoor
open Go
set_option maxRecDepth 100000
theorem judgeMany_fact0 : (Rows.judgeManyRow.wf (OpenSpec.ofChange Rows.judgeManySpec)) = true := by kernel_rfl
theorem judgeMany_fact1 : (laidOutB Tryz.prog) = true := by kernel_rfl
theorem judgeMany_fact2 : (mapsRowed Tryz.prog) = true := by kernel_rfl
theorem judgeMany_fact3 : (Tryz.f3.params.all (Tryz.prog.readableRec ·)) = true := by kernel_rfl
theorem judgeMany_fact4 : (namedTie Tryz.prog Rows.judgeManyRow.named Rows.judgeManySpec.vars) = true := by kernel_rfl
theorem judgeMany_fact5 : ((Rows.judgeManyRow.stops == [])) = true := by kernel_rfl
theorem judgeMany_fact6 : ((Tryz.prog.stops == [])) = true := by kernel_rfl
theorem judgeMany_fact7 : ((Rows.judgeManyRow.knobs == [])) = true := by kernel_rfl
theorem judgeMany_fact8 : ((Tryz.prog.stopKnobs == [])) = true := by kernel_rfl
theorem judgeMany_fact9 : ((Rows.judgeManyRow.inPlace == Tryz.prog.inPlace 3)) = true := by kernel_rfl
theorem judgeMany_fact10 : ((Rows.judgeManyRow.unfollowed == Tryz.prog.unfollowed 3)) = true := by kernel_rfl
theorem judgeMany_fact11 : ((Rows.judgeManyRow.recurses == Tryz.prog.recurses 3)) = true := by kernel_rfl
theorem judgeMany_fact12 : ((Rows.judgeManyRow.named == Tryz.prog.varsNamed 3)) = true := by kernel_rfl
theorem judgeMany_fact13 : ((Rows.judgeManyRow.maps == (Tryz.f3.params.toList ++ Rows.judgeManySpec.plain.varTypes Tryz.prog).any (Tryz.prog.mapsRec ·))) = true := by kernel_rfl
theorem judgeMany_fact14 : ((Rows.judgeManyRow.ifaces == (Tryz.f3.params.toList ++ Rows.judgeManySpec.plain.varTypes Tryz.prog).any (Tryz.prog.ifacesRec ·))) = true := by kernel_rfl
theorem judgeMany_fact15 : ((Rows.judgeManyRow.mapsOut == Tryz.prog.mapsAmong Tryz.f3.resultTypes.toList)) = true := by kernel_rfl
theorem judgeMany_fact16 : ((Rows.judgeManyRow.loops == (Tryz.f3.params.toList ++ Rows.judgeManySpec.plain.varTypes Tryz.prog).any (Tryz.prog.loopsFrom ·))) = true := by kernel_rfl
theorem judgeMany_fact17 : ((Rows.judgeManyRow.wideKeys == (Tryz.f3.params.toList ++ Rows.judgeManySpec.plain.varTypes Tryz.prog ++ Tryz.f3.resultTypes.toList).any (Tryz.prog.wideKeysFrom ·))) = true := by kernel_rfl
theorem judgeMany_fact18 : (Rows.judgeManySpec.vars.all (Tryz.prog.varReadable ·)) = true := by kernel_rfl
theorem judgeMany_fact19 : (Tryz.f3.resultTypes.all (fun t => Tryz.prog.readableRec t && decide (t < Tryz.prog.types.size))) = true := by kernel_rfl
theorem judgeMany_fact20 : ((Rows.judgeManyRow.ifacesOut == Tryz.f3.resultTypes.toList.any (Tryz.prog.ifacesRec ·))) = true := by kernel_rfl
theorem judgeMany_fact21 : ((Rows.judgeManyRow.loopsOut == Tryz.f3.resultTypes.toList.any (Tryz.prog.loopsFrom ·))) = true := by kernel_rfl
theorem judgeMany_fact22 : ((Rows.judgeManyRow.plainKeys == Tryz.prog.plainKeys)) = true := by kernel_rfl
theorem judgeMany_fact23 : (Rows.judgeManyRow.shortTexts.isNone) = true := by kernel_rfl
theorem judgeMany_fact24 : (Tryz.prog.stopsHeard) = true := by kernel_rfl
theorem judgeMany_fact25 : (Tryz.prog.mayEnter) = true := by kernel_rfl
theorem judgeMany_fact26 : ((Rows.judgeManyRow.lifted == Tryz.prog.liftsFinal)) = true := by kernel_rfl
theorem judgeMany_fact27 : ((Tryz.prog.make == some Rows.judgeManyRow.make)) = true := by kernel_rfl
theorem judgeMany_fact28 : ((Rows.judgeManyRow.kinds == (if Rows.judgeManyRow.domain.isEmpty then [] else Tryz.f3.params.toList.map fun t => match Tryz.prog.underlying t with | some (.int k) => some k | _ => none))) = true := by kernel_rfl
theorem judgeMany_fact29 : ((Rows.judgeManyRow.pinned == Rows.judgeManyRow.pinnedBy)) = true := by kernel_rfl
theorem judgeMany_fact30 : ((Rows.judgeManyRow.veiled == (Tryz.f3.params.toList ++ Rows.judgeManySpec.plain.varTypes Tryz.prog ++ Tryz.f3.resultTypes.toList).any (Tryz.prog.veiledRec ·))) = true := by kernel_rfl
theorem judgeMany_fact31 : (Rows.judgeManyRow.veiledFits Tryz.prog Tryz.f3.params.toList (Tryz.f3.params.toList ++ Rows.judgeManySpec.plain.varTypes Tryz.prog ++ Tryz.f3.resultTypes.toList)) = true := by kernel_rfl
theorem judgeMany_facts : joinedFacts Tryz.prog 3 Tryz.f3 Rows.judgeManySpec Rows.judgeManyRow = true := by
  simp only [joinedFacts, Bool.and_eq_true]
  exact ⟨⟨⟨⟨⟨⟨⟨⟨⟨⟨⟨⟨⟨⟨⟨⟨⟨⟨⟨⟨⟨⟨⟨⟨⟨⟨⟨⟨⟨⟨⟨judgeMany_fact0, judgeMany_fact1⟩, judgeMany_fact2⟩, judgeMany_fact3⟩, judgeMany_fact4⟩, judgeMany_fact5⟩, judgeMany_fact6⟩, judgeMany_fact7⟩, judgeMany_fact8⟩, judgeMany_fact9⟩, judgeMany_fact10⟩, judgeMany_fact11⟩, judgeMany_fact12⟩, judgeMany_fact13⟩, judgeMany_fact14⟩, judgeMany_fact15⟩, judgeMany_fact16⟩, judgeMany_fact17⟩, judgeMany_fact18⟩, judgeMany_fact19⟩, judgeMany_fact20⟩, judgeMany_fact21⟩, judgeMany_fact22⟩, judgeMany_fact23⟩, judgeMany_fact24⟩, judgeMany_fact25⟩, judgeMany_fact26⟩, judgeMany_fact27⟩, judgeMany_fact28⟩, judgeMany_fact29⟩, judgeMany_fact30⟩, judgeMany_fact31⟩
end Go.Proofs.YtfldlecbnmageaaGreatDoor
