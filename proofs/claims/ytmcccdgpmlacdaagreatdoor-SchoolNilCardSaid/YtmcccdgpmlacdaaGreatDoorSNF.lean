/- The closed facts of the row of SchoolNil, each by itself. Printed by program. -/
import Derived.Test.YtmcccdgpmlacdaaGreatDoorRows
import Derived.JoinedOf
import Derived.KernelRfl
namespace Go.Proofs.YtmcccdgpmlacdaaGreatDoor
open Go
set_option maxRecDepth 100000
theorem schoolNil_fact0 : (Rows.schoolNilRow.wf (OpenSpec.ofChange Rows.schoolNilSpec)) = true := by kernel_rfl
theorem schoolNil_fact1 : (laidOutB Tryz.prog) = true := by kernel_rfl
theorem schoolNil_fact2 : (mapsRowed Tryz.prog) = true := by kernel_rfl
theorem schoolNil_fact3 : (Tryz.f3.params.all (Tryz.prog.readableRec ·)) = true := by kernel_rfl
theorem schoolNil_fact4 : (namedTie Tryz.prog Rows.schoolNilRow.named Rows.schoolNilSpec.vars) = true := by kernel_rfl
theorem schoolNil_fact5 : ((Rows.schoolNilRow.stops == [])) = true := by kernel_rfl
theorem schoolNil_fact6 : ((Tryz.prog.stops == [])) = true := by kernel_rfl
theorem schoolNil_fact7 : ((Rows.schoolNilRow.knobs == [])) = true := by kernel_rfl
theorem schoolNil_fact8 : ((Tryz.prog.stopKnobs == [])) = true := by kernel_rfl
theorem schoolNil_fact9 : ((Rows.schoolNilRow.inPlace == Tryz.prog.inPlace 3)) = true := by kernel_rfl
theorem schoolNil_fact10 : ((Rows.schoolNilRow.unfollowed == Tryz.prog.unfollowed 3)) = true := by kernel_rfl
theorem schoolNil_fact11 : ((Rows.schoolNilRow.recurses == Tryz.prog.recurses 3)) = true := by kernel_rfl
theorem schoolNil_fact12 : ((Rows.schoolNilRow.named == Tryz.prog.varsNamed 3)) = true := by kernel_rfl
theorem schoolNil_fact13 : ((Rows.schoolNilRow.maps == (Tryz.f3.params.toList ++ Rows.schoolNilSpec.plain.varTypes Tryz.prog).any (Tryz.prog.mapsRec ·))) = true := by kernel_rfl
theorem schoolNil_fact14 : ((Rows.schoolNilRow.ifaces == (Tryz.f3.params.toList ++ Rows.schoolNilSpec.plain.varTypes Tryz.prog).any (Tryz.prog.ifacesRec ·))) = true := by kernel_rfl
theorem schoolNil_fact15 : ((Rows.schoolNilRow.mapsOut == Tryz.prog.mapsAmong Tryz.f3.resultTypes.toList)) = true := by kernel_rfl
theorem schoolNil_fact16 : ((Rows.schoolNilRow.loops == (Tryz.f3.params.toList ++ Rows.schoolNilSpec.plain.varTypes Tryz.prog).any (Tryz.prog.loopsFrom ·))) = true := by kernel_rfl
theorem schoolNil_fact17 : ((Rows.schoolNilRow.wideKeys == (Tryz.f3.params.toList ++ Rows.schoolNilSpec.plain.varTypes Tryz.prog ++ Tryz.f3.resultTypes.toList).any (Tryz.prog.wideKeysFrom ·))) = true := by kernel_rfl
theorem schoolNil_fact18 : (Rows.schoolNilSpec.vars.all (Tryz.prog.varReadable ·)) = true := by kernel_rfl
theorem schoolNil_fact19 : (Tryz.f3.resultTypes.all (fun t => Tryz.prog.readableRec t && decide (t < Tryz.prog.types.size))) = true := by kernel_rfl
theorem schoolNil_fact20 : ((Rows.schoolNilRow.ifacesOut == Tryz.f3.resultTypes.toList.any (Tryz.prog.ifacesRec ·))) = true := by kernel_rfl
theorem schoolNil_fact21 : ((Rows.schoolNilRow.loopsOut == Tryz.f3.resultTypes.toList.any (Tryz.prog.loopsFrom ·))) = true := by kernel_rfl
theorem schoolNil_fact22 : ((Rows.schoolNilRow.plainKeys == Tryz.prog.plainKeys)) = true := by kernel_rfl
theorem schoolNil_fact23 : (Rows.schoolNilRow.shortTexts.isNone) = true := by kernel_rfl
theorem schoolNil_fact24 : (Tryz.prog.stopsHeard) = true := by kernel_rfl
theorem schoolNil_fact25 : (Tryz.prog.mayEnter) = true := by kernel_rfl
theorem schoolNil_fact26 : ((Rows.schoolNilRow.lifted == Tryz.prog.liftsFinal)) = true := by kernel_rfl
theorem schoolNil_fact27 : ((Tryz.prog.make == some Rows.schoolNilRow.make)) = true := by kernel_rfl
theorem schoolNil_fact28 : ((Rows.schoolNilRow.kinds == (if Rows.schoolNilRow.domain.isEmpty then [] else Tryz.f3.params.toList.map fun t => match Tryz.prog.underlying t with | some (.int k) => some k | _ => none))) = true := by kernel_rfl
theorem schoolNil_fact29 : ((Rows.schoolNilRow.pinned == Rows.schoolNilRow.pinnedBy)) = true := by kernel_rfl
theorem schoolNil_fact30 : ((Rows.schoolNilRow.veiled == (Tryz.f3.params.toList ++ Rows.schoolNilSpec.plain.varTypes Tryz.prog ++ Tryz.f3.resultTypes.toList).any (Tryz.prog.veiledRec ·))) = true := by kernel_rfl
theorem schoolNil_fact31 : (Rows.schoolNilRow.veiledFits Tryz.prog Tryz.f3.params.toList (Tryz.f3.params.toList ++ Rows.schoolNilSpec.plain.varTypes Tryz.prog ++ Tryz.f3.resultTypes.toList)) = true := by kernel_rfl
theorem schoolNil_facts : joinedFacts Tryz.prog 3 Tryz.f3 Rows.schoolNilSpec Rows.schoolNilRow = true := by
  simp only [joinedFacts, Bool.and_eq_true]
  exact ⟨⟨⟨⟨⟨⟨⟨⟨⟨⟨⟨⟨⟨⟨⟨⟨⟨⟨⟨⟨⟨⟨⟨⟨⟨⟨⟨⟨⟨⟨⟨schoolNil_fact0, schoolNil_fact1⟩, schoolNil_fact2⟩, schoolNil_fact3⟩, schoolNil_fact4⟩, schoolNil_fact5⟩, schoolNil_fact6⟩, schoolNil_fact7⟩, schoolNil_fact8⟩, schoolNil_fact9⟩, schoolNil_fact10⟩, schoolNil_fact11⟩, schoolNil_fact12⟩, schoolNil_fact13⟩, schoolNil_fact14⟩, schoolNil_fact15⟩, schoolNil_fact16⟩, schoolNil_fact17⟩, schoolNil_fact18⟩, schoolNil_fact19⟩, schoolNil_fact20⟩, schoolNil_fact21⟩, schoolNil_fact22⟩, schoolNil_fact23⟩, schoolNil_fact24⟩, schoolNil_fact25⟩, schoolNil_fact26⟩, schoolNil_fact27⟩, schoolNil_fact28⟩, schoolNil_fact29⟩, schoolNil_fact30⟩, schoolNil_fact31⟩
end Go.Proofs.YtmcccdgpmlacdaaGreatDoor
