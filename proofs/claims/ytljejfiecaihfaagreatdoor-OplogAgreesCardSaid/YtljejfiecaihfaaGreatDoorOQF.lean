/- The closed facts of the row of OplogAgrees, each by itself. Printed by program. -/
import Derived.Test.YtljejfiecaihfaaGreatDoorRows
import Derived.JoinedOf
import Derived.KernelRfl
namespace Go.Proofs.YtljejfiecaihfaaGreatDoor
open Go
set_option maxRecDepth 100000
theorem oplogAgrees_fact0 : (Rows.oplogAgreesRow.wf (OpenSpec.ofChange Rows.oplogAgreesSpec)) = true := by kernel_rfl
theorem oplogAgrees_fact1 : (laidOutB Tryz.prog) = true := by kernel_rfl
theorem oplogAgrees_fact2 : (mapsRowed Tryz.prog) = true := by kernel_rfl
theorem oplogAgrees_fact3 : (Tryz.f3.params.all (Tryz.prog.readableRec ·)) = true := by kernel_rfl
theorem oplogAgrees_fact4 : (namedTie Tryz.prog Rows.oplogAgreesRow.named Rows.oplogAgreesSpec.vars) = true := by kernel_rfl
theorem oplogAgrees_fact5 : ((Rows.oplogAgreesRow.stops == [])) = true := by kernel_rfl
theorem oplogAgrees_fact6 : ((Tryz.prog.stops == [])) = true := by kernel_rfl
theorem oplogAgrees_fact7 : ((Rows.oplogAgreesRow.knobs == [])) = true := by kernel_rfl
theorem oplogAgrees_fact8 : ((Tryz.prog.stopKnobs == [])) = true := by kernel_rfl
theorem oplogAgrees_fact9 : ((Rows.oplogAgreesRow.inPlace == Tryz.prog.inPlace 3)) = true := by kernel_rfl
theorem oplogAgrees_fact10 : ((Rows.oplogAgreesRow.unfollowed == Tryz.prog.unfollowed 3)) = true := by kernel_rfl
theorem oplogAgrees_fact11 : ((Rows.oplogAgreesRow.recurses == Tryz.prog.recurses 3)) = true := by kernel_rfl
theorem oplogAgrees_fact12 : ((Rows.oplogAgreesRow.named == Tryz.prog.varsNamed 3)) = true := by kernel_rfl
theorem oplogAgrees_fact13 : ((Rows.oplogAgreesRow.maps == (Tryz.f3.params.toList ++ Rows.oplogAgreesSpec.plain.varTypes Tryz.prog).any (Tryz.prog.mapsRec ·))) = true := by kernel_rfl
theorem oplogAgrees_fact14 : ((Rows.oplogAgreesRow.ifaces == (Tryz.f3.params.toList ++ Rows.oplogAgreesSpec.plain.varTypes Tryz.prog).any (Tryz.prog.ifacesRec ·))) = true := by kernel_rfl
theorem oplogAgrees_fact15 : ((Rows.oplogAgreesRow.mapsOut == Tryz.prog.mapsAmong Tryz.f3.resultTypes.toList)) = true := by kernel_rfl
theorem oplogAgrees_fact16 : ((Rows.oplogAgreesRow.loops == (Tryz.f3.params.toList ++ Rows.oplogAgreesSpec.plain.varTypes Tryz.prog).any (Tryz.prog.loopsFrom ·))) = true := by kernel_rfl
theorem oplogAgrees_fact17 : ((Rows.oplogAgreesRow.wideKeys == (Tryz.f3.params.toList ++ Rows.oplogAgreesSpec.plain.varTypes Tryz.prog ++ Tryz.f3.resultTypes.toList).any (Tryz.prog.wideKeysFrom ·))) = true := by kernel_rfl
theorem oplogAgrees_fact18 : (Rows.oplogAgreesSpec.vars.all (Tryz.prog.varReadable ·)) = true := by kernel_rfl
theorem oplogAgrees_fact19 : (Tryz.f3.resultTypes.all (fun t => Tryz.prog.readableRec t && decide (t < Tryz.prog.types.size))) = true := by kernel_rfl
theorem oplogAgrees_fact20 : ((Rows.oplogAgreesRow.ifacesOut == Tryz.f3.resultTypes.toList.any (Tryz.prog.ifacesRec ·))) = true := by kernel_rfl
theorem oplogAgrees_fact21 : ((Rows.oplogAgreesRow.loopsOut == Tryz.f3.resultTypes.toList.any (Tryz.prog.loopsFrom ·))) = true := by kernel_rfl
theorem oplogAgrees_fact22 : ((Rows.oplogAgreesRow.plainKeys == Tryz.prog.plainKeys)) = true := by kernel_rfl
theorem oplogAgrees_fact23 : (Rows.oplogAgreesRow.shortTexts.isNone) = true := by kernel_rfl
theorem oplogAgrees_fact24 : (Tryz.prog.stopsHeard) = true := by kernel_rfl
theorem oplogAgrees_fact25 : (Tryz.prog.mayEnter) = true := by kernel_rfl
theorem oplogAgrees_fact26 : ((Rows.oplogAgreesRow.lifted == Tryz.prog.liftsFinal)) = true := by kernel_rfl
theorem oplogAgrees_fact27 : ((Tryz.prog.make == some Rows.oplogAgreesRow.make)) = true := by kernel_rfl
theorem oplogAgrees_fact28 : ((Rows.oplogAgreesRow.kinds == (if Rows.oplogAgreesRow.domain.isEmpty then [] else Tryz.f3.params.toList.map fun t => match Tryz.prog.underlying t with | some (.int k) => some k | _ => none))) = true := by kernel_rfl
theorem oplogAgrees_fact29 : ((Rows.oplogAgreesRow.pinned == Rows.oplogAgreesRow.pinnedBy)) = true := by kernel_rfl
theorem oplogAgrees_fact30 : ((Rows.oplogAgreesRow.veiled == (Tryz.f3.params.toList ++ Rows.oplogAgreesSpec.plain.varTypes Tryz.prog ++ Tryz.f3.resultTypes.toList).any (Tryz.prog.veiledRec ·))) = true := by kernel_rfl
theorem oplogAgrees_fact31 : (Rows.oplogAgreesRow.veiledFits Tryz.prog Tryz.f3.params.toList (Tryz.f3.params.toList ++ Rows.oplogAgreesSpec.plain.varTypes Tryz.prog ++ Tryz.f3.resultTypes.toList)) = true := by kernel_rfl
theorem oplogAgrees_facts : joinedFacts Tryz.prog 3 Tryz.f3 Rows.oplogAgreesSpec Rows.oplogAgreesRow = true := by
  simp only [joinedFacts, Bool.and_eq_true]
  exact ⟨⟨⟨⟨⟨⟨⟨⟨⟨⟨⟨⟨⟨⟨⟨⟨⟨⟨⟨⟨⟨⟨⟨⟨⟨⟨⟨⟨⟨⟨⟨oplogAgrees_fact0, oplogAgrees_fact1⟩, oplogAgrees_fact2⟩, oplogAgrees_fact3⟩, oplogAgrees_fact4⟩, oplogAgrees_fact5⟩, oplogAgrees_fact6⟩, oplogAgrees_fact7⟩, oplogAgrees_fact8⟩, oplogAgrees_fact9⟩, oplogAgrees_fact10⟩, oplogAgrees_fact11⟩, oplogAgrees_fact12⟩, oplogAgrees_fact13⟩, oplogAgrees_fact14⟩, oplogAgrees_fact15⟩, oplogAgrees_fact16⟩, oplogAgrees_fact17⟩, oplogAgrees_fact18⟩, oplogAgrees_fact19⟩, oplogAgrees_fact20⟩, oplogAgrees_fact21⟩, oplogAgrees_fact22⟩, oplogAgrees_fact23⟩, oplogAgrees_fact24⟩, oplogAgrees_fact25⟩, oplogAgrees_fact26⟩, oplogAgrees_fact27⟩, oplogAgrees_fact28⟩, oplogAgrees_fact29⟩, oplogAgrees_fact30⟩, oplogAgrees_fact31⟩
end Go.Proofs.YtljejfiecaihfaaGreatDoor
