/- The closed facts of the row of ReplicaNone, each by itself. Printed by program. -/
import Derived.Test.YtkbjogpeolmdeaaGreatDoorRows
import Derived.Test.YtkbjogpeolmdeaaGreatDoorRNFd
import Derived.JoinedOf
import Derived.KernelRfl
namespace Go.Proofs.YtkbjogpeolmdeaaGreatDoor
open Go
set_option maxRecDepth 100000
theorem replicaNone_fact0 : (Rows.replicaNoneRow.wf (OpenSpec.ofChange Rows.replicaNoneSpec)) = true := by kernel_rfl
theorem replicaNone_fact1 : (laidOutB Tryz.prog) = true := by kernel_rfl
theorem replicaNone_fact2 : (mapsRowed Tryz.prog) = true := by kernel_rfl
theorem replicaNone_fact3 : (Tryz.f4.params.all (Tryz.prog.readableRec ·)) = true := by kernel_rfl
theorem replicaNone_fact4 : (namedTie Tryz.prog Rows.replicaNoneRow.named Rows.replicaNoneSpec.vars) = true := by kernel_rfl
theorem replicaNone_fact5 : ((Rows.replicaNoneRow.stops == [])) = true := by kernel_rfl
theorem replicaNone_fact6 : ((Tryz.prog.stops == [])) = true := by kernel_rfl
theorem replicaNone_fact7 : ((Rows.replicaNoneRow.knobs == [])) = true := by kernel_rfl
theorem replicaNone_fact8 : ((Tryz.prog.stopKnobs == [])) = true := by kernel_rfl
theorem replicaNone_fact13 : ((Rows.replicaNoneRow.maps == (Tryz.f4.params.toList ++ Rows.replicaNoneSpec.plain.varTypes Tryz.prog).any (Tryz.prog.mapsRec ·))) = true := by kernel_rfl
theorem replicaNone_fact14 : ((Rows.replicaNoneRow.ifaces == (Tryz.f4.params.toList ++ Rows.replicaNoneSpec.plain.varTypes Tryz.prog).any (Tryz.prog.ifacesRec ·))) = true := by kernel_rfl
theorem replicaNone_fact15 : ((Rows.replicaNoneRow.mapsOut == Tryz.prog.mapsAmong Tryz.f4.resultTypes.toList)) = true := by kernel_rfl
theorem replicaNone_fact16 : ((Rows.replicaNoneRow.loops == (Tryz.f4.params.toList ++ Rows.replicaNoneSpec.plain.varTypes Tryz.prog).any (Tryz.prog.loopsFrom ·))) = true := by kernel_rfl
theorem replicaNone_fact17 : ((Rows.replicaNoneRow.wideKeys == (Tryz.f4.params.toList ++ Rows.replicaNoneSpec.plain.varTypes Tryz.prog ++ Tryz.f4.resultTypes.toList).any (Tryz.prog.wideKeysFrom ·))) = true := by kernel_rfl
theorem replicaNone_fact18 : (Rows.replicaNoneSpec.vars.all (Tryz.prog.varReadable ·)) = true := by kernel_rfl
theorem replicaNone_fact19 : (Tryz.f4.resultTypes.all (fun t => Tryz.prog.readableRec t && decide (t < Tryz.prog.types.size))) = true := by kernel_rfl
theorem replicaNone_fact20 : ((Rows.replicaNoneRow.ifacesOut == Tryz.f4.resultTypes.toList.any (Tryz.prog.ifacesRec ·))) = true := by kernel_rfl
theorem replicaNone_fact21 : ((Rows.replicaNoneRow.loopsOut == Tryz.f4.resultTypes.toList.any (Tryz.prog.loopsFrom ·))) = true := by kernel_rfl
theorem replicaNone_fact22 : ((Rows.replicaNoneRow.plainKeys == Tryz.prog.plainKeys)) = true := by kernel_rfl
theorem replicaNone_fact23 : (Rows.replicaNoneRow.shortTexts.isNone) = true := by kernel_rfl
theorem replicaNone_fact24 : (Tryz.prog.stopsHeard) = true := by kernel_rfl
theorem replicaNone_fact25 : (Tryz.prog.mayEnter) = true := by kernel_rfl
theorem replicaNone_fact26 : ((Rows.replicaNoneRow.lifted == Tryz.prog.liftsFinal)) = true := by kernel_rfl
theorem replicaNone_fact27 : ((Tryz.prog.make == some Rows.replicaNoneRow.make)) = true := by kernel_rfl
theorem replicaNone_fact28 : ((Rows.replicaNoneRow.kinds == (if Rows.replicaNoneRow.domain.isEmpty then [] else Tryz.f4.params.toList.map fun t => match Tryz.prog.underlying t with | some (.int k) => some k | _ => none))) = true := by kernel_rfl
theorem replicaNone_fact29 : ((Rows.replicaNoneRow.pinned == Rows.replicaNoneRow.pinnedBy)) = true := by kernel_rfl
theorem replicaNone_fact30 : ((Rows.replicaNoneRow.veiled == (Tryz.f4.params.toList ++ Rows.replicaNoneSpec.plain.varTypes Tryz.prog ++ Tryz.f4.resultTypes.toList).any (Tryz.prog.veiledRec ·))) = true := by kernel_rfl
theorem replicaNone_fact31 : (Rows.replicaNoneRow.veiledFits Tryz.prog Tryz.f4.params.toList (Tryz.f4.params.toList ++ Rows.replicaNoneSpec.plain.varTypes Tryz.prog ++ Tryz.f4.resultTypes.toList)) = true := by kernel_rfl
theorem replicaNone_facts : joinedFacts Tryz.prog 4 Tryz.f4 Rows.replicaNoneSpec Rows.replicaNoneRow = true := by
  simp only [joinedFacts, Bool.and_eq_true]
  exact ⟨⟨⟨⟨⟨⟨⟨⟨⟨⟨⟨⟨⟨⟨⟨⟨⟨⟨⟨⟨⟨⟨⟨⟨⟨⟨⟨⟨⟨⟨⟨replicaNone_fact0, replicaNone_fact1⟩, replicaNone_fact2⟩, replicaNone_fact3⟩, replicaNone_fact4⟩, replicaNone_fact5⟩, replicaNone_fact6⟩, replicaNone_fact7⟩, replicaNone_fact8⟩, replicaNone_fact9⟩, replicaNone_fact10⟩, replicaNone_fact11⟩, replicaNone_fact12⟩, replicaNone_fact13⟩, replicaNone_fact14⟩, replicaNone_fact15⟩, replicaNone_fact16⟩, replicaNone_fact17⟩, replicaNone_fact18⟩, replicaNone_fact19⟩, replicaNone_fact20⟩, replicaNone_fact21⟩, replicaNone_fact22⟩, replicaNone_fact23⟩, replicaNone_fact24⟩, replicaNone_fact25⟩, replicaNone_fact26⟩, replicaNone_fact27⟩, replicaNone_fact28⟩, replicaNone_fact29⟩, replicaNone_fact30⟩, replicaNone_fact31⟩
end Go.Proofs.YtkbjogpeolmdeaaGreatDoor
