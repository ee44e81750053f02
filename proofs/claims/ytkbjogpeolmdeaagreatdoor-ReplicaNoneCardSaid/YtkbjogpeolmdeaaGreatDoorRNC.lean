/- The card of ReplicaNone: the given statement ReplicaNoneCardSaid holds; for every three numbers. -/
import Derived.Test.YtkbjogpeolmdeaaGreatDoorRN2
import Derived.Test.YtkbjogpeolmdeaaGreatDoorRNF
namespace Go.Proofs.YtkbjogpeolmdeaaGreatDoor
open Go Go.ChangeShapes Go.WideShapes Go.ChangeAt Go.RowKit
set_option maxRecDepth 100000
theorem named4 : Tryz.prog.funcNamed "primer/primerlaw25.ReplicaNone" = some 4 := by kernel_rfl
theorem inst4 : Tryz.f4.isInstance Tryz.prog Rows.replicaNoneRow.origin Rows.replicaNoneRow.targs := of_decide_eq_true (by kernel_rfl)
theorem wrap4 : Tryz.f4.isWrapper Tryz.prog Rows.replicaNoneRow.wrapper Rows.replicaNoneRow.mainSum := by
  unfold Func.isWrapper; first | (rw [if_pos (by decide +kernel)]; kernel_rfl) | (rw [if_neg (by decide +kernel)]; exact ⟨rfl, rfl⟩)
theorem law_holds : Rows.ReplicaNoneSaid :=
  OpenClaim.holds_of_wide 4 Tryz.f4 rfl rfl rfl rfl rfl rfl rfl ⟨rfl, rfl, rfl, rfl, rfl⟩ rfl rfl rfl rfl rfl named4 Tryz.func4 replicaNone_facts
    inst4 wrap4 (fun os started H enc _ => lifted os started H enc)
theorem stand4 (j : Nat) (t : TypeId) (ht : Tryz.f4.params[j]? = some t) : Tryz.prog.wantsStandIn t = false := by
  rw [Tryz.params4] at ht
  have h3 : Tryz.prog.wantsStandIn 3 = false := by kernel_rfl
  rcases j with _ | _ | _ | j
  · simp at ht; subst ht; exact h3
  · simp at ht; subst ht; exact h3
  · simp at ht; subst ht; exact h3
  · simp at ht
theorem wf4 : Rows.replicaNoneRow.wfByText (OpenSpec.ofChange Rows.replicaNoneSpec) = true := by kernel_rfl
theorem main4 : Tryz.pinned.checked.prog.mainIs = some (true, "dd966249a3cca3edb9aa26917b4aa000b865e49dcb536630c02f3fb868f5f29b".toList) := by kernel_rfl
theorem looks4 : true = Tryz.pinned.checked.prog.looks [] := by kernel_rfl
theorem nogoes : Tryz.pinned.checked.prog.funcs.any Func.goes = false := by kernel_rfl
/-- No function of the program starts a goroutine: so no call does. -/
theorem goes_none {P : Program} (h : P.funcs.any Func.goes = false) (f : FuncId) : P.goes f = false := by
  unfold Program.goes
  rw [h, Bool.and_false, Bool.or_false]
  rw [Array.any_eq_false] at h
  rw [List.any_eq_false]
  intro g _
  cases hg : P.funcs[g]? with
  | none => simp
  | some fn =>
    obtain ⟨h1, h2⟩ := Array.getElem?_eq_some_iff.1 hg
    have := h g h1
    rw [h2] at this
    simpa using this
theorem goes_row {P : Program} {c : OpenClaim} {f : FuncId} (hn : P.funcNamed c.func = some f) (hs : c.start = .entering) (h : P.funcs.any Func.goes = false) : false = c.goesBy P := by
  unfold OpenClaim.goesBy Program.goesAt Program.goesFrom
  rw [hn, hs]
  simp only [Option.any_some, goes_none h, Bool.or_self]
theorem named4p : Tryz.pinned.checked.prog.funcNamed Rows.replicaNoneRow.func = some 4 := by kernel_rfl
theorem goes4 : false = Rows.replicaNoneRow.goesBy Tryz.pinned.checked.prog := goes_row named4p rfl nogoes
theorem card_holds : Rows.ReplicaNoneCardSaid :=
  Claim7.holds_tied_plain_at .later [] [.data, .data, .data, .data] true (true, "dd966249a3cca3edb9aa26917b4aa000b865e49dcb536630c02f3fb868f5f29b") true
    law_holds (fun _ h => by cases h) wf4 (fun _ h => by cases h) replicaNone_row_tie rfl ⟨rfl, rfl⟩ main4 rfl
    (fun f fn hf hfn => by
      obtain rfl : f = 4 := Option.some.inj (named4.symm.trans hf) |>.symm
      obtain rfl : fn = Tryz.f4 := (Option.some.inj (Tryz.func4.symm.trans hfn)).symm
      exact ⟨looks4, stand4⟩)
    goes4
#print axioms card_holds
end Go.Proofs.YtkbjogpeolmdeaaGreatDoor
