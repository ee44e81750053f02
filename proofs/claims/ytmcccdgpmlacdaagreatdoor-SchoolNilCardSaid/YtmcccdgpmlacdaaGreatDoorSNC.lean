/- The card of SchoolNil: the given statement SchoolNilCardSaid holds; for every number. -/
import Derived.Test.YtmcccdgpmlacdaaGreatDoorSN2
import Derived.Test.YtmcccdgpmlacdaaGreatDoorSNF
namespace Go.Proofs.YtmcccdgpmlacdaaGreatDoor
open Go Go.ChangeShapes Go.WideShapes Go.ChangeAt Go.RowKit
set_option maxRecDepth 100000
theorem named3 : Tryz.prog.funcNamed "primer/primerlaw22.SchoolNil" = some 3 := by kernel_rfl
theorem inst3 : Tryz.f3.isInstance Tryz.prog Rows.schoolNilRow.origin Rows.schoolNilRow.targs := of_decide_eq_true (by kernel_rfl)
theorem wrap3 : Tryz.f3.isWrapper Tryz.prog Rows.schoolNilRow.wrapper Rows.schoolNilRow.mainSum := by
  unfold Func.isWrapper; first | (rw [if_pos (by decide +kernel)]; kernel_rfl) | (rw [if_neg (by decide +kernel)]; exact ⟨rfl, rfl⟩)
theorem law_holds : Rows.SchoolNilSaid :=
  OpenClaim.holds_of_wide 3 Tryz.f3 rfl rfl rfl rfl rfl rfl rfl ⟨rfl, rfl, rfl, rfl, rfl⟩ rfl rfl rfl rfl rfl named3 Tryz.func3 schoolNil_facts
    inst3 wrap3 (fun os started H enc _ => lifted os started H enc)
theorem stand3 (j : Nat) (t : TypeId) (ht : Tryz.f3.params[j]? = some t) : Tryz.prog.wantsStandIn t = false := by
  rw [Tryz.params3] at ht
  have h3 : Tryz.prog.wantsStandIn 3 = false := by kernel_rfl
  rcases j with _ | j
  · simp at ht; subst ht; exact h3
  · simp at ht
theorem wf3 : Rows.schoolNilRow.wfByText (OpenSpec.ofChange Rows.schoolNilSpec) = true := by kernel_rfl
theorem main3 : Tryz.pinned.checked.prog.mainIs = some (true, "3be41c2dd4716b14706a80c3517665df5d45bd74215ff0b76d26e1d60bf40561".toList) := by kernel_rfl
theorem looks3 : true = Tryz.pinned.checked.prog.looks [] := by kernel_rfl
theorem nogoes : Tryz.pinned.checked.prog.funcs.any Func.goes = false := by kernel_rfl
/-- No function of the program starts a goroutine: so no call does. -/
theorem goes_none {P : Program} (h : P.funcs.any Func.goes = false) (f : FuncId) : P.goes f = false := by
  unfold Program.goes
  rw [h, Bool.and_false, Bool.or_false]
  rw [Array.any_eq_false] at h
  rw [List.any_eq_false]
  intro g _
  cases hg : P.funcs[g]? with
  | none => simp
  | some fn =>
    obtain ⟨h1, h2⟩ := Array.getElem?_eq_some_iff.1 hg
    have := h g h1
    rw [h2] at this
    simpa using this
theorem goes_row {P : Program} {c : OpenClaim} {f : FuncId} (hn : P.funcNamed c.func = some f) (hs : c.start = .entering) (h : P.funcs.any Func.goes = false) : false = c.goesBy P := by
  unfold OpenClaim.goesBy Program.goesAt Program.goesFrom
  rw [hn, hs]
  simp only [Option.any_some, goes_none h, Bool.or_self]
theorem named3p : Tryz.pinned.checked.prog.funcNamed Rows.schoolNilRow.func = some 3 := by kernel_rfl
theorem goes3 : false = Rows.schoolNilRow.goesBy Tryz.pinned.checked.prog := goes_row named3p rfl nogoes
theorem card_holds : Rows.SchoolNilCardSaid :=
  Claim7.holds_tied_plain_at .later [] [.data, .data, .data] true (true, "3be41c2dd4716b14706a80c3517665df5d45bd74215ff0b76d26e1d60bf40561") true
    law_holds (fun _ h => by cases h) wf3 (fun _ h => by cases h) schoolNil_row_tie rfl ⟨rfl, rfl⟩ main3 rfl
    (fun f fn hf hfn => by
      obtain rfl : f = 3 := Option.some.inj (named3.symm.trans hf) |>.symm
      obtain rfl : fn = Tryz.f3 := (Option.some.inj (Tryz.func3.symm.trans hfn)).symm
      exact ⟨looks3, stand3⟩)
    goes3
#print axioms card_holds
end Go.Proofs.YtmcccdgpmlacdaaGreatDoor
