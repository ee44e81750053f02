/- speaks of layer 24 answers true, in whatever world. -/
import Derived.Test.YtljejfiecaihfaaGreatDoorO24s
import Derived.KernelRfl
open Go
noncomputable section
namespace Go.Cre
open Go.RowKit (Below)
theorem pok24 : POk Go.Proofs.Tryz.prog := POk.of (by decide +kernel)
theorem id24 : ∀ g, g ∈ [274] → IdFn Go.Proofs.Tryz.prog g := fun g hg => by
  obtain rfl := List.mem_singleton.1 hg
  exact ⟨fun v w => by kernel_rfl⟩
theorem cl24 : ∀ g, g ∈ [78] → CloneFn Go.Proofs.Tryz.prog g := fun g hg => by
  obtain rfl := List.mem_singleton.1 hg
  exact CloneFn.of fun v w => by kernel_rfl
theorem R24_ok (B : Nat) (w0 : World) : RecOk Go.Proofs.Tryz.prog ⟨0, []⟩ B w0 (R24 ⟨0, []⟩) := runsB_ok pok24 (fun B w0 => mkKnown_ok id24 cl24 (fun p hp => by cases hp) B w0) _ B w0
theorem speaks24 (w : World) : Calls Go.Proofs.Tryz.prog 4 #[] w fun e w' => e = .returned (.bool true) ∧ Below w.heap.size w w' :=
  calls_of_truth R24_ok (Nat.zero_le 5) main24 w (Nat.zero_le _)
end Go.Cre
end
