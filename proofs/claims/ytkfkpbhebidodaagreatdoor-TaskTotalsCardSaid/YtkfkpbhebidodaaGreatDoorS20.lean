/- The closed run answers true, in whatever world. -/
import Derived.Test.YtkfkpbhebidodaaGreatDoorS20m
import Derived.Test.YtkfkpbhebidodaaGreatDoorS20p38
import Derived.Test.YtkfkpbhebidodaaGreatDoorS20p14
import Derived.Test.YtkfkpbhebidodaaGreatDoorS20p182
import Derived.Test.YtkfkpbhebidodaaGreatDoorS20p181
import Derived.Test.YtkfkpbhebidodaaGreatDoorS20p180
import Derived.Test.YtkfkpbhebidodaaGreatDoorS20p179
import Derived.Test.YtkfkpbhebidodaaGreatDoorS20p80
import Derived.KernelRfl
open Go
noncomputable section
namespace Go.Cre
theorem pok20 : POk Go.Proofs.Tryz.prog := POk.of (by decide +kernel)
theorem id20 : ∀ g, g ∈ [305] → IdFn Go.Proofs.Tryz.prog g := fun g hg => by
  obtain rfl := List.mem_singleton.1 hg
  exact ⟨fun v w => by kernel_rfl⟩
theorem R200_ok (B : Nat) (w0 : World) : RecOk Go.Proofs.Tryz.prog 0 B w0 R200 := runs_ok pok20 (fun B w0 => mkKnown_ok id20 (fun p hp => by cases hp) B w0) _ B w0
theorem R201_ok (B : Nat) (w0 : World) : RecOk Go.Proofs.Tryz.prog 0 B w0 R201 := runs_ok pok20 (fun B w0 => mkKnown_ok id20 (fun p hp => by
  simp only [List.mem_cons, List.not_mem_nil, or_false] at hp
  rcases hp with rfl | rfl | rfl | rfl | rfl | rfl | rfl
  · exact ⟨R200, R200_ok, pc20_38_ok⟩
  · exact ⟨R200, R200_ok, pc20_14_ok⟩
  · exact ⟨R200, R200_ok, pc20_182_ok⟩
  · exact ⟨R200, R200_ok, pc20_181_ok⟩
  · exact ⟨R200, R200_ok, pc20_180_ok⟩
  · exact ⟨R200, R200_ok, pc20_179_ok⟩
  · exact ⟨R200, R200_ok, pc20_80_ok⟩) B w0) _ B w0
theorem speaks20 (w : World) (hG : 0 ≤ w.heap.size) : Calls Go.Proofs.Tryz.prog 29 #[] w fun e w' => e = .returned (.bool true) ∧ Go.RowKit.Below w.heap.size w w' :=
  calls_of_truth R201_ok (by decide) main20 w hG
#print axioms speaks20
end Go.Cre
end
