/- primerref02.NaN: whether a 64-bit pattern is no number; for every word below 2^64. -/
import Derived.Test.YtkfkpbhebidodaaGreatDoorFC
import Derived.Test.YtkfkpbhebidodaaGreatDoorFA
namespace Go.Proofs.YtkfkpbhebidodaaGreatDoor
open Go Go.RowKit
set_option maxRecDepth 100000
theorem NaN_any (b : Nat) (hb : b < 2 ^ 64) (w : World) : Calls Tryz.prog 104 #[.float .f64 b] w fun e w' => e = .returned (.bool (nanB b)) ∧ w = w' := by
  have hf := bits_run
  have k1 : bits .and .u64 (b : Int) 9218868437227405312 = ((b &&& 9218868437227405312 : Nat) : Int) := bits_and_u64_nat b 9218868437227405312 hb (by decide)
  have k2 : bits .and .u64 (b : Int) 4503599627370495 = ((b &&& 4503599627370495 : Nat) : Int) := bits_and_u64_nat b 4503599627370495 hb (by decide)
  have K := Lib.hid (nan_bits b)
  by_cases h1 : b &&& 9218868437227405312 = 9218868437227405312
  · rw [h1] at k1
    by_cases h2 : b &&& 4503599627370495 = 0
    · rw [h2] at k2
      have HH := Lib.hid (And.intro h1 h2); clear h1 h2
      go_enter Tryz.func104, Tryz.ntmps104
      go_wp2
      go_ret
      refine ⟨?_, rfl⟩
      rw [K.out, HH.out.1, HH.out.2]; rfl
    · have k3 : (bits .and .u64 (b : Int) 4503599627370495 != 0) = true := by rw [k2]; simp; omega
      have HH := Lib.hid (And.intro h1 h2); clear h1 h2 k2
      go_enter Tryz.func104, Tryz.ntmps104
      go_wp2
      go_ret
      refine ⟨?_, rfl⟩
      rw [K.out, HH.out.1]; have := HH.out.2; simp [this]
  · have k3 : ¬ bits .and .u64 (b : Int) 9218868437227405312 = 9218868437227405312 := by rw [k1]; omega
    have HH := Lib.hid h1; clear h1 k1 k2
    go_enter Tryz.func104, Tryz.ntmps104
    go_wp2
    go_ret
    refine ⟨?_, rfl⟩
    rw [K.out]; have := HH.out; simp [this]
end Go.Proofs.YtkfkpbhebidodaaGreatDoor
