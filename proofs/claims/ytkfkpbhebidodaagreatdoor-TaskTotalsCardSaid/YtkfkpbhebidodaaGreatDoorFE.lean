/- primerref02.Canon gives the same bits as marks.Canon; for every word below 2^64. -/
import Derived.Test.YtkfkpbhebidodaaGreatDoorFD
namespace Go.Proofs.YtkfkpbhebidodaaGreatDoor
open Go Go.RowKit
set_option maxRecDepth 100000
theorem signed_zero (s : Bool) (m up : Nat) : Ieee.signed s m up = 0 ↔ m = 0 := by
  unfold Ieee.signed
  have : m <<< up = 0 ↔ m = 0 := by rw [Nat.shiftLeft_eq]; simp [Nat.mul_eq_zero]
  cases s <;> simp <;> omega
theorem zeroB_eq (b : Nat) : zeroB b = decide (b % 2 ^ 63 = 0) := by
  have e1 : Ieee.double.signWeight = 2 ^ 63 := by decide
  have e2 : Ieee.double.binade = 2 ^ 52 := by decide
  have e3 : Ieee.double.infRung = 9218868437227405312 := by decide
  have z : Ieee.Format.read Ieee.double 0 = .number false 0 Ieee.double.leastPlace := by decide
  show ((Ieee.Format.read Ieee.double b).order (Ieee.Format.read Ieee.double 0) == some .eq) = _
  rw [z]
  unfold Ieee.Format.read
  rw [e1, e2, e3]
  dsimp only
  have h : b % 2 ^ 63 < 2 ^ 63 := Nat.mod_lt _ (by decide)
  have key : ∀ s m i, (Ieee.Datum.order (.number s m i) (.number false 0 Ieee.double.leastPlace) == some .eq) = decide (m = 0) := by
    intro s m i
    simp only [Ieee.Datum.order]
    rw [(signed_zero false 0 _).2 rfl, Bool.eq_iff_iff]
    simp [Std.LawfulEqCmp.compare_eq_iff_eq, signed_zero]
  split
  · rw [key]
  · split
    · rw [key]; simp only [decide_eq_decide]; omega
    · split
      · rename_i h1 h2 h3; simp only [Ieee.Datum.order]; symm; rw [show decide (b % 2 ^ 63 = 0) = false by simp; omega]; cases (b / 2 ^ 63 % 2 == 1) <;> rfl
      · rename_i h1 h2 h3; simp only [Ieee.Datum.order]; symm; rw [show decide (b % 2 ^ 63 = 0) = false by simp; omega]; rfl
theorem Canon_any (b : Nat) (hb : b < 2 ^ 64) (w : World) : Calls Tryz.prog 106 #[.float .f64 b] w fun e w' => e = .returned (.float .f64 (canonB b)) ∧ w = w' := by
  have hf := bits_run
  have HB := Lib.hid hb; clear hb
  by_cases h1 : nanB b = true
  · go_enter Tryz.func106, Tryz.ntmps106
    go_wp2_with (first | (go_at_call 104; refine (NaN_any _ HB.out _).mono ?_; rintro e w' ⟨rfl, rfl⟩) | (go_at_call 105; refine (None_any _).mono ?_; rintro e w' ⟨rfl, rfl⟩))
    go_ret
    exact ⟨by simp [canonB, h1], rfl⟩
  · have h1' : nanB b = false := by simpa using h1
    have Z := Lib.hid (zeroB_eq b)
    have N := Lib.hid h1
    clear h1
    by_cases h2 : b = 9223372036854775808
    · subst h2
      go_enter Tryz.func106, Tryz.ntmps106
      go_wp2_with (go_at_call 104; refine (NaN_any _ HB.out _).mono ?_; rintro e w' ⟨rfl, rfl⟩)
      go_ret
      refine ⟨?_, rfl⟩
      unfold canonB
      rw [if_neg N.out, Z.out]; rfl
    · have h2' : ((b : Int) == 9223372036854775808) = false := by simp; omega
      have h3 : ¬ (b : Int) = 9223372036854775808 := by omega
      have H2 := Lib.hid h2; clear h2
      go_enter Tryz.func106, Tryz.ntmps106
      go_wp2_with (go_at_call 104; refine (NaN_any _ HB.out _).mono ?_; rintro e w' ⟨rfl, rfl⟩)
      go_ret
      refine ⟨?_, rfl⟩
      unfold canonB
      rw [if_neg N.out, Z.out]
      have := HB.out
      have := H2.out
      by_cases h0 : b % 2 ^ 63 = 0
      · have : b = 0 := by omega
        subst this; rfl
      · simp [h0]
end Go.Proofs.YtkfkpbhebidodaaGreatDoor
