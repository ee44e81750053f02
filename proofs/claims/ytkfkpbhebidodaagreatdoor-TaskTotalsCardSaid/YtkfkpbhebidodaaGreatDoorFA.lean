/- The bits by which a 64-bit float is no number, as the model's order of floats tells it; for every word. -/
import Derived.Test.YtkfkpbhebidodaaGreatDoorFB
import Derived.Laws.Bits64b
namespace Go.Proofs.YtkfkpbhebidodaaGreatDoor
open Go Go.RowKit

theorem read_cases (b : Nat) : (FloatKind.f64.format.read b).isNaN = decide (9218868437227405312 < b % 2 ^ 63) := by
  have e1 : Ieee.double.signWeight = 2 ^ 63 := by decide
  have e2 : Ieee.double.binade = 2 ^ 52 := by decide
  have e3 : Ieee.double.infRung = 9218868437227405312 := by decide
  show (Ieee.Format.read Ieee.double b).isNaN = _
  unfold Ieee.Format.read
  rw [e1, e2, e3]
  dsimp only
  have h : b % 2 ^ 63 < 2 ^ 63 := Nat.mod_lt _ (by decide)
  split
  · rename_i h1; simp only [Ieee.Datum.isNaN]; symm; simp; omega
  · split
    · rename_i h1 h2; simp only [Ieee.Datum.isNaN]; symm; simp; omega
    · split
      · rename_i h1 h2 h3; simp only [Ieee.Datum.isNaN]; symm; simp; omega
      · rename_i h1 h2 h3; simp only [Ieee.Datum.isNaN]; symm; simp; omega
theorem order_self (d : Ieee.Datum) : (d.order d != some .eq) = d.isNaN := by
  cases d with
  | number s m i => simp [Ieee.Datum.order, Ieee.Datum.isNaN]
  | infinity s => simp [Ieee.Datum.order, Ieee.Datum.isNaN]
  | nan s f => simp [Ieee.Datum.order, Ieee.Datum.isNaN]
theorem nanB_eq (b : Nat) : nanB b = decide (9218868437227405312 < b % 2 ^ 63) := by
  rw [← read_cases, ← order_self]; rfl
theorem mask_hi (b : Nat) : b &&& 9218868437227405312 = (b / 2 ^ 52 % 2 ^ 11) * 2 ^ 52 := by
  have e : (9218868437227405312 : Nat) = (2 ^ 11 - 1) <<< 52 := by decide
  rw [e, ← Nat.and_two_pow_sub_one_eq_mod, ← Nat.shiftRight_eq_div_pow, ← Nat.shiftLeft_eq]
  apply Nat.eq_of_testBit_eq
  intro i
  simp only [Nat.testBit_and, Nat.testBit_shiftLeft, Nat.testBit_shiftRight]
  by_cases h : 52 ≤ i
  · simp [h, show 52 + (i - 52) = i by omega]
  · simp [h]
theorem mask_lo (b : Nat) : b &&& 4503599627370495 = b % 2 ^ 52 := by
  rw [show (4503599627370495 : Nat) = 2 ^ 52 - 1 by decide]; exact Nat.and_two_pow_sub_one_eq_mod _ _
theorem nan_bits (b : Nat) : nanB b = ((b &&& 9218868437227405312 == 9218868437227405312) && (b &&& 4503599627370495 != 0)) := by
  rw [nanB_eq, mask_hi, mask_lo, Bool.eq_iff_iff]
  simp only [decide_eq_true_eq, Bool.and_eq_true, beq_iff_eq, bne_iff_ne, ne_eq]
  omega
end Go.Proofs.YtkfkpbhebidodaaGreatDoor
