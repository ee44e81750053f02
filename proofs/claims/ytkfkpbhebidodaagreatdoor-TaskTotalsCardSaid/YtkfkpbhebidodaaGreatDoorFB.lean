/- Contracts of math.IsInf at sign 1, marks.none, primerref02.None, marks.Weigh's test of a weight and marks.Canon: for every 64-bit pattern, in whatever world; the world stays as it was. -/
import Derived.Test.YtkfkpbhebidodaaGreatDoorProg
import Derived.WalkKit
import Derived.WalkLawsBesides
import Derived.WalkSpells
import Derived.Outline
import Derived.Handy
import Derived.Deep.QuietTactic
import Derived.BigQuiet
import Derived.KernelRfl
namespace Go.Proofs.YtkfkpbhebidodaaGreatDoor
open Go Go.RowKit
set_option maxRecDepth 100000

def nanB (b : Nat) : Bool := (FloatKind.f64.format.order b b) != some .eq
def zeroB (b : Nat) : Bool := (FloatKind.f64.format.order b 0) == some .eq
def negB (b : Nat) : Bool := (FloatKind.f64.format.order b 0) == some .lt
def infB (b : Nat) : Bool := (FloatKind.f64.format.order b 9218868437227405311) == some .gt
/-- a weight that may not be -/
def badB (b : Nat) : Bool := nanB b || negB b || infB b
def noneBits : Nat := 9221120237041090561

theorem isinf_any (b : Nat) (w : World) : Calls Tryz.prog 192 #[.float .f64 b, .int .i64 1] w fun e w' => e = .returned (.bool (infB b)) ∧ w = w' := by
  go_enter Tryz.func192, Tryz.ntmps192
  go_wp2
  go_ret
  exact ⟨rfl, rfl⟩
theorem frombits_run (x : Int) (w : World) : (callFunc 33 #[.int .u64 x]).run Tryz.prog w = .ok (.value (.float .f64 x.toNat)) w := by kernel_rfl
theorem bits_run (b : Nat) (w : World) : (callFunc 36 #[.float .f64 b]).run Tryz.prog w = .ok (.value (.int .u64 b)) w := by kernel_rfl
theorem none_any (w : World) : Calls Tryz.prog 197 #[] w fun e w' => e = .returned (.float .f64 noneBits) ∧ w = w' := by
  have hf := frombits_run
  go_enter Tryz.func197, Tryz.ntmps197
  go_wp2
  go_ret
  exact ⟨rfl, rfl⟩
theorem None_any (w : World) : Calls Tryz.prog 105 #[] w fun e w' => e = .returned (.float .f64 noneBits) ∧ w = w' := by
  have hf := frombits_run
  go_enter Tryz.func105, Tryz.ntmps105
  go_wp2
  go_ret
  exact ⟨rfl, rfl⟩
theorem bad_any (b : Nat) (w : World) : Calls Tryz.prog 199 #[.float .f64 b] w fun e w' => e = .returned (.bool (badB b)) ∧ w = w' := by
  by_cases h1 : nanB b = true
  · have h1' : ((FloatKind.f64.format.order b b) != some .eq) = true := h1
    go_enter Tryz.func199, Tryz.ntmps199
    go_wp2
    go_ret
    exact ⟨by simp [badB, h1], rfl⟩
  · have h1' : ((FloatKind.f64.format.order b b) != some .eq) = false := by simpa [nanB] using h1
    by_cases h2 : negB b = true
    · have h2' : ((FloatKind.f64.format.order b 0) == some .lt) = true := h2
      go_enter Tryz.func199, Tryz.ntmps199
      go_wp2
      go_ret
      exact ⟨by simp [badB, h2], rfl⟩
    · have h2' : ((FloatKind.f64.format.order b 0) == some .lt) = false := by simpa [negB] using h2
      go_enter Tryz.func199, Tryz.ntmps199
      go_wp2_with (go_at_call 192; refine (isinf_any _ _).mono ?_; rintro e w' ⟨rfl, rfl⟩)
      go_ret
      exact ⟨by simp [badB, h1, h2], rfl⟩
def canonB (b : Nat) : Nat := if nanB b then noneBits else if zeroB b then 0 else b
theorem canon_any (b : Nat) (w : World) : Calls Tryz.prog 193 #[.float .f64 b] w fun e w' => e = .returned (.float .f64 (canonB b)) ∧ w = w' := by
  by_cases h1 : nanB b = true
  · have h1' : ((FloatKind.f64.format.order b b) != some .eq) = true := h1
    go_enter Tryz.func193, Tryz.ntmps193
    go_wp2_with (go_at_call 197; refine (none_any _).mono ?_; rintro e w' ⟨rfl, rfl⟩)
    go_ret
    exact ⟨by simp [canonB, h1], rfl⟩
  · have h1' : ((FloatKind.f64.format.order b b) != some .eq) = false := by simpa [nanB] using h1
    by_cases h2 : zeroB b = true
    · have h2' : ((FloatKind.f64.format.order b 0) == some .eq) = true := h2
      go_enter Tryz.func193, Tryz.ntmps193
      go_wp2
      go_ret
      exact ⟨by simp [canonB, h1, h2], rfl⟩
    · have h2' : ((FloatKind.f64.format.order b 0) == some .eq) = false := by simpa [zeroB] using h2
      go_enter Tryz.func193, Tryz.ntmps193
      go_wp2
      go_ret
      exact ⟨by simp [canonB, h1, h2], rfl⟩
end Go.Proofs.YtkfkpbhebidodaaGreatDoor
