/- What +, * and / on float64 give up to the choice of a NaN, and the accumulators of both Weigh functions. -/
import Derived.Test.YtkfkpbhebidodaaGreatDoorFE
import Derived.Laws.FloatArith
namespace Go.Proofs.YtkfkpbhebidodaaGreatDoor
open Go Go.RowKit
set_option maxRecDepth 100000

/-! Numbers that may be none: 'none' stands for every NaN. -/
def fop (op : BinOp) (x y : Option Nat) : Option Nat := match x, y with
  | some a, some b => floatBits op .f64 a b
  | _, _ => none
def Rep (a : Option Nat) (b : Nat) : Prop := b < 2 ^ 64 ∧ match a with
  | some r => b = r
  | none => nanB b = true
def arith : BinOp → Bool
  | .add | .mul | .quo => true
  | _ => false
theorem nan_datum {b : Nat} (h : nanB b = true) : ∃ s f, FloatKind.f64.format.read b = .nan s f := by
  have : (FloatKind.f64.format.read b).isNaN = true := by rw [← order_self]; exact h
  cases hd : FloatKind.f64.format.read b with
  | nan s f => exact ⟨s, f, rfl⟩
  | number s m i => rw [hd] at this; cases this
  | infinity s => rw [hd] at this; cases this
theorem op_nan {op : BinOp} (ho : arith op = true) {x y : Nat} (h : nanB x = true ∨ nanB y = true) : floatBits op .f64 x y = none := by
  rcases h with h | h
  · obtain ⟨s, f, e⟩ := nan_datum h
    cases op <;> first | (cases ho; done) | skip
    all_goals simp [floatBits, Ieee.Format.add, Ieee.Format.mul, Ieee.Format.div, e, Ieee.Datum.sum, Ieee.Datum.product, Ieee.Datum.quotient]
  · obtain ⟨s, f, e⟩ := nan_datum h
    cases op <;> first | (cases ho; done) | skip
    all_goals simp only [floatBits, Ieee.Format.add, Ieee.Format.mul, Ieee.Format.div, e]
    all_goals cases FloatKind.f64.format.read x <;> simp [Ieee.Datum.sum, Ieee.Datum.product, Ieee.Datum.quotient]

/-- what an operation gives, and the world behind it -/
def resB (op : BinOp) (x y : Nat) (w : World) : Nat := match floatBits op .f64 x y with
  | some r => r
  | none => (Question.nanBits .f64 x y).cut (w.tape w.drawn (.nanBits .f64 x y))
def resW (op : BinOp) (x y : Nat) (w : World) : World := match floatBits op .f64 x y with
  | some _ => w
  | none => w.drew
theorem res_run {P : Program} {op : BinOp} (ho : arith op = true) (t : TypeId) (x y : Nat) (w : World) :
    (binOp op t (.float .f64 x) (.float .f64 y)).run P w = .ok (.float .f64 (resB op x y w)) (resW op x y w) := by
  unfold resB resW
  split
  · rename_i r h
    exact run_float_arith w op t .f64 x y r h
  · rename_i h
    unfold floatBits at h
    cases op <;> first | (cases ho; done) | skip
    all_goals simp only at h
    all_goals simp [binOp, Op.floatArith, h]
    all_goals (intro hf; cases hf)
theorem nan_pattern (p q : Nat) (hp : p < 2) (hq : q < 2 ^ 52 - 1) : 9218868437227405312 < (p * 2 ^ 63 + 9218868437227405312 + 1 + q) % 2 ^ 63 ∧ p * 2 ^ 63 + 9218868437227405312 + 1 + q < 2 ^ 64 := by
  rcases (show p = 0 ∨ p = 1 by omega) with rfl | rfl <;> omega
theorem cut_nan (x y t : Nat) : nanB ((Question.nanBits .f64 x y).cut t) = true ∧ (Question.nanBits .f64 x y).cut t < 2 ^ 64 := by
  rw [nanB_eq]
  have h := nan_pattern (t % 2) (t / 2 % (2 ^ 52 - 1)) (Nat.mod_lt _ (by decide)) (Nat.mod_lt _ (by decide))
  exact ⟨decide_eq_true h.1, h.2⟩
theorem rep_op {op : BinOp} (ho : arith op = true) {a b : Option Nat} {x y : Nat} (hx : Rep a x) (hy : Rep b y) (w : World) : Rep (fop op a b) (resB op x y w) := by
  obtain ⟨hx0, hx⟩ := hx
  obtain ⟨hy0, hy⟩ := hy
  have none_case : floatBits op .f64 x y = none → Rep none (resB op x y w) := fun h => by
    unfold resB Rep
    rw [h]
    exact ⟨(cut_nan _ _ _).2, (cut_nan _ _ _).1⟩
  cases a with
  | none => exact none_case (op_nan ho (.inl hx))
  | some p => cases b with
    | none => exact none_case (op_nan ho (.inr hy))
    | some q =>
      have hx : x = p := hx
      have hy : y = q := hy
      subst hx hy
      show Rep (floatBits op .f64 x y) _
      cases h : floatBits op .f64 x y with
      | none => exact none_case h
      | some r =>
        unfold resB Rep
        rw [h]
        have := floatBits_wf h
        simp only [Lit.wf] at this
        exact ⟨by simpa using this, rfl⟩
theorem resW_cell (op : BinOp) (x y : Nat) (w : World) (a : Addr) : (resW op x y w).cell? a = w.cell? a := by unfold resW; split <;> rfl
theorem resW_size (op : BinOp) (x y : Nat) (w : World) : (resW op x y w).heap.size = w.heap.size := by unfold resW; split <;> rfl
theorem resW_below {B : Nat} {w0 : World} {op : BinOp} {x y : Nat} {w : World} (h : Below B w0 w) : Below B w0 (resW op x y w) := by
  unfold resW; split
  · exact h
  · exact h.drew

/-! What the two functions reckon. -/
def step (p : Option Nat × Option Nat) (v x : Nat) : Option Nat × Option Nat :=
  if nanB v then p else (fop .add p.1 (fop .mul (some v) (some x)), fop .add p.2 (some x))
def acc (vs ws : List Nat) : Nat → Option Nat × Option Nat
  | 0 => (some 0, some 0)
  | k + 1 => step (acc vs ws k) (vs.getD k 0) (ws.getD k 0)
def zeroA (a : Option Nat) : Bool := match a with
  | some r => zeroB r
  | none => false
def canonO (a : Option Nat) : Nat := match a with
  | some r => canonB r
  | none => noneBits
def fin (p : Option Nat × Option Nat) : Nat := if zeroA p.2 then noneBits else canonO (fop .quo p.1 p.2)
theorem zeroA_rep {a : Option Nat} {b : Nat} (h : Rep a b) : zeroB b = zeroA a := by
  obtain ⟨_, h⟩ := h
  cases a with
  | some r => have h : b = r := h; subst h; rfl
  | none =>
    have h : nanB b = true := h
    rw [nanB_eq] at h
    rw [zeroB_eq]
    simp only [decide_eq_true_eq] at h
    simp only [zeroA, decide_eq_false_iff_not]
    omega
theorem canon_rep {a : Option Nat} {b : Nat} (h : Rep a b) : canonB b = canonO a := by
  obtain ⟨_, h⟩ := h
  cases a with
  | some r => have h : b = r := h; subst h; rfl
  | none => have h : nanB b = true := h; simp [canonB, canonO, h]
end Go.Proofs.YtkfkpbhebidodaaGreatDoor
