/- oplog: Add and Cut, by the evaluator. -/
import Derived.Test.YtljejfiecaihfaaGreatDoorOJ
namespace Go.Proofs.YtljejfiecaihfaaGreatDoor
open Go Go.RowKit Go.Cre
set_option maxRecDepth 1000000
noncomputable section
def sT1 : ByteArray := ⟨#[116]⟩
def sX : ByteArray := ⟨#[120]⟩
def newE : Ent := ⟨1, 1, sX⟩
def slN (n : Nat) : Value := Bool.casesOn (Nat.beq n 0) (.slice (some ⟨0, 0, none⟩) n n) (.slice none 0 0)
def obN (n : Nat) : List (Nat × AObj) := Bool.casesOn (Nat.beq n 0) [(0, .cells (toks (3 * n)) 34 3 true .any true)] []
def lgN (n : Nat) : Value := .agg ⟨[nt 3, .string sS, slN n]⟩
def adOk (n : Nat) : Bool :=
  chk ((RT ⟨0, []⟩ []).call 6 [lgN n, .agg ⟨[nt 1, nt 1, .string sX]⟩] ⟨putAll .leaf (obN n), 500⟩) fun x => isLogS 3 sS (n + 1) (toks (3 * n) ++ [nt 1, nt 1, .string sX]) x.1 x.2
def cuOk (n k : Nat) : Bool :=
  chk ((RT ⟨0, []⟩ []).call 7 [lgN n, nt ((3 + k : Nat) : Int), .string sT1] ⟨putAll .leaf (obN n), 500⟩) fun x => match x.1 with
    | .tuple ⟨[v, _]⟩ => isLog (3 + k) sT1 (n - k) ((toks (3 * n)).drop (3 * k)) v x.2
    | _ => false
def cuTab (n : Nat) (r : Bool) : List (TKey × Value) := Bool.casesOn r [(.bin .leq 3 (tk 1) (nt 3), .bool false), (.bin .gtr 3 (tk 1) (nt ((3 + n : Nat) : Int)), .bool true)] [(.bin .leq 3 (tk 1) (nt 3), .bool true)]
def cuNo (n : Nat) (r : Bool) : Bool :=
  chk ((RT ⟨0, cuTab n r⟩ []).call 7 [lgN n, tk 1, .string sT1] ⟨putAll .leaf (obN n), 500⟩) fun x => match x.1 with
    | .tuple ⟨[v, _]⟩ => isLog 3 sS n (toks (3 * n)) v x.2
    | _ => false
theorem ad0 : ((List.range 31).all adOk) = true := by kernel_rfl
theorem cu0 : ((List.range 20).all fun n => (List.range (n + 1)).all fun k => cuOk (n + 1) (k + 1)) = true := by kernel_rfl
theorem cu1 : ([20, 21, 22, 23].all fun n => (List.range (n + 1)).all fun k => cuOk (n + 1) (k + 1)) = true := by kernel_rfl
theorem cu2 : ([24, 25, 26, 27].all fun n => (List.range (n + 1)).all fun k => cuOk (n + 1) (k + 1)) = true := by kernel_rfl
theorem cu3 : ([28, 29, 30].all fun n => (List.range (n + 1)).all fun k => cuOk (n + 1) (k + 1)) = true := by kernel_rfl
theorem cn0 : ((List.range 31).all fun n => cuNo (n + 1) true && cuNo (n + 1) false) = true := by kernel_rfl
end
end Go.Proofs.YtljejfiecaihfaaGreatDoor
