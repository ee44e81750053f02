/- ReplicaNone: what is known of the arguments, case by case. -/
import Derived.Test.YtkbjogpeolmdeaaGreatDoorQ25y
open Go
noncomputable section
namespace Go.Cre
def pc25_5 : Piece := { g := 5, args := [], n0 := 10, pre := [(0, halves)], v := .bool true, n1 := 1065, objs := [] }
def x25n : Known := mkKnown [206] [] [] [pc25_5]
def R25n (G : Gl) : Rec := run x25n (drawnB x25n Go.Proofs.Tryz.prog G) Go.Proofs.Tryz.prog G 100000
def tk (k : Nat) : Value := .chan (some k)
def nt (n : Int) : Value := .int .i64 n
def none25 (tab : List (TKey × Value)) (a b c : Value) : Bool := truth ((R25n ⟨1, tab⟩).call 4 [a, b, c] ⟨putAll .leaf [(0, halves)], 10⟩)
/-- 'most' below 1. -/
def tabA : List (TKey × Value) := [(.bin .geq 3 (tk 2) (nt 1), .bool false), (.bin .mul 3 (nt 2) (tk 2), tk 4), (.bin .add 3 (tk 4) (nt 1), tk 5), (.bin .lss 3 (tk 2) (nt 1), .bool true)]
/-- 'most' above 3. -/
def tabB (r : List (TKey × Value)) : List (TKey × Value) := [(.bin .geq 3 (tk 2) (nt 1), .bool true), (.bin .leq 3 (tk 2) (nt 3), .bool false), (.bin .mul 3 (nt 2) (tk 2), tk 4), (.bin .add 3 (tk 4) (nt 1), tk 5), (.bin .lss 3 (tk 2) (nt 1), .bool false)] ++ r
def tabB1 : List (TKey × Value) := [(.bin .gtr 3 (tk 5) (nt 7), .bool true)]
def tabB2 : List (TKey × Value) := [(.bin .gtr 3 (tk 5) (nt 7), .bool false), (.bin .lss 3 (tk 1) (nt 0), .bool true)]
def tabB3 : List (TKey × Value) := [(.bin .gtr 3 (tk 5) (nt 7), .bool false), (.bin .lss 3 (tk 1) (nt 0), .bool false), (.bin .geq 3 (tk 1) (tk 5), .bool true)]
/-- 'id' below 0. -/
def tabC1 : List (TKey × Value) := [(.bin .geq 3 (tk 1) (nt 0), .bool false), (.bin .lss 3 (tk 1) (nt 0), .bool true)]
/-- 'id' above 2 * most. -/
def tabC2 (m : Nat) : List (TKey × Value) := [(.bin .geq 3 (tk 1) (nt 0), .bool true), (.bin .leq 3 (tk 1) (nt (2 * (m : Int))), .bool false), (.bin .lss 3 (tk 1) (nt 0), .bool false), (.bin .geq 3 (tk 1) (nt (2 * (m : Int) + 1)), .bool true)]
/-- 'nonce': below 1; above the greatest number; between. -/
def tabD (below above : Bool) : List (TKey × Value) := [(.bin .lss 3 (tk 3) (nt 1), .bool below), (.bin .gtr 3 (tk 3) (nt 9007199254740992), .bool above), (.bin .geq 3 (tk 3) (nt 1), .bool (!below)), (.bin .leq 3 (tk 3) (nt 9007199254740992), .bool (!above))]
end Go.Cre
end
