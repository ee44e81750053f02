/- oplog: two logs of plain entries, by the evaluator. -/
import Derived.Test.YtljejfiecaihfaaGreatDoorOJ
namespace Go.Proofs.YtljejfiecaihfaaGreatDoor
open Go Go.RowKit Go.Cre
set_option maxRecDepth 1000000
noncomputable section
def lgTab (c : Nat) (r : Bool) : List (TKey × Value) :=
  (.len 22 (tk 1), tk 2) :: (.bin .lss 3 (nt c) (tk 2), .bool r) :: (((List.range c).map fun (i : Nat) => (TKey.bin .lss 3 (nt i) (tk 2), Value.bool true)) ++ (List.range c).map fun (i : Nat) => (TKey.idxA 22 (tk 1) (nt i), Value.pointer (some ⟨0, 3 * i, none⟩)))
def lgRun (c : Nat) (r : Bool) (e : Nat) : Option (List (Value × ASt)) :=
  (RT ⟨0, lgTab c r⟩ []).call 5 [nt 3, .string sS, tk 1] ⟨putAll .leaf [(0, .cells (toks (3 * c)) e 1 true .any true)], 500⟩
def lgOk (c : Nat) (r : Bool) (e : Nat) : Bool :=
  chk (lgRun c r e) fun x => match x.1 with
    | .tuple ⟨[v, u]⟩ => isLogS 3 sS c (toks (3 * c)) v x.2 && isAgg3 u
    | _ => false
theorem lg0 (e : Nat) : (([0, 1, 2, 3, 4, 5, 6, 7, 8, 9]).all fun c => lgOk c false e) = true := by kernel_rfl
theorem lg1 (e : Nat) : (([10, 11, 12, 13, 14]).all fun c => lgOk c false e) = true := by kernel_rfl
theorem lg2 (e : Nat) : (([15, 16, 17]).all fun c => lgOk c false e) = true := by kernel_rfl
theorem lg3 (e : Nat) : (([18, 19, 20]).all fun c => lgOk c false e) = true := by kernel_rfl
theorem lg4 (e : Nat) : (([21, 22]).all fun c => lgOk c false e) = true := by kernel_rfl
theorem lg5 (e : Nat) : (([23, 24]).all fun c => lgOk c false e) = true := by kernel_rfl
theorem lg6 (e : Nat) : (([25, 26]).all fun c => lgOk c false e) = true := by kernel_rfl
theorem lg7 (e : Nat) : (([27, 28]).all fun c => lgOk c false e) = true := by kernel_rfl
theorem lg8 (e : Nat) : (([29, 30]).all fun c => lgOk c false e) = true := by kernel_rfl
theorem lgMore (e : Nat) : lgOk 30 true e = true := by kernel_rfl
theorem lg_all (e c : Nat) (h : c ≤ 30) : lgOk c false e = true := by
  have key : ∀ {l : List Nat}, (l.all fun c => lgOk c false e) = true → c ∈ l → lgOk c false e = true := fun h hc => List.all_eq_true.1 h c hc
  by_cases h0 : c < 10
  · exact key (lg0 e) (by simp only [List.mem_cons, List.not_mem_nil, or_false]; omega)
  by_cases h1 : c < 15
  · exact key (lg1 e) (by simp only [List.mem_cons, List.not_mem_nil, or_false]; omega)
  by_cases h2 : c < 18
  · exact key (lg2 e) (by simp only [List.mem_cons, List.not_mem_nil, or_false]; omega)
  by_cases h3 : c < 21
  · exact key (lg3 e) (by simp only [List.mem_cons, List.not_mem_nil, or_false]; omega)
  by_cases h4 : c < 23
  · exact key (lg4 e) (by simp only [List.mem_cons, List.not_mem_nil, or_false]; omega)
  by_cases h5 : c < 25
  · exact key (lg5 e) (by simp only [List.mem_cons, List.not_mem_nil, or_false]; omega)
  by_cases h6 : c < 27
  · exact key (lg6 e) (by simp only [List.mem_cons, List.not_mem_nil, or_false]; omega)
  by_cases h7 : c < 29
  · exact key (lg7 e) (by simp only [List.mem_cons, List.not_mem_nil, or_false]; omega)
  by_cases h8 : c < 31
  · exact key (lg8 e) (by simp only [List.mem_cons, List.not_mem_nil, or_false]; omega)
  omega
end
end Go.Proofs.YtljejfiecaihfaaGreatDoor
