/-
Facts of the table: what operations on named values give.
-/
import Derived.Test.YtmcccdgpmlacdaaGreatDoorCreZ
noncomputable section
namespace Go.Cre
open Go.RowKit (Below)
abbrev nt (a : Int) : Value := .int .i64 a
abbrev tk (k : Nat) : Value := .chan (some k)
theorem GOk.bare {P : Program} {n : Nat} {tab : List (TKey × Value)} {ρ : Ren} (h : GOk P ⟨n, tab⟩ ρ) : GOk P ⟨n, []⟩ ρ := ⟨h.1, fun _ he => by cases he⟩
theorem RecOk.tab {P : Program} {n : Nat} {B : Nat} {w0 : World} {R : Rec} (h : RecOk P ⟨n, []⟩ B w0 R) (tab : List (TKey × Value)) : RecOk P ⟨n, tab⟩ B w0 R :=
  ⟨fun f args σ rs hr ρ w args' hg => h.call f args σ rs hr ρ w args' hg.bare,
   fun f args σ rs hr ρ w args' hg => h.dcall f args σ rs hr ρ w args' hg.bare,
   fun rd c fr rs hr ρ w a F hg => h.code rd c fr rs hr ρ w a F hg.bare,
   fun c fr rs hr ρ w a c₀ cs hc hg => h.codeD c fr rs hr ρ w a c₀ cs hc hg.bare,
   fun l args σ rs hr ρ w args' t ht hg => h.yield l args σ rs hr ρ w args' t ht hg.bare⟩
section
variable {P : Program} {ρ : Ren} {x y : Value} {a b : Int}
theorem sV {v : Value} (h : flat2 v = true) : Solid ρ v v := .inl (.inl ⟨h, rfl⟩)
theorem sN : Solid ρ (nt a) (nt a) := sV rfl
theorem sT {k : Nat} {t : Tgt} {v : Value} (ht : ρ k = some t) (h : t.val = v) : Solid ρ (tk k) v := .inl (.inr ⟨k, t, rfl, ht, h.symm⟩)
theorem sT0 {k : Nat} {t : Tgt} {v : Value} (ht : ρ k = some t) (h : t.val = v) : Solid0 ρ (tk k) v := .inr ⟨k, t, rfl, ht, h.symm⟩
theorem vT {k : Nat} {t : Tgt} {v : Value} (ht : ρ k = some t) (h : t.val = v) (hs : single v = true) : VRel ρ (tk k) v := by subst h; exact .tok ht hs
theorem sA3 {x y z x' y' z' : Value} (h1 : Solid0 ρ x x') (h2 : Solid0 ρ y y') (h3 : Solid0 ρ z z') : Solid ρ (.agg ⟨[x, y, z]⟩) (.agg ⟨[x', y', z']⟩) := .inr ⟨_, _, rfl, rfl, .cons h1 (.cons h2 (.cons h3 .nil))⟩
theorem fPin {k : Nat} {t : Tgt} {v : Value} (ht : ρ k = some t) (h : t.val = v) (hs : single v = true) : Fact P ρ (.pin (tk k), v) := ⟨sT ht h, vT ht h hs⟩
theorem fLss {r : Bool} (hx : Solid ρ x (nt a)) (hy : Solid ρ y (nt b)) (h : decide (a < b) = r) : Fact P ρ (.bin .lss 3 x y, .bool r) :=
  ⟨_, _, _, hx, hy, .flat rfl, fun w ox oy => by subst h; rfl⟩
theorem fLeq {r : Bool} (hx : Solid ρ x (nt a)) (hy : Solid ρ y (nt b)) (h : decide (a ≤ b) = r) : Fact P ρ (.bin .leq 3 x y, .bool r) :=
  ⟨_, _, _, hx, hy, .flat rfl, fun w ox oy => by subst h; rfl⟩
theorem fGtr {r : Bool} (hx : Solid ρ x (nt a)) (hy : Solid ρ y (nt b)) (h : decide (a > b) = r) : Fact P ρ (.bin .gtr 3 x y, .bool r) :=
  ⟨_, _, _, hx, hy, .flat rfl, fun w ox oy => by subst h; rfl⟩
theorem fGeq {r : Bool} (hx : Solid ρ x (nt a)) (hy : Solid ρ y (nt b)) (h : decide (a ≥ b) = r) : Fact P ρ (.bin .geq 3 x y, .bool r) :=
  ⟨_, _, _, hx, hy, .flat rfl, fun w ox oy => by subst h; rfl⟩
theorem fAdd {v v' : Value} (hx : Solid ρ x (nt a)) (hy : Solid ρ y (nt b)) (hv : VRel ρ v v') (h : v' = nt (IntKind.i64.wrap (a + b))) : Fact P ρ (.bin .add 3 x y, v) :=
  ⟨_, _, _, hx, hy, hv, fun w ox oy => by rw [h]; rfl⟩
theorem fSub {v v' : Value} (hx : Solid ρ x (nt a)) (hy : Solid ρ y (nt b)) (hv : VRel ρ v v') (h : v' = nt (IntKind.i64.wrap (a - b))) : Fact P ρ (.bin .sub 3 x y, v) :=
  ⟨_, _, _, hx, hy, hv, fun w ox oy => by rw [h]; rfl⟩
theorem fEq {r : Bool} (hx : Solid ρ x (nt a)) (hy : Solid ρ y (nt b)) (h : decide (a = b) = r) : Fact P ρ (.bin .eql 3 x y, .bool r) :=
  ⟨_, _, _, hx, hy, .flat rfl, fun w ox oy => by subst h; rfl⟩
end
theorem all_nil {α : Type} {p : α → Prop} : ∀ e, e ∈ ([] : List α) → p e := fun _ h => by cases h
theorem all_cons {α : Type} {p : α → Prop} {a : α} {l : List α} (h : p a) (ht : ∀ e, e ∈ l → p e) : ∀ e, e ∈ a :: l → p e := fun e he => by
  rcases List.mem_cons.1 he with rfl | he
  · exact h
  · exact ht e he
section
variable {P : Program} {G : Gl} {B : Nat} {w0 w : World} {ρ ρ' : Ren}
theorem tokV {k : Nat} {t : Tgt} {y : Value} (ht : ρ k = some t) (hy : VRel ρ (tk k) y) : y = t.val := by
  cases hy with
  | flat hf => simp [flat] at hf
  | tok h3 _ => rw [ht] at h3; cases h3; rfl
theorem ptrV {b o : Nat} {y : Value} (hy : VRel ρ (.pointer (some ⟨b, o, none⟩)) y) : ∃ t, ρ b = some t ∧ y = .pointer (some ⟨t.blk, t.off + o, none⟩) := by
  cases hy with
  | flat hf => simp [flat] at hf
  | ptr h => exact ⟨_, h, rfl⟩
theorem sliceV {b n cap : Nat} {y : Value} (hy : VRel ρ (.slice (some ⟨b, 0, none⟩) n cap) y) : ∃ t o c, ρ b = some t ∧ y = .slice (some ⟨t.blk, o, none⟩) n c ∧ (o = t.off ∨ n = 0) := by
  cases hy with
  | flat hf => simp [flat] at hf
  | slice h hc => exact ⟨_, _, _, h, rfl, .inl rfl⟩
  | slice0 h hc => exact ⟨_, _, _, h, rfl, .inr rfl⟩
theorem tupV {l : List Value} {y : Value} (hy : VRel ρ (.tuple ⟨l⟩) y) : ∃ l', y = .tuple ⟨l'⟩ ∧ LRel ρ l l' := by
  cases hy with
  | flat hf => simp [flat] at hf
  | tuple h => exact ⟨_, rfl, h⟩
theorem aggV {l : List Value} {y : Value} (hy : VRel ρ (.agg ⟨l⟩) y) : ∃ l', y = .agg ⟨l'⟩ ∧ LRel ρ l l' := by
  cases hy with
  | flat hf => simp [flat] at hf
  | agg h => exact ⟨_, rfl, h⟩
theorem consV {x : Value} {l l' : List Value} (h : LRel ρ (x :: l) l') : ∃ y r, l' = y :: r ∧ VRel ρ x y ∧ LRel ρ l r := by
  cases h with | cons h1 h2 => exact ⟨_, _, rfl, h1, h2⟩
theorem nilV {l' : List Value} (h : LRel ρ [] l') : l' = [] := by cases h; rfl
theorem GOk.ofTab {tab : List (TKey × Value)} (h : ∀ e, e ∈ tab → Fact P ρ e) : GOk P ⟨0, tab⟩ ρ := ⟨fun g hg => absurd hg (Nat.not_lt_zero g), h⟩
theorem fMax {x y v v' : Value} {a b : Int} (hx : Solid ρ x (nt a)) (hy : Solid ρ y (nt b)) (hv : VRel ρ v v') (h : v' = nt (max a b)) : Fact P ρ (.two .max 3 x y, v) := by
  refine ⟨_, _, _, hx, hy, hv, fun w ats ty cs _ => ?_⟩
  subst h
  rcases Int.le_total a b with h1 | h1
  · rw [Int.max_eq_right h1]
    rcases Int.lt_or_eq_of_le h1 with h2 | rfl
    · simp [builtin, Builtin.max_, Builtin.max2, h2]
    · simp [builtin, Builtin.max_, Builtin.max2]
  · rw [Int.max_eq_left h1]
    have : ¬ a < b := by omega
    simp [builtin, Builtin.max_, Builtin.max2, this]
theorem fMin {x y v v' : Value} {a b : Int} (hx : Solid ρ x (nt a)) (hy : Solid ρ y (nt b)) (hv : VRel ρ v v') (h : v' = nt (min a b)) : Fact P ρ (.two .min 3 x y, v) := by
  refine ⟨_, _, _, hx, hy, hv, fun w ats ty cs _ => ?_⟩
  subst h
  rcases Int.le_total a b with h1 | h1
  · rw [Int.min_eq_left h1]
    have : ¬ b < a := by omega
    simp [builtin, Builtin.min_, Builtin.min2, this]
  · rw [Int.min_eq_right h1]
    rcases Int.lt_or_eq_of_le h1 with h2 | rfl
    · simp [builtin, Builtin.min_, Builtin.min2, h2]
    · simp [builtin, Builtin.min_, Builtin.min2]
theorem dlV {l : List Deferred} (h : DLRel ρ [] l) : l = [] := by cases h; rfl
theorem boolV {b : Bool} {y : Value} (h : VRel ρ (.bool b) y) : y = .bool b := flat_eq (v := .bool b) rfl h
theorem getD_tl (a : Array Value) (i : Nat) (d : Value) : a.getD i d = a.toList.getD i d := by
  obtain ⟨l⟩ := a
  simp [Array.getD, List.getD]
  split
  · rename_i h; simp [h]
  · rename_i h; simp [List.getElem?_eq_none (Nat.le_of_not_lt h)]
theorem ntE {a b : Int} (h : a = b) : nt a = nt b := by rw [h]
end
end Go.Cre
end
