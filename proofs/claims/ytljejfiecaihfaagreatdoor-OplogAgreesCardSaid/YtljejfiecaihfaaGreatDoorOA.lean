/- oplog: the number of a log's last entry, the entry of a number; for every log, in whatever world. -/
import Derived.Test.YtljejfiecaihfaaGreatDoorProg
import Derived.WalkKit
import Derived.WalkLawsBesides
import Derived.WalkSpells
import Derived.Outline
import Derived.Handy
import Derived.Deep.QuietTactic
import Derived.BigQuiet
import Derived.KernelRfl
import Derived.Lib.Hide
import Derived.LoopTactic
namespace Go.Proofs.YtljejfiecaihfaaGreatDoor
open Go Go.RowKit
set_option maxRecDepth 100000
theorem ret_int {k : IntKind} {a b : Int} (h : a = b) : Ending.returned (.int k a) = .returned (.int k b) := by rw [h]
/-- a log: its base, its state, its entries' row -/
abbrev lg (b : Nat) (s : ByteArray) (ao : Option Addr) (n cap : Nat) : Value := .agg #[.int .i64 b, .string s, .slice ao n cap]
theorem op_any (w : World) (b : Nat) (s : ByteArray) (ao : Option Addr) (n cap : Nat) (h : b + n ≤ 9223372036854775807) :
    Calls Tryz.prog 10 #[lg b s ao n cap] w fun e w' => e = .returned (.int .i64 ((b + n : Nat) : Int)) ∧ w' = w.alloc (.cells #[.int .i64 b, .string s, .slice ao n cap] 26) := by
  go_enter Tryz.func10, Tryz.ntmps10
  go_wp2
  go_ret
  exact ⟨ret_int (by omega), rfl⟩
/-- an entry: client, number, text -/
structure Ent where
  c : Int
  k : Int
  t : ByteArray
abbrev Ent.val (e : Ent) : Value := .agg #[.int .i64 e.c, .int .i64 e.k, .string e.t]
/-- a row of entries, as it is read -/
def RowAt (w : World) (ao : Option Addr) (es : List Ent) : Prop :=
  ∀ j e, es[j]? = some e → ∃ g off, ao = some ⟨g, off, none⟩ ∧ g < w.heap.size ∧
    w.cell? ⟨g, off + j * 3, none⟩ = some (.int .i64 e.c) ∧ w.cell? ⟨g, off + j * 3 + 1, none⟩ = some (.int .i64 e.k) ∧ w.cell? ⟨g, off + j * 3 + 2, none⟩ = some (.string e.t)
theorem at_any (w : World) (b : Nat) (s : ByteArray) (ao : Option Addr) (es : List Ent) (cap j : Nat) (e : Ent) (h : b + es.length ≤ 9223372036854775807) (hr : RowAt w ao es) (hj : es[j]? = some e) :
    Calls Tryz.prog 16 #[lg b s ao es.length cap, .int .i64 ((b + j + 1 : Nat) : Int)] w fun r w' => r = .returned (.tuple #[e.val, .bool true]) ∧ Below w.heap.size w w' := by
  have hjl : j < es.length := (List.getElem?_eq_some_iff.1 hj).1
  obtain ⟨g, off, rfl, hg, c0, c1, c2⟩ := hr j e hj
  have n1 : decide (((b + j + 1 : Nat) : Int) ≤ (b : Int)) = false := decide_eq_false (by omega)
  have n2 : decide (((b + j + 1 : Nat) : Int) > ((b + es.length : Nat) : Int)) = false := decide_eq_false (by omega)
  have key : ∀ (A B C : Obj) (x : Nat), (((w.alloc A).alloc B).alloc C).cell? ⟨g, x, none⟩ = w.cell? ⟨g, x, none⟩ := by
    intro A B C x
    have h1 := (((Below.refl w.heap.size w).alloc (Nat.le_refl _) A).alloc (by simp) B).alloc (by simp; omega) C
    exact h1.cell (p := ⟨g, x, none⟩) hg
  have ej : b + j + 1 - b - 1 = j := by omega
  have d0 : ∀ A B C : Obj, (((w.alloc A).alloc B).alloc C).cell? ⟨g, off + (b + j + 1 - b - 1) * 3, none⟩ = some (.int .i64 e.c) := by intro A B C; rw [ej, key]; exact c0
  have d1 : ∀ A B C : Obj, (((w.alloc A).alloc B).alloc C).cell? ⟨g, off + (b + j + 1 - b - 1) * 3 + 1, none⟩ = some (.int .i64 e.k) := by intro A B C; rw [ej, key]; exact c1
  have d2 : ∀ A B C : Obj, (((w.alloc A).alloc B).alloc C).cell? ⟨g, off + (b + j + 1 - b - 1) * 3 + 2, none⟩ = some (.string e.t) := by intro A B C; rw [ej, key]; exact c2
  clear ej key
  clear c0 c1 c2 hr
  go_enter Tryz.func16, Tryz.ntmps16
  go_wp2_with (go_at_call 10; refine (op_any _ _ _ _ _ _ h).mono ?_; rintro r w' ⟨rfl, rfl⟩)
  go_returns
  refine ⟨?_, ?_⟩
  · simp
  · go_grown
end Go.Proofs.YtljejfiecaihfaaGreatDoor
