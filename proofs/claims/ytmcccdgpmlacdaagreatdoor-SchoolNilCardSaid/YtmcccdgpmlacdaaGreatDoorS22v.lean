/- What SchoolNil's walk is told; long rows of zero bytes. -/
import Derived.Test.YtmcccdgpmlacdaaGreatDoorS22p
import Derived.Test.YtmcccdgpmlacdaaGreatDoorCreZf
import Derived.IntWalk
import Derived.Laws.MakeOwn
import Derived.Laws.BytesArg
namespace Go.Proofs.YtmcccdgpmlacdaaGreatDoor
open Go Go.RowKit Go.Cre
set_option maxRecDepth 1000000
noncomputable section
def envN (N : Int) (k n : Nat) : List (Nat × Tgt) := [(1, tokT (nt N)), (2, tokT (nt k)), (3, tokT (nt n)), (4, tokT (.string (zs n))), (5, tokT (.string (zPut n))), (6, tokT (nt ((n + 15 : Nat) : Int))), (7, tokT (.string (zs 40000)))]
def tabN (n : Nat) (r : Bool) : List (TKey × Value) := [(.bin .and 3 (tk 1) (nt 63), tk 2), (.bin .add 3 (nt 8160) (tk 2), tk 3), (.len 9 (tk 4), tk 3), (.len 9 (tk 5), tk 6), (.bin .gtr 3 (tk 6) (nt 8192), .bool r),
  (.bin .gtr 3 (tk 3) (nt 65536), .bool false), (.bin .lss 3 (nt 0) (tk 3), .bool true), (.idx 9 (tk 4) (nt 0), .int .u8 0), (.pin (tk 4), .string (zs n)), (.pin (tk 5), .string (zPut n))]
def toldN : List Cre.Told := [⟨4, [], .bool true⟩, ⟨7, [cmd (tk 4)], tk 5⟩]
def xN : Known := withTold x22 toldN
def RN (n : Nat) (r : Bool) : Rec := run xN (drawnB xN Tryz.prog ⟨0, tabN n r⟩) Tryz.prog ⟨0, tabN n r⟩ 100000
def Tk (N : Int) (k n : Nat) (ρ : Ren) : Prop := ∀ j t, lookE (envN N k n) j = some t → ρ j = some t
theorem tk_ext {N : Int} {k n m : Nat} {ρ ρ' : Ren} (h : Tk N k n ρ) (hx : Ext m ρ ρ') (hn : 30 ≤ m) : Tk N k n ρ' := fun j t hj => by
  have h1 := lookE_mem hj
  simp only [envN, List.mem_cons, Prod.mk.injEq, List.not_mem_nil, or_false] at h1
  exact (hx j (by omega)).trans (h j t hj)
theorem le_put {F : Fr} {ts : List Value} {ds : List Deferred} {m : Nat} (h : m ≤ F.σ.next) : m ≤ (⟨ts, ds, F.σ⟩ : Fr).σ.next := h
abbrev nt8 (n : Int) : Value := .int .u8 n
theorem u34 : Tryz.prog.underlying 34 = some (.slice 5) := by kernel_rfl
theorem u35 : Tryz.prog.underlying 5 = some (.int .u8) := by kernel_rfl
theorem i35 : (Tryz.prog.info? 5).isSome = true := by kernel_rfl
theorem i35b : (Tryz.prog.info? 5).map (fun i => (i.zero, i.size, i.bytes)) = some (some (nt8 0), 1, 1) := by kernel_rfl
theorem make_bytes (w : World) (n : Nat) (hn : n ≤ 100000) : (Instr.makeSlice 34 (nt n) (nt n)).run Tryz.prog w = .ok (.slice (some ⟨w.heap.size, 0, none⟩) n n) (w.alloc (.cells (madeCells (nt8 0).cells n) 5)) := by
  obtain ⟨i, hi⟩ := Option.isSome_iff_exists.1 i35
  have h := i35b
  rw [hi] at h
  simp only [Option.map_some, Option.some.injEq, Prod.mk.injEq] at h
  have := run_makeSlice (P := Tryz.prog) w 34 5 i (nt8 0) u34 hi h.1 .i64 .i64 (n : Int) (n : Int) (by omega) (Int.le_refl _) (by rw [h.2.1]; simp; omega) (by rw [h.2.2]; omega) (by omega)
  rw [h.2.1] at this
  simpa using this
theorem heap_alloc (w : World) (o : Obj) : (w.alloc o).heap[w.heap.size]? = some o := by
  unfold World.alloc
  simp
theorem make_op {w : World} {a : Act} {o : Oper} {l c : Operand} {n : Nat} (ho : o.op = .makeSlice 34 l c) (hl : a.eval l = nt n) (hc : a.eval c = nt n) (hn : n ≤ 100000) :
    (execOp a.eval o).run Tryz.prog w = .ok (.value (.slice (some ⟨w.heap.size, 0, none⟩) n n)) (w.alloc (.cells (madeCells (nt8 0).cells n) 5)) := by
  obtain ⟨dst, op, type, pos, after, guard⟩ := o
  simp only at ho
  subst ho
  have := make_bytes w n hn
  simp only [execOp, hl, hc, Sem.run_bind, this, Result.andThen_ok, Sem.run_pure]
theorem conv_op {w : World} {a : Act} {o : Oper} {x : Operand} {n : Nat} (ho : o.op = .convert 34 9 x) (hx : a.eval x = .slice (some ⟨w.heap.size, 0, none⟩) n n) :
    (execOp a.eval o).run Tryz.prog (w.alloc (.cells (madeCells (nt8 0).cells n) 5)) = .ok (.value (.string (zs n))) (w.alloc (.cells (madeCells (nt8 0).cells n) 5)) := by
  obtain ⟨dst, op, type, pos, after, guard⟩ := o
  simp only at ho
  subst ho
  have := run_convert_bytes_arg (P := Tryz.prog) (w.alloc (.cells (madeCells (nt8 0).cells n) 5)) 34 5 u34 u35 w.heap.size 0 n n (List.replicate n 0) (by simp) (fun i hi => by
    have h1 : (w.alloc (.cells (madeCells (nt8 0).cells n) 5)).heap[w.heap.size]? = some (.cells (madeCells (nt8 0).cells n) 5) := heap_alloc w _
    have h2 : (madeCells (nt8 0).cells n)[0 + i]? = some (nt8 0) := by
      have h3 : 0 + i < (madeCells (nt8 0).cells n).size := by rw [size_madeCells]; omega
      rw [Array.getElem?_eq_getElem h3]
      simp only [madeCells, Array.getElem_map, Array.getElem_range]
      have : (0 + i) % (nt8 0).cells.size = 0 := Nat.mod_one _
      rw [this]
      rfl
    have h4 : (List.replicate n (0 : Int)).getD i 0 = 0 := by simp [List.getD, hi]
    rw [h4]
    unfold World.cell?
    rw [h1]
    exact h2) 9 u9
  simp only [execOp, hx, Sem.run_bind, this, Result.andThen_ok, Sem.run_pure]
  have e : strOfNums (List.replicate n 0) = zs n := by
    simp [strOfNums, zs]
  rw [e]
end
end Go.Proofs.YtmcccdgpmlacdaaGreatDoor
