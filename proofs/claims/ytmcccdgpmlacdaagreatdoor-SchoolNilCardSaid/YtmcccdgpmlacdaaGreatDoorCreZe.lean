/-
Facts of the table: strings.
-/
import Derived.Test.YtmcccdgpmlacdaaGreatDoorCreZd
import Derived.ChangeKeysEq
noncomputable section
namespace Go.Cre
section
variable {P : Program} {ρ : Ren} {x : Value} {s : ByteArray} {t : TypeId}
theorem fLen {v v' : Value} (hu : P.underlying t = some .string) (hx : Solid ρ x (.string s)) (hv : VRel ρ v v') (h : v' = nt s.size) : Fact P ρ (.len t x, v) :=
  ⟨_, _, hx, hv, fun w ats ty cs ha => by subst h; simp [builtin, Builtin.len_, ha, run_underlying hu, goInt]⟩
theorem fIdx {i : Nat} {b : UInt8} (hu : P.underlying t = some .string) (hx : Solid ρ x (.string s)) (h : s[i]? = some b) : Fact P ρ (.idx t x (nt i), .int .u8 b.toNat) :=
  ⟨_, _, _, hx, sN, .flat rfl, fun w => by
    simp [Instr.index, asIntOf, run_underlying hu, h]⟩
theorem fSeq {s' : ByteArray} {y : Value} {r : Bool} (hx : Solid ρ x (.string s)) (hy : Solid ρ y (.string s')) (h : (s.toList == s'.toList) = r) : Fact P ρ (.bin .eql t x y, .bool r) :=
  ⟨_, _, _, hx, hy, .flat rfl, fun w ox oy => by subst h; rfl⟩
theorem bound_ok {k n : Nat} {c : BoundsCode} (h : k ≤ n) (w : World) : (Instr.sliceBound (nt k) n c).run P w = .ok k w := by
  have h2 : (0 : Int) ≤ k ∧ (k : Int) ≤ n := by omega
  simp [Instr.sliceBound, asIntOf, h2]
theorem fCutF {k : Nat} {v : Value} (hu : P.underlying t = some .string) (hx : Solid ρ x (.string s)) (hk : k ≤ s.size) (hv : VRel ρ v (.string (s.extract k s.size))) : Fact P ρ (.cut t x (some (nt k)) none, v) := by
  refine ⟨_, some (nt k), none, _, hx, sN, trivial, hv, fun w => ?_⟩
  simp [Instr.sliceAt, Instr.slice, Instr.sliceBounds, run_underlying hu, bound_ok hk]
theorem fCutT {k : Nat} {v : Value} (hu : P.underlying t = some .string) (hx : Solid ρ x (.string s)) (hk : k ≤ s.size) (hv : VRel ρ v (.string (s.extract 0 k))) : Fact P ρ (.cut t x none (some (nt k)), v) := by
  refine ⟨_, none, some (nt k), _, hx, trivial, sN, hv, fun w => ?_⟩
  simp [Instr.sliceAt, Instr.slice, Instr.sliceBounds, run_underlying hu, bound_ok hk]
end
def chk (rs : Option (List (Value × ASt))) (p : Value × ASt → Bool) : Bool :=
  match rs with
  | some rs => rs.all p
  | none => false
section
open Go.RowKit (Below)
variable {P : Program} {G : Gl} {B : Nat} {w0 w : World} {ρ : Ren} {σ : ASt}
/-- A call that the evaluator answers: each of its outcomes passes. -/
theorem calls_chk {R : Rec} (hR : RecOk P G B w0 R) {f : FuncId} {args args' : List Value} {p : Value × ASt → Bool} (h : chk (R.call f args σ) p = true) (hg : GOk P G ρ) (hw : WRel B w0 ρ σ w) (ha : LRel ρ args args') :
    Calls P f ⟨args'⟩ w fun e w' => ∃ r, p r = true ∧ ∃ ρ' v', e = .returned v' ∧ Ext σ.next ρ ρ' ∧ VRel ρ' r.1 v' ∧ WRel B w0 ρ' r.2 w' := by
  unfold chk at h
  split at h
  · rename_i rs hrs
    refine (callsIn_wide.1 (hR.call f args σ rs hrs ρ w args' hg hw ha)).mono ?_
    rintro e w' ⟨r, hr, ρ', v', h1, h2, _, h3, h4⟩
    exact ⟨r, List.all_eq_true.1 h r hr, ρ', v', h1, h2, h3, h4⟩
  · cases h
end
end Go.Cre
end
