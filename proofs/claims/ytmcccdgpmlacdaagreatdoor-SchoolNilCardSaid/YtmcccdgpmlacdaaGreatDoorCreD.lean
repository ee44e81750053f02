/-
Operations that make, read and write memory.
-/
import Derived.Test.YtmcccdgpmlacdaaGreatDoorCreC
noncomputable section
namespace Go.Cre
open Go.RowKit (Below)

section types
variable (P : Program)
def sizeT (t : TypeId) : Option Nat := (P.info? t).map (·.size)
def zeroV (t : TypeId) : Option Value := ((P.info? t).bind (·.zero)).bind fun z => bif flat2 z then some z else none
def zeroT (t : TypeId) : Option (List Value) := ((P.info? t).bind (·.zero)).bind fun z => bif z.cells.toList.all flat then some z.cells.toList else none
def aggT (t : TypeId) : Option Bool := (P.underlying t).map fun | .struct _ | .array _ _ => true | _ => false
variable {P} {t : TypeId} (w : World)

theorem sizeT_run {n : Nat} (h : sizeT P t = some n) : (sizeOf t).run P w = .ok n w := by
  unfold sizeT at h
  cases hi : P.info? t with
  | none => simp [hi] at h
  | some i => simp [hi] at h; simp [sizeOf, typeInfo, hi, h]

theorem zeroV_run {z : Value} (h : zeroV P t = some z) : (zeroValue t).run P w = .ok z w ∧ flat2 z = true := by
  unfold zeroV at h
  cases hi : P.info? t with
  | none => simp [hi] at h
  | some i =>
    cases hz : i.zero with
    | none => simp [hi, hz] at h
    | some z' =>
      simp only [hi, hz, Option.bind_some] at h
      cases hf : flat2 z' with
      | false => simp [hf] at h
      | true => simp [hf] at h; subst h; exact ⟨by simp [zeroValue, typeInfo, hi, hz], hf⟩

theorem zeroT_run {zs : List Value} (h : zeroT P t = some zs) : ∃ z, (zeroValue t).run P w = .ok z w ∧ z.cells.toList = zs ∧ zs.all flat = true := by
  unfold zeroT at h
  cases hi : P.info? t with
  | none => simp [hi] at h
  | some i =>
    cases hz : i.zero with
    | none => simp [hi, hz] at h
    | some z' =>
      simp only [hi, hz, Option.bind_some] at h
      cases hf : z'.cells.toList.all flat with
      | false => simp [hf] at h
      | true => simp only [hf, cond_true, Option.some.injEq] at h; subst h; exact ⟨z', by simp [zeroValue, typeInfo, hi, hz], rfl, hf⟩

theorem und_run {d : TypeDesc} (h : P.underlying t = some d) : (underlying t).run P w = .ok d w := by
  simp [underlying, h]

theorem aggT_run {b : Bool} (h : aggT P t = some b) : (isAgg t).run P w = .ok b w := by
  unfold aggT at h
  cases hu : P.underlying t with
  | none => simp [hu] at h
  | some d =>
    simp only [hu, Option.map_some, Option.some.injEq] at h
    simp only [isAgg, Sem.run_bind, und_run w hu, Result.andThen_ok]
    subst h
    cases d <;> rfl
end types

/-! ## A computation that asks the program alone -/

def pureRun (P : Program) {α : Type} : Sem α → Option α
  | .pure a => some a
  | .program k => pureRun P (k P)
  | .mark _ k => pureRun P k
  | _ => none

theorem pureRun_run {P : Program} {α : Type} {s : Sem α} {a : α} (h : pureRun P s = some a) (w : World) : s.run P w = .ok a w := by
  induction s generalizing w with
  | pure b => simp [pureRun] at h; subst h; rfl
  | program k ih => simp only [pureRun] at h; exact ih P h w
  | mark m k ih => simp only [pureRun] at h; exact ih h w
  | _ => simp [pureRun] at h

theorem pureRun_bind {P : Program} {α β : Type} (s : Sem α) (f : α → Sem β) : pureRun P (s >>= f) = (pureRun P s).bind fun a => pureRun P (f a) := by
  show pureRun P (s.bind f) = _
  induction s with
  | pure b => rfl
  | program k ih => exact ih P
  | mark m k ih => exact ih
  | _ => rfl

/-! ## Values by their cells -/

/-- Not what stands for any value at all. -/
def solid : Value → Bool
  | .complex .. => false
  | _ => true
theorem cells_rel {ρ : Ren} {v v' : Value} (h : VRel ρ v v') (hs : solid v = true) : LRel ρ v.cells.toList v'.cells.toList := by
  cases h with
  | flat hf => cases v <;> first | exact LRel.one (.flat hf) | simp [flat] at hf
  | ptr h => exact LRel.one (.ptr h)
  | slice h hc => exact LRel.one (.slice h hc)
  | slice0 h hc => exact LRel.one (.slice0 h hc)
  | map h => exact LRel.one (.map h)
  | iface h => exact LRel.one (.iface h)
  | func a b c => exact LRel.one (.func a b c)
  | agg h => exact h
  | tuple h => exact LRel.one (.tuple h)
  | tok h h1 =>
    rename_i t
    have e : t.val.cells.toList = [t.val] := by
      revert h1
      cases t.val <;> simp [single, Value.cells]
    rw [e]
    exact LRel.one (.tok h h1)
  | hole => cases hs

def loadV (P : Program) (σ : ASt) (t : TypeId) (x : Value) : Option Value :=
  match x with
  | .pointer (some a) =>
    match aggT P t with
    | some true => match sizeT P t with
      | some n => match loadN σ a n with
        | some vs => some (.agg ⟨vs⟩)
        | none => none
      | none => none
    | some false => match loadN σ a 1 with
      | some [v] => some v
      | _ => none
    | none => none
  | _ => none

def storeV (P : Program) (σ : ASt) (t : TypeId) (x y : Value) : Option ASt :=
  match x with
  | .pointer (some a) =>
    match sizeT P t with
    | some n => bif solid y && Nat.beq y.cells.toList.length n then storeN σ a y.cells.toList else none
    | none => none
  | _ => none

/-- What a new variable of a type holds, and what lies where. -/
def newA (σ : ASt) (t : TypeId) (vs : List Value) : Value × ASt := (.pointer (some ⟨σ.next, 0, none⟩), σ.new (.cells vs t vs.length false .no false))

/-- What a computation comes to in the world. -/
def Gives (P : Program) (B : Nat) (w0 : World) (ρ : Ren) (σ : ASt) (w : World) (s : Sem Value) (v : Value) (σ' : ASt) : Prop :=
  ∃ ρ' v' w', s.run P w = .ok v' w' ∧ Ext σ.next ρ ρ' ∧ VRel ρ' v v' ∧ WRel B w0 ρ' σ' w' ∧ σ.next ≤ σ'.next

section
variable {P : Program} {B : Nat} {w0 : World} {ρ : Ren} {σ : ASt} {w : World}

theorem load1 (h : WRel B w0 ρ σ w) {b o : Nat} {v : Value} {t : Tgt} (hl : loadN σ ⟨b, o, none⟩ 1 = some [v]) (ht : ρ b = some t) :
    ∃ v', (load ⟨t.blk, t.off + o, none⟩).run P w = .ok v' w ∧ VRel ρ v v' := by
  unfold loadN at hl
  split at hl
  · rename_i cs e sz opn fr ro hg
    simp only at hg
    obtain ⟨o', ho, ys, f, rfl, _, _, hlen, hrel, _⟩ := h.obj b _ t hg ht
    dsimp only at hl
    cases hn : Nat.beq (List.take 1 (List.drop o cs)).length 1 with
    | false => rw [hn] at hl; cases hl
    | true =>
      rw [hn] at hl
      simp only [cond_true, Option.some.injEq] at hl
      have hv : cs[o]? = some v := by
        have : (List.take 1 (List.drop o cs))[0]? = some v := by rw [hl]; rfl
        simpa [List.getElem?_take, List.getElem?_drop] using this
      obtain ⟨v', h1, h2⟩ := hrel.getElem? o v hv
      have h3 : ys[t.off + o]? = some v' := by
        rw [List.getElem?_take] at h1
        split at h1
        · rwa [List.getElem?_drop] at h1
        · cases h1
      refine ⟨v', ?_, h2⟩
      have hc : w.cell? ⟨t.blk, t.off + o, none⟩ = some v' := by simp [World.cell?, ho, h3]
      simp [hc]
  · cases hl

theorem loadV_sound (h : WRel B w0 ρ σ w) {t : TypeId} {x x' v : Value} (hl : loadV P σ t x = some v) (hx : VRel ρ x x') :
    ∃ v', (Instr.loadAt t x').run P w = .ok v' w ∧ VRel ρ v v' := by
  unfold loadV at hl
  split at hl
  · cases hx with
    | flat h => simp [flat] at h
    | ptr ht =>
      rename_i b o t'
      split at hl
      · rename_i ha
        split at hl
        · rename_i n hn
          split at hl
          · rename_i vs hvs
            simp only [Option.some.injEq] at hl
            subst hl
            obtain ⟨ys, h1, h2, _⟩ := loadN_sound (P := P) h hvs ht
            exact ⟨.agg ⟨ys⟩, by simp [Instr.loadAt, Instr.sureAddr, loadVar, aggT_run w ha, sizeT_run w hn, h1], .agg h2⟩
          · cases hl
        · cases hl
      · rename_i ha
        split at hl
        · rename_i v1 hv1
          simp only [Option.some.injEq] at hl
          subst hl
          obtain ⟨v', h1, h2⟩ := load1 (P := P) h hv1 ht
          refine ⟨v', ?_, h2⟩
          simp only [Instr.loadAt, Instr.sureAddr, loadVar, Sem.run_bind, Sem.run_pure, Result.andThen_ok, aggT_run w ha]
          simpa using h1
        · cases hl
      · cases hl
  · cases hl

theorem storeV_sound (h : WRel B w0 ρ σ w) {t : TypeId} {x x' y y' : Value} {σ' : ASt} (hl : storeV P σ t x y = some σ') (hx : VRel ρ x x') (hy : VRel ρ y y') :
    ∃ w', (Instr.storeAt t x' y').run P w = .ok () w' ∧ WRel B w0 ρ σ' w' ∧ σ'.next = σ.next := by
  unfold storeV at hl
  split at hl
  · cases hx with
    | flat h => simp [flat] at h
    | ptr ht =>
      rename_i b o t'
      split at hl
      · rename_i n hn
        cases hc : (solid y && Nat.beq y.cells.toList.length n) with
        | false => rw [hc] at hl; cases hl
        | true =>
          rw [hc] at hl
          simp only [cond_true] at hl
          simp only [Bool.and_eq_true] at hc
          have hsol := hc.1
          have hc := Nat.eq_of_beq_eq_true hc.2
          have hr := cells_rel hy hsol
          obtain ⟨w', h1, h2, h3⟩ := storeN_sound (P := P) h hl ht hr
          refine ⟨w', ?_, h2, h3⟩
          have hsz : ¬ y'.cells.size ≠ n := by
            have := hr.length
            simp only [Array.length_toList] at this hc
            omega
          simp only [Instr.storeAt, Instr.sureAddr, storeVar, Sem.run_bind, Sem.run_pure, Result.andThen_ok, sizeT_run w hn, hsz, if_false]
          exact h1
      · cases hl
  · cases hl

theorem newA_sound (h : WRel B w0 ρ σ w) (t : TypeId) {vs vs' : List Value} (hv : LRel ρ vs vs') :
    ∃ ρ', (newRow t ⟨vs'⟩).run P w = .ok ⟨w.heap.size, 0, none⟩ { w with heap := w.heap.push (.cells ⟨vs'⟩ t) } ∧ Ext σ.next ρ ρ' ∧
      VRel ρ' (newA σ t vs).1 (.pointer (some ⟨w.heap.size, 0, none⟩)) ∧ WRel B w0 ρ' (newA σ t vs).2 { w with heap := w.heap.push (.cells ⟨vs'⟩ t) } ∧ σ.next ≤ (newA σ t vs).2.next := by
  obtain ⟨ρ', h1, h2, h3⟩ := h.new (.cells vs t vs.length false .no false) (.cells ⟨vs'⟩ t) ⟨w.heap.size, 0, vs.length, 0, vs.length, undef⟩ rfl (fun ρ' hs =>
    ⟨vs', (0, 0), rfl, rfl, rfl, by simp [hv.length], by simpa [← hv.length] using hv.mono hs, fun _ => ⟨rfl, rfl⟩, rfl⟩)
  refine ⟨ρ', by simp [newRow], h1, ?_, h2, Nat.le_succ _⟩
  have := VRel.ptr (o := 0) h3
  simpa [newA] using this

end
end Go.Cre
end
