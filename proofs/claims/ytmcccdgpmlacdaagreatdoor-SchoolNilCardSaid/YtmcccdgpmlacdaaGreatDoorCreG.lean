/-
Making slices and maps; interface values; maps read and written; iterators.
-/
import Derived.Test.YtmcccdgpmlacdaaGreatDoorCreF
import Derived.Laws.BytesString
import Derived.IntWalk
noncomputable section
namespace Go.Cre
open Go.RowKit (Below)

section
variable {P : Program} {B : Nat} {w0 : World} {ρ : Ren} {σ : ASt} {w : World}

def bytesT (P : Program) (t : TypeId) : Option Nat := (P.info? t).map (·.bytes)
theorem bytesT_run {t : TypeId} {n : Nat} (h : bytesT P t = some n) : ∃ i, (typeInfo t).run P w = .ok i w ∧ i.bytes = n := by
  unfold bytesT at h
  cases hi : P.info? t with
  | none => simp [hi] at h
  | some i => simp [hi] at h; exact ⟨i, by simp [typeInfo, hi], h⟩

def makeSliceA (P : Program) (σ : ASt) (t : TypeId) (l c : Value) : Option (Value × ASt) :=
  match natOf l, natOf c, P.underlying t with
  | some l, some c, some (.slice elem) => match sizeT P elem, zeroT P elem, bytesT P elem with
    | some n, some z, some b =>
      bif Nat.ble l c && Nat.ble c 16777216 && Nat.ble (b * c) 281474976710656 then some (rowA σ elem n (zerosL z (c * n)) false .no l c) else none
    | _, _, _ => none
  | _, _, _ => none

theorem wrap_small {n : Nat} (h : n ≤ 16777216) : IntKind.i64.wrap (n : Int) = n := by
  have : (n : Int) ≤ 16777216 := by omega
  exact IntWalk.i64_in _ (by omega)

theorem makeSliceA_sound (h : WRel B w0 ρ σ w) {t : TypeId} {l c l' c' v : Value} {σ' : ASt} (hm : makeSliceA P σ t l c = some (v, σ')) (hl : VRel ρ l l') (hc : VRel ρ c c') :
    Gives P B w0 ρ σ w (Instr.makeSlice t l' c') v σ' := by
  unfold makeSliceA at hm
  split at hm
  · rename_i l1 c1 elem el ec hu
    obtain ⟨k1, rfl, _⟩ := natOf_some el hl
    obtain ⟨k2, rfl, _⟩ := natOf_some ec hc
    split at hm
    · rename_i n z b hn hz hby
      cases hb : (Nat.ble l1 c1 && Nat.ble c1 16777216 && Nat.ble (b * c1) 281474976710656) with
      | false => rw [hb] at hm; cases hm
      | true =>
        rw [hb] at hm
        simp only [cond_true, Option.some.injEq] at hm
        simp only [Bool.and_eq_true, Nat.ble_eq] at hb
        obtain ⟨⟨b1, b2⟩, b3⟩ := hb
        obtain ⟨i, hi, rfl⟩ := bytesT_run (w := w) hby
        obtain ⟨zv, hz1, hz2, hfl⟩ := zeroT_run w hz
        have hzl := zerosL_length z (c1 * n)
        obtain ⟨ρ', e1, e2, e3, e4⟩ := rowA_sound h elem n false .no (0, 0) l1 c1 0 [] (flatL_refl (zerosL_flat hfl (c1 * n))) (by simp) (by omega) (fun _ => rfl) b1 rfl
        rw [hm] at e2 e3 e4
        refine ⟨ρ', _, _, ?_, e1, e2, e3, e4⟩
        have wl := wrap_small (n := l1) (by omega)
        have wc := wrap_small (n := c1) (by omega)
        have t1 : ¬ ((281474976710656 : Int) < (i.bytes : Int) * (c1 : Int)) := by
          have : ((i.bytes * c1 : Nat) : Int) ≤ 281474976710656 := Int.ofNat_le.2 b3
          simp only [Int.natCast_mul] at this
          omega
        have t2 : ¬ ((c1 : Int) < 0) := by omega
        have t3 : ¬ ((l1 : Int) < 0) := by omega
        have t4 : ¬ ((l1 : Int) > (c1 : Int)) := by omega
        by_cases h0 : c1 * n = 0
        · have e5 := zeros_none (z := z)
          rw [h0] at e3 ⊢
          simp [Instr.makeSlice, und_run w hu, asInt, asIntOf, hi, wl, wc, t1, t2, t3, t4, sizeT_run w hn, h0, e5, newRow]
        · have e5 := zerosL_eq zv (c1 * n)
          rw [hz2] at e5
          simp [Instr.makeSlice, und_run w hu, asInt, asIntOf, hi, wl, wc, t1, t2, t3, t4, sizeT_run w hn, h0, hz1, e5, newRow]
    · cases hm
  · cases hm

def makeMapA (σ : ASt) (r : Option Value) : Option (Value × ASt) :=
  match r with
  | none => some (.map (some σ.next), σ.new (.map [] 0))
  | some _ => none

theorem makeMapA_sound (h : WRel B w0 ρ σ w) {t : TypeId} {r r' : Option Value} {v : Value} {σ' : ASt} (hm : makeMapA σ r = some (v, σ')) (hr : ORelV ρ r r') :
    Gives P B w0 ρ σ w (Instr.makeMap t r') v σ' := by
  unfold makeMapA at hm
  split at hm
  · cases r' with
    | some _ => exact hr.elim
    | none =>
      simp only [Option.some.injEq, Prod.mk.injEq] at hm
      obtain ⟨rfl, rfl⟩ := hm
      obtain ⟨ρ', h1, h2, h3⟩ := h.new (.map [] 0) (.map #[] 0) ⟨w.heap.size, 0, 0, 0, 0, undef⟩ rfl (fun ρ' hs => ⟨[], rfl, .nil⟩)
      exact ⟨ρ', _, _, by simp [Instr.makeMap], h1, .map h3, h2, Nat.le_succ _⟩
  · cases hm

/-! ### Interface values, function values -/

def makeIfaceA (P : Program) (t : TypeId) (x : Value) : Option Value :=
  match P.underlying t with
  | some (.interface _) => none
  | some _ => some (.iface t x)
  | none => none

theorem makeIfaceA_sound {t : TypeId} {x x' v : Value} (h : makeIfaceA P t x = some v) (hx : VRel ρ x x') :
    ∃ v', (Instr.makeInterface t x').run P w = .ok v' w ∧ VRel ρ v v' := by
  unfold makeIfaceA at h
  split at h
  · cases h
  · rename_i d hne hu
    simp only [Option.some.injEq] at h
    subst h
    refine ⟨.iface t x', ?_, .iface hx⟩
    simp only [Instr.makeInterface, Sem.run_bind, und_run w hu, Result.andThen_ok]
    cases d <;> first | rfl | exact absurd rfl (hne _)
  · cases h

def typeAssertA (P : Program) (x : Value) (asserted : TypeId) (ok : Bool) : Option Value :=
  match P.underlying asserted, x with
  | some (.interface _), _ => none
  | some _, .iface t v => bif Nat.beq t asserted then some (bif ok then .tuple ⟨[v, .bool true]⟩ else v) else
      bif ok then (match zeroV P asserted with | some z => some (.tuple ⟨[z, .bool false]⟩) | none => none) else none
  | _, _ => none

theorem typeAssertA_sound {x x' v : Value} {xt asserted : TypeId} {ok : Bool} (h : typeAssertA P x asserted ok = some v) (hx : VRel ρ x x') :
    ∃ v', (Instr.typeAssert x' xt asserted ok).run P w = .ok v' w ∧ VRel ρ v v' := by
  unfold typeAssertA at h
  split at h
  · cases h
  · rename_i d t v0 hne hu
    cases hx with
    | flat hf => simp [flat] at hf
    | iface hv =>
      rename_i v1
      have key : ∀ (r : Value), (if t = asserted then (pure (if ok = true then .tuple #[v1, .bool true] else v1) : Sem Value) else
          (if ok = true then do pure (.tuple #[← zeroValue asserted, .bool false]) else runtimePanic (.typeAssertion (some xt) (some t) asserted ""))).run P w = .ok r w →
          (Instr.typeAssert (.iface t v1) xt asserted ok).run P w = .ok r w := by
        intro r hr
        simp only [Instr.typeAssert, Sem.run_bind, und_run w hu, Result.andThen_ok]
        cases d <;> first | exact absurd rfl (hne _) | exact hr
      cases hb : Nat.beq t asserted with
      | true =>
        rw [hb] at h
        simp only [cond_true, Option.some.injEq] at h
        have hb := Nat.eq_of_beq_eq_true hb
        subst hb
        cases ok with
        | true =>
          subst h
          exact ⟨.tuple #[v1, .bool true], key _ (by simp), .tuple (.cons hv (.cons (.flat rfl) .nil))⟩
        | false =>
          subst h
          exact ⟨v1, key _ (by simp), hv⟩
      | false =>
        rw [hb] at h
        have hne' : ¬ t = asserted := fun e => by rw [e, Nat.beq_refl] at hb; cases hb
        cases ok with
        | true =>
          simp only [cond_false, cond_true] at h
          split at h
          · rename_i z hz
            simp only [Option.some.injEq] at h
            subst h
            obtain ⟨hz1, hz2⟩ := zeroV_run w hz
            exact ⟨.tuple #[z, .bool false], key _ (by simp [hne', hz1]), .tuple (.cons (flat2_refl hz2) (.cons (.flat rfl) .nil))⟩
          · cases h
        | false => simp at h
  · cases h

end
end Go.Cre
end
