/-
Comparing with nil; package unsafe, as far as strings.Builder leans on it.
-/
import Derived.Test.YtmcccdgpmlacdaaGreatDoorCreK
noncomputable section
namespace Go.Cre
open Go.RowKit (Below)

section
variable {P : Program} {B : Nat} {w0 : World} {ρ : Ren} {σ : ASt} {w : World}

def eqA (P : Program) (t : TypeId) (x y : Value) : Option Bool :=
  match P.underlying t, x, y with
  | some (.pointer _), .pointer (some _), .pointer none => some false
  | some (.pointer _), .pointer none, .pointer (some _) => some false
  | some (.pointer e), .pointer (some a), .pointer (some b) => match sizeT P e with
    | some 0 => none
    | some _ => bif Nat.beq a.block b.block then some (Nat.beq a.off b.off) else none
    | none => none
  | some (.slice _), .slice (some _) _ _, .slice none _ _ => some false
  | some (.slice _), .slice none _ _, .slice (some _) _ _ => some false
  | some (.map _ _), .map (some _), .map none => some false
  | some (.map _ _), .map none, .map (some _) => some false
  | some (.interface _), .iface _ _, .nilIface => some false
  | some (.interface _), .nilIface, .iface _ _ => some false
  | some (.func _ _ _), .func _ _ _, .nilFunc => some false
  | some (.func _ _ _), .nilFunc, .func _ _ _ => some false
  | _, _, _ => none

theorem eqA_in (d : Nat) {t : TypeId} {x x' y y' : Value} {b : Bool} (h : eqA P t x y = some b) (hx : VRel ρ x x') (hy : VRel ρ y y') : (Op.equalIn (d + 1) t x' y').run P w = .ok b w := by
  unfold eqA at h
  split at h
  · rename_i e a hu
    simp only [Option.some.injEq] at h; subst h
    have := flat_eq (v := .pointer none) rfl hy; subst this
    cases hx with
    | flat hf => simp [flat] at hf
    | ptr ht => simp [Op.equalIn, und_run w hu]
  · rename_i e a hu
    simp only [Option.some.injEq] at h; subst h
    have := flat_eq (v := .pointer none) rfl hx; subst this
    cases hy with
    | flat hf => simp [flat] at hf
    | ptr ht => simp [Op.equalIn, und_run w hu]
  · rename_i e a b' hu
    split at h
    · cases h
    · rename_i n hne hn
      cases hb : Nat.beq a.block b'.block with
      | false => rw [hb] at h; cases h
      | true =>
        rw [hb] at h
        simp only [cond_true, Option.some.injEq] at h
        have hb := Nat.eq_of_beq_eq_true hb
        have hz : n ≠ 0 := fun e => hne (by rw [e])
        cases hx with
        | flat hf => simp [flat] at hf
        | @ptr b1 o1 t1 ht =>
          cases hy with
          | flat hf => simp [flat] at hf
          | @ptr b2 o2 t2 ht2 =>
            simp only at hb h
            subst hb
            rw [ht] at ht2
            simp only [Option.some.injEq] at ht2
            subst ht2
            have e1 : ((⟨t1.blk, t1.off + o1, none⟩ : Addr) == ⟨t1.blk, t1.off + o2, none⟩) = b := by
              rw [← h]
              by_cases e : o1 = o2
              · subst e; simp
              · rw [Trie.nbF e]
                simp only [beq_eq_false_iff_ne, ne_eq, Addr.mk.injEq]
                omega
            simp [Op.equalIn, und_run w hu, sizeT_run w hn, hz, sameAddr, e1]
    · cases h
  · rename_i e a n c n2 c2 hu
    simp only [Option.some.injEq] at h; subst h
    have := flat_eq (v := .slice none _ _) rfl hy; subst this
    cases hx with
    | flat hf => simp [flat] at hf
    | slice ht hc => simp [Op.equalIn, und_run w hu]
    | slice0 ht hc => simp [Op.equalIn, und_run w hu]
  · rename_i e a n c n2 c2 hu
    simp only [Option.some.injEq] at h; subst h
    have := flat_eq (v := .slice none _ _) rfl hx; subst this
    cases hy with
    | flat hf => simp [flat] at hf
    | slice ht hc => simp [Op.equalIn, und_run w hu]
    | slice0 ht hc => simp [Op.equalIn, und_run w hu]
  · rename_i hu
    simp only [Option.some.injEq] at h; subst h
    have := flat_eq (v := .map none) rfl hy; subst this
    cases hx with
    | flat hf => simp [flat] at hf
    | map ht => simp [Op.equalIn, und_run w hu]
  · rename_i hu
    simp only [Option.some.injEq] at h; subst h
    have := flat_eq (v := .map none) rfl hx; subst this
    cases hy with
    | flat hf => simp [flat] at hf
    | map ht => simp [Op.equalIn, und_run w hu]
  · rename_i hu
    simp only [Option.some.injEq] at h; subst h
    have := flat_eq (v := .nilIface) rfl hy; subst this
    cases hx with
    | flat hf => simp [flat] at hf
    | iface hv => simp [Op.equalIn, und_run w hu]
  · rename_i hu
    simp only [Option.some.injEq] at h; subst h
    have := flat_eq (v := .nilIface) rfl hx; subst this
    cases hy with
    | flat hf => simp [flat] at hf
    | iface hv => simp [Op.equalIn, und_run w hu]
  · rename_i hu
    simp only [Option.some.injEq] at h; subst h
    have := flat_eq (v := .nilFunc) rfl hy; subst this
    cases hx with
    | flat hf => simp [flat] at hf
    | func a b c => simp [Op.equalIn, und_run w hu]
  · rename_i hu
    simp only [Option.some.injEq] at h; subst h
    have := flat_eq (v := .nilFunc) rfl hx; subst this
    cases hy with
    | flat hf => simp [flat] at hf
    | func a b c => simp [Op.equalIn, und_run w hu]
  · cases h

theorem eqA_sound {t : TypeId} {x x' y y' : Value} {b : Bool} (h : eqA P t x y = some b) (hx : VRel ρ x x') (hy : VRel ρ y y') : (Op.equal t x' y').run P w = .ok b w :=
  eqA_in 9999 h hx hy

def binA (P : Program) (op : BinOp) (t : TypeId) (x y : Value) : Option Value :=
  match op with
  | .eql => match eqA P t x y with
    | some b => some (.bool b)
    | none => none
  | .neq => match eqA P t x y with
    | some b => some (.bool !b)
    | none => none
  | _ => none

/-- The operands that 'eqA' takes: none of the guards and the other operators meets them. -/
def refl2 : Value → Value → Bool
  | .pointer _, .pointer _ | .slice .., .slice .. | .map _, .map _ | .iface .., .nilIface | .nilIface, .iface .. | .func .., .nilFunc | .nilFunc, .func .. => true
  | _, _ => false

theorem eqA_refl2 {t : TypeId} {x x' y y' : Value} {b : Bool} (h : eqA P t x y = some b) (hx : VRel ρ x x') (hy : VRel ρ y y') : refl2 x' y' = true := by
  unfold eqA at h
  split at h <;> first | (cases h; done) | (cases hx <;> cases hy <;> rfl)

theorem binA_run {op : BinOp} {t : TypeId} {ox oy : Operand} {x y : Value} {b : Bool} (h2 : refl2 x y = true) (h : (Op.equal t x y).run P w = .ok b w) (ho : op = .eql ∨ op = .neq) :
    (do eqGuard op t ox oy x y; binOp op t x y : Sem Value).run P w = .ok (.bool (if op = .eql then b else !b)) w := by
  have g : eqGuard op t ox oy x y = pure () := by
    unfold refl2 at h2
    split at h2 <;> first | (rcases ho with rfl | rfl <;> rfl) | (cases h2; done)
  rw [g]
  have e : binOp op t x y = if op = .eql then (do pure (.bool (← Op.equal t x y))) else (do pure (.bool (!(← Op.equal t x y)))) := by
    unfold refl2 at h2
    split at h2 <;> first | (rcases ho with rfl | rfl <;> rfl) | (cases h2; done)
  rcases ho with rfl | rfl
  · simp [e, h]
  · simp [e, h]

theorem binA_sound {op : BinOp} {t : TypeId} {ox oy : Operand} {x x' y y' v : Value} (h : binA P op t x y = some v) (hx : VRel ρ x x') (hy : VRel ρ y y') :
    ∃ v', (do eqGuard op t ox oy x' y'; binOp op t x' y' : Sem Value).run P w = .ok v' w ∧ VRel ρ v v' := by
  unfold binA at h
  split at h
  · split at h
    · rename_i b hb
      simp only [Option.some.injEq] at h; subst h
      exact ⟨_, binA_run (eqA_refl2 hb hx hy) (eqA_sound (w := w) hb hx hy) (.inl rfl), .flat rfl⟩
    · cases h
  · split at h
    · rename_i b hb
      simp only [Option.some.injEq] at h; subst h
      exact ⟨_, binA_run (eqA_refl2 hb hx hy) (eqA_sound (w := w) hb hx hy) (.inr rfl), .flat rfl⟩
    · cases h
  · cases h

end
end Go.Cre
end
