/-
Pure operations on values that may bear addresses.
-/
import Derived.Test.YtmcccdgpmlacdaaGreatDoorCreD
noncomputable section
namespace Go.Cre
open Go.RowKit (Below)

def natOf : Value → Option Nat
  | .int _ n => bif decide (0 ≤ n) then some n.toNat else none
  | _ => none

theorem natOf_some {ρ : Ren} {v v' : Value} {n : Nat} (h : natOf v = some n) (hv : VRel ρ v v') : ∃ k, v' = .int k n ∧ v = .int k n := by
  unfold natOf at h
  split at h
  · rename_i k z
    have : v' = .int k z := flat_eq (v := .int k z) rfl hv
    by_cases hz : 0 ≤ z
    · simp [hz] at h
      refine ⟨k, ?_, ?_⟩
      · rw [this]; congr 1; omega
      · congr 1; omega
    · simp [hz] at h
  · cases h

section
variable {P : Program} {B : Nat} {w0 : World} {ρ : Ren} {σ : ASt} {w : World}

/-! ### Fields, elements, parts -/

def partA (P : Program) (t : TypeId) (cs : List Value) (off : Nat) : Option Value :=
  match aggT P t with
  | some true => match sizeT P t with
    | some n => some (.agg ⟨(cs.drop off).take n⟩)
    | none => none
  | some false => cs[off]?
  | none => none

theorem partA_sound {t : TypeId} {cs cs' : List Value} {off : Nat} {v : Value} (h : partA P t cs off = some v) (hc : LRel ρ cs cs') :
    ∃ v', (part t ⟨cs'⟩ off).run P w = .ok v' w ∧ VRel ρ v v' := by
  unfold partA at h
  split at h
  · rename_i ha
    split at h
    · rename_i n hn
      simp only [Option.some.injEq] at h
      subst h
      refine ⟨_, by simp only [part, Sem.run_bind, aggT_run w ha, Result.andThen_ok, if_true, sizeT_run w hn, Sem.run_pure]; rfl, ?_⟩
      have e : (⟨cs'⟩ : Array Value).extract off (off + n) = ⟨(cs'.drop off).take n⟩ := by
        apply Array.ext'
        simp [List.extract_eq_take_drop]
      rw [e]
      exact .agg ((hc.drop off).take n)
    · cases h
  · rename_i ha
    obtain ⟨v', h1, h2⟩ := hc.getElem? off v h
    exact ⟨v', by simp [part, aggT_run w ha, h1], h2⟩
  · cases h

def fieldsT (P : Program) (t : TypeId) : Option (List Field) :=
  match P.underlying t with
  | some (.struct fs) => some fs.toList
  | _ => none

theorem fieldsT_some {t : TypeId} {fs : List Field} (h : fieldsT P t = some fs) : P.underlying t = some (.struct ⟨fs⟩) := by
  unfold fieldsT at h
  split at h
  · rename_i fs' hu; simp only [Option.some.injEq] at h; subst h; exact hu
  · cases h

def fieldA (P : Program) (t : TypeId) (x : Value) (i : Nat) : Option Value :=
  match x, fieldsT P t with
  | .agg ⟨cs⟩, some fs => match fs[i]? with
    | some f => partA P f.type cs f.offset
    | none => none
  | _, _ => none

theorem fieldA_sound {t : TypeId} {x x' v : Value} {i : Nat} (h : fieldA P t x i = some v) (hx : VRel ρ x x') :
    ∃ v', (Instr.field t x' i).run P w = .ok v' w ∧ VRel ρ v v' := by
  unfold fieldA at h
  split at h
  · rename_i cs fs hf
    have hu := fieldsT_some hf
    cases hx with
    | flat h => simp [flat] at h
    | agg hc =>
      split at h
      · rename_i f hfi
        obtain ⟨v', h1, h2⟩ := partA_sound (P := P) (w := w) h hc
        exact ⟨v', by simp [Instr.field, und_run w hu, hfi, asAgg, h1], h2⟩
      · cases h
  · cases h

def extractA (x : Value) (i : Nat) : Option Value :=
  match x with
  | .tuple ⟨vs⟩ => vs[i]?
  | _ => none

theorem extractA_sound {x x' v : Value} {i : Nat} (h : extractA x i = some v) (hx : VRel ρ x x') :
    ∃ v', (Instr.extract x' i).run P w = .ok v' w ∧ VRel ρ v v' := by
  unfold extractA at h
  split at h
  · cases hx with
    | flat h => simp [flat] at h
    | tuple hc =>
      obtain ⟨v', h1, h2⟩ := hc.getElem? i v h
      exact ⟨v', by simp [Instr.extract, h1], h2⟩
  · cases h

def fieldAddrA (P : Program) (t : TypeId) (x : Value) (i : Nat) : Option Value :=
  match x, fieldsT P t with
  | .pointer (some a), some fs => match fs[i]? with
    | some f => match sizeT P f.type with
      | some 0 => none
      | some _ => some (.pointer (some (a.add f.offset)))
      | none => none
    | none => none
  | _, _ => none

theorem fieldAddrA_sound {t : TypeId} {x x' v : Value} {i : Nat} (h : fieldAddrA P t x i = some v) (hx : VRel ρ x x') :
    ∃ v', (Instr.fieldAt t x' i).run P w = .ok v' w ∧ VRel ρ v v' := by
  unfold fieldAddrA at h
  split at h
  · rename_i a fs hf
    have hu := fieldsT_some hf
    cases hx with
    | flat h => simp [flat] at h
    | ptr ht =>
      rename_i b o t'
      split at h
      · rename_i f hfi
        split at h
        · cases h
        · rename_i n hne hn
          simp only [Option.some.injEq] at h
          subst h
          have hz : ¬ n = 0 := fun e => by subst e; exact hne rfl
          refine ⟨.pointer (some ⟨t'.blk, t'.off + o + f.offset, none⟩), ?_, ?_⟩
          · simp [Instr.fieldAt, und_run w hu, hfi, Instr.sureAddr, fieldPlace, sizeT_run w hn, hz, Addr.add_mk]
          · rw [Addr.add_mk, Nat.add_assoc]; exact .ptr ht
        · cases h
      · cases h
  · cases h

def indexAddrA (P : Program) (t : TypeId) (x ix : Value) : Option Value :=
  match natOf ix, P.underlying t, x with
  | some i, some (.array len elem), .pointer (some a) => match sizeT P elem with
    | some n => bif Nat.blt i len then some (.pointer (some (a.add (i * n)))) else none
    | none => none
  | some i, some (.slice elem), .slice (some a) len _ => match sizeT P elem with
    | some n => bif Nat.blt i len then some (.pointer (some (a.add (i * n)))) else none
    | none => none
  | _, _, _ => none

theorem indexAddrA_sound {t : TypeId} {x x' ix ix' v : Value} (h : indexAddrA P t x ix = some v) (hx : VRel ρ x x') (hi : VRel ρ ix ix') :
    ∃ v', (Instr.indexAt t x' ix').run P w = .ok v' w ∧ VRel ρ v v' := by
  unfold indexAddrA at h
  split at h
  · rename_i i len elem a hn hu
    obtain ⟨k, rfl, _⟩ := natOf_some hn hi
    cases hx with
    | flat h => simp [flat] at h
    | ptr ht =>
      rename_i b o t'
      split at h
      · rename_i n hs
        cases hb : Nat.blt i len with
        | false => rw [hb] at h; cases h
        | true =>
          rw [hb] at h
          simp only [cond_true, Option.some.injEq] at h
          subst h
          have hlt : i < len := by simpa [Nat.blt_eq] using hb
          refine ⟨.pointer (some ⟨t'.blk, t'.off + o + i * n, none⟩), ?_, ?_⟩
          · simp [Instr.indexAt, asIntOf, und_run w hu, Instr.sureAddr, sizeT_run w hs, Addr.add_mk, hlt]
          · rw [Addr.add_mk, Nat.add_assoc]; exact .ptr ht
      · cases h
  · rename_i i elem a len cap hn hu
    obtain ⟨k, rfl, _⟩ := natOf_some hn hi
    split at h
    · rename_i n hs
      cases hb : Nat.blt i len with
      | false => rw [hb] at h; cases h
      | true =>
        rw [hb] at h
        simp only [cond_true, Option.some.injEq] at h
        subst h
        have hlt : i < len := by simpa [Nat.blt_eq] using hb
        cases hx with
        | flat h => simp [flat] at h
        | slice ht hc =>
          rename_i b o t'
          refine ⟨.pointer (some ⟨t'.blk, t'.off + o + i * n, none⟩), ?_, ?_⟩
          · simp [Instr.indexAt, asIntOf, und_run w hu, sizeT_run w hs, Addr.add_mk, hlt]
          · rw [Addr.add_mk, Nat.add_assoc]; exact .ptr ht
        | slice0 ht hc => omega
    · cases h
  · cases h

def indexA (P : Program) (t : TypeId) (x ix : Value) : Option Value :=
  match natOf ix, P.underlying t, x with
  | some i, some (.array len elem), .agg ⟨cs⟩ => match sizeT P elem with
    | some n => bif Nat.blt i len then partA P elem cs (i * n) else none
    | none => none
  | _, _, _ => none

theorem indexA_sound {t : TypeId} {x x' ix ix' v : Value} (h : indexA P t x ix = some v) (hx : VRel ρ x x') (hi : VRel ρ ix ix') :
    ∃ v', (Instr.index t x' ix').run P w = .ok v' w ∧ VRel ρ v v' := by
  unfold indexA at h
  split at h
  · rename_i i len elem cs hn hu
    obtain ⟨k, rfl, _⟩ := natOf_some hn hi
    cases hx with
    | flat h => simp [flat] at h
    | agg hc =>
      split at h
      · rename_i n hs
        cases hb : Nat.blt i len with
        | false => rw [hb] at h; cases h
        | true =>
          rw [hb] at h
          simp only [cond_true] at h
          have hlt : i < len := by simpa [Nat.blt_eq] using hb
          obtain ⟨v', h1, h2⟩ := partA_sound (P := P) (w := w) h hc
          exact ⟨v', by simp [Instr.index, asIntOf, und_run w hu, sizeT_run w hs, hlt, h1], h2⟩
      · cases h
  · cases h

/-! ### Slices -/

def boundA (v : Option Value) (d : Nat) : Option Nat :=
  match v with
  | some v => natOf v
  | none => some d

/-- s[lo:hi]; s[lo:hi:mx]; of an array behind a pointer. -/
def sliceA (P : Program) (σ : ASt) (t : TypeId) (x : Value) (lo hi mx : Option Value) : Option Value :=
  match P.underlying t, x with
  | some (.slice elem), .slice base len cap =>
    match sizeT P elem, boundA hi len, boundA lo 0, mx with
    | some sz, some h, some l, none =>
      bif Nat.ble h cap && Nat.ble l h then
        match base with
        | none => bif Nat.beq cap 0 then some (.slice none 0 0) else none
        | some a =>
          match σ.get a.block with
          | some (.cells _ _ s opn _ _) =>
            bif Nat.beq s sz || !opn then
              bif Nat.beq l cap then some (.slice (some ⟨a.block, a.off + l * sz, none⟩) 0 0) else some (.slice (some ⟨a.block, a.off + l * sz, none⟩) (h - l) (cap - l))
            else none
          | _ => none
      else none
    | some sz, some h, some l, some m =>
      match natOf m with
      | some m =>
        bif Nat.ble m cap && Nat.ble h m && Nat.ble l h then
          match base with
          | none => bif Nat.beq cap 0 then some (.slice none 0 0) else none
          | some a =>
            bif Nat.beq l m then some (.slice (some ⟨a.block, a.off, none⟩) 0 0) else
            match σ.get a.block with
            | some (.cells vs _ s opn _ _) => bif (Nat.beq s sz && !Nat.beq (a.off + m * s) vs.length) || !opn then some (.slice (some ⟨a.block, a.off + l * sz, none⟩) (h - l) (m - l)) else none
            | _ => none
        else none
      | none => none
    | _, _, _, _ => none
  | some (.array n elem), .pointer (some a) =>
    match sizeT P elem, boundA hi n, boundA lo 0, mx with
    | some sz, some h, some l, none =>
      bif Nat.ble h n && Nat.ble l h then
        bif Nat.beq l n then some (.slice (some a) 0 0) else
        match σ.get a.block with
        | some (.cells _ _ _ opn _ _) => bif opn then none else some (.slice (some ⟨a.block, a.off + l * sz, none⟩) (h - l) (n - l))
        | _ => none
      else none
    | _, _, _, _ => none
  | _, _ => none

def ORelV (ρ : Ren) : Option Value → Option Value → Prop
  | none, none => True
  | some x, some y => VRel ρ x y
  | _, _ => False

theorem bounds_run {len cap : Nat} {lo hi lo' hi' : Option Value} {l h : Nat} {isS : Bool} (hl : boundA lo 0 = some l) (hh : boundA hi len = some h) (rl : ORelV ρ lo lo') (rh : ORelV ρ hi hi')
    (h1 : h ≤ cap) (h2 : l ≤ h) : (Instr.sliceBounds isS len cap lo' hi' none).run P w = .ok (l, h, cap) w := by
  unfold Instr.sliceBounds
  cases hi with
  | none =>
    cases hi' with
    | some _ => exact rh.elim
    | none =>
      simp [boundA] at hh
      subst hh
      cases lo with
      | none =>
        cases lo' with
        | some _ => exact rl.elim
        | none => simp [boundA] at hl; simp [hl]
      | some x =>
        cases lo' with
        | none => exact rl.elim
        | some x' =>
          obtain ⟨k, rfl, _⟩ := natOf_some (n := l) hl rl
          simp [Instr.sliceBound, asIntOf, h2]
  | some y =>
    cases hi' with
    | none => exact rh.elim
    | some y' =>
      obtain ⟨k, rfl, _⟩ := natOf_some (n := h) hh rh
      cases lo with
      | none =>
        cases lo' with
        | some _ => exact rl.elim
        | none => simp [boundA] at hl; simp [hl, Instr.sliceBound, asIntOf, h1]
      | some x =>
        cases lo' with
        | none => exact rl.elim
        | some x' =>
          obtain ⟨k', rfl, _⟩ := natOf_some (n := l) hl rl
          simp [Instr.sliceBound, asIntOf, h1, h2]

theorem bounds3_run {len cap : Nat} {lo hi lo' hi' : Option Value} {m m' : Value} {l h k : Nat} {isS : Bool} (hl : boundA lo 0 = some l) (hh : boundA hi len = some h) (hm : natOf m = some k) (rl : ORelV ρ lo lo') (rh : ORelV ρ hi hi') (rm : VRel ρ m m')
    (hs : hi.isSome = true) (h0 : k ≤ cap) (h1 : h ≤ k) (h2 : l ≤ h) : (Instr.sliceBounds isS len cap lo' hi' (some m')).run P w = .ok (l, h, k) w := by
  unfold Instr.sliceBounds
  obtain ⟨k0, rfl, _⟩ := natOf_some (n := k) hm rm
  cases hi with
  | none => simp at hs
  | some y =>
    cases hi' with
    | none => exact rh.elim
    | some y' =>
      obtain ⟨k1, rfl, _⟩ := natOf_some (n := h) hh rh
      cases lo with
      | none =>
        cases lo' with
        | some _ => exact rl.elim
        | none => simp [boundA] at hl; simp [hl, Instr.sliceBound, asIntOf, h0, h1]
      | some x =>
        cases lo' with
        | none => exact rl.elim
        | some x' =>
          obtain ⟨k', rfl, _⟩ := natOf_some (n := l) hl rl
          simp [Instr.sliceBound, asIntOf, h0, h1, h2]

theorem ORel.closed {t : Tgt} {vs : List Value} {e : TypeId} {sz : Nat} {fr : AFr} {ro : Bool} {o' : Obj} (h : ORel ρ t (.cells vs e sz false fr ro) o') : t.extra = 0 := by
  obtain ⟨_, _, _, _, _, _, _, h, _⟩ := h
  exact (h rfl).1
theorem ORel.closedOff {t : Tgt} {vs : List Value} {e : TypeId} {sz : Nat} {fr : AFr} {ro : Bool} {o' : Obj} (h : ORel ρ t (.cells vs e sz false fr ro) o') : t.off = 0 := by
  obtain ⟨_, _, _, _, _, _, _, h, _⟩ := h
  exact (h rfl).2
theorem ORel.szEq {t : Tgt} {vs : List Value} {e : TypeId} {sz : Nat} {opn : Bool} {fr : AFr} {ro : Bool} {o' : Obj} (h : ORel ρ t (.cells vs e sz opn fr ro) o') : t.sz = sz ∧ t.len = vs.length := by
  obtain ⟨_, _, _, h1, h2, _⟩ := h
  exact ⟨h1, h2⟩

theorem sliceA_sound (h : WRel B w0 ρ σ w) {t : TypeId} {x x' v : Value} {lo hi mx lo' hi' mx' : Option Value} (hs : sliceA P σ t x lo hi mx = some v) (hx : VRel ρ x x')
    (rl : ORelV ρ lo lo') (rh : ORelV ρ hi hi') (rm : ORelV ρ mx mx') (h3 : mx.isSome = true → hi.isSome = true) :
    ∃ v', (Instr.sliceAt t x' lo' hi' mx').run P w = .ok v' w ∧ VRel ρ v v' := by
  unfold sliceA at hs
  split at hs
  · rename_i elem base len cap hu
    split at hs
    · rename_i sz hh ll e1 e2 e3
      cases mx' with
      | some _ => exact rm.elim
      | none =>
      cases hb : (Nat.ble hh cap && Nat.ble ll hh) with
      | false => rw [hb] at hs; cases hs
      | true =>
        rw [hb] at hs
        simp only [cond_true] at hs
        simp only [Bool.and_eq_true, Nat.ble_eq] at hb
        obtain ⟨b1, b2⟩ := hb
        split at hs
        · cases hx with
          | flat hf =>
          cases hc : Nat.beq cap 0 with
          | false => rw [hc] at hs; cases hs
          | true =>
            rw [hc] at hs
            simp only [cond_true, Option.some.injEq] at hs
            subst hs
            have hc := Nat.eq_of_beq_eq_true hc
            subst hc
            have h0 : hh = 0 := by omega
            have l0 : ll = 0 := by omega
            subst h0 l0
            have hr := bounds_run (P := P) (w := w) (isS := true) (cap := 0) e3 e2 rl rh (Nat.le_refl _) (Nat.le_refl _)
            exact ⟨.slice none 0 0, by simp [Instr.sliceAt, Instr.slice, und_run w hu, hr, sizeT_run w e1], .flat rfl⟩
        · rename_i a
          -- the run, whatever the room is
          have run : ∀ (a' : Addr) (cap' : Nat), cap ≤ cap' → (Instr.sliceAt t (.slice (some a') len cap') lo' hi' none).run P w =
              .ok (.slice (some (if cap' = ll then a' else a'.add (ll * sz))) (hh - ll) (cap' - ll)) w := by
            intro a' cap' hcap
            have hr := bounds_run (P := P) (w := w) (isS := true) (cap := cap') e3 e2 rl rh (Nat.le_trans b1 hcap) b2
            simp only [Instr.sliceAt, Instr.slice, Sem.run_bind, und_run w hu, Result.andThen_ok, hr, sizeT_run w e1, Sem.run_pure]
            split <;> rfl
          split at hs
          · rename_i vs e s opn fr ro hg
            cases ho : (Nat.beq s sz || !opn) with
            | false => rw [ho] at hs; cases hs
            | true =>
            rw [ho] at hs
            simp only [cond_true] at hs
            simp only [Bool.or_eq_true, Bool.not_eq_true'] at ho
            have hext : ∀ t', ρ a.block = some t' → t'.sz = sz ∨ t'.extra = 0 := by
              intro t' ht
              obtain ⟨o', _, hr⟩ := h.obj _ _ t' hg ht
              rcases ho with ho | ho
              · left; rw [hr.szEq.1]; exact Nat.eq_of_beq_eq_true ho
              · right; subst ho; exact hr.closed
            cases hlc : Nat.beq ll cap with
            | true =>
              rw [hlc] at hs
              simp only [cond_true, Option.some.injEq] at hs
              subst hs
              have hlc := Nat.eq_of_beq_eq_true hlc
              subst hlc
              have hhl : hh = ll := by omega
              subst hhl
              cases hx with
              | flat hf => simp [flat] at hf
              | slice ht hc =>
                rename_i b o t'
                refine ⟨_, run _ _ (Nat.le_add_right _ _), ?_⟩
                generalize hex : (if o + hh * t'.sz = t'.len then t'.extra else 0) = ex
                rw [Nat.sub_self, Nat.add_sub_cancel_left]
                by_cases h0 : ex = 0
                · subst h0
                  simp only [Nat.add_zero, if_true]
                  exact .slice0 ht (.inl rfl)
                · have hcond : o + hh * t'.sz = t'.len := by
                    by_cases hc : o + hh * t'.sz = t'.len
                    · exact hc
                    · rw [if_neg hc] at hex; exact absurd hex.symm h0
                  rw [if_pos hcond] at hex
                  rw [if_neg (by omega), Addr.add_mk]
                  have hsz : t'.sz = sz := by
                    rcases hext t' ht with h1 | h1
                    · exact h1
                    · exact absurd (hex.symm.trans h1) h0
                  exact .slice0 ht (.inr ⟨by rw [← hsz]; exact hcond, Nat.add_assoc _ _ _, hex.symm⟩)
              | slice0 ht hc =>
                rename_i b o o' cap' t'
                refine ⟨_, run _ _ (Nat.zero_le _), ?_⟩
                simp only [Nat.zero_mul, Nat.add_zero, Nat.sub_zero]
                have e1 : (if cap' = 0 then (⟨t'.blk, o', none⟩ : Addr) else (⟨t'.blk, o', none⟩ : Addr).add 0) = ⟨t'.blk, o', none⟩ := by
                  rw [Addr.add_mk]; simp
                rw [e1]
                exact .slice0 ht hc
            | false =>
              rw [hlc] at hs
              simp only [cond_false, Option.some.injEq] at hs
              subst hs
              have hlc : ll ≠ cap := fun e => by rw [e, Nat.beq_refl] at hlc; cases hlc
              cases hx with
              | flat hf => simp [flat] at hf
              | slice ht hc =>
                rename_i b o t'
                refine ⟨_, run _ _ (Nat.le_add_right _ _), ?_⟩
                generalize hex : (if o + cap * t'.sz = t'.len then t'.extra else 0) = ex
                rw [if_neg (by omega), Addr.add_mk]
                have e1 : cap + ex - ll = cap - ll + (if o + ll * sz + (cap - ll) * t'.sz = t'.len then t'.extra else 0) := by
                  rw [← hex]
                  rcases hext t' ht with h1 | h1
                  · have : o + ll * sz + (cap - ll) * t'.sz = o + cap * t'.sz := by
                      rw [← h1, Nat.add_assoc, ← Nat.add_mul]
                      congr 2; omega
                    rw [this]; omega
                  · rw [h1]; simp
                rw [e1, Nat.add_assoc t'.off]
                exact .slice ht (by omega)
              | slice0 ht hc => omega
          · cases hs
    · rename_i sz hh ll m e1 e2 e3
      cases mx' with
      | none => exact rm.elim
      | some m' =>
      split at hs
      · rename_i k hk
        cases hb : (Nat.ble k cap && Nat.ble hh k && Nat.ble ll hh) with
        | false => rw [hb] at hs; cases hs
        | true =>
          rw [hb] at hs
          simp only [cond_true] at hs
          simp only [Bool.and_eq_true, Nat.ble_eq] at hb
          obtain ⟨⟨b0, b1⟩, b2⟩ := hb
          have run : ∀ (a' : Option Addr) (cap' : Nat), cap ≤ cap' → (Instr.sliceAt t (.slice a' len cap') lo' hi' (some m')).run P w =
              .ok (.slice (if k = ll then a' else a'.map (·.add (ll * sz))) (hh - ll) (k - ll)) w := by
            intro a' cap' hcap
            have hr := bounds3_run (P := P) (w := w) (isS := true) (cap := cap') e3 e2 hk rl rh rm (h3 rfl) (Nat.le_trans b0 hcap) b1 b2
            simp only [Instr.sliceAt, Instr.slice, Sem.run_bind, und_run w hu, Result.andThen_ok, hr, sizeT_run w e1, Sem.run_pure]
          split at hs
          · cases hx with
            | flat hf =>
            cases hc : Nat.beq cap 0 with
            | false => rw [hc] at hs; cases hs
            | true =>
              rw [hc] at hs
              simp only [cond_true, Option.some.injEq] at hs
              subst hs
              have hc := Nat.eq_of_beq_eq_true hc
              subst hc
              have h0 : hh = 0 := by omega
              have l0 : ll = 0 := by omega
              have k0 : k = 0 := by omega
              subst h0 l0 k0
              exact ⟨.slice none 0 0, by rw [run _ _ (Nat.le_refl _)]; simp, .flat rfl⟩
          · rename_i a
            cases hlm : Nat.beq ll k with
            | true =>
              rw [hlm] at hs
              simp only [cond_true, Option.some.injEq] at hs
              subst hs
              have hlm := Nat.eq_of_beq_eq_true hlm
              subst hlm
              have : hh = ll := by omega
              subst this
              cases hx with
              | flat hf => simp [flat] at hf
              | slice ht hc => exact ⟨_, run _ _ (Nat.le_add_right _ _), by rw [if_pos rfl, Nat.sub_self]; exact .slice0 ht (.inl rfl)⟩
              | slice0 ht hc => exact ⟨_, run _ _ (Nat.zero_le _), by rw [if_pos rfl, Nat.sub_self]; exact .slice0 ht (.inl rfl)⟩
            | false =>
              rw [hlm] at hs
              simp only [cond_false] at hs
              have hlm : k ≠ ll := fun e => by rw [e, Nat.beq_refl] at hlm; cases hlm
              split at hs
              · rename_i vs e s opn fr ro hg
                cases ho : ((Nat.beq s sz && !Nat.beq (a.off + k * s) vs.length) || !opn) with
                | false => rw [ho] at hs; cases hs
                | true =>
                  rw [ho] at hs
                  simp only [cond_true, Option.some.injEq] at hs
                  subst hs
                  simp only [Bool.or_eq_true, Bool.and_eq_true, Bool.not_eq_true'] at ho
                  cases hx with
                  | flat hf => simp [flat] at hf
                  | slice ht hc =>
                    rename_i b o t'
                    refine ⟨_, run _ _ (Nat.le_add_right _ _), ?_⟩
                    rw [if_neg hlm]
                    simp only [Option.map_some, Addr.add_mk]
                    obtain ⟨o', _, hr⟩ := h.obj _ _ t' hg ht
                    have e0 : (if o + ll * sz + (k - ll) * t'.sz = t'.len then t'.extra else 0) = 0 := by
                      rcases ho with ⟨h1, h2⟩ | ho
                      · have h1 := Nat.eq_of_beq_eq_true h1
                        rw [if_neg]
                        intro hcon
                        rw [hr.szEq.2, hr.szEq.1] at hcon
                        have : o + ll * sz + (k - ll) * s = o + k * s := by
                          rw [← h1, Nat.add_assoc, ← Nat.add_mul]
                          congr 2; omega
                        rw [this] at hcon
                        simp only at h2
                        rw [hcon, Nat.beq_refl] at h2
                        cases h2
                      · subst ho; rw [hr.closed]; simp
                    have := VRel.slice (ρ := ρ) (o := o + ll * sz) (len := hh - ll) ht (show k - ll ≠ 0 by omega)
                    rw [e0, Nat.add_zero] at this
                    rw [Nat.add_assoc]
                    exact this
                  | slice0 ht hc => omega
              · cases hs
      · cases hs
    · cases hs
  · rename_i n elem a hu
    cases hx with
    | flat hf => simp [flat] at hf
    | ptr ht =>
      rename_i b o t'
      split at hs
      · rename_i sz hh ll e1 e2 e3
        cases mx' with
        | some _ => exact rm.elim
        | none =>
        cases hb : (Nat.ble hh n && Nat.ble ll hh) with
        | false => rw [hb] at hs; cases hs
        | true =>
          rw [hb] at hs
          simp only [cond_true] at hs
          simp only [Bool.and_eq_true, Nat.ble_eq] at hb
          obtain ⟨b1, b2⟩ := hb
          have hr := bounds_run (P := P) (w := w) (isS := false) (cap := n) e3 e2 rl rh b1 b2
          have run : (Instr.sliceAt t (.pointer (some ⟨t'.blk, t'.off + o, none⟩)) lo' hi' none).run P w =
              .ok (.slice (some (if n = ll then ⟨t'.blk, t'.off + o, none⟩ else (⟨t'.blk, t'.off + o, none⟩ : Addr).add (ll * sz))) (hh - ll) (n - ll)) w := by
            simp only [Instr.sliceAt, Sem.run_bind, und_run w hu, Result.andThen_ok, Instr.sureAddr, Sem.run_pure, hr, sizeT_run w e1]
          cases hln : Nat.beq ll n with
          | true =>
            rw [hln] at hs
            simp only [cond_true, Option.some.injEq] at hs
            subst hs
            have hln := Nat.eq_of_beq_eq_true hln
            subst hln
            have : hh = ll := by omega
            subst this
            exact ⟨_, run, by rw [if_pos rfl, Nat.sub_self]; exact .slice0 ht (.inl rfl)⟩
          | false =>
            rw [hln] at hs
            simp only [cond_false] at hs
            have hln : n ≠ ll := fun e => by rw [e, Nat.beq_refl] at hln; cases hln
            split at hs
            · rename_i vs e s opn fr ro hg
              cases opn with
              | true => cases hs
              | false =>
                simp only [cond_false, Option.some.injEq] at hs
                subst hs
                obtain ⟨o', _, hr2⟩ := h.obj _ _ t' hg ht
                have hx := hr2.closed
                refine ⟨_, run, ?_⟩
                rw [if_neg hln, Addr.add_mk]
                have := VRel.slice (ρ := ρ) (o := o + ll * sz) (len := hh - ll) ht (show n - ll ≠ 0 by omega)
                rw [hx] at this
                simp only [ite_self, Nat.add_zero] at this
                rw [Nat.add_assoc]
                exact this
            · cases hs
      · cases hs
  · cases hs
end
end Go.Cre
end
