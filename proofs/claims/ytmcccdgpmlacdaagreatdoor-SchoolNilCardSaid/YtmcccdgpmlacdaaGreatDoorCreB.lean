/-
The relation between abstract and concrete values, states and worlds.
-/
import Derived.Test.YtmcccdgpmlacdaaGreatDoorCreA
import Derived.Below
noncomputable section
namespace Go.Cre
open Go.RowKit (Below)

/-- 'ρ'' says of the numbers below 'n' what 'ρ' says. -/
def Ext (n : Nat) (ρ ρ' : Ren) : Prop := ∀ b, b < n → ρ' b = ρ b
theorem Ext.refl (n : Nat) (ρ : Ren) : Ext n ρ ρ := fun _ _ => rfl
theorem Ext.trans {n n' : Nat} {a b c : Ren} (h : Ext n a b) (h' : Ext n' b c) (hn : n ≤ n') : Ext n a c := fun k hk => (h' k (by omega)).trans (h k hk)

/-- As much as 'ρ' says. -/
def Sub (ρ ρ' : Ren) : Prop := ∀ b t, ρ b = some t → ρ' b = some t
theorem Sub.refl (ρ : Ren) : Sub ρ ρ := fun _ _ h => h
theorem Sub.trans {a b c : Ren} (h : Sub a b) (h' : Sub b c) : Sub a c := fun k t hk => h' k t (h k t hk)

theorem FnRel.mono {ρ ρ' : Ren} (hs : Sub ρ ρ') {f f' : Fn} (h : FnRel ρ f f') : FnRel ρ' f f' := by
  cases f <;> first | exact h | (obtain ⟨t, ht, he⟩ := h; exact ⟨t, hs _ _ ht, he⟩)

mutual
theorem VRel.mono {ρ ρ' : Ren} (hs : Sub ρ ρ') {v v' : Value} (h : VRel ρ v v') : VRel ρ' v v' := by
  cases h with
  | flat h => exact .flat h
  | ptr h => exact .ptr (hs _ _ h)
  | slice h hc => exact .slice (hs _ _ h) hc
  | slice0 h hc => exact .slice0 (hs _ _ h) hc
  | map h => exact .map (hs _ _ h)
  | iface h => exact .iface (VRel.mono hs h)
  | func hf ha hb => exact .func (hf.mono hs) (LRel.mono hs ha) (LRel.mono hs hb)
  | agg h => exact .agg (LRel.mono hs h)
  | tuple h => exact .tuple (LRel.mono hs h)
  | tok h h1 => exact .tok (hs _ _ h) h1
  | hole => exact .hole
theorem LRel.mono {ρ ρ' : Ren} (hs : Sub ρ ρ') {l l' : List Value} (h : LRel ρ l l') : LRel ρ' l l' := by
  cases h with
  | nil => exact .nil
  | cons h hl => exact .cons (VRel.mono hs h) (LRel.mono hs hl)
end

section lists
variable {ρ : Ren}

theorem LRel.length {l l' : List Value} (h : LRel ρ l l') : l'.length = l.length := by
  induction l generalizing l' with
  | nil => cases h; rfl
  | cons v l ih => cases h with | cons _ hl => simp [ih hl]

theorem LRel.append {a a' b b' : List Value} (h : LRel ρ a a') (k : LRel ρ b b') : LRel ρ (a ++ b) (a' ++ b') := by
  induction a generalizing a' with
  | nil => cases h; exact k
  | cons v l ih => cases h with | cons hv hl => exact .cons hv (ih hl)

theorem LRel.take {l l' : List Value} (h : LRel ρ l l') (n : Nat) : LRel ρ (l.take n) (l'.take n) := by
  induction l generalizing l' n with
  | nil => cases h; simp; exact .nil
  | cons v l ih => cases h with | cons hv hl => cases n with
    | zero => exact .nil
    | succ n => exact .cons hv (ih hl n)

theorem LRel.drop {l l' : List Value} (h : LRel ρ l l') (n : Nat) : LRel ρ (l.drop n) (l'.drop n) := by
  induction l generalizing l' n with
  | nil => cases h; simp; exact .nil
  | cons v l ih => cases h with | cons hv hl => cases n with
    | zero => exact .cons hv hl
    | succ n => exact ih hl n

theorem LRel.getElem? {l l' : List Value} (h : LRel ρ l l') (i : Nat) (v : Value) (hv : l[i]? = some v) : ∃ v', l'[i]? = some v' ∧ VRel ρ v v' := by
  induction l generalizing l' i with
  | nil => simp at hv
  | cons x l ih => cases h with | cons hx hl => cases i with
    | zero => simp at hv; subst hv; exact ⟨_, rfl, hx⟩
    | succ i => simp at hv; obtain ⟨v', h1, h2⟩ := ih hl i hv; exact ⟨v', by simpa using h1, h2⟩

theorem LRel.undef : VRel ρ undef undef := .tuple .nil

theorem LRel.getD {l l' : List Value} (h : LRel ρ l l') (i : Nat) : VRel ρ (l.getD i Go.undef) (l'.getD i Go.undef) := by
  induction l generalizing l' i with
  | nil => cases h; exact LRel.undef
  | cons x l ih => cases h with | cons hx hl => cases i with
    | zero => exact hx
    | succ i => exact ih hl i

theorem LRel.set {l l' : List Value} (h : LRel ρ l l') (i : Nat) {v v' : Value} (hv : VRel ρ v v') : LRel ρ (l.set i v) (l'.set i v') := by
  induction l generalizing l' i with
  | nil => cases h; exact .nil
  | cons x l ih => cases h with | cons hx hl => cases i with
    | zero => exact .cons hv hl
    | succ i => exact .cons hx (ih hl i)

theorem LRel.of_flat {l : List Value} (h : ∀ v ∈ l, VRel ρ v v) : LRel ρ l l := by
  induction l with
  | nil => exact .nil
  | cons x l ih => exact .cons (h x (by simp)) (ih fun v hv => h v (by simp [hv]))

theorem LRel.replicate {v v' : Value} (h : VRel ρ v v') (n : Nat) : LRel ρ (List.replicate n v) (List.replicate n v') := by
  induction n with
  | zero => exact .nil
  | succ n ih => exact .cons h ih

theorem LRel.one {v v' : Value} (h : VRel ρ v v') : LRel ρ [v] [v'] := .cons h .nil
end lists

/-! ## Values without addresses -/

def flat2 : Value → Bool
  | .iface _ v => flat v
  | .func (.func _) ⟨[]⟩ ⟨[]⟩ => true
  | .agg ⟨cs⟩ => cs.all flat
  | .tuple ⟨cs⟩ => cs.all flat
  | v => flat v

theorem flat_eq {ρ : Ren} {v v' : Value} (hf : flat v = true) (h : VRel ρ v v') : v' = v := by
  cases h <;> first | rfl | simp [flat] at hf

theorem flatL_eq {ρ : Ren} {l l' : List Value} (hf : l.all flat = true) (h : LRel ρ l l') : l' = l := by
  induction l generalizing l' with
  | nil => cases h; rfl
  | cons x l ih =>
    cases h with | cons hx hl =>
    simp only [List.all_cons, Bool.and_eq_true] at hf
    rw [flat_eq hf.1 hx, ih hf.2 hl]

theorem flatL_refl {ρ : Ren} {l : List Value} (hf : l.all flat = true) : LRel ρ l l :=
  LRel.of_flat fun v hv => .flat (List.all_eq_true.1 hf v hv)

theorem flat2_refl {ρ : Ren} {v : Value} (hf : flat2 v = true) : VRel ρ v v := by
  unfold flat2 at hf
  split at hf
  · exact .iface (.flat hf)
  · exact .func rfl .nil .nil
  · exact .agg (flatL_refl hf)
  · exact .tuple (flatL_refl hf)
  · exact .flat hf

theorem flat2_eq {ρ : Ren} {v v' : Value} (hf : flat2 v = true) (h : VRel ρ v v') : v' = v := by
  unfold flat2 at hf
  split at hf
  · cases h with
    | flat h => simp [flat] at h
    | iface h => rw [flat_eq hf h]
  · cases h with
    | flat h => simp [flat] at h
    | func hf ha hb => cases ha; cases hb; rw [show _ = Fn.func _ from hf]
  · cases h with
    | flat h => simp [flat] at h
    | agg h => rw [flatL_eq hf h]
  · cases h with
    | flat h => simp [flat] at h
    | tuple h => rw [flatL_eq hf h]
  · exact flat_eq hf h

/-! ## Objects -/

def FrOk (t : Tgt) (n : Nat) : AFr → Nat × Nat → Prop
  | .no, f => f.1 = f.2
  | .span lo hi, f => f.1 = f.2 ∨ f = (t.off + lo, t.off + hi)
  | .tail, f => f.1 = f.2 ∨ f = (n, n + 1)
  | .any, _ => True

inductive ERel (ρ : Ren) : List MapEntry → List MapEntry → Prop
  | nil : ERel ρ [] []
  | cons {k v v' : Value} {b : Nat} {l l' : List MapEntry} (hk : flat2 k = true) (hv : VRel ρ v v') (hl : ERel ρ l l') : ERel ρ (⟨k, v, b⟩ :: l) (⟨k, v', b⟩ :: l')

def ORel (ρ : Ren) (t : Tgt) : AObj → Obj → Prop
  | .cells vs e sz opn fr _, o => ∃ (ys : List Value) (f : Nat × Nat), o = .cells ⟨ys⟩ e f ∧ t.sz = sz ∧ t.len = vs.length ∧ ys.length = t.off + vs.length + t.extra * sz ∧
      LRel ρ vs ((ys.drop t.off).take vs.length) ∧ (opn = false → t.extra = 0 ∧ t.off = 0) ∧ FrOk t ys.length fr f
  | .map es c, o => ∃ es', o = .map ⟨es'⟩ c ∧ ERel ρ es es'
  | .mapIter none s q l, o => t.off = 0 ∧ o = .mapIter none s ⟨q⟩ l
  | .mapIter (some m) s q l, o => t.off = 0 ∧ ∃ t, ρ m = some t ∧ o = .mapIter (some t.blk) s ⟨q⟩ l
  | .loop s p ts ps a b d, o => ∃ fn ts' t, ρ d = some t ∧ LRel ρ ts ts' ∧ o = .loop { state := s, pending := p, fn := fn, tmps := ⟨ts'⟩, params := ps, assign := a, body := b, defers := t.blk }
  | .deferred true, o => o = .deferred none
  | .deferred false, o => o = .deferred (some [])

theorem ERel.mono {ρ ρ' : Ren} (hs : Sub ρ ρ') {l l' : List MapEntry} (h : ERel ρ l l') : ERel ρ' l l' := by
  induction h with
  | nil => exact .nil
  | cons hk hv _ ih => exact .cons hk (hv.mono hs) ih

theorem ORel.mono {ρ ρ' : Ren} (hs : Sub ρ ρ') {t : Tgt} {o : AObj} {o' : Obj} (h : ORel ρ t o o') : ORel ρ' t o o' := by
  cases o with
  | cells vs e sz opn fr ro => obtain ⟨ys, f, h1, h2, h3, h4, h5, h6⟩ := h; exact ⟨ys, f, h1, h2, h3, h4, h5.mono hs, h6⟩
  | map es c => obtain ⟨es', h1, h2⟩ := h; exact ⟨es', h1, h2.mono hs⟩
  | mapIter m s q l => cases m with
    | none => exact h
    | some m => obtain ⟨h0, t, h1, h2⟩ := h; exact ⟨h0, t, hs _ _ h1, h2⟩
  | loop s p ts ps a b d => obtain ⟨fn, ts', t, h1, h2, h3⟩ := h; exact ⟨fn, ts', t, hs _ _ h1, h2.mono hs, h3⟩
  | deferred b => cases b <;> exact h

def AObj.isRo : AObj → Bool
  | .cells _ _ _ _ _ ro => ro
  | _ => false

/-! ## Worlds -/

structure WRel (B : Nat) (w0 : World) (ρ : Ren) (σ : ASt) (w : World) : Prop where
  below : Below B w0 w
  lt : ∀ b t, ρ b = some t → t.blk < w.heap.size
  obj : ∀ b o t, σ.get b = some o → ρ b = some t → ∃ o', w.heap[t.blk]? = some o' ∧ ORel ρ t o o'
  own : ∀ b o t, σ.get b = some o → ρ b = some t → o.isRo = false → B ≤ t.blk
  inj : ∀ b b' o o' t t', σ.get b = some o → σ.get b' = some o' → ρ b = some t → ρ b' = some t' → t.blk = t'.blk → b = b'
  fresh : ∀ b, σ.next ≤ b → ρ b = none
  bounded : ∀ b o, σ.get b = some o → b < σ.next
  room : B ≤ w.heap.size

namespace WRel
variable {B : Nat} {w0 : World} {ρ : Ren} {σ : ASt} {w : World}

theorem sub (h : WRel B w0 ρ σ w) {ρ' : Ren} (he : Ext σ.next ρ ρ') : Sub ρ ρ' := by
  intro b t hb
  by_cases hl : b < σ.next
  · rw [he b hl]; exact hb
  · rw [h.fresh b (by omega)] at hb; cases hb

theorem drew (h : WRel B w0 ρ σ w) : WRel B w0 ρ σ { w with drawn := w.drawn + 1 } :=
  ⟨h.below.drew, h.lt, h.obj, h.own, h.inj, h.fresh, h.bounded, h.room⟩

/-- A new block at the heap's end, a new number for it. -/
theorem new (h : WRel B w0 ρ σ w) (o : AObj) (o' : Obj) (t : Tgt) (ht : t.blk = w.heap.size)
    (ho : ∀ ρ', Sub ρ ρ' → ORel ρ' t o o') :
    ∃ ρ', Ext σ.next ρ ρ' ∧ WRel B w0 ρ' (σ.new o) { w with heap := w.heap.push o' } ∧ ρ' σ.next = some t := by
  let ρ' : Ren := fun b => if b = σ.next then some t else ρ b
  have he : Ext σ.next ρ ρ' := fun b hb => by simp only [ρ']; rw [if_neg (by omega)]
  have hs := h.sub he
  refine ⟨ρ', he, ⟨?_, ?_, ?_, ?_, ?_, ?_, ?_, ?_⟩, by simp [ρ']⟩
  · exact h.below.alloc h.room o'
  · intro b t1 hb
    simp only [ρ'] at hb
    simp only [Array.size_push]
    split at hb
    · simp only [Option.some.injEq] at hb; subst hb; omega
    · have := h.lt b t1 hb; omega
  · intro b o1 t1 hg hb
    rw [ASt.get_new] at hg
    simp only [ρ'] at hb
    split at hg
    · rename_i e
      simp only [Option.some.injEq] at hg; subst hg
      rw [if_pos e] at hb
      simp only [Option.some.injEq] at hb; subst hb
      exact ⟨o', by rw [ht]; simp, ho _ hs⟩
    · rename_i e
      rw [if_neg e] at hb
      obtain ⟨o2, h1, h2⟩ := h.obj b o1 t1 hg hb
      refine ⟨o2, ?_, h2.mono hs⟩
      have := h.lt b t1 hb
      rw [Array.getElem?_push, if_neg (by omega)]; exact h1
  · intro b o1 t1 hg hb hr
    rw [ASt.get_new] at hg
    simp only [ρ'] at hb
    split at hg
    · rename_i e
      rw [if_pos e] at hb
      simp only [Option.some.injEq] at hb; subst hb
      rw [ht]; exact h.room
    · rename_i e
      rw [if_neg e] at hb
      exact h.own b o1 t1 hg hb hr
  · intro b b' o1 o2 t1 t2 hg hg' hb hb' hblk
    rw [ASt.get_new] at hg hg'
    simp only [ρ'] at hb hb'
    by_cases e : b = σ.next
    · by_cases e' : b' = σ.next
      · rw [e, e']
      · rw [if_pos e] at hb; rw [if_neg e'] at hb'
        simp only [Option.some.injEq] at hb; subst hb
        have := h.lt b' t2 hb'; omega
    · by_cases e' : b' = σ.next
      · rw [if_neg e] at hb; rw [if_pos e'] at hb'
        simp only [Option.some.injEq] at hb'; subst hb'
        have := h.lt b t1 hb; omega
      · rw [if_neg e] at hb hg; rw [if_neg e'] at hb' hg'
        exact h.inj b b' o1 o2 t1 t2 hg hg' hb hb' hblk
  · intro b hb
    simp only [ρ']
    have : σ.next + 1 ≤ b := hb
    rw [if_neg (by omega)]
    exact h.fresh b (by omega)
  · intro b o1 hg
    rw [ASt.get_new] at hg
    show b < σ.next + 1
    split at hg
    · omega
    · have := h.bounded b o1 hg; omega
  · simp only [Array.size_push]; have := h.room; omega

/-- One object is turned into another of the same place. -/
theorem set (h : WRel B w0 ρ σ w) {b : Nat} {o o1 : AObj} {t : Tgt} {o' : Obj} (hg : σ.get b = some o) (hb : ρ b = some t)
    (hr : o.isRo = false) (ho : ORel ρ t o1 o') :
    WRel B w0 ρ (σ.put b o1) { w with heap := w.heap.setIfInBounds t.blk o' } := by
  have hlt := h.lt b t hb
  have hB := h.own b o t hg hb hr
  refine ⟨?_, ?_, ?_, ?_, ?_, h.fresh, ?_, ?_⟩
  · refine h.below.trans ⟨rfl, rfl, rfl, by simp, fun k hk => ?_⟩
    simp only [Array.getElem?_setIfInBounds]
    rw [if_neg (by omega)]
  · intro b1 t1 hb1; simp; exact h.lt b1 t1 hb1
  · intro b1 o2 t1 hg1 hb1
    rw [ASt.get_put] at hg1
    simp only [Array.getElem?_setIfInBounds]
    split at hg1
    · rename_i e; subst e
      rw [hb] at hb1; simp only [Option.some.injEq] at hb1 hg1; subst hb1; subst hg1
      exact ⟨o', by simp [hlt], ho⟩
    · rename_i e
      obtain ⟨o3, h1, h2⟩ := h.obj b1 o2 t1 hg1 hb1
      refine ⟨o3, ?_, h2⟩
      rw [if_neg (fun e' => e (h.inj b1 b o2 o t1 t hg1 hg hb1 hb e'.symm))]; exact h1
  · intro b1 o2 t1 hg1 hb1 hr2
    rw [ASt.get_put] at hg1
    split at hg1
    · rename_i e; subst e; rw [hb] at hb1; simp only [Option.some.injEq] at hb1; subst hb1; exact hB
    · exact h.own b1 o2 t1 hg1 hb1 hr2
  · intro b1 b2 o2 o3 t1 t2 hg1 hg2 hb1 hb2 hblk
    rw [ASt.get_put] at hg1 hg2
    have e1 : ∃ o, σ.get b1 = some o := by
      split at hg1
      · rename_i e; exact ⟨o, e ▸ hg⟩
      · exact ⟨o2, hg1⟩
    have e2 : ∃ o, σ.get b2 = some o := by
      split at hg2
      · rename_i e; exact ⟨o, e ▸ hg⟩
      · exact ⟨o3, hg2⟩
    obtain ⟨x1, hx1⟩ := e1
    obtain ⟨x2, hx2⟩ := e2
    exact h.inj b1 b2 x1 x2 t1 t2 hx1 hx2 hb1 hb2 hblk
  · intro b1 o2 hg1
    rw [ASt.get_put] at hg1
    show b1 < σ.next
    split at hg1
    · rename_i e; subst e; exact h.bounded b1 o hg
    · exact h.bounded b1 o2 hg1
  · simp; exact h.room

/-- An object is forgotten. -/
theorem kill (h : WRel B w0 ρ σ w) (b : Nat) : WRel B w0 ρ (σ.kill b) w := by
  have hk : ∀ b1 o, (σ.kill b).get b1 = some o → σ.get b1 = some o := by
    intro b1 o hg
    rw [ASt.get_kill] at hg
    split at hg
    · cases hg
    · exact hg
  exact ⟨h.below, h.lt, fun b1 o t hg hb => h.obj b1 o t (hk _ _ hg) hb, fun b1 o t hg hb hr => h.own b1 o t (hk _ _ hg) hb hr,
    fun b1 b2 o o' t t' hg hg' hb hb' e => h.inj b1 b2 o o' t t' (hk _ _ hg) (hk _ _ hg') hb hb' e, h.fresh, fun b1 o hg => h.bounded b1 o (hk _ _ hg), h.room⟩

end WRel
end Go.Cre
end
