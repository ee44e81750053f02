/-
Regions that draw their order: the law.
-/
import Derived.Test.YtmcccdgpmlacdaaGreatDoorCreT
import Derived.OrdersIn
noncomputable section
namespace Go.Cre
open Go.RowKit (Below)

/-! ## Masks -/

theorem testBit_bit {i j : Nat} (h : Nat.testBit (bitA i) j = true) : j = i := by
  unfold bitA at h
  have : Nat.shiftLeft 1 i = 2 ^ i := Nat.one_shiftLeft i
  rw [this, Nat.testBit_two_pow] at h
  simpa [eq_comm] using h

theorem maskOf_fold {rk : Nat → Nat} {ancs : List Nat} {i j : Nat} : ∀ (l : List Edge) (m : Nat), Nat.testBit (l.foldl (fun m e => bif Region.binds .any e && Nat.blt (rk e.on) (rk i) then Nat.lor m (Nat.lor (bitA e.on) (ancs.getD e.on 0)) else m) m) j = true →
    Nat.testBit m j = true ∨ ∃ e, e ∈ l ∧ Region.binds .any e = true ∧ rk e.on < rk i ∧ (e.on = j ∨ Nat.testBit (ancs.getD e.on 0) j = true) := by
  intro l
  induction l with
  | nil => intro m h; exact .inl h
  | cons e l ih =>
    intro m h
    simp only [List.foldl_cons] at h
    rcases ih _ h with h | ⟨e', h1, h2⟩
    · cases hb : (Region.binds .any e && Nat.blt (rk e.on) (rk i)) with
      | false => rw [hb] at h; exact .inl h
      | true =>
        rw [hb] at h
        simp only [cond_true] at h
        simp only [Bool.and_eq_true, Nat.blt_eq] at hb
        have h : Nat.testBit (m ||| (bitA e.on ||| ancs.getD e.on 0)) j = true := h
        simp only [Nat.testBit_or, Bool.or_eq_true] at h
        rcases h with h | h | h
        · exact .inl h
        · exact .inr ⟨e, List.mem_cons_self, hb.1, hb.2, .inl (testBit_bit h).symm⟩
        · exact .inr ⟨e, List.mem_cons_self, hb.1, hb.2, .inr h⟩
    · exact .inr ⟨e', List.mem_cons_of_mem _ h1, h2⟩

theorem maskOf_spec {rk : Nat → Nat} {ancs : List Nat} {i j : Nat} {o : Oper} (h : Nat.testBit (maskOf rk ancs i o) j = true) :
    ∃ e, e ∈ o.after.toList ∧ Region.binds .any e = true ∧ rk e.on < rk i ∧ (e.on = j ∨ Nat.testBit (ancs.getD e.on 0) j = true) := by
  rcases maskOf_fold _ _ h with h | h
  · simp at h
  · exact h

theorem mem_index : ∀ {os : List Oper} {k i : Nat} {o : Oper}, (i, o) ∈ indexA' os k ↔ k ≤ i ∧ os[i - k]? = some o := by
  intro os
  induction os with
  | nil => intro k i o; simp [indexA']
  | cons a os ih =>
    intro k i o
    simp only [indexA', List.mem_cons, Prod.mk.injEq, ih]
    constructor
    · rintro (⟨rfl, rfl⟩ | ⟨h1, h2⟩)
      · simp
      · refine ⟨by omega, ?_⟩
        rw [show i - k = (i - (k + 1)) + 1 by omega]
        simpa using h2
    · rintro ⟨h1, h2⟩
      by_cases e : i = k
      · subst e
        simp only [Nat.sub_self, List.getElem?_cons_zero, Option.some.injEq] at h2
        exact .inl ⟨rfl, h2.symm⟩
      · refine .inr ⟨by omega, ?_⟩
        rw [show i - k = (i - (k + 1)) + 1 by omega] at h2
        simpa using h2

theorem mem_index0 {os : List Oper} {i : Nat} {o : Oper} : (i, o) ∈ indexA' os 0 ↔ os[i]? = some o := by rw [mem_index]; simp

/-- The region's text, as it is asked. -/
structure Static (rk : Nat → Nat) (all : List Oper) (ancs : List Nat) : Prop where
  anc : ∀ (i : Nat) (o : Oper), all[i]? = some o → ∀ j, Nat.testBit (ancs.getD i 0) j = true → ∃ e, e ∈ o.after ∧ Region.binds .any e = true ∧ rk e.on < rk i ∧ (e.on = j ∨ Nat.testBit (ancs.getD e.on 0) j = true)
  edge : ∀ (i : Nat) (o : Oper), all[i]? = some o → ∀ e, e ∈ o.after → Region.binds .any e = true → rk e.on < rk i ∧ e.on < all.length
  look : ∀ (i : Nat) (o : Oper), all[i]? = some o → ∀ d, d ∈ looks all o → ∀ (j : Nat) (o' : Oper), all[j]? = some o' → o'.dst = some d → Nat.testBit (ancs.getD i 0) j = true
  dst : ∀ (i : Nat) (o : Oper), all[i]? = some o → ∀ d, o.dst = some d → ∀ (j : Nat) (o' : Oper), all[j]? = some o' → o'.dst = some d → j = i

theorem optEq_self (d : Option Nat) : optEq d d = true := by cases d <;> simp [optEq]

theorem staticA_spec {rk : Nat → Nat} {ancs : List Nat} {all : List Oper} (h : staticA rk ancs all = true) : Static rk all ancs := by
  unfold staticA at h
  have h := List.all_eq_true.1 h
  have h : ∀ i o, all[i]? = some o → _ := fun i o ho => h (i, o) (mem_index0.2 ho)
  simp only [Bool.and_eq_true] at h
  refine ⟨?_, ?_, ?_, ?_⟩
  · intro i o ho j hj
    have h1 := Nat.eq_of_beq_eq_true (h i o ho).1.1.1
    rw [h1] at hj
    obtain ⟨e, h2, h3⟩ := maskOf_spec hj
    exact ⟨e, by simpa using h2, h3⟩
  · intro i o ho e he hb
    have h1 := List.all_eq_true.1 (h i o ho).1.1.2 e (by simpa using he)
    rw [hb] at h1
    simpa using h1
  · intro i o ho d hd j o' ho' hd'
    have h1 := List.all_eq_true.1 (List.all_eq_true.1 (h i o ho).1.2 d hd) (j, o') (mem_index0.2 ho')
    rw [hd', optEq_self] at h1
    simpa using h1
  · intro i o ho d hd j o' ho' hd'
    have h1 := (h i o ho).2
    rw [hd] at h1
    have h2 := List.all_eq_true.1 h1 (j, o') (mem_index0.2 ho')
    simp only at h2
    rw [hd', optEq_self] at h2
    simp only [Bool.not_true, Bool.or_false] at h2
    exact (Nat.eq_of_beq_eq_true h2).symm

/-! ## The order's steps -/
section
variable {P : Program} {G : Gl} {B : Nat} {w0 : World} {R : Rec} {x : Known}

/-- What is known of 'σ' is known of 'σ''. -/
def Grow (B : Nat) (w0 : World) (σ σ' : ASt) : Prop := σ.next ≤ σ'.next ∧ ∀ ρ w, WRel B w0 ρ σ w → WRel B w0 ρ σ' w

theorem WRel.pend {ρ : Ren} {σ : ASt} {w : World} (h : WRel B w0 ρ σ w) (o : AObj) : WRel B w0 ρ (σ.new o) w := by
  have hn : ρ σ.next = none := h.fresh _ (Nat.le_refl _)
  have key : ∀ b o1, (σ.new o).get b = some o1 → ∀ t, ρ b = some t → σ.get b = some o1 := by
    intro b o1 hg t ht
    rw [ASt.get_new] at hg
    split at hg
    · rename_i e; rw [e, hn] at ht; cases ht
    · exact hg
  refine ⟨h.below, h.lt, fun b o1 t hg ht => h.obj b o1 t (key b o1 hg t ht) ht, fun b o1 t hg ht hr => h.own b o1 t (key b o1 hg t ht) ht hr,
    fun b b' o1 o2 t1 t2 hg hg' ht ht' hblk => h.inj b b' o1 o2 t1 t2 (key b o1 hg t1 ht) (key b' o2 hg' t2 ht') ht ht' hblk, ?_, ?_, h.room⟩
  · intro b hb
    have : σ.next + 1 ≤ b := hb
    exact h.fresh b (by omega)
  · intro b o1 hg
    rw [ASt.get_new] at hg
    show b < σ.next + 1
    split at hg
    · omega
    · have := h.bounded b o1 hg; omega

theorem Grow.refl (σ : ASt) : Grow B w0 σ σ := ⟨Nat.le_refl _, fun _ _ h => h⟩
theorem Grow.trans {σ σ' σ'' : ASt} (h : Grow B w0 σ σ') (h' : Grow B w0 σ' σ'') : Grow B w0 σ σ'' := ⟨Nat.le_trans h.1 h'.1, fun ρ w hw => h'.2 ρ w (h.2 ρ w hw)⟩
theorem Grow.new (σ : ASt) (o : AObj) : Grow B w0 σ (σ.new o) := ⟨Nat.le_succ _, fun _ _ h => h.pend o⟩

def Keep (all : List Oper) (ts ts' : List Value) : Prop := ts'.length = ts.length ∧ ∀ d, (∀ o, o ∈ all → o.dst ≠ some d) → ts'.getD d undef = ts.getD d undef
theorem Keep.refl (all : List Oper) (ts : List Value) : Keep all ts ts := ⟨rfl, fun _ _ => rfl⟩
theorem Keep.trans {all : List Oper} {a b c : List Value} (h : Keep all a b) (h' : Keep all b c) : Keep all a c := ⟨h'.1.trans h.1, fun d hd => (h'.2 d hd).trans (h.2 d hd)⟩
theorem Keep.put {all : List Oper} {o : Oper} (ho : o ∈ all) (ts : List Value) (v : Value) : Keep all ts (putT ts o.dst v) := by
  cases hd : o.dst with
  | none => exact Keep.refl _ _
  | some d =>
    refine ⟨by simp [putT, setF_eq], fun d' hd' => ?_⟩
    have : d ≠ d' := fun e => hd' o ho (e ▸ hd)
    simp only [putT, setF_eq, List.getD_eq_getElem?_getD]
    rw [List.getElem?_set_ne this]

theorem passA_spec {all : List Oper} : ∀ (l : List (Nat × Oper)) (s : PSt), (∀ p, p ∈ l → p.2 ∈ all) → Grow B w0 s.σ (passA P G all l s).σ ∧ Keep all s.ts (passA P G all l s).ts := by
  intro l
  induction l with
  | nil => intro s _; exact ⟨.refl _, .refl _ _⟩
  | cons p l ih =>
    intro s hl
    obtain ⟨i, o⟩ := p
    have ho : o ∈ all := hl (i, o) List.mem_cons_self
    have hl' : ∀ p, p ∈ l → p.2 ∈ all := fun p hp => hl p (List.mem_cons_of_mem _ hp)
    simp only [passA]
    cases hb : (!Nat.testBit s.dn i && Nat.beq (Nat.land (predM o) s.dn) (predM o)) with
    | false => simp only [cond_false]; exact ih s hl'
    | true =>
      simp only [cond_true]
      split
      · have := ih ⟨Nat.lor s.dn (bitA i), putT s.ts o.dst undef, s.σ, s.ids⟩ hl'
        exact ⟨this.1, (Keep.put ho _ _).trans this.2⟩
      · split
        · rename_i v hv
          have := ih ⟨Nat.lor s.dn (bitA i), putT s.ts o.dst v, s.σ, s.ids⟩ hl'
          exact ⟨this.1, (Keep.put ho _ _).trans this.2⟩
        · split
          · rename_i r hr
            have := ih ⟨Nat.lor s.dn (bitA i), putT s.ts o.dst r.1, s.σ.new r.2, (i, s.σ.next) :: s.ids⟩ hl'
            exact ⟨(Grow.new _ _).trans this.1, (Keep.put ho _ _).trans this.2⟩
          · exact ih s hl'
      · exact ih s hl'

theorem firstU_mem {dn : Nat} : ∀ {l : List (Nat × Oper)} {p : Nat × Oper}, firstU dn l = some p → p ∈ l := by
  intro l
  induction l with
  | nil => intro p h; cases h
  | cons q l ih =>
    intro p h
    simp only [firstU] at h
    cases hb : Nat.testBit dn q.1 with
    | true => rw [hb] at h; exact List.mem_cons_of_mem _ (ih h)
    | false => rw [hb] at h; simp only [cond_false, Option.some.injEq] at h; subst h; exact List.mem_cons_self

/-- What the order says of each operation that writes. -/
def Chain (R : Rec) (x : Known) (P : Program) (G : Gl) (B : Nat) (w0 : World) (all : List Oper) (fin : ASt) : ASt → List Stage → Prop
  | σ, [] => Grow B w0 σ fin
  | σ, s :: r => Grow B w0 σ s.σ ∧ all[s.i]? = some s.o ∧ writerA R x P G s.ts s.o s.σ = some [(s.v, s.σ')] ∧ Chain R x P G B w0 all fin s.σ' r

theorem stagesA_spec {all : List Oper} : ∀ (k : Nat) (s0 : PSt) {sts : List Stage} {s : PSt}, stagesA R x P G all (indexA' all 0) k s0 = some (sts, s) →
    Chain R x P G B w0 all s.σ s0.σ sts ∧ Keep all s0.ts s.ts := by
  intro k
  induction k with
  | zero => intro s0 sts s h; cases h
  | succ k ih =>
    intro s0 sts s h
    simp only [stagesA] at h
    have hpass := passA_spec (P := P) (G := G) (B := B) (w0 := w0) (all := all) (indexA' all 0) s0 (fun p hp => by
      obtain ⟨i, o⟩ := p
      exact List.mem_of_getElem? (mem_index0.1 hp))
    split at h
    · simp only [Option.some.injEq, Prod.mk.injEq] at h
      obtain ⟨rfl, rfl⟩ := h
      exact ⟨hpass.1, hpass.2⟩
    · rename_i p hp
      have hmem := firstU_mem hp
      split at h
      · rename_i r hr
        split at h
        · rename_i q hq
          simp only [Option.some.injEq, Prod.mk.injEq] at h
          obtain ⟨rfl, rfl⟩ := h
          obtain ⟨q1, q2⟩ := q
          obtain ⟨h1, h2⟩ := ih _ hq
          obtain ⟨i, o⟩ := p
          have ho := mem_index0.1 hmem
          exact ⟨⟨hpass.1, ho, hr, h1⟩, (hpass.2.trans (Keep.put (List.mem_of_getElem? ho) _ _)).trans h2⟩
        · cases h
      · cases h
end
end Go.Cre
end
