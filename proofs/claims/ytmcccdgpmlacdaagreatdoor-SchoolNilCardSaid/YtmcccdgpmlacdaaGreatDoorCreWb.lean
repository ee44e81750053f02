/-
Objects under other numbers; outcomes that are the same but for their numbers.
-/
import Derived.Test.YtmcccdgpmlacdaaGreatDoorCreWa
noncomputable section
namespace Go.Cre
open Go.RowKit (Below)

def alOf : List (Nat × Nat) → Nat → Nat
  | [], b => b
  | p :: r, b => bif Nat.beq p.1 b then p.2 else alOf r b
def renA (al : List (Nat × Nat)) : Option Addr → Option Addr
  | some ⟨b, o, none⟩ => some ⟨alOf al b, o, none⟩
  | a => a
def renF (al : List (Nat × Nat)) : Fn → Fn
  | .yield l => .yield (alOf al l)
  | f => f
def renV (al : List (Nat × Nat)) : Nat → Value → Value
  | 0, v => v
  | n + 1, v => match v with
    | .pointer a => .pointer (renA al a)
    | .slice a l c => .slice (renA al a) l c
    | .map (some b) => .map (some (alOf al b))
    | .iface t v => .iface t (renV al n v)
    | .func f a b => .func (renF al f) ⟨a.toList.map (renV al n)⟩ ⟨b.toList.map (renV al n)⟩
    | .agg a => .agg ⟨a.toList.map (renV al n)⟩
    | .tuple a => .tuple ⟨a.toList.map (renV al n)⟩
    | v => v
def renO (al : List (Nat × Nat)) : AObj → AObj
  | .cells vs e sz opn fr ro => .cells (vs.map (renV al depth)) e sz opn fr ro
  | .map es c => .map (es.map fun e => ⟨e.key, renV al depth e.val, e.born⟩) c
  | .mapIter (some m) s q l => .mapIter (some (alOf al m)) s q l
  | .loop s p ts ps a b d => .loop s p (ts.map (renV al depth)) ps a b (alOf al d)
  | o => o
def mapQ (f : AObj → AObj) (t : Trie AObj) : Trie AObj := Trie.rec (motive := fun _ => Trie AObj) .leaf (fun v _ _ l r => .node (Option.map f v) l r) t
def moveQ : List (Nat × Nat) → Trie AObj → Trie AObj
  | [], h => h
  | p :: r, h => moveQ r ((h.putQ p.2 (h.getQ p.1)).putQ p.1 none)

theorem mapQ_get (f : AObj → AObj) : ∀ (t : Trie AObj) (k : Nat), (mapQ f t).getQ k = (t.getQ k).map f := by
  intro t
  have key : ∀ (t : Trie AObj) (k : Nat), Trie.get (mapQ f t) k = (Trie.get t k).map f := by
    intro t
    induction t with
    | leaf => intro k; rfl
    | node v l r ihl ihr =>
      intro k
      show (bif Nat.beq k 0 then Option.map f v else bif Nat.beq (k % 2) 1 then (mapQ f l).get (k / 2) else (mapQ f r).get (k / 2 - 1)) = Option.map f (bif Nat.beq k 0 then v else bif Nat.beq (k % 2) 1 then l.get (k / 2) else r.get (k / 2 - 1))
      rw [ihl, ihr]
      cases Nat.beq k 0 with
      | true => rfl
      | false => cases Nat.beq (k % 2) 1 <;> rfl
  intro k
  rw [Trie.getQ_eq, Trie.getQ_eq]
  exact key t k

theorem moveQ_get : ∀ (al : List (Nat × Nat)) (h : Trie AObj) (b : Nat) (o : AObj), (∀ p, p ∈ al → ∀ q, q ∈ al → p.1 ≠ q.2) → (moveQ al h).getQ b = some o →
    (∃ p, p ∈ al ∧ p.2 = b ∧ h.getQ p.1 = some o) ∨ ((∀ p, p ∈ al → p.1 ≠ b ∧ p.2 ≠ b) ∧ h.getQ b = some o) := by
  intro al
  induction al with
  | nil => intro h b o _ hg; exact .inr ⟨fun p hp => (by cases hp), hg⟩
  | cons p r ih =>
    intro h b o hd hg
    have hp := List.mem_cons_self (a := p) (l := r)
    have key : ∀ c o, ((h.putQ p.2 (h.getQ p.1)).putQ p.1 none).getQ c = some o → c ≠ p.1 ∧ ((c = p.2 ∧ h.getQ p.1 = some o) ∨ (c ≠ p.2 ∧ h.getQ c = some o)) := by
      intro c o hc
      rw [Trie.getQ_putQ] at hc
      split at hc
      · cases hc
      · rename_i h1
        rw [Trie.getQ_putQ] at hc
        split at hc
        · rename_i h2; exact ⟨h1, .inl ⟨h2, hc⟩⟩
        · rename_i h2; exact ⟨h1, .inr ⟨h2, hc⟩⟩
    rcases ih _ b o (fun q hq q' hq' => hd q (List.mem_cons_of_mem _ hq) q' (List.mem_cons_of_mem _ hq')) hg with ⟨q, hq, h1, h2⟩ | ⟨h1, h2⟩
    · obtain ⟨k1, k2 | k2⟩ := key _ _ h2
      · exact absurd k2.1 (hd q (List.mem_cons_of_mem _ hq) p hp)
      · exact .inl ⟨q, List.mem_cons_of_mem _ hq, h1, k2.2⟩
    · obtain ⟨k1, k2 | k2⟩ := key _ _ h2
      · exact .inl ⟨p, hp, k2.1.symm, k2.2⟩
      · refine .inr ⟨fun q hq => ?_, k2.2⟩
        rcases List.mem_cons.1 hq with rfl | hq
        · exact ⟨fun e => k1 e.symm, fun e => k2.1 e.symm⟩
        · exact h1 q hq

/-- What is asked of the new numbers. -/
def okAl (n n' : Nat) : List (Nat × Nat) → Bool
  | [] => Nat.ble n n'
  | p :: r => Nat.blt p.1 n && Nat.ble n p.2 && Nat.blt p.2 n' && r.all (fun q => !Nat.beq q.2 p.2 && !Nat.beq q.1 p.1) && okAl n n' r

theorem okAl_spec {n n' : Nat} : ∀ {al : List (Nat × Nat)}, okAl n n' al = true → n ≤ n' ∧ (∀ p, p ∈ al → p.1 < n ∧ n ≤ p.2 ∧ p.2 < n') ∧ (∀ p, p ∈ al → ∀ q, q ∈ al → (p.2 = q.2 ∨ p.1 = q.1) → p = q) := by
  intro al
  induction al with
  | nil => intro h; exact ⟨by simpa [okAl] using h, fun p hp => (by cases hp), fun p hp => (by cases hp)⟩
  | cons p r ih =>
    intro h
    simp only [okAl, Bool.and_eq_true, Nat.blt_eq, Nat.ble_eq] at h
    obtain ⟨⟨⟨⟨h1, h2⟩, h3⟩, h4⟩, h5⟩ := h
    obtain ⟨k1, k2, k3⟩ := ih h5
    have hne : ∀ q, q ∈ r → q.2 ≠ p.2 ∧ q.1 ≠ p.1 := fun q hq => by
      have := List.all_eq_true.1 h4 q hq
      simp only [Bool.and_eq_true, Bool.not_eq_true'] at this
      refine ⟨fun e => ?_, fun e => ?_⟩
      · rw [e, Nat.beq_refl] at this; cases this.1
      · rw [e, Nat.beq_refl] at this; cases this.2
    refine ⟨k1, fun q hq => ?_, fun q hq q' hq' e => ?_⟩
    · rcases List.mem_cons.1 hq with hq | hq
      · subst hq; exact ⟨h1, h2, h3⟩
      · exact k2 q hq
    · rcases List.mem_cons.1 hq with ha | ha <;> rcases List.mem_cons.1 hq' with hb | hb
      · rw [ha, hb]
      · rw [ha] at e ⊢
        rcases e with e | e
        · exact absurd e.symm (hne q' hb).1
        · exact absurd e.symm (hne q' hb).2
      · rw [hb] at e ⊢
        rcases e with e | e
        · exact absurd e (hne q ha).1
        · exact absurd e (hne q ha).2
      · exact k3 q ha q' hb e

def backOf : List (Nat × Nat) → Nat → Nat
  | [], b => b
  | p :: r, b => bif Nat.beq p.2 b then p.1 else backOf r b
def renR (al : List (Nat × Nat)) (ρ : Ren) : Ren := fun b => ρ (backOf al b)

section
variable {B : Nat} {w0 : World} {ρ : Ren} {σ : ASt} {w : World} {al : List (Nat × Nat)} {n' : Nat}

theorem backOf_new (hd : ∀ p, p ∈ al → ∀ q, q ∈ al → (p.2 = q.2 ∨ p.1 = q.1) → p = q) {p : Nat × Nat} (hp : p ∈ al) : backOf al p.2 = p.1 := by
  induction al with
  | nil => cases hp
  | cons q r ih =>
    simp only [backOf]
    cases hb : Nat.beq q.2 p.2 with
    | true =>
      simp only [cond_true]
      rw [hd q List.mem_cons_self p hp (.inl (Nat.eq_of_beq_eq_true hb))]
    | false =>
      simp only [cond_false]
      rcases List.mem_cons.1 hp with rfl | hp
      · rw [Nat.beq_refl] at hb; cases hb
      · exact ih (fun a ha b hb => hd a (List.mem_cons_of_mem _ ha) b (List.mem_cons_of_mem _ hb)) hp
theorem backOf_other {b : Nat} (h : ∀ p, p ∈ al → p.2 ≠ b) : backOf al b = b := by
  induction al with
  | nil => rfl
  | cons q r ih =>
    simp only [backOf]
    rw [show Nat.beq q.2 b = false from Trie.nbF (h q List.mem_cons_self)]
    exact ih fun p hp => h p (List.mem_cons_of_mem _ hp)
theorem alOf_cases (b : Nat) : (∃ p, p ∈ al ∧ p.1 = b ∧ alOf al b = p.2) ∨ alOf al b = b := by
  induction al with
  | nil => exact .inr rfl
  | cons q r ih =>
    simp only [alOf]
    cases hb : Nat.beq q.1 b with
    | true => exact .inl ⟨q, List.mem_cons_self, Nat.eq_of_beq_eq_true hb, rfl⟩
    | false =>
      rcases ih with ⟨p, h1, h2⟩ | h
      · exact .inl ⟨p, List.mem_cons_of_mem _ h1, h2⟩
      · exact .inr h

structure Ren2 (al : List (Nat × Nat)) (ρ ρ' : Ren) : Prop where
  sub : Sub ρ ρ'
  al : ∀ b t, ρ b = some t → ρ' (alOf al b) = some t

theorem renR_ok (h : WRel B w0 ρ σ w) (ho : okAl σ.next n' al = true) : Ren2 al ρ (renR al ρ) ∧ Ext σ.next ρ (renR al ρ) := by
  obtain ⟨h1, h2, h3⟩ := okAl_spec ho
  have lt : ∀ b t, ρ b = some t → b < σ.next := fun b t hb => Decidable.byContradiction fun hc => by rw [h.fresh b (by omega)] at hb; cases hb
  have low : ∀ b, b < σ.next → backOf al b = b := fun b hb => backOf_other fun p hp e => by have := (h2 p hp).2.1; omega
  refine ⟨⟨fun b t hb => ?_, fun b t hb => ?_⟩, fun b hb => ?_⟩
  · show ρ (backOf al b) = some t
    rw [low b (lt b t hb)]; exact hb
  · show ρ (backOf al (alOf al b)) = some t
    rcases alOf_cases (al := al) b with ⟨p, k1, k2, k3⟩ | k
    · rw [k3, backOf_new h3 k1, k2]; exact hb
    · rw [k, low b (lt b t hb)]; exact hb
  · show ρ (backOf al b) = ρ b
    rw [low b hb]

theorem renF_rel {ρ' : Ren} (hr : Ren2 al ρ ρ') {f f' : Fn} (h : FnRel ρ f f') : FnRel ρ' (renF al f) f' := by
  cases f with
  | yield l => obtain ⟨t, ht, he⟩ := h; exact ⟨t, hr.al _ _ ht, he⟩
  | _ => exact h
mutual
theorem renV_rel {ρ' : Ren} (hr : Ren2 al ρ ρ') {v v' : Value} (h : VRel ρ v v') : ∀ n, VRel ρ' (renV al n v) v'
  | 0 => h.mono hr.sub
  | n + 1 => by
    cases h with
    | flat h => cases v <;> first
        | exact .flat h
        | (simp [flat] at h; done)
        | (rename_i a; cases a <;> first | exact .flat rfl | (simp [flat] at h; done))
        | (rename_i a _ _; cases a <;> first | exact .flat rfl | (simp [flat] at h; done))
    | ptr h => exact .ptr (hr.al _ _ h)
    | slice h hc => exact .slice (hr.al _ _ h) hc
    | slice0 h hc => exact .slice0 (hr.al _ _ h) hc
    | map h => exact .map (hr.al _ _ h)
    | iface h => exact .iface (renV_rel hr h n)
    | func hf ha hb => exact .func (renF_rel hr hf) (renL_rel hr ha n) (renL_rel hr hb n)
    | agg h => exact .agg (renL_rel hr h n)
    | tuple h => exact .tuple (renL_rel hr h n)
    | tok h h1 => exact .tok (hr.sub _ _ h) h1
    | hole => exact .hole
theorem renL_rel {ρ' : Ren} (hr : Ren2 al ρ ρ') {l l' : List Value} (h : LRel ρ l l') : ∀ n, LRel ρ' (l.map (renV al n)) l' := fun n => by
  cases h with
  | nil => exact .nil
  | cons h hl => exact .cons (renV_rel hr h n) (renL_rel hr hl n)
end
theorem renE_rel {ρ' : Ren} (hr : Ren2 al ρ ρ') {l l' : List MapEntry} (h : ERel ρ l l') : ERel ρ' (l.map fun e => ⟨e.key, renV al depth e.val, e.born⟩) l' := by
  induction h with
  | nil => exact .nil
  | cons hk hv _ ih => exact .cons hk (renV_rel hr hv depth) ih
theorem renO_rel {ρ' : Ren} (hr : Ren2 al ρ ρ') {t : Tgt} {o : AObj} {o' : Obj} (h : ORel ρ t o o') : ORel ρ' t (renO al o) o' := by
  cases o with
  | cells vs e sz opn fr ro =>
    obtain ⟨ys, f, h1, h2, h3, h4, h5, h6⟩ := h
    exact ⟨ys, f, h1, h2, by simpa using h3, by simpa using h4, by simpa using renL_rel hr h5 depth, h6⟩
  | map es c => obtain ⟨es', h1, h2⟩ := h; exact ⟨es', h1, renE_rel hr h2⟩
  | mapIter m s q l => cases m with
    | none => exact h
    | some m => obtain ⟨h0, t, h1, h2⟩ := h; exact ⟨h0, t, hr.al _ _ h1, h2⟩
  | loop s p ts ps a b d => obtain ⟨fn, ts', t, h1, h2, h3⟩ := h; exact ⟨fn, ts', t, hr.al _ _ h1, renL_rel hr h2 depth, h3⟩
  | deferred b => cases b <;> exact h

def renS (al : List (Nat × Nat)) (n' : Nat) (σ : ASt) : ASt := ⟨moveQ al (mapQ (renO al) σ.heap), n'⟩

theorem renS_rel (h : WRel B w0 ρ σ w) (ho : okAl σ.next n' al = true) : WRel B w0 (renR al ρ) (renS al n' σ) w := by
  obtain ⟨h1, h2, h3⟩ := okAl_spec ho
  obtain ⟨hr, he⟩ := renR_ok h ho
  have get : ∀ b o, (renS al n' σ).get b = some o → ∃ o0, σ.get (backOf al b) = some o0 ∧ o = renO al o0 ∧ b < n' ∧ ((∃ p, p ∈ al ∧ p.2 = b) ∨ (backOf al b = b ∧ ∀ p, p ∈ al → p.1 ≠ b)) := by
    intro b o hg
    rcases moveQ_get al _ b o (fun p hp q hq e => by have := (h2 p hp).1; have := (h2 q hq).2.1; omega) hg with ⟨p, hp, k1, k2⟩ | ⟨k1, k2⟩
    · rw [mapQ_get] at k2
      cases hq : σ.heap.getQ p.1 with
      | none => rw [hq] at k2; cases k2
      | some o0 =>
        rw [hq] at k2
        cases k2
        subst k1
        rw [backOf_new h3 hp]
        exact ⟨o0, hq, rfl, (h2 p hp).2.2, .inl ⟨p, hp, rfl⟩⟩
    · rw [mapQ_get] at k2
      cases hq : σ.heap.getQ b with
      | none => rw [hq] at k2; cases k2
      | some o0 =>
        rw [hq] at k2
        cases k2
        have hb := backOf_other (al := al) (b := b) fun p hp => (k1 p hp).2
        have := h.bounded b o0 hq
        exact ⟨o0, by rw [hb]; exact hq, rfl, by omega, .inr ⟨hb, fun p hp => (k1 p hp).1⟩⟩
  refine ⟨h.below, fun b t hb => h.lt _ t hb, ?_, ?_, ?_, ?_, ?_, h.room⟩
  · intro b o t hg hb
    obtain ⟨o0, k1, rfl, _, _⟩ := get b o hg
    obtain ⟨o', k2, k3⟩ := h.obj _ o0 t k1 hb
    exact ⟨o', k2, renO_rel hr k3⟩
  · intro b o t hg hb hro
    obtain ⟨o0, k1, rfl, _, _⟩ := get b o hg
    refine h.own _ o0 t k1 hb ?_
    cases o0 with
    | mapIter m => cases m <;> exact hro
    | _ => exact hro
  · intro b b' o o' t t' hg hg' hb hb' hblk
    obtain ⟨o0, k1, _, _, k4⟩ := get b o hg
    obtain ⟨o1, j1, _, _, j4⟩ := get b' o' hg'
    have e := h.inj _ _ o0 o1 t t' k1 j1 hb hb' hblk
    rcases k4 with ⟨p, hp, rfl⟩ | ⟨k4, k5⟩ <;> rcases j4 with ⟨q, hq, rfl⟩ | ⟨j4, j5⟩
    · rw [backOf_new h3 hp, backOf_new h3 hq] at e
      rw [h3 p hp q hq (.inr e)]
    · rw [backOf_new h3 hp, j4] at e
      exact absurd e (j5 p hp)
    · rw [backOf_new h3 hq, k4] at e
      exact absurd e.symm (k5 q hq)
    · rw [k4, j4] at e; exact e
  · intro b hb
    show ρ (backOf al b) = none
    rw [backOf_other fun p hp e => by have := (h2 p hp).2.2; have : n' ≤ b := hb; omega]
    exact h.fresh b (Nat.le_trans h1 hb)
  · intro b o hg
    exact (get b o hg).choose_spec.2.2.1
end
end Go.Cre
end
