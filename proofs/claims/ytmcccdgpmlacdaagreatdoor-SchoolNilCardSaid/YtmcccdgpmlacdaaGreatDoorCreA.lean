/-
An abstract evaluator of the model's code: block numbers are abstract, a row that was appended to may have more room than is known, and nothing is drawn from the tape.
-/
import GoSem.Step
import Derived.Orders
namespace Go.Cre

/-! ## A map from numbers, by their bits -/

inductive Trie (α : Type) where
  | leaf
  | node (v : Option α) (l r : Trie α)

namespace Trie
variable {α : Type}
def get : Trie α → Nat → Option α
  | .leaf, _ => none
  | .node v l r, k => bif Nat.beq k 0 then v else bif Nat.beq (k % 2) 1 then l.get (k / 2) else r.get (k / 2 - 1)
def putF : Nat → Trie α → Nat → Option α → Trie α
  | 0, t, _, _ => t
  | f + 1, .leaf, k, x => bif Nat.beq k 0 then .node x .leaf .leaf else bif Nat.beq (k % 2) 1 then .node none (putF f .leaf (k / 2) x) .leaf else .node none .leaf (putF f .leaf (k / 2 - 1) x)
  | f + 1, .node v l r, k, x => bif Nat.beq k 0 then .node x l r else bif Nat.beq (k % 2) 1 then .node v (putF f l (k / 2) x) r else .node v l (putF f r (k / 2 - 1) x)
def put (t : Trie α) (k : Nat) (x : Option α) : Trie α := putF (k + 1) t k x

theorem nbF {a b : Nat} (h : a ≠ b) : Nat.beq a b = false := by
  cases e : Nat.beq a b with
  | false => rfl
  | true => exact absurd (Nat.eq_of_beq_eq_true e) h
theorem nbT {a b : Nat} (h : a = b) : Nat.beq a b = true := by subst h; exact Nat.beq_refl a
theorem get_leaf (k : Nat) : (Trie.leaf : Trie α).get k = none := rfl

theorem get_putF : ∀ (f : Nat) (t : Trie α) (k : Nat) (x : Option α), k < f → ∀ j, (putF f t k x).get j = if j = k then x else t.get j := by
  intro f
  induction f with
  | zero => intro t k x h; omega
  | succ f ih =>
    intro t k x h j
    have half : ∀ k, k ≠ 0 → k / 2 < k := fun k hk => by omega
    have half' : ∀ k, k ≠ 0 → k / 2 - 1 < k := fun k hk => by omega
    cases t with
    | leaf =>
      unfold putF
      by_cases hk : k = 0
      · subst hk
        simp only [Nat.beq_refl, cond_true, get]
        by_cases hj : j = 0
        · subst hj; simp
        · have hb : Nat.beq j 0 = false := nbF hj
          simp only [hb, cond_false, hj, if_false]
          cases Nat.beq (j % 2) 1 <;> rfl
      · have hb : Nat.beq k 0 = false := nbF hk
        simp only [hb, cond_false]
        by_cases h1 : k % 2 = 1
        · have hb1 : Nat.beq (k % 2) 1 = true := nbT h1
          simp only [hb1, cond_true, get]
          by_cases hj : j = 0
          · subst hj
            simp only [Nat.beq_refl, cond_true]
            rw [if_neg (fun e => hk e.symm)]
          · have hbj : Nat.beq j 0 = false := nbF hj
            simp only [hbj, cond_false]
            by_cases h2 : j % 2 = 1
            · have hb2 : Nat.beq (j % 2) 1 = true := nbT h2
              simp only [hb2, cond_true]
              rw [ih _ _ _ (by have := half k hk; omega)]
              by_cases e : j = k
              · subst e; simp
              · rw [if_neg e, if_neg (fun e' => e (by omega))]; rfl
            · have hb2 : Nat.beq (j % 2) 1 = false := nbF h2
              simp only [hb2, cond_false]
              rw [if_neg (fun e => h2 (by rw [e]; exact h1))]
        · have hb1 : Nat.beq (k % 2) 1 = false := nbF h1
          simp only [hb1, cond_false, get]
          by_cases hj : j = 0
          · subst hj
            simp only [Nat.beq_refl, cond_true]
            rw [if_neg (fun e => hk e.symm)]
          · have hbj : Nat.beq j 0 = false := nbF hj
            simp only [hbj, cond_false]
            by_cases h2 : j % 2 = 1
            · have hb2 : Nat.beq (j % 2) 1 = true := nbT h2
              simp only [hb2, cond_true]
              rw [if_neg (fun e => h1 (by rw [← e]; exact h2))]
            · have hb2 : Nat.beq (j % 2) 1 = false := nbF h2
              simp only [hb2, cond_false]
              rw [ih _ _ _ (by have := half' k hk; omega)]
              by_cases e : j = k
              · subst e; simp
              · rw [if_neg e, if_neg (fun e' => e (by omega))]; rfl
    | node v l r =>
      unfold putF
      by_cases hk : k = 0
      · subst hk
        simp only [Nat.beq_refl, cond_true, get]
        by_cases hj : j = 0
        · subst hj; simp
        · have hb : Nat.beq j 0 = false := nbF hj
          simp only [hb, cond_false, hj, if_false]
      · have hb : Nat.beq k 0 = false := nbF hk
        simp only [hb, cond_false]
        by_cases h1 : k % 2 = 1
        · have hb1 : Nat.beq (k % 2) 1 = true := nbT h1
          simp only [hb1, cond_true, get]
          by_cases hj : j = 0
          · subst hj
            simp only [Nat.beq_refl, cond_true]
            rw [if_neg (fun e => hk e.symm)]
          · have hbj : Nat.beq j 0 = false := nbF hj
            simp only [hbj, cond_false]
            by_cases h2 : j % 2 = 1
            · have hb2 : Nat.beq (j % 2) 1 = true := nbT h2
              simp only [hb2, cond_true]
              rw [ih _ _ _ (by have := half k hk; omega)]
              by_cases e : j = k
              · subst e; simp
              · rw [if_neg e, if_neg (fun e' => e (by omega))]
            · have hb2 : Nat.beq (j % 2) 1 = false := nbF h2
              simp only [hb2, cond_false]
              rw [if_neg (fun e => h2 (by rw [e]; exact h1))]
        · have hb1 : Nat.beq (k % 2) 1 = false := nbF h1
          simp only [hb1, cond_false, get]
          by_cases hj : j = 0
          · subst hj
            simp only [Nat.beq_refl, cond_true]
            rw [if_neg (fun e => hk e.symm)]
          · have hbj : Nat.beq j 0 = false := nbF hj
            simp only [hbj, cond_false]
            by_cases h2 : j % 2 = 1
            · have hb2 : Nat.beq (j % 2) 1 = true := nbT h2
              simp only [hb2, cond_true]
              rw [if_neg (fun e => h1 (by rw [← e]; exact h2))]
            · have hb2 : Nat.beq (j % 2) 1 = false := nbF h2
              simp only [hb2, cond_false]
              rw [ih _ _ _ (by have := half' k hk; omega)]
              by_cases e : j = k
              · subst e; simp
              · rw [if_neg e, if_neg (fun e' => e (by omega))]

theorem get_put (t : Trie α) (k : Nat) (x : Option α) (j : Nat) : (t.put k x).get j = if j = k then x else t.get j :=
  get_putF _ t k x (by omega) j

/-! The same, as the kernel likes it. -/
noncomputable def getQ (t : Trie α) (k : Nat) : Option α :=
  Trie.rec (motive := fun _ => Nat → Option α) (fun _ => none)
    (fun v _ _ ihl ihr k => Bool.casesOn (Nat.beq k 0) (Bool.casesOn (Nat.beq (Nat.mod k 2) 1) (ihr (Nat.sub (Nat.div k 2) 1)) (ihl (Nat.div k 2))) v) t k
noncomputable def putQF (x : Option α) (f : Nat) : Trie α → Nat → Trie α :=
  Nat.rec (motive := fun _ => Trie α → Nat → Trie α) (fun t _ => t)
    (fun _ ih t k => Trie.casesOn t
      (Bool.casesOn (Nat.beq k 0) (Bool.casesOn (Nat.beq (Nat.mod k 2) 1) (.node none .leaf (ih .leaf (Nat.sub (Nat.div k 2) 1))) (.node none (ih .leaf (Nat.div k 2)) .leaf)) (.node x .leaf .leaf))
      (fun v l r => Bool.casesOn (Nat.beq k 0) (Bool.casesOn (Nat.beq (Nat.mod k 2) 1) (.node v l (ih r (Nat.sub (Nat.div k 2) 1))) (.node v (ih l (Nat.div k 2)) r)) (.node x l r))) f
noncomputable def putQ (t : Trie α) (k : Nat) (x : Option α) : Trie α := putQF x (Nat.succ k) t k

theorem getQ_eq (t : Trie α) : ∀ k, getQ t k = get t k := by
  induction t with
  | leaf => intro k; rfl
  | node v l r ihl ihr =>
    intro k
    show Bool.casesOn (motive := fun _ => Option α) (Nat.beq k 0) (Bool.casesOn (motive := fun _ => Option α) (Nat.beq (Nat.mod k 2) 1) (getQ r (Nat.sub (Nat.div k 2) 1)) (getQ l (Nat.div k 2))) v = _
    rw [ihl, ihr]
    rw [show get (.node v l r) k = cond (Nat.beq k 0) v (cond (Nat.beq (Nat.mod k 2) 1) (get l (Nat.div k 2)) (get r (Nat.sub (Nat.div k 2) 1))) from rfl]
    cases Nat.beq k 0 with
    | true => rfl
    | false => cases Nat.beq (Nat.mod k 2) 1 <;> rfl
theorem putQF_eq (x : Option α) : ∀ f (t : Trie α) k, putQF x f t k = putF f t k x := by
  intro f
  induction f with
  | zero => intro t k; rfl
  | succ f ih =>
    intro t k
    cases t with
    | leaf =>
      show Bool.casesOn (motive := fun _ => Trie α) (Nat.beq k 0) (Bool.casesOn (motive := fun _ => Trie α) (Nat.beq (Nat.mod k 2) 1) (Trie.node none .leaf (putQF x f .leaf (Nat.sub (Nat.div k 2) 1))) (.node none (putQF x f .leaf (Nat.div k 2)) .leaf)) (.node x .leaf .leaf) = cond (Nat.beq k 0) _ (cond (Nat.beq (Nat.mod k 2) 1) _ _)
      rw [ih, ih]
      cases Nat.beq k 0 with
      | true => rfl
      | false => cases Nat.beq (Nat.mod k 2) 1 <;> rfl
    | node v l r =>
      show Bool.casesOn (motive := fun _ => Trie α) (Nat.beq k 0) (Bool.casesOn (motive := fun _ => Trie α) (Nat.beq (Nat.mod k 2) 1) (Trie.node v l (putQF x f r (Nat.sub (Nat.div k 2) 1))) (.node v (putQF x f l (Nat.div k 2)) r)) (.node x l r) = cond (Nat.beq k 0) _ (cond (Nat.beq (Nat.mod k 2) 1) _ _)
      rw [ih, ih]
      cases Nat.beq k 0 with
      | true => rfl
      | false => cases Nat.beq (Nat.mod k 2) 1 <;> rfl
theorem getQ_putQ (t : Trie α) (k : Nat) (x : Option α) (j : Nat) : (t.putQ k x).getQ j = if j = k then x else t.getQ j := by
  rw [getQ_eq, getQ_eq]
  show get (putQF x (k + 1) t k) j = _
  rw [putQF_eq]
  exact get_putF _ t k x (by omega) j
end Trie

/-! ## Abstract objects and states -/

/-- What of a row may not be written: nothing; a stretch of it; the mark behind its end. -/
inductive AFr where
  | no
  | span (lo hi : Nat)
  | tail
  | any

/-- An object; the addresses in it are abstract. 'sz': cells an element; 'opn': the row may go on behind what is known; 'ro': it was there before. -/
inductive AObj where
  | cells (vs : List Value) (elem : TypeId) (sz : Nat) (opn : Bool) (fr : AFr) (ro : Bool)
  | map (es : List MapEntry) (clock : Nat)
  | mapIter (m : Option Nat) (since : Nat) (seen : List Nat) (last : Nat)
  | loop (state : LoopState) (pending : Option Code) (tmps : List Value) (params : Array Tmp) (assign body : Code) (defers : Nat)
  | deferred (taken : Bool)

structure ASt where
  heap : Trie AObj
  next : Nat

noncomputable def ASt.get (σ : ASt) (b : Nat) : Option AObj := σ.heap.getQ b
noncomputable def ASt.put (σ : ASt) (b : Nat) (o : AObj) : ASt := { heap := σ.heap.putQ b (some o), next := σ.next }
noncomputable def ASt.kill (σ : ASt) (b : Nat) : ASt := { heap := σ.heap.putQ b none, next := σ.next }
noncomputable def ASt.new (σ : ASt) (o : AObj) : ASt := { heap := σ.heap.putQ σ.next (some o), next := Nat.succ σ.next }

theorem ASt.get_put (σ : ASt) (b : Nat) (o : AObj) (j : Nat) : (σ.put b o).get j = if j = b then some o else σ.get j := Trie.getQ_putQ _ _ _ _
theorem ASt.get_kill (σ : ASt) (b : Nat) (j : Nat) : (σ.kill b).get j = if j = b then none else σ.get j := Trie.getQ_putQ _ _ _ _
theorem ASt.get_new (σ : ASt) (o : AObj) (j : Nat) : (σ.new o).get j = if j = σ.next then some o else σ.get j := Trie.getQ_putQ _ _ _ _

/-! ## Where an abstract block lies, and what a value is there -/

structure Tgt where
  blk : Nat
  off : Nat
  len : Nat
  extra : Nat
  sz : Nat
  val : Value := .tuple #[]

abbrev Ren := Nat → Option Tgt

/-- No address in it, at the top. -/
def flat : Value → Bool
  | .bool _ | .int .. | .float .. | .string _ | .nilFunc | .nilIface => true
  | .pointer a => a.isNone
  | .slice a _ _ => a.isNone
  | .map r => r.isNone
  | .chan r => r.isNone
  | _ => false

/-- A value that takes one cell. -/
def single : Value → Bool
  | .agg _ | .tuple _ => false
  | _ => true

def FnRel (ρ : Ren) : Fn → Fn → Prop
  | .yield l, f' => ∃ t, ρ l = some t ∧ f' = .yield t.blk
  | f, f' => f' = f

mutual
inductive VRel (ρ : Ren) : Value → Value → Prop
  | flat {v : Value} (h : flat v = true) : VRel ρ v v
  | ptr {b o : Nat} {t : Tgt} (h : ρ b = some t) : VRel ρ (.pointer (some ⟨b, o, none⟩)) (.pointer (some ⟨t.blk, t.off + o, none⟩))
  | slice {b o len cap : Nat} {t : Tgt} (h : ρ b = some t) (hc : cap ≠ 0) :
      VRel ρ (.slice (some ⟨b, o, none⟩) len cap) (.slice (some ⟨t.blk, t.off + o, none⟩) len (cap + if o + cap * t.sz = t.len then t.extra else 0))
  | slice0 {b o o' cap' : Nat} {t : Tgt} (h : ρ b = some t) (hc : cap' = 0 ∨ (o = t.len ∧ o' = t.off + o ∧ cap' = t.extra)) :
      VRel ρ (.slice (some ⟨b, o, none⟩) 0 0) (.slice (some ⟨t.blk, o', none⟩) 0 cap')
  | map {b : Nat} {t : Tgt} (h : ρ b = some t) : VRel ρ (.map (some b)) (.map (some t.blk))
  | iface {t : TypeId} {v v' : Value} (h : VRel ρ v v') : VRel ρ (.iface t v) (.iface t v')
  | func {f f' : Fn} {a a' b b' : List Value} (hf : FnRel ρ f f') (ha : LRel ρ a a') (hb : LRel ρ b b') : VRel ρ (.func f ⟨a⟩ ⟨b⟩) (.func f' ⟨a'⟩ ⟨b'⟩)
  | agg {a a' : List Value} (h : LRel ρ a a') : VRel ρ (.agg ⟨a⟩) (.agg ⟨a'⟩)
  | tuple {a a' : List Value} (h : LRel ρ a a') : VRel ρ (.tuple ⟨a⟩) (.tuple ⟨a'⟩)
  | tok {k : Nat} {t : Tgt} (h : ρ k = some t) (h1 : single t.val = true) : VRel ρ (.chan (some k)) t.val
  | hole {k : FloatKind} {x y : Nat} {v' : Value} : VRel ρ (.complex k x y) v'
inductive LRel (ρ : Ren) : List Value → List Value → Prop
  | nil : LRel ρ [] []
  | cons {v v' : Value} {l l' : List Value} (h : VRel ρ v v') (hl : LRel ρ l l') : LRel ρ (v :: l) (v' :: l')
end

end Go.Cre
