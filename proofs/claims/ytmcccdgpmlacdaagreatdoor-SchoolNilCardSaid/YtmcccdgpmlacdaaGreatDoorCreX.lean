/-
A long closed run in pieces: calls that are proved by themselves, each from the few objects that it reads.
-/
import Derived.Test.YtmcccdgpmlacdaaGreatDoorCreW
noncomputable section
namespace Go.Cre
open Go.RowKit (Below)

def frEq : AFr → AFr → Bool
  | .no, .no => true
  | .span a b, .span c d => Nat.beq a c && Nat.beq b d
  | .tail, .tail => true
  | .any, .any => true
  | _, _ => false
theorem frEq_eq {a b : AFr} (h : frEq a b = true) : a = b := by
  cases a <;> cases b <;> first | rfl | (cases h; done) | skip
  simp only [frEq, Bool.and_eq_true] at h
  rw [Nat.eq_of_beq_eq_true h.1, Nat.eq_of_beq_eq_true h.2]

def entryEq : List MapEntry → List MapEntry → Bool
  | [], [] => true
  | a :: as, b :: bs => veq depth a.key b.key && veq depth a.val b.val && Nat.beq a.born b.born && entryEq as bs
  | _, _ => false
theorem entryEq_eq : ∀ {a b : List MapEntry}, entryEq a b = true → a = b := by
  intro a
  induction a with
  | nil => intro b h; cases b with
    | nil => rfl
    | cons _ _ => cases h
  | cons x a ih => intro b h; cases b with
    | nil => cases h
    | cons y b =>
      simp only [entryEq, Bool.and_eq_true] at h
      rw [ih h.2]
      obtain ⟨xk, xv, xb⟩ := x
      obtain ⟨yk, yv, yb⟩ := y
      have h1 := veq_eq depth h.1.1.1
      have h2 := veq_eq depth h.1.1.2
      have h3 := Nat.eq_of_beq_eq_true h.1.2
      simp only at h1 h2 h3
      rw [h1, h2, h3]

def natsEq : List Nat → List Nat → Bool
  | [], [] => true
  | a :: r, b :: q => Nat.beq a b && natsEq r q
  | _, _ => false
theorem natsEq_eq : ∀ {a b : List Nat}, natsEq a b = true → a = b := by
  intro a
  induction a with
  | nil => intro b h; cases b with
    | nil => rfl
    | cons _ _ => cases h
  | cons x a ih => intro b h; cases b with
    | nil => cases h
    | cons y b =>
      simp only [natsEq, Bool.and_eq_true] at h
      rw [Nat.eq_of_beq_eq_true h.1, ih h.2]

def aobjEq : AObj → AObj → Bool
  | .cells vs e sz opn fr ro, .cells vs' e' sz' opn' fr' ro' => veqL (veq depth) vs vs' && Nat.beq e e' && Nat.beq sz sz' && (opn == opn') && frEq fr fr' && (ro == ro')
  | .map es c, .map es' c' => entryEq es es' && Nat.beq c c'
  | .deferred a, .deferred b => a == b
  | .mapIter m s q l, .mapIter m' s' q' l' => optEq m m' && Nat.beq s s' && natsEq q q' && Nat.beq l l'
  | _, _ => false
theorem aobjEq_eq {a b : AObj} (h : aobjEq a b = true) : a = b := by
  cases a <;> cases b <;> first | (cases h; done) | skip
  · simp only [aobjEq, Bool.and_eq_true, beq_iff_eq] at h
    rw [veqL_eq (fun _ _ => veq_eq depth) h.1.1.1.1.1, Nat.eq_of_beq_eq_true h.1.1.1.1.2, Nat.eq_of_beq_eq_true h.1.1.1.2, h.1.1.2, frEq_eq h.1.2, h.2]
  · simp only [aobjEq, Bool.and_eq_true] at h
    rw [entryEq_eq h.1, Nat.eq_of_beq_eq_true h.2]
  · simp only [aobjEq, Bool.and_eq_true] at h
    rw [optEq_eq h.1.1.1, Nat.eq_of_beq_eq_true h.1.1.2, natsEq_eq h.1.2, Nat.eq_of_beq_eq_true h.2]
  · simp only [aobjEq, beq_iff_eq] at h
    rw [h]

/-- Rows alike, but for who may write them. -/
def asRo : AObj → AObj
  | .cells vs e sz opn fr _ => .cells vs e sz opn fr true
  | o => o

structure Piece where
  g : FuncId
  args : List Value
  n0 : Nat
  pre : List (Nat × AObj)
  v : Value
  n1 : Nat
  objs : List (Nat × AObj)

def putAll (h : Trie AObj) : List (Nat × AObj) → Trie AObj
  | [] => h
  | p :: r => (putAll h r).putQ p.1 (some p.2)

theorem putAll_get {h : Trie AObj} : ∀ {l : List (Nat × AObj)} {b : Nat} {o : AObj}, (putAll h l).getQ b = some o → (b, o) ∈ l ∨ ((∀ p, p ∈ l → p.1 ≠ b) ∧ h.getQ b = some o) := by
  intro l
  induction l with
  | nil => intro b o hg; exact .inr ⟨fun p hp => (by cases hp), hg⟩
  | cons p r ih =>
    intro b o hg
    simp only [putAll, Trie.getQ_putQ] at hg
    split at hg
    · rename_i e
      simp only [Option.some.injEq] at hg
      left
      rw [e, ← hg]
      exact List.mem_cons_self
    · rename_i e
      rcases ih hg with h1 | ⟨h1, h2⟩
      · exact .inl (List.mem_cons_of_mem _ h1)
      · right
        refine ⟨fun q hq => ?_, h2⟩
        rcases List.mem_cons.1 hq with rfl | hq
        · exact fun e' => e e'.symm
        · exact h1 q hq

/-- What is asked, in the kernel, of a piece. -/
def pieceB (R : Rec) (p : Piece) : Bool :=
  p.pre.all (fun q => q.2.isRo) && p.objs.all (fun q => Nat.ble p.n0 q.1 && !q.2.isRo) && Nat.ble p.n0 p.n1 &&
  match R.call p.g p.args ⟨putAll .leaf p.pre, p.n0⟩ with
  | some rs => rs.all fun r => veq depth r.1 p.v && Nat.beq r.2.next p.n1 && p.objs.all fun q => match r.2.get q.1 with
    | some o => aobjEq o q.2
    | none => false
  | none => false

def fitsA (p : Piece) (g : FuncId) (vs : List Value) (σ : ASt) : Bool :=
  Nat.beq p.g g && (Nat.beq p.n0 σ.next && (veqL (veq depth) p.args vs && p.pre.all fun q => match σ.get q.1 with
    | some o => aobjEq (asRo o) q.2
    | none => false))

def piecesA (g : FuncId) (vs : List Value) (σ : ASt) : List Piece → Option (Value × ASt)
  | [] => none
  | p :: r => bif fitsA p g vs σ then some (p.v, ⟨putAll σ.heap p.objs, p.n1⟩) else piecesA g vs σ r

section
variable {P : Program} {G : Gl} {B : Nat} {w0 : World} {ρ : Ren} {σ : ASt} {w : World}

theorem asRo_rel {t : Tgt} {o : AObj} {o' : Obj} (h : ORel ρ t o o') : ORel ρ t (asRo o) o' := by
  cases o <;> exact h

theorem piece_sound {R : Rec} (hR : ∀ B w0, RecOk P G B w0 R) {p : Piece} (hp : pieceB R p = true) {g : FuncId} {vs vs' : List Value} (hf : fitsA p g vs σ = true) (hg : GOk P G ρ) (hw : WRel B w0 ρ σ w) (ha : LRel ρ vs vs') :
    CallsIn Fence.wide 0 P g ⟨vs'⟩ w (CPost B w0 ρ σ.next [(p.v, ⟨putAll σ.heap p.objs, p.n1⟩)]) := by
  simp only [fitsA, Bool.and_eq_true] at hf
  obtain ⟨f1, f2, f3, f4⟩ := hf
  have f1 := Nat.eq_of_beq_eq_true f1
  have f2 := Nat.eq_of_beq_eq_true f2
  have f3 := veqL_eq (fun _ _ => veq_eq depth) f3
  subst f1 f3
  simp only [pieceB, Bool.and_eq_true] at hp
  obtain ⟨⟨⟨p1, p2⟩, p3⟩, p4⟩ := hp
  have p3 : p.n0 ≤ p.n1 := by simpa using p3
  split at p4
  · rename_i rs hrs
    have hpre : ∀ b o, ASt.get ⟨putAll .leaf p.pre, p.n0⟩ b = some o → o.isRo = true ∧ ∃ o1, σ.get b = some o1 ∧ asRo o1 = o := by
      intro b o hgb
      rcases putAll_get hgb with hm | ⟨_, hm⟩
      · refine ⟨List.all_eq_true.1 p1 (b, o) hm, ?_⟩
        have := List.all_eq_true.1 f4 (b, o) hm
        split at this
        · rename_i o1 ho1
          exact ⟨o1, ho1, aobjEq_eq this⟩
        · cases this
      · rw [Trie.getQ_eq] at hm; simp [Trie.get] at hm
    have hw1 : WRel w.heap.size w ρ ⟨putAll .leaf p.pre, p.n0⟩ w := by
      refine ⟨.refl _ _, hw.lt, ?_, ?_, ?_, ?_, ?_, Nat.le_refl _⟩
      · intro b o t hgb ht
        obtain ⟨_, o1, h1, rfl⟩ := hpre b o hgb
        obtain ⟨o', h2, h3⟩ := hw.obj b o1 t h1 ht
        exact ⟨o', h2, asRo_rel h3⟩
      · intro b o t hgb _ hro
        rw [(hpre b o hgb).1] at hro
        cases hro
      · intro b b' o o' t t' hgb hgb' ht ht' hblk
        obtain ⟨_, o1, h1, _⟩ := hpre b o hgb
        obtain ⟨_, o2, h2, _⟩ := hpre b' o' hgb'
        exact hw.inj b b' o1 o2 t t' h1 h2 ht ht' hblk
      · intro b hb
        exact hw.fresh b (f2 ▸ hb)
      · intro b o hgb
        obtain ⟨_, o1, h1, _⟩ := hpre b o hgb
        show b < p.n0
        rw [f2]
        exact hw.bounded b o1 h1
    refine CallsIn.mono ((hR _ _).call _ _ _ _ hrs ρ w _ hg hw1 ha) fun e w' ⟨r, hr, ρ', v', he, h1, h2, h3, h4⟩ => ?_
    have q := List.all_eq_true.1 p4 r hr
    simp only [Bool.and_eq_true] at q
    obtain ⟨⟨q1, q2⟩, q3⟩ := q
    have q1 := veq_eq depth q1
    have q2 := Nat.eq_of_beq_eq_true q2
    have h1 : Ext σ.next ρ ρ' := fun b hb => h1 b (f2 ▸ hb)
    have hs := hw.sub h1
    refine ⟨_, List.mem_singleton.2 rfl, ρ', v', he, h1, by rw [← f2]; exact p3, q1 ▸ h3, ?_⟩
    have hobj : ∀ b o, (b, o) ∈ p.objs → r.2.get b = some o ∧ p.n0 ≤ b ∧ o.isRo = false := by
      intro b o hm
      have k1 := List.all_eq_true.1 q3 (b, o) hm
      have k2 := List.all_eq_true.1 p2 (b, o) hm
      simp only [Bool.and_eq_true, Nat.ble_eq, Bool.not_eq_true'] at k2
      split at k1
      · rename_i o1 ho1
        rw [ho1, aobjEq_eq k1]
        exact ⟨rfl, k2⟩
      · cases k1
    have cases_get : ∀ b o, ASt.get ⟨putAll σ.heap p.objs, p.n1⟩ b = some o → (r.2.get b = some o ∧ p.n0 ≤ b ∧ o.isRo = false) ∨ (σ.get b = some o ∧ b < p.n0) := by
      intro b o hgb
      rcases putAll_get hgb with hm | ⟨_, hm⟩
      · exact .inl (hobj b o hm)
      · exact .inr ⟨hm, by rw [f2]; exact hw.bounded b o hm⟩
    have hold : ∀ b o t, σ.get b = some o → b < p.n0 → ρ' b = some t → ρ b = some t ∧ t.blk < w.heap.size := by
      intro b o t _ hb ht
      have : ρ b = some t := by rw [← h1 b (f2 ▸ hb)]; exact ht
      exact ⟨this, hw.lt b t this⟩
    refine ⟨hw.below.trans (h4.below.mono hw.room), h4.lt, ?_, ?_, ?_, ?_, ?_, Nat.le_trans hw.room h4.room⟩
    · intro b o t hgb ht
      rcases cases_get b o hgb with ⟨k1, _, _⟩ | ⟨k1, k2⟩
      · exact h4.obj b o t k1 ht
      · obtain ⟨k3, k4⟩ := hold b o t k1 k2 ht
        obtain ⟨o', k5, k6⟩ := hw.obj b o t k1 k3
        exact ⟨o', by rw [h4.below.block _ k4]; exact k5, k6.mono hs⟩
    · intro b o t hgb ht hro
      rcases cases_get b o hgb with ⟨k1, _, k3⟩ | ⟨k1, k2⟩
      · exact Nat.le_trans hw.room (h4.own b o t k1 ht hro)
      · exact hw.own b o t k1 (hold b o t k1 k2 ht).1 hro
    · intro b b' o o' t t' hgb hgb' ht ht' hblk
      rcases cases_get b o hgb with ⟨k1, _, k3⟩ | ⟨k1, k2⟩ <;> rcases cases_get b' o' hgb' with ⟨j1, _, j3⟩ | ⟨j1, j2⟩
      · exact h4.inj b b' o o' t t' k1 j1 ht ht' hblk
      · have := h4.own b o t k1 ht k3
        have := (hold b' o' t' j1 j2 ht').2
        omega
      · have := h4.own b' o' t' j1 ht' j3
        have := (hold b o t k1 k2 ht).2
        omega
      · exact hw.inj b b' o o' t t' k1 j1 (hold b o t k1 k2 ht).1 (hold b' o' t' j1 j2 ht').1 hblk
    · intro b hb
      exact h4.fresh b (by rw [q2]; exact hb)
    · intro b o hgb
      show b < p.n1
      rcases cases_get b o hgb with ⟨k1, _, _⟩ | ⟨k1, k2⟩
      · rw [← q2]; exact h4.bounded b o k1
      · omega
  · cases p4

/-- A function without a body that hands its argument back. -/
structure IdFn (P : Program) (g : FuncId) : Prop where
  run : ∀ (v : Value) (w : World), (callFunc g ⟨[v]⟩).run P w = .ok (.value v) w

def anyEq (l : List Nat) (g : Nat) : Bool :=
  match l with
  | [] => false
  | a :: r => Bool.casesOn (Nat.beq a g) (anyEq r g) true
theorem anyEq_mem {l : List Nat} {g : Nat} (h : anyEq l g = true) : g ∈ l := by
  induction l with
  | nil => cases h
  | cons a r ih =>
    simp only [anyEq] at h
    cases hb : Nat.beq a g with
    | true => rw [Nat.eq_of_beq_eq_true hb]; exact List.mem_cons_self
    | false => rw [hb] at h; exact List.mem_cons_of_mem _ (ih h)

/-- A function without a body that hands back a copy of a map, in an interface value. -/
structure CloneFn (P : Program) (g : FuncId) : Prop where
  run : ∀ (t : TypeId) (r c : Nat) (es : Array MapEntry) (w : World), w.heap[r]? = some (.map es c) →
    (callFunc g ⟨[.iface t (.map (some r))]⟩).run P w = .ok (.value (.iface t (.map (some w.heap.size)))) { w with heap := w.heap.push (.map es c) }

theorem CloneFn.of {P : Program} {g : FuncId} (h : ∀ v (w : World), (callFunc g ⟨[v]⟩).run P w = (do pure (Next.value (← Extern.MapsClone.clone ⟨[v]⟩)) : Sem Next).run P w) : CloneFn P g :=
  ⟨fun t r c es w hr => by
    have e : Extern.MapsClone.clone ⟨[.iface t (.map (some r))]⟩ = (do
        match (← getObj r) with
        | .map entries clock => pure (.iface t (.map (some (← newObj (.map entries clock)))))
        | _ => stuck "maps.clone: a map expected" : Sem Value) := rfl
    rw [h, e]
    simp only [Sem.run_bind, run_getObj_map hr, Result.andThen_ok, Sem.run_pure, run_newObj]⟩

def cloneA (vs : List Value) (σ : ASt) : Option (Value × ASt) :=
  match vs with
  | [.iface t (.map (some r))] => match σ.get r with
    | some (.map es c) => some (.iface t (.map (some σ.next)), σ.new (.map es c))
    | _ => none
  | _ => none

theorem cloneA_sound {g : FuncId} (hc : CloneFn P g) (h : WRel B w0 ρ σ w) {vs vs' : List Value} {v : Value} {σ' : ASt} (ha : cloneA vs σ = some (v, σ')) (hv : LRel ρ vs vs') :
    ∃ ρ' v' w', (callFunc g ⟨vs'⟩).run P w = .ok (.value v') w' ∧ Ext σ.next ρ ρ' ∧ VRel ρ' v v' ∧ WRel B w0 ρ' σ' w' ∧ σ.next ≤ σ'.next := by
  unfold cloneA at ha
  split at ha
  · rename_i t r
    split at ha
    · rename_i es c hg
      simp only [Option.some.injEq, Prod.mk.injEq] at ha
      obtain ⟨rfl, rfl⟩ := ha
      obtain ⟨v1, rfl, hv1⟩ := LRel.inv1 hv
      cases hv1 with
      | flat hf => simp [flat] at hf
      | iface hi =>
        cases hi with
        | flat hf => simp [flat] at hf
        | map ht =>
          obtain ⟨o', ho, es', rfl, hr⟩ := h.obj _ _ _ hg ht
          obtain ⟨ρ', h1, h2, h3⟩ := h.new (.map es c) (.map ⟨es'⟩ c) ⟨w.heap.size, 0, 0, 0, 0, undef⟩ rfl (fun ρ' hs => ⟨es', rfl, hr.mono hs⟩)
          exact ⟨ρ', _, _, hc.run _ _ _ _ _ ho, h1, .iface (.map h3), h2, Nat.le_succ _⟩
    · cases ha
  · cases ha

def mkKnown (ids clones joins : List FuncId) (ps : List Piece) : Known :=
  { fn := fun g vs σ => match anyEq ids g, vs with
      | true, [v] => some (v, σ)
      | _, _ => bif anyEq clones g then cloneA vs σ else none,
    call := fun g vs σ => piecesA g vs σ ps, join := anyEq joins, eqO := aobjEq, eqV := veq depth }

theorem mkKnown_ok {ids clones joins : List FuncId} {ps : List Piece} (hi : ∀ g, g ∈ ids → IdFn P g) (hcl : ∀ g, g ∈ clones → CloneFn P g) (hp : ∀ p, p ∈ ps → ∃ R, (∀ B w0, RecOk P G B w0 R) ∧ pieceB R p = true) (B : Nat) (w0 : World) : KnownOk P G B w0 (mkKnown ids clones joins ps) := by
  refine ⟨?_, ?_, fun o o' => aobjEq_eq, fun v v' => veq_eq depth⟩
  · intro g as σ v σ' h ρ w as' hw ha
    simp only [mkKnown] at h
    split at h
    · rename_i u hg
      simp only [Option.some.injEq, Prod.mk.injEq] at h
      obtain ⟨rfl, rfl⟩ := h
      obtain ⟨v', rfl, hv⟩ := LRel.inv1 ha
      exact ⟨ρ, v', w, (hi g (anyEq_mem hg)).run v' w, Ext.refl _ _, hv, hw, Nat.le_refl _⟩
    · cases hb : anyEq clones g with
      | false => rw [hb] at h; cases h
      | true =>
        rw [hb] at h
        exact cloneA_sound (hcl g (anyEq_mem hb)) hw h ha
  · intro g as σ r h ρ w as' hg hw ha
    have h2 : piecesA g as σ ps = some r := h
    clear hi h
    revert h2
    induction ps with
    | nil => intro h; cases h
    | cons p ps ih =>
      intro h
      simp only [piecesA] at h
      cases hf : fitsA p g as σ with
      | true =>
        rw [hf] at h
        simp only [cond_true, Option.some.injEq] at h
        subst h
        obtain ⟨R, h1, h2⟩ := hp p List.mem_cons_self
        exact piece_sound h1 h2 hf hg hw ha
      | false =>
        rw [hf] at h
        exact ih (fun q hq => hp q (List.mem_cons_of_mem _ hq)) h
end
end Go.Cre
end
