/-
Calls that are told by a contract of their own; from the evaluator's answer on a piece of code to the kit's walk.
-/
import Derived.Test.YtmcccdgpmlacdaaGreatDoorCreY
import Derived.Test.YtmcccdgpmlacdaaGreatDoorCreWc
noncomputable section
namespace Go.Cre
open Go.RowKit (Below)

structure Told where
  g : FuncId
  args : List Value
  v : Value

def toldA (g : FuncId) (vs : List Value) (σ : ASt) : List Told → Option (Value × ASt)
  | [] => none
  | e :: r => bif Nat.beq e.g g && veqL (veq depth) e.args vs then some (e.v, σ) else toldA g vs σ r

section
variable {P : Program} {G : Gl} {B : Nat} {w0 : World} {ρ : Ren} {σ : ASt} {w w' : World}

theorem WRel.later (h : WRel B w0 ρ σ w) (hb : Below w.heap.size w w') : WRel B w0 ρ σ w' :=
  ⟨h.below.trans (hb.mono h.room), fun b t hb' => Nat.lt_of_lt_of_le (h.lt b t hb') hb.size,
    fun b o t h1 h2 => by rw [hb.block _ (h.lt b t h2)]; exact h.obj b o t h1 h2,
    h.own, h.inj, h.fresh, h.bounded, Nat.le_trans h.room hb.size⟩

def ToldOk (P : Program) (G : Gl) (B : Nat) (w0 : World) (e : Told) : Prop :=
  ∀ ρ w as', GOk P G ρ → Below B w0 w → B ≤ w.heap.size → LRel ρ e.args as' →
    Calls P e.g ⟨as'⟩ w fun e' w' => (∃ v', e' = .returned v' ∧ VRel ρ e.v v') ∧ Below w.heap.size w w'

def withTold (x : Known) (ts : List Told) : Known :=
  { x with call := fun g vs σ => match toldA g vs σ ts with
    | some r => some r
    | none => x.call g vs σ }

theorem withTold_ok {x : Known} {ts : List Told} (hx : KnownOk P G B w0 x) (ht : ∀ e, e ∈ ts → ToldOk P G B w0 e) : KnownOk P G B w0 (withTold x ts) := by
  refine ⟨hx.fn, ?_, hx.eqO, hx.eqV⟩
  intro g as σ r h ρ w as' hg hw ha
  simp only [withTold] at h
  split at h
  · rename_i r' h'
    cases h
    clear hx
    induction ts with
    | nil => cases h'
    | cons e ts ih =>
      simp only [toldA] at h'
      cases hb : (Nat.beq e.g g && veqL (veq depth) e.args as) with
      | true =>
        rw [hb] at h'
        simp only [cond_true, Option.some.injEq] at h'
        subst h'
        simp only [Bool.and_eq_true] at hb
        have e1 := Nat.eq_of_beq_eq_true hb.1
        have e2 := veqL_eq (fun _ _ => veq_eq depth) hb.2
        subst e1 e2
        refine callsIn_wide.2 ((ht e List.mem_cons_self ρ w as' hg hw.below hw.room ha).mono ?_)
        rintro e' w' ⟨⟨v', h1, h2⟩, h3⟩
        exact ⟨_, List.mem_singleton.2 rfl, ρ, v', h1, Ext.refl _ _, Nat.le_refl _, h2, hw.later h3⟩
      | false =>
        rw [hb] at h'
        exact ih (fun q hq => ht q (List.mem_cons_of_mem _ hq)) h'
  · exact hx.call g as σ r h ρ w as' hg hw ha

theorem wp_of_code {R : Rec} (hR : RecOk P G B w0 R) {c : Code} {fr : Fr} {rs : List (AExit × Fr)} (h : R.code none c fr = some rs) {a : Act} (hg : GOk P G ρ) (hf : FrRel B w0 ρ fr a w)
    {Q : Exit → Act → World → Prop} (hq : ∀ e a' w', QPost B w0 ρ fr.σ.next rs e a' w' → Q e a' w') : c.wp P Q a w :=
  wpIn_wide.1 (wpIn_mono (hR.code none c fr rs h ρ w a _ hg rfl hf) hq)

theorem runsB_at {x : Known} (hp : POk P) (hx : KnownOk P G B w0 x) (n : Nat) : RecOk P G B w0 (run x (drawnB x P G) P G n) :=
  (run_ok hp hx (drawnB_ok hp hx) n).1

/-! ## Names for what is at hand -/

def tokT (v : Value) : Tgt := ⟨0, 0, 0, 0, 0, v⟩
def lookE : List (Nat × Tgt) → Ren
  | [], _ => none
  | p :: r, b => if p.1 = b then some p.2 else lookE r b
theorem lookE_mem {env : List (Nat × Tgt)} {b : Nat} {t : Tgt} (h : lookE env b = some t) : (b, t) ∈ env := by
  induction env with
  | nil => cases h
  | cons p r ih =>
    simp only [lookE] at h
    split at h
    · rename_i e; cases h; subst e; exact List.mem_cons_self
    · exact List.mem_cons_of_mem _ (ih h)

/-- A row as it lies in the world. -/
def RowIn (w : World) (t : Tgt) (vs : List Value) (e : TypeId) : Prop :=
  t.blk < w.heap.size ∧ t.len = vs.length ∧ ∃ ys f, w.heap[t.blk]? = some (.cells ⟨ys⟩ e f) ∧ ys.length = t.off + vs.length + t.extra * t.sz ∧ (ys.drop t.off).take vs.length = vs
theorem RowIn.below {t : Tgt} {vs : List Value} {e : TypeId} (h : RowIn w t vs e) (hb : Below w.heap.size w w') : RowIn w' t vs e := by
  obtain ⟨h1, h2, ys, f, h3, h4, h5⟩ := h
  exact ⟨Nat.lt_of_lt_of_le h1 hb.size, h2, ys, f, by rw [hb.block _ h1]; exact h3, h4, h5⟩
theorem RowIn.orel {t : Tgt} {vs vs' : List Value} {e : TypeId} (h : RowIn w t vs' e) (hr : LRel ρ vs vs') : ∃ o', w.heap[t.blk]? = some o' ∧ ORel ρ t (.cells vs e t.sz true .any true) o' := by
  obtain ⟨h1, h2, ys, f, h3, h4, h5⟩ := h
  have hl := hr.length
  exact ⟨_, h3, ys, f, rfl, rfl, by omega, by rw [h4, hl], by rw [← hl, h5]; exact hr, (fun h => by cases h), trivial⟩
theorem WRel.rowIn (h : WRel B w0 ρ σ w) {b sz : Nat} {t : Tgt} {vs : List Value} {e : TypeId} {opn ro : Bool} {fr : AFr} (hg : σ.get b = some (.cells vs e sz opn fr ro)) (ht : ρ b = some t) : ∃ vs', LRel ρ vs vs' ∧ RowIn w t vs' e ∧ t.sz = sz := by
  obtain ⟨o', h1, ys, f, rfl, h2, h3, h4, h5, _⟩ := h.obj b _ t hg ht
  have hl := h5.length
  subst h2
  refine ⟨_, h5, ⟨h.lt b t ht, by omega, ys, f, h1, by omega, by rw [hl]⟩, rfl⟩

theorem startE {env : List (Nat × Tgt)} {n0 : Nat} {l : List (Nat × AObj)} (h1 : ∀ p, p ∈ env → p.2.blk < w.heap.size ∧ p.1 < n0)
    (h2 : ∀ p, p ∈ l → p.1 < n0 ∧ p.2.isRo = true ∧ ∀ t, lookE env p.1 = some t → ∃ o', w.heap[t.blk]? = some o' ∧ ORel (lookE env) t p.2 o')
    (h3 : ∀ p, p ∈ l → ∀ q, q ∈ l → ∀ t u, lookE env p.1 = some t → lookE env q.1 = some u → t.blk = u.blk → p.1 = q.1) : WRel w.heap.size w (lookE env) ⟨putAll .leaf l, n0⟩ w := by
  have hget : ∀ b o, ASt.get ⟨putAll .leaf l, n0⟩ b = some o → (b, o) ∈ l := fun b o h => by
    rcases putAll_get h with h | ⟨_, h⟩
    · exact h
    · rw [Trie.getQ_eq] at h; simp [Trie.get] at h
  refine ⟨.refl _ _, fun b t h => (h1 _ (lookE_mem h)).1, fun b o t hg ht => (h2 _ (hget b o hg)).2.2 t ht, ?_, fun b b' o o' t t' hg hg' ht ht' hb => h3 _ (hget b o hg) _ (hget b' o' hg') t t' ht ht' hb, ?_, fun b o hg => (h2 _ (hget b o hg)).1, Nat.le_refl _⟩
  · intro b o t hg _ hro
    rw [(h2 _ (hget b o hg)).2.1] at hro
    cases hro
  · intro b hb
    have hb : n0 ≤ b := hb
    cases hl : lookE env b with
    | none => rfl
    | some t => have := (h1 _ (lookE_mem hl)).2; simp only at this; omega

/-! ## A walk from stage to stage -/

def hole : Value := .complex .f64 0 0
def live (n : Nat) : List (Nat × Value) → List Value
  | [] => List.replicate n hole
  | p :: r => setF (live n r) p.1 p.2
theorem live_rel {n : Nat} {l : List (Nat × Value)} {x : List Value} (hn : x.length = n) (h : ∀ p, p ∈ l → VRel ρ p.2 (x.getD p.1 undef)) : LRel ρ (live n l) x := by
  induction l with
  | nil =>
    subst hn
    clear h
    simp only [live]
    induction x with
    | nil => exact .nil
    | cons a r ih => rw [List.length_cons, List.replicate_succ]; exact .cons .hole ih
  | cons p r ih =>
    simp only [live, setF_eq]
    have h1 := (ih fun q hq => h q (List.mem_cons_of_mem _ hq)).set p.1 (h p List.mem_cons_self)
    have e : x.set p.1 (x.getD p.1 undef) = x := by
      apply List.ext_getElem?
      intro i
      rw [List.getElem?_set]
      split
      · rename_i e
        subst e
        split
        · rename_i hl; simp [hl]
        · rename_i hl; simp at hl; simp [List.getElem?_eq_none hl]
      · rfl
    rw [e] at h1
    exact h1

def St (n : Nat) (l : List (Nat × Value)) (os : List (Nat × AObj)) (m : Nat) : Fr := ⟨live n l, [], ⟨putAll .leaf os, m⟩⟩

def exB : AExit → AExit → Bool
  | .normal, .normal => true
  | .ret, .ret => true
  | .exit a, .exit b => Nat.beq a b
  | _, _ => false
theorem exB_eq {a b : AExit} (h : exB a b = true) : a = b := by
  cases a <;> cases b <;> first | rfl | (cases h; done) | (rw [Nat.eq_of_beq_eq_true h])

def endsB (n : Nat) (e : AExit) (l : List (Nat × Value)) (os : List (Nat × AObj)) (m : Nat) (r : AExit × Fr) : Bool :=
  exB e r.1 && (Nat.beq r.2.ts.length n && (r.2.ds.isEmpty && (Nat.beq r.2.σ.next m && (l.all (fun q => veq depth (getF r.2.ts q.1) q.2) && os.all fun q => match r.2.σ.get q.1 with
    | some o => aobjEq o q.2
    | none => false))))
def stepB (rs : Option (List (AExit × Fr))) (n : Nat) (e : AExit) (l : List (Nat × Value)) (os : List (Nat × AObj)) (m : Nat) : Bool :=
  match rs with
  | some rs => rs.all (endsB n e l os m)
  | none => false

theorem WRel.only (h : WRel B w0 ρ σ w) {os : List (Nat × AObj)} (ho : ∀ q, q ∈ os → σ.get q.1 = some q.2) : WRel B w0 ρ ⟨putAll .leaf os, σ.next⟩ w := by
  have hget : ∀ b o, ASt.get ⟨putAll .leaf os, σ.next⟩ b = some o → σ.get b = some o := fun b o h => by
    rcases putAll_get h with h | ⟨_, h⟩
    · exact ho _ h
    · rw [Trie.getQ_eq] at h; simp [Trie.get] at h
  exact ⟨h.below, h.lt, fun b o t hg ht => h.obj b o t (hget b o hg) ht, fun b o t hg ht hr => h.own b o t (hget b o hg) ht hr, fun b b' o o' t t' hg hg' => h.inj b b' o o' t t' (hget b o hg) (hget b' o' hg'), h.fresh, fun b o hg => h.bounded b o (hget b o hg), h.room⟩

theorem ends_rel {n m : Nat} {e : AExit} {l : List (Nat × Value)} {os : List (Nat × AObj)} {r : AExit × Fr} (hr : endsB n e l os m r = true) {a : Act} (h : FrRel B w0 ρ r.2 a w) :
    r.1 = e ∧ FrRel B w0 ρ (St n l os m) a w := by
  simp only [endsB, Bool.and_eq_true] at hr
  obtain ⟨h1, h2, h3, h4, h5, h6⟩ := hr
  have h2 := Nat.eq_of_beq_eq_true h2
  have h4 := Nat.eq_of_beq_eq_true h4
  refine ⟨(exB_eq h1).symm, ?_, ?_, ?_⟩
  · refine live_rel (by rw [h.ts.length, h2]) fun p hp => ?_
    have := veq_eq depth (List.all_eq_true.1 h5 p hp)
    rw [← this, getF_eq]
    exact h.ts.getD p.1
  · have := List.isEmpty_iff.1 h3
    have hd := h.ds
    rw [this] at hd
    exact hd
  · show WRel B w0 ρ ⟨putAll .leaf os, m⟩ w
    rw [← h4]
    refine h.w.only fun q hq => ?_
    have := List.all_eq_true.1 h6 q hq
    split at this
    · rename_i o ho; rw [ho, aobjEq_eq this]
    · cases this

theorem step_run {R : Rec} (hR : RecOk P G B w0 R) {c : Code} {n m m' : Nat} {l l' : List (Nat × Value)} {os os' : List (Nat × AObj)} {e : AExit} (h : stepB (R.code none c (St n l os m)) n e l' os' m' = true) {a : Act} (hg : GOk P G ρ) (hf : FrRel B w0 ρ (St n l os m) a w)
    {Q : Exit → Act → World → Prop} (hq : ∀ ρ' a' w', Ext m ρ ρ' → FrRel B w0 ρ' (St n l' os' m') a' w' → Q e.to a' w') : c.wp P Q a w := by
  unfold stepB at h
  split at h
  · rename_i rs hrs
    refine wp_of_code hR hrs hg hf ?_
    rintro e' a' w' ⟨r, hr, ρ', rfl, h1, h2, h3⟩
    obtain ⟨k1, k2⟩ := ends_rel (List.all_eq_true.1 h r hr) h3
    rw [k1]
    exact hq ρ' a' w' h1 k2
  · cases h

theorem LRel.live {n : Nat} {l : List (Nat × Value)} {x : List Value} (h : LRel ρ (live n l) x) : ∀ {i v}, getF (Cre.live n l) i = v → VRel ρ v (x.getD i Go.undef) := by
  intro i v e
  rw [← e, getF_eq]
  exact h.getD i

end
end Go.Cre
end
