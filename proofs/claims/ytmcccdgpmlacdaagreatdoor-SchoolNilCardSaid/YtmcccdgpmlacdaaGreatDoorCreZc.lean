/-
A region in pieces: what stands ahead of a call, the call by a contract of its own, and what stands behind it.
-/
import Derived.Test.YtmcccdgpmlacdaaGreatDoorCreZb
noncomputable section
namespace Go.Cre
open Go.RowKit (Below)
section
variable {P : Program} {G : Gl} {B : Nat} {w0 : World} {R : Rec} {x : Known} {ρ : Ren} {w w' : World} {ops : Array Oper} {Q : Exit → Act → World → Prop}

theorem list_run (hp : POk P) (hR : RecOk P G B w0 R) (hx : KnownOk P G B w0 x) : ∀ (pre rest : List Oper) {fr : Fr} {rs : List (AExit × Fr)}, opsA R x P G none ops.toList pre fr = some rs →
    ∀ {ρ : Ren} {a : Act} {w : World}, GOk P G ρ → FrRel B w0 ρ fr a w →
    (∀ r, r ∈ rs → ∀ ρ' a' w', Ext fr.σ.next ρ ρ' → fr.σ.next ≤ r.2.σ.next → FrRel B w0 ρ' r.2 a' w' → wpListIn Fence.wide 0 P ops Q rest a' w') → wpListIn Fence.wide 0 P ops Q (pre ++ rest) a w := by
  intro pre
  induction pre with
  | nil =>
    intro rest fr rs h ρ a w _ hfr hk
    simp only [opsA, Option.some.injEq] at h
    subst h
    exact hk _ (List.mem_singleton.2 rfl) ρ a w (Ext.refl _ _) (Nat.le_refl _) hfr
  | cons o pre ih =>
    intro rest fr rs h ρ a w hg hfr hk
    simp only [opsA] at h
    simp only [List.cons_append, wpListIn]
    have hF : AtRd ρ none Fence.wide := rfl
    split at h
    · rename_i hw
      rw [wanted_rel rfl hfr.ts hw]
      simp only [if_true]
      obtain ⟨xs, hxs, hin⟩ := bindL_some h
      refine opA_sound hp hR hx hxs hg hF hfr fun r hr ρ' a' w' h1 h2 h3 => ?_
      obtain ⟨rs', h4, h5⟩ := hin r hr
      have hs := hfr.w.sub h1
      exact ih rest h4 (hg.mono hs) h3 fun q hq ρ2 a2 w2 k1 k2 k3 => hk q (h5 q hq) ρ2 a2 w2 (h1.trans k1 h2) (Nat.le_trans h2 k2) k3
    · rename_i hw
      rw [wanted_rel rfl hfr.ts hw]
      simp only [Bool.false_eq_true, if_false]
      refine ⟨about_wide hF o w a, ?_⟩
      exact ih rest h hg ⟨put_rel hfr.ts _ LRel.undef, by rw [put_defers]; exact hfr.ds, hfr.w⟩ hk
    · cases h

theorem step_list (hp : POk P) (hR : RecOk P G B w0 R) (hx : KnownOk P G B w0 x) (pre rest : List Oper) {n m m' : Nat} {l l' : List (Nat × Value)} {os os' : List (Nat × AObj)} (h : stepB (opsA R x P G none ops.toList pre (St n l os m)) n .normal l' os' m' = true) {a : Act} (hg : GOk P G ρ) (hf : FrRel B w0 ρ (St n l os m) a w)
    (hq : ∀ ρ' a' w', Ext m ρ ρ' → FrRel B w0 ρ' (St n l' os' m') a' w' → wpListIn Fence.wide 0 P ops Q rest a' w') : wpListIn Fence.wide 0 P ops Q (pre ++ rest) a w := by
  unfold stepB at h
  split at h
  · rename_i rs hrs
    refine list_run hp hR hx pre rest hrs hg hf fun r hr ρ' a' w' h1 h2 h3 => ?_
    obtain ⟨k1, k2⟩ := ends_rel (List.all_eq_true.1 h r hr) h3
    exact hq ρ' a' w' h1 k2
  · cases h

theorem region_lists {id : Nat} {a : Act} (h : wpListIn Fence.wide 0 P ops Q ops.toList a w) : (Code.region id ops false).wp P Q a w := wpIn_wide.1 (wpIn_region_list h)

theorem list_call (hp : POk P) {o : Oper} {rest : List Oper} {g : FuncId} {args : Array Operand} {ats : Array TypeId} (hgd : o.guard = none) (ho : o.op = .call ⟨.value (.func g), args, ats⟩) (hb : hasBody P g = true) {fr : Fr} {a : Act} (hf : FrRel B w0 ρ fr a w)
    (hG : GOk P G ρ) (hok : args.toList.all (okOp G) = true) {R' : Ending → World → Prop} (hc : ∀ as', LRel ρ (args.toList.map (ev fr.ts)) as' → Calls P g ⟨as'⟩ w R')
    (hk : ∀ e w', R' e w' → ∃ v, e = .returned v ∧ wpListIn Fence.wide 0 P ops Q rest (a.put o.dst v) w') : wpListIn Fence.wide 0 P ops Q (o :: rest) a w := by
  have hF : AtRd ρ none Fence.wide := rfl
  refine wpListIn_plain hgd fun K hK => ?_
  have hd : ∀ c, o.op ≠ .defer c := by rw [ho]; intro c h; cases h
  have hv' : a.eval (.func g) = .func (.func g) #[] #[] := rfl
  have ha : LRel ρ (args.toList.map (ev fr.ts)) (args.toList.map a.eval) := args_rel fun y hy => ev_rel hG hf.ts (List.all_eq_true.1 hok y hy)
  refine ⟨fun f _ => hF.fn f, ?_⟩
  have e1 : (#[] : Array Value) ++ args.map a.eval ++ #[] = ⟨args.toList.map a.eval⟩ := by apply Array.ext'; simp
  rw [Oper.semAt_eq _ _ _ hd, exec_call (P := P) a o ho hv' w, invoke_func, callFunc_enter hp hb, e1]
  refine ⟨hF.one, CallsIn.mono (hF.callsIn (callsIn_wide.2 (hc _ ha))) fun e w' hq => ?_⟩
  obtain ⟨v, rfl, h⟩ := hk e w' hq
  exact hK _ _ h

/-- New names behind the old ones. -/
def extR (m : Nat) (ρ : Ren) (env : List (Nat × Tgt)) : Ren := fun b => if b < m then ρ b else lookE env b
theorem extR_ext {m : Nat} {env : List (Nat × Tgt)} : Ext m ρ (extR m ρ env) := fun _ hb => if_pos hb
theorem call_rel {n m m2 : Nat} {l : List (Nat × Value)} {os : List (Nat × AObj)} {a : Act} (hf : FrRel B w0 ρ (St n l os m) a w) (hb : Below w.heap.size w w') {env : List (Nat × Tgt)} (he : ∀ p, p ∈ env → p.1 < m2 ∧ p.2.blk < w'.heap.size) (hm : m ≤ m2) {d : Nat} {v v' : Value}
    (hv : VRel (extR m ρ env) v v') : FrRel B w0 (extR m ρ env) (St n ((d, v) :: l) os m2) (a.put (some d) v') w' := by
  have hw := hf.w.later hb
  have hs : Sub ρ (extR m ρ env) := hf.w.sub extR_ext
  refine ⟨?_, hf.ds.mono hs, hw.below, ?_, ?_, ?_, ?_, ?_, ?_, hw.room⟩
  · show LRel _ (setF (live n l) d v) _
    rw [setF_eq]
    simp only [Act.put, Array.toList_setIfInBounds]
    exact (hf.ts.mono hs).set d hv
  · intro b t hbt
    simp only [extR] at hbt
    split at hbt
    · exact hw.lt b t hbt
    · exact (he _ (lookE_mem hbt)).2
  · intro b o t hg ht
    have hlt : b < m := hf.w.bounded b o hg
    simp only [extR] at ht
    rw [if_pos hlt] at ht
    obtain ⟨o', h1, h2⟩ := hw.obj b o t hg ht
    exact ⟨o', h1, h2.mono hs⟩
  · intro b o t hg ht hro
    have hlt : b < m := hf.w.bounded b o hg
    simp only [extR] at ht
    rw [if_pos hlt] at ht
    exact hw.own b o t hg ht hro
  · intro b b' o o' t t' hg hg' ht ht' e
    have hlt : b < m := hf.w.bounded b o hg
    have hlt' : b' < m := hf.w.bounded b' o' hg'
    simp only [extR] at ht ht'
    rw [if_pos hlt] at ht
    rw [if_pos hlt'] at ht'
    exact hw.inj b b' o o' t t' hg hg' ht ht' e
  · intro b hb
    have hb : m2 ≤ b := hb
    simp only [extR]
    rw [if_neg (by omega)]
    cases hl : lookE env b with
    | none => rfl
    | some t => have := (he _ (lookE_mem hl)).1; simp only at this; omega
  · intro b o hg
    have hlt : b < m := hf.w.bounded b o hg
    show b < m2
    omega

theorem rebase {σ : ASt} (h : WRel B w0 ρ σ w) {os : List (Nat × AObj)} (ho : ∀ q, q ∈ os → q.2.isRo = true ∧ ∃ o, σ.get q.1 = some o ∧ asRo o = q.2) : WRel w.heap.size w ρ ⟨putAll .leaf os, σ.next⟩ w := by
  have hget : ∀ b o, ASt.get ⟨putAll .leaf os, σ.next⟩ b = some o → (b, o) ∈ os := fun b o h => by
    rcases putAll_get h with h | ⟨_, h⟩
    · exact h
    · rw [Trie.getQ_eq] at h; simp [Trie.get] at h
  refine ⟨.refl _ _, h.lt, ?_, ?_, ?_, h.fresh, ?_, Nat.le_refl _⟩
  · intro b o t hg ht
    obtain ⟨_, o1, h1, rfl⟩ := ho _ (hget b o hg)
    obtain ⟨o', k1, k2⟩ := h.obj b o1 t h1 ht
    exact ⟨o', k1, asRo_rel k2⟩
  · intro b o t hg _ hro
    rw [(ho _ (hget b o hg)).1] at hro
    cases hro
  · intro b b' o o' t t' hg hg' ht ht' e
    obtain ⟨_, o1, h1, _⟩ := ho _ (hget b o hg)
    obtain ⟨_, o2, h2, _⟩ := ho _ (hget b' o' hg')
    exact h.inj b b' o1 o2 t t' h1 h2 ht ht' e
  · intro b o hg
    obtain ⟨_, o1, h1, _⟩ := ho _ (hget b o hg)
    exact h.bounded b o1 h1
theorem split_list (k : Nat) {l : List Oper} {a : Act} (h : wpListIn Fence.wide 0 P ops Q (l.take k ++ l.drop k) a w) : wpListIn Fence.wide 0 P ops Q l a w := by
  rwa [List.take_append_drop] at h
theorem step_last (hp : POk P) (hR : RecOk P G B w0 R) (hx : KnownOk P G B w0 x) (pre : List Oper) {n m m' : Nat} {l l' : List (Nat × Value)} {os os' : List (Nat × AObj)} (h : stepB (opsA R x P G none ops.toList pre (St n l os m)) n .normal l' os' m' = true) {a : Act} (hg : GOk P G ρ) (hf : FrRel B w0 ρ (St n l os m) a w)
    (hq : ∀ ρ' a' w', Ext m ρ ρ' → FrRel B w0 ρ' (St n l' os' m') a' w' → Q .normal a' w') : wpListIn Fence.wide 0 P ops Q pre a w := by
  have := step_list (Q := Q) hp hR hx pre [] h hg hf hq
  rwa [List.append_nil] at this
/-- A call in the midst of a region. -/
theorem mid_call (hp : POk P) {o : Oper} {rest : List Oper} {g : FuncId} {args : Array Operand} {ats : Array TypeId} (hgd : o.guard = none) (ho : o.op = .call ⟨.value (.func g), args, ats⟩) (hb : hasBody P g = true) {n m : Nat} {l : List (Nat × Value)} {os : List (Nat × AObj)} {a : Act} (hf : FrRel B w0 ρ (St n l os m) a w)
    {vs : List Value} (hvs : args.toList.map (ev (live n l)) = vs) (hok : args.toList.all (okOp ⟨0, []⟩) = true) {R' : Ending → World → Prop} (hc : ∀ as', LRel ρ vs as' → Calls P g ⟨as'⟩ w R')
    (hk : ∀ e w', R' e w' → ∃ v, e = .returned v ∧ wpListIn Fence.wide 0 P ops Q rest (a.put o.dst v) w') : wpListIn Fence.wide 0 P ops Q (o :: rest) a w := by
  subst hvs
  exact list_call hp hgd ho hb hf (GOk.ofTab all_nil) hok hc hk
theorem FrRel.based {n m : Nat} {l : List (Nat × Value)} {os os' : List (Nat × AObj)} {a : Act} (hf : FrRel B w0 ρ (St n l os m) a w) (ho : ∀ q, q ∈ os' → q.2.isRo = true ∧ ∃ o, ASt.get ⟨putAll .leaf os, m⟩ q.1 = some o ∧ asRo o = q.2) : FrRel w.heap.size w ρ (St n l os' m) a w :=
  ⟨hf.ts, hf.ds, rebase hf.w ho⟩
end
end Go.Cre
end
