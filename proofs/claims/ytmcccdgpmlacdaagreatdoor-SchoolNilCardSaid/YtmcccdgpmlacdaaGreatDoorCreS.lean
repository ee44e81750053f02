/-
The law of the evaluator: calls, deferred calls, rounds; the whole.
-/
import Derived.Test.YtmcccdgpmlacdaaGreatDoorCreR
noncomputable section
namespace Go.Cre
open Go.RowKit (Below)

section
variable {P : Program} {G : Gl} {B : Nat} {w0 : World} {R : Rec} {x : Known} {D : Draws}

def slotM (tmps : Array Value) : ResultVar → Sem Value
  | .tmp t => pure (tmps.getD t undef)
  | .cell a t => do loadVar t (← asAddr (tmps.getD a undef))

theorem resultL_sound {ρ : Ren} {σ : ASt} {w : World} (h : WRel B w0 ρ σ w) {ts : List Value} {tmps : Array Value} (ht : LRel ρ ts tmps.toList) : ∀ (l : List ResultVar) (vs : List Value), resultL P ts σ l = some vs →
    ∃ vs', (l.mapM (slotM tmps)).run P w = .ok vs' w ∧ LRel ρ vs vs' := by
  intro l
  induction l with
  | nil =>
    intro vs hv
    simp only [resultL, Option.some.injEq] at hv
    subst hv
    exact ⟨[], by simp, .nil⟩
  | cons r l ih =>
    intro vs hv
    simp only [resultL] at hv
    split at hv
    · rename_i v hv1
      split at hv
      · rename_i vs1 hvs
        simp only [Option.some.injEq] at hv
        subst hv
        obtain ⟨vs', h1, h2⟩ := ih vs1 hvs
        have hg : ∀ i, VRel ρ (ts.getD i undef) (tmps.getD i undef) := fun i => by have := ht.getD i; simpa using this
        cases r with
        | tmp t =>
          simp only [Option.some.injEq] at hv1
          subst hv1
          exact ⟨tmps.getD t undef :: vs', by simp only [List.mapM_cons, slotM, Sem.run_bind, Sem.run_pure, Result.andThen_ok, h1], .cons (hg t) h2⟩
        | cell b t =>
          simp only at hv1
          obtain ⟨v', k1, k2⟩ := loadV_sound (P := P) h hv1 (hg b)
          refine ⟨v' :: vs', ?_, .cons k2 h2⟩
          have k3 : (do loadVar t (← asAddr (tmps.getD b undef)) : Sem Value).run P w = .ok v' w := by
            unfold loadV at hv1
            have hgb := hg b
            revert hv1 hgb k1
            generalize ts.getD b undef = y
            generalize tmps.getD b undef = y'
            intro hv1 k1 hgb
            split at hv1
            · cases hgb with
              | flat hf => simp [flat] at hf
              | ptr _ =>
                simpa [asAddr, Instr.loadAt, Instr.sureAddr] using k1
            · cases hv1
          simp only [List.mapM_cons, slotM]
          rw [Sem.run_bind, k3]
          simp only [Sem.run_bind, Sem.run_pure, Result.andThen_ok, h1]
      · cases hv
    · cases hv

theorem resultsA_sound {ρ : Ren} {σ : ASt} {w : World} (h : WRel B w0 ρ σ w) {fn : Func} {ts : List Value} {tmps : Array Value} (ht : LRel ρ ts tmps.toList) {v : Value} (hv : resultsA P fn ts σ = some v) :
    ∃ v', (results fn tmps).run P w = .ok v' w ∧ VRel ρ v v' := by
  unfold resultsA at hv
  have key : ∀ vs', (fn.results.toList.mapM (slotM tmps)).run P w = .ok vs' w →
      (results fn tmps).run P w = .ok (if h : vs'.length = 1 then vs'[0] else .tuple ⟨vs'⟩) w := by
    intro vs' hm
    have e : results fn tmps = (do let vs ← fn.results.mapM (slotM tmps); pure (if h : vs.size = 1 then vs[0] else .tuple vs)) := by
      unfold results
      congr 1
    rw [e, Sem.run_bind, Array.mapM_eq_mapM_toList, Sem.run_map, hm]
    simp
  split at hv
  · rename_i v1 hr
    simp only [Option.some.injEq] at hv
    subst hv
    obtain ⟨vs', h1, h2⟩ := resultL_sound (P := P) h ht _ _ hr
    obtain ⟨v', rfl, h3⟩ := LRel.inv1 h2
    exact ⟨v', key _ h1, h3⟩
  · rename_i vs hne hr
    simp only [Option.some.injEq] at hv
    subst hv
    obtain ⟨vs', h1, h2⟩ := resultL_sound (P := P) h ht _ _ hr
    have hlen : ¬ vs'.length = 1 := by
      intro e
      rw [h2.length] at e
      match vs, e with
      | [y], _ => exact hne y rfl
    refine ⟨_, key _ h1, ?_⟩
    rw [dif_neg hlen]
    exact .tuple h2
  · cases hv

theorem wpSIn_mono {F : Fence} {n : Nat} {c : Code} {Q Q' : Exit → Act → List Frame → World → Prop} {a : Act} {cs : List Frame} {w : World} (h : c.wpSIn F n P Q a cs w) (hq : ∀ e a cs w, Q e a cs w → Q' e a cs w) : c.wpSIn F n P Q' a cs w :=
  fun b k hk hr hF hroom => let ⟨e, a', cs', w', h1, h2, h3⟩ := h b k hk hr hF hroom; ⟨e, a', cs', w', h1, hq _ _ _ _ h2, h3⟩

theorem opsDA_sound {ops : Array Oper} {c₀ : Frame} {cs : List Frame} (hc : c₀.mode = .returning) :
    ∀ (rest : List Oper) (k : Nat), (∀ j, rest[j]? = ops[k + j]?) → ∀ {fr : Fr} {rs : List (AExit × Fr)}, opsDA P G ops.toList rest fr = some rs → ∀ {ρ : Ren} {a : Act} {w : World} {Q : Exit → Act → List Frame → World → Prop}, GOk P G ρ → FrRel B w0 ρ fr a w →
      (∀ e a w, QPost B w0 ρ fr.σ.next rs e a w → Q e a (c₀ :: cs) w) → wpOpsSIn Fence.wide 0 P ops Q (List.range' k rest.length) a (c₀ :: cs) w := by
  intro rest
  induction rest with
  | nil =>
    intro k _ fr rs h ρ a w Q _ hfr hQ
    simp only [opsDA, Option.some.injEq] at h
    subst h
    exact hQ _ _ _ ⟨_, List.mem_singleton.2 rfl, ρ, rfl, Ext.refl _ _, Nat.le_refl _, hfr⟩
  | cons o rest ih =>
    intro k hk fr rs h ρ a w Q hg hfr hQ
    have h0 : ops[k]? = some o := by simpa using (hk 0).symm
    have hk' : ∀ j, rest[j]? = ops[k + 1 + j]? := fun j => by have := hk (j + 1); simpa [Nat.add_assoc, Nat.add_comm 1 j] using this
    simp only [opsDA] at h
    simp only [List.length_cons, List.range'_succ, wpOpsSIn, h0]
    refine ⟨fun f _ => trivial, ?_⟩
    split at h
    · rename_i hw
      rw [wanted_rel rfl hfr.ts hw]
      simp only [if_true]
      cases hr : isRecover o.op with
      | true =>
        rw [hr] at h
        simp only [cond_true] at h
        have hx : (execOp a.eval o).run P w = .ok .recover w := by
          obtain ⟨dst, op, type, pos, after, guard⟩ := o
          simp only at hr
          unfold isRecover at hr
          split at hr
          · simp [execOp, resolve, invoke, builtin]
          · cases hr
        rw [hx]
        have hrec : recoverD (c₀ :: cs) = none := by simp [recoverD, hc]
        simp only [hrec]
        exact ih (k + 1) hk' h hg ⟨put_rel hfr.ts _ (.flat rfl), by rw [put_defers]; exact hfr.ds, hfr.w⟩ hQ
      | false =>
        rw [hr] at h
        simp only [cond_false] at h
        split at h
        · rename_i r hst
          obtain ⟨ρ', v', w', nx, h1, h2, h3, h4, h5, h6⟩ := stepOp_sound (a := a) hg hfr.ts hfr.w hst
          rw [h1]
          have hs := hfr.w.sub h3
          have hQ' : ∀ e a w, QPost B w0 ρ' r.2.next rs e a w → Q e a (c₀ :: cs) w := fun e a w hq => hQ e a w (hq.lift h3 h6 fun _ h => h)
          have key : wpOpsSIn Fence.wide 0 P ops Q (List.range' (k + 1) rest.length) (a.put o.dst v') (c₀ :: cs) w' :=
            ih (k + 1) hk' h (hg.mono hs) ⟨put_rel (hfr.ts.mono hs) _ h4, by rw [put_defers]; exact hfr.ds.mono hs, h5⟩ hQ'
          rcases h2 with rfl | ⟨rfl, rfl⟩ <;> exact key
        · cases h
    · rename_i hw
      rw [wanted_rel rfl hfr.ts hw]
      simp only [Bool.false_eq_true, if_false]
      exact ih (k + 1) hk' h hg ⟨put_rel hfr.ts _ LRel.undef, by rw [put_defers]; exact hfr.ds, hfr.w⟩ hQ
    · cases h

theorem codeDA_sound (hR : RecOk P G B w0 R) {c : Code} {fr : Fr} {rs : List (AExit × Fr)} (h : codeDA R P G c fr = some rs) {ρ : Ren} {w : World} {a : Act} {c₀ : Frame} {cs : List Frame} (hc : c₀.mode = .returning) (hg : GOk P G ρ) (hfr : FrRel B w0 ρ fr a w) :
    c.wpSIn Fence.wide 0 P (fun e a' cs' w' => cs' = c₀ :: cs ∧ QPost B w0 ρ fr.σ.next rs e a' w') a (c₀ :: cs) w := by
  have other : R.code none c fr = some rs → c.wpSIn Fence.wide 0 P (fun e a' cs' w' => cs' = c₀ :: cs ∧ QPost B w0 ρ fr.σ.next rs e a' w') a (c₀ :: cs) w := fun h =>
    wpSIn_of_wpIn rfl (wpIn_mono (hR.code none c fr rs h ρ w a Fence.wide hg rfl hfr) fun e a w hq => ⟨rfl, hq⟩)
  cases c with
  | seq c1 c2 =>
    simp only [codeDA] at h
    obtain ⟨xs, hxs, hin⟩ := bindL_some h
    refine wpSIn_seq (wpSIn_mono (hR.codeD _ _ _ hxs ρ w a c₀ cs hc hg hfr) fun e a' cs' w' ⟨hcs, ⟨e', fr'⟩, hr, ρ', he, h1, h2, h3⟩ => ?_)
    obtain ⟨rs', h4, h5⟩ := hin _ hr
    have hs := hfr.w.sub h1
    subst he
    subst hcs
    cases e' with
    | normal =>
      exact wpSIn_mono (hR.codeD _ _ _ h4 ρ' w' a' c₀ cs hc (hg.mono hs) h3) fun e a2 cs2 w2 ⟨k1, k2⟩ => ⟨k1, k2.lift h1 h2 h5⟩
    | exit id => simp only [Option.some.injEq] at h4; subst h4; exact ⟨rfl, (QPost.self _ h3).lift h1 h2 h5⟩
    | ret => simp only [Option.some.injEq] at h4; subst h4; exact ⟨rfl, (QPost.self _ h3).lift h1 h2 h5⟩
  | cond o c1 c2 =>
    simp only [codeDA] at h
    cases hok : okOp G o with
    | false => rw [hok] at h; cases h
    | true =>
      rw [hok] at h
      simp only [cond_true] at h
      split at h
      · rename_i t hev
        have hb : a.eval o = .bool t := flat_eq (v := .bool t) rfl (hev ▸ ev_rel hg hfr.ts hok)
        refine wpSIn_cond hb ?_
        have := hR.codeD _ _ _ h ρ w a c₀ cs hc hg hfr
        cases t <;> exact this
      · cases h
  | region id ops d =>
    cases d with
    | false =>
      simp only [codeDA] at h
      refine wpSIn_region ?_
      have := opsDA_sound (P := P) (G := G) (B := B) (w0 := w0) (ops := ops) (cs := cs) hc ops.toList 0 (by simp) h hg hfr (Q := fun e a' cs' w' => cs' = c₀ :: cs ∧ QPost B w0 ρ fr.σ.next rs e a' w') (fun e a w hq => ⟨rfl, hq⟩)
      rw [List.range_eq_range']
      simpa using this
    | true => exact other h
  | _ => exact other h

theorem leaveA_sound (hp : POk P) (hR : RecOk P G B w0 R) (hbd : ∀ f args σ rs, R.dcall f args σ = some rs → hasBody P f = true) {fn : Func} {tmps : Array Value} {Rp : Ending → World → Prop} :
    ∀ (ds : List Deferred) {σ : ASt} {rs : List ASt}, leaveA R ds σ = some rs → ∀ {ρ : Ren} {w : World} {ds' : List Deferred}, GOk P G ρ → WRel B w0 ρ σ w → DLRel ρ ds ds' →
      (∀ σ', σ' ∈ rs → ∀ ρ' w', Ext σ.next ρ ρ' → σ.next ≤ σ'.next → WRel B w0 ρ' σ' w' → LeavesIn Fence.wide 0 P fn tmps Rp [] .returning w') →
      LeavesInM Fence.wide 0 P fn tmps Rp ds' .returning w := by
  intro ds
  induction ds with
  | nil =>
    intro σ rs h ρ w ds' hg hw hd hk
    simp only [leaveA, Option.some.injEq] at h
    subst h
    cases hd
    exact hk σ (List.mem_singleton.2 rfl) ρ w (Ext.refl _ _) (Nat.le_refl _) hw
  | cons d ds ih =>
    intro σ rs h ρ w ds' hg hw hd hk
    cases hd with
    | cons hd hl =>
      cases hd with
      | mark ht =>
        rename_i b t
        simp only [leaveA] at h
        split at h
        · rename_i hgb
          obtain ⟨o', ho, rfl⟩ := hw.obj _ _ _ hgb ht
          have hw2 := hw.set (o1 := .deferred true) (o' := .deferred none) hgb ht rfl rfl
          refine ⟨by simp, .inl ⟨t.blk, _, rfl, ?_, ih h hg hw2 hl hk⟩⟩
          simp [Instr.takeDeferred, getObj, setObj, Sem.run, ho]
        · cases h
      | fn ha hc =>
        rename_i f as as' cs cs'
        simp only [leaveA] at h
        obtain ⟨xs, hxs, hin⟩ := bindL_some h
        refine ⟨by simp, .inr ⟨(fun h => by cases h), .func f, ⟨cs'⟩, f, ⟨as' ++ cs'⟩, rfl, ?_, fun g _ => trivial, ?_⟩⟩
        · show (invoke (.fn (.func f) ⟨cs'⟩) ⟨as'⟩).run P w = _
          rw [invoke_func, callFunc_enter hp (hbd _ _ _ _ hxs)]
          simp
        · have hcall := hR.dcall _ _ _ _ hxs ρ w _ hg hw (ha.append hc)
          refine ⟨hcall.1, fun c cs hm hr => ?_⟩
          obtain ⟨e, u', w', fr, ⟨hu, ⟨v, he⟩, σ', hσ, ρ', h1, h2, h3⟩, rest⟩ := hcall.2 c cs hm hr
          refine ⟨e, u', w', fr, ?_, rest⟩
          subst he
          subst hu
          obtain ⟨rs', h4, h5⟩ := hin σ' hσ
          have hs := hw.sub h1
          exact ih h4 (hg.mono hs) h3 (hl.mono hs) fun σ2 hσ2 ρ2 w2 k1 k2 k3 => hk σ2 (h5 _ hσ2) ρ2 w2 (h1.trans k1 h2) (Nat.le_trans h2 k2) k3

theorem enter_rel {ρ : Ren} {args args' : List Value} (h : LRel ρ args args') (n : Nat) :
    LRel ρ (args ++ List.replicate (n - args.length) undef) ((⟨args'⟩ : Array Value) ++ Array.replicate (n - (⟨args'⟩ : Array Value).size) undef).toList := by
  have : ((⟨args'⟩ : Array Value) ++ Array.replicate (n - (⟨args'⟩ : Array Value).size) undef).toList = args' ++ List.replicate (n - args.length) undef := by
    simp [h.length]
  rw [this]
  exact h.append (LRel.replicate LRel.undef _)

theorem callA_sound (hp : POk P) (hR : RecOk P G B w0 R) (hbd : ∀ f args σ rs, R.dcall f args σ = some rs → hasBody P f = true) {f : FuncId} {args : List Value} {σ : ASt} {rs : List (Value × ASt)} (h : callA R P f args σ = some rs)
    {ρ : Ren} {w : World} {args' : List Value} (hg : GOk P G ρ) (hw : WRel B w0 ρ σ w) (ha : LRel ρ args args') : CallsIn Fence.wide 0 P f ⟨args'⟩ w (CPost B w0 ρ σ.next rs) := by
  unfold callA at h
  split at h
  · rename_i fn hfn
    split at h
    · rename_i c hc
      obtain ⟨xs, hxs, hin⟩ := bindL_some h
      refine callsIn_of_wp_marks hfn hc trivial ?_
      refine wpIn_mono (hR.code _ _ _ _ hxs ρ w _ Fence.wide hg rfl ⟨enter_rel ha _, .nil, hw⟩) fun e a' w' ⟨⟨e', fr'⟩, hr, ρ', he, h1, h2, h3⟩ => ?_
      obtain ⟨rs', h4, h5⟩ := hin _ hr
      have hs := hw.sub h1
      have key : (bindL (leaveA R fr'.ds fr'.σ) fun σ' => match resultsA P fn fr'.ts σ' with | some v => some [(v, σ')] | none => none) = some rs' →
          LeavesInM Fence.wide 0 P fn a'.tmps (CPost B w0 ρ σ.next rs) a'.defers .returning w' := by
        intro h4
        obtain ⟨ys, hys, hin2⟩ := bindL_some h4
        refine leaveA_sound hp hR hbd _ hys (hg.mono hs) h3.w h3.ds fun σ' hσ ρ2 w2 k1 k2 k3 => ?_
        obtain ⟨rs2, m1, m2⟩ := hin2 σ' hσ
        split at m1
        · rename_i v hv
          simp only [Option.some.injEq] at m1
          subst m1
          have hs2 := h3.w.sub k1
          obtain ⟨v', q1, q2⟩ := resultsA_sound (P := P) k3 (h3.ts.mono hs2) hv
          exact ⟨v', q1, (v, σ'), h5 _ (m2 _ (List.mem_singleton.2 rfl)), ρ2, v', rfl, h1.trans k1 h2, Nat.le_trans h2 k2, q2, k3⟩
        · cases m1
      subst he
      cases e' with
      | normal => exact key h4
      | ret => exact key h4
      | exit id => cases h4
    · cases h
  · cases h

theorem dcallA_sound (hR : RecOk P G B w0 R) {f : FuncId} {args : List Value} {σ : ASt} {rs : List ASt} (h : dcallA R P f args σ = some rs)
    {ρ : Ren} {w : World} {args' : List Value} (hg : GOk P G ρ) (hw : WRel B w0 ρ σ w) (ha : LRel ρ args args') :
    CallsDIn Fence.wide 0 P f ⟨args'⟩ .returning w (fun e u' w' => u' = .returning ∧ (∃ v, e = .returned v) ∧ ∃ σ', σ' ∈ rs ∧ ∃ ρ', Ext σ.next ρ ρ' ∧ σ.next ≤ σ'.next ∧ WRel B w0 ρ' σ' w') := by
  unfold dcallA at h
  split at h
  · rename_i fn hfn
    split at h
    · rename_i c hc
      obtain ⟨xs, hxs, hin⟩ := bindL_some h
      refine callsDIn_of_wpSIn hfn hc trivial fun c₀ cs hc₀ => ?_
      refine wpSIn_mono (hR.codeD _ _ _ hxs ρ w _ c₀ cs hc₀ hg ⟨enter_rel ha _, .nil, hw⟩) fun e a' cs' w' ⟨hcs, ⟨e', fr'⟩, hr, ρ', he, h1, h2, h3⟩ => ?_
      obtain ⟨rs', h4, h5⟩ := hin _ hr
      have hself : c₀ = { c₀ with mode := .returning } := by
        obtain ⟨⟩ := c₀
        simp only at hc₀
        subst hc₀
        rfl
      have key : (match fr'.ds with
        | [] => match resultsA P fn fr'.ts fr'.σ with
          | some _ => some [fr'.σ]
          | none => none
        | _ => none) = some rs' → a'.defers = [] ∧ ∃ u', cs' = { c₀ with mode := u' } :: cs ∧ ∃ v, (results fn a'.tmps).run P w' = .ok v w' ∧
          (u' = .returning ∧ (∃ v', Ending.returned v = .returned v') ∧ ∃ σ', σ' ∈ rs ∧ ∃ ρ', Ext σ.next ρ ρ' ∧ σ.next ≤ σ'.next ∧ WRel B w0 ρ' σ' w') := by
        intro h4
        split at h4
        · rename_i hds
          split at h4
          · rename_i v hv
            simp only [Option.some.injEq] at h4
            subst h4
            obtain ⟨v', q1, q2⟩ := resultsA_sound (P := P) h3.w h3.ts hv
            have hd := h3.ds
            rw [hds] at hd
            refine ⟨?_, .returning, by rw [hcs, ← hself], v', q1, rfl, ⟨v', rfl⟩, fr'.σ, h5 _ (List.mem_singleton.2 rfl), ρ', h1, h2, h3.w⟩
            generalize a'.defers = z at hd
            cases hd
            rfl
          · cases h4
        · cases h4
      subst he
      cases e' with
      | normal => exact key h4
      | ret => exact key h4
      | exit id => cases h4
    · cases h
  · cases h

theorem params_rel {ρ : Ren} {args args' : List Value} (h : LRel ρ args args') : ∀ (ps : List Tmp) {ts ts' : List Value}, LRel ρ ts ts' →
    LRel ρ ((ps.zip args).foldl (fun ts p => ts.set p.1 p.2) ts) ((ps.zip args').foldl (fun ts p => ts.set p.1 p.2) ts') := by
  induction args generalizing args' with
  | nil => cases h; intro ps ts ts' ht; simpa using ht
  | cons v l ih =>
    cases h with
    | cons hv hl =>
      intro ps ts ts' ht
      cases ps with
      | nil => simpa using ht
      | cons p ps => simpa using ih hl ps (ht.set p hv)

theorem zip_fold {ps : Array Tmp} {args' : List Value} {ts' : List Value} (f : Array Value → Tmp × Value → Array Value) (hf : ∀ tmps t a, f tmps (t, a) = tmps.setIfInBounds t a) :
    ((ps.zip (⟨args'⟩ : Array Value)).foldl f (⟨ts'⟩ : Array Value)).toList = (ps.toList.zip args').foldl (fun ts p => ts.set p.1 p.2) ts' := by
  rw [← Array.foldl_toList, Array.toList_zip]
  generalize ps.toList.zip args' = l
  induction l generalizing ts' with
  | nil => rfl
  | cons p l ih =>
    obtain ⟨t, v⟩ := p
    simp only [List.foldl_cons, hf]
    rw [← ih]
    simp

theorem yieldA_sound (hR : RecOk P G B w0 R) {l : Nat} {args : List Value} {σ : ASt} {rs : List (Value × ASt)} (h : yieldA R l args σ = some rs) {ρ : Ren} {w : World} {args' : List Value} {t : Tgt} (ht : ρ l = some t) (hg : GOk P G ρ) (hw : WRel B w0 ρ σ w) (ha : LRel ρ args args') :
    ∃ fn tmps assign body, (Instr.yield t.blk ⟨args'⟩).run P w = .ok (.round t.blk fn tmps assign body) w ∧
      RoundIn Fence.wide 0 P t.blk fn tmps assign body w (CPost B w0 ρ σ.next rs) := by
  unfold yieldA at h
  split at h
  · rename_i s p ts ps assign body d hgl
    cases hn : Nat.beq args.length ps.size with
    | false => rw [hn] at h; cases h
    | true =>
      rw [hn] at h
      simp only [cond_true] at h
      have hn : args.length = ps.size := Nat.eq_of_beq_eq_true hn
      obtain ⟨o', ho, fn, ts', td, h1, h2, rfl⟩ := hw.obj _ _ _ hgl ht
      obtain ⟨xs, hxs, hin⟩ := bindL_some h
      have hsz : ¬ ((⟨args'⟩ : Array Value).size ≠ ps.size) := by simp [ha.length, hn]
      refine ⟨fn, (ps.zip (⟨args'⟩ : Array Value)).foldl (fun tmps (t, a) => tmps.setIfInBounds t a) (⟨ts'⟩ : Array Value), assign, body, by
        simp only [Instr.yield, Sem.run_bind, getLoop_run ho, Result.andThen_ok]
        rw [if_neg hsz]
        rfl, ?_⟩
      refine roundIn_of_wpIn trivial ?_
      have hF : AtRd ρ (some l) (Fence.wide.inRound t.blk) := ⟨t, ht, rfl⟩
      refine wpIn_mono (hR.code _ _ _ _ hxs ρ w ⟨_, []⟩ _ hg hF ⟨by rw [zip_fold _ (fun _ _ _ => rfl)]; exact params_rel ha _ h2, .nil, hw⟩) fun e a1 w1 ⟨⟨e1, fr1⟩, hr1, ρ1, he1, k1, k2, k3⟩ => ?_
      obtain ⟨rs1, m1, m2⟩ := hin _ hr1
      have hs1 := hw.sub k1
      subst he1
      cases e1 with
      | exit id => cases m1
      | ret => cases m1
      | normal =>
        simp only at m1
        split at m1
        · rename_i p1 ts1 ps1 aa1 bb1 d1 hgl1
          have ht1 := hs1 _ _ ht
          obtain ⟨o1, ho1, fn1, ts1', td1, n1, n2, rfl⟩ := k3.w.obj _ _ _ hgl1 ht1
          have hw2 := k3.w.set (o1 := .loop .busy p1 ts1 ps1 aa1 bb1 d1) (o' := .loop { state := .busy, pending := p1, fn := fn1, tmps := ⟨ts1'⟩, params := ps1, assign := aa1, body := bb1, defers := td1.blk }) hgl1 ht1 rfl ⟨fn1, ts1', td1, n1, n2, rfl⟩
          refine ⟨_, by simp only [Instr.beginRound, Sem.run_bind, getLoop_run ho1, Result.andThen_ok, setObj_run ho1]; rfl, ?_⟩
          obtain ⟨ys, hys, hin2⟩ := bindL_some m1
          refine wpIn_mono (hR.code _ _ _ _ hys ρ1 _ a1 _ (hg.mono hs1) (hF.mono hs1) ⟨k3.ts, k3.ds, hw2⟩) fun e a2 w2 ⟨⟨e2, fr2⟩, hr2, ρ2, he2, q1, q2, q3⟩ => ?_
          obtain ⟨rs2, u1, u2⟩ := hin2 _ hr2
          have hs2 := hw2.sub q1
          have ht2 := hs2 _ _ ht1
          simp only at u1
          split at u1
          · rename_i s2 p2 ts2 ps2 aa2 bb2 d2 hgl2
            simp only [Option.some.injEq] at u1
            subst u1
            obtain ⟨o2, ho2, fn2, ts2', td2, z1, z2, rfl⟩ := q3.w.obj _ _ _ hgl2 ht2
            have fin : ∀ j : Option Code, j = jumpA e2 → ∃ v w', (Instr.endRound t.blk j).run P w2 = .ok v w' ∧ CPost B w0 ρ σ.next rs (.returned v) w' := by
              intro j hj
              subst hj
              have hw3 := q3.w.set (o1 := .loop (if (jumpA e2).isNone then .ready else .done) (jumpA e2) ts2 ps2 aa2 bb2 d2) (o' := .loop { state := if (jumpA e2).isNone then .ready else .done, pending := jumpA e2, fn := fn2, tmps := ⟨ts2'⟩, params := ps2, assign := aa2, body := bb2, defers := td2.blk }) hgl2 ht2 rfl ⟨fn2, ts2', td2, z1, z2, rfl⟩
              refine ⟨.bool (jumpA e2).isNone, _, by simp only [Instr.endRound, Sem.run_bind, getLoop_run ho2, Result.andThen_ok, setObj_run ho2, Sem.run_pure], _, m2 _ (u2 _ (List.mem_singleton.2 rfl)), ρ2, _, rfl, k1.trans q1 k2, Nat.le_trans k2 q2, .flat rfl, hw3⟩
            subst he2
            cases e2 with
            | normal => exact fin none rfl
            | ret => exact fin (some .ret) rfl
            | exit id => exact fin (some (.exit id)) rfl
          · cases u1
        · cases m1
  · cases h

theorem RecOk.no : RecOk P G B w0 noRec :=
  ⟨fun _ _ _ _ h => (by cases h), fun _ _ _ _ h => (by cases h), fun _ _ _ _ h => (by cases h), fun _ _ _ h => (by cases h), fun _ _ _ _ h => (by cases h)⟩

theorem callA_body {f : FuncId} {args : List Value} {σ : ASt} {rs : List (Value × ASt)} (h : callA R P f args σ = some rs) : hasBody P f = true := by
  unfold callA at h
  unfold hasBody
  split at h
  · split at h
    · rename_i c hc; simp [hc]
    · cases h
  · cases h

theorem dcallA_body {f : FuncId} {args : List Value} {σ : ASt} {rs : List ASt} (h : dcallA R P f args σ = some rs) : hasBody P f = true := by
  unfold dcallA at h
  unfold hasBody
  split at h
  · split at h
    · rename_i c hc; simp [hc]
    · cases h
  · cases h

/-- THE LAW: what the evaluator tells of a call is so. -/
theorem run_ok (hp : POk P) (hx : KnownOk P G B w0 x) (hD : DrawsOk P G B w0 D) : ∀ n, RecOk P G B w0 (run x D P G n) ∧
    (∀ f args σ rs, (run x D P G n).call f args σ = some rs → hasBody P f = true) ∧ (∀ f args σ rs, (run x D P G n).dcall f args σ = some rs → hasBody P f = true)
  | 0 => ⟨.no, fun _ _ _ _ h => (by cases h), fun _ _ _ _ h => (by cases h)⟩
  | n + 1 => by
    obtain ⟨ih, hb, hd⟩ := run_ok hp hx hD n
    refine ⟨⟨?_, ?_, ?_, ?_, ?_⟩, fun f args σ rs h => callA_body h, fun f args σ rs h => dcallA_body h⟩
    · exact fun f args σ rs h ρ w args' hg hw ha => callA_sound hp ih hd h hg hw ha
    · exact fun f args σ rs h ρ w args' hg hw ha => dcallA_sound ih h hg hw ha
    · exact fun rd c fr rs h ρ w a F hg hF hfr => codeA_sound hp ih hb hx hD h hg hF hfr
    · exact fun c fr rs h ρ w a c₀ cs hc hg hfr => codeDA_sound ih h hc hg hfr
    · exact fun l args σ rs h ρ w args' t ht hg hw ha => yieldA_sound ih h ht hg hw ha
end
end Go.Cre
end
