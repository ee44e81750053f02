/-
The law of the evaluator: operations, undrawn regions.
-/
import Derived.Test.YtmcccdgpmlacdaaGreatDoorCreP
noncomputable section
namespace Go.Cre
open Go.RowKit (Below)

inductive DRel (ρ : Ren) : Deferred → Deferred → Prop
  | mark {b : Nat} {t : Tgt} (h : ρ b = some t) : DRel ρ { target := .collected b, args := #[] } { target := .collected t.blk, args := #[] }
  | fn {f : FuncId} {as as' cs cs' : List Value} (ha : LRel ρ as as') (hc : LRel ρ cs cs') : DRel ρ { target := .fn (.func f) ⟨cs⟩, args := ⟨as⟩ } { target := .fn (.func f) ⟨cs'⟩, args := ⟨as'⟩ }

inductive DLRel (ρ : Ren) : List Deferred → List Deferred → Prop
  | nil : DLRel ρ [] []
  | cons {d d' : Deferred} {l l' : List Deferred} (h : DRel ρ d d') (hl : DLRel ρ l l') : DLRel ρ (d :: l) (d' :: l')

theorem DRel.mono {ρ ρ' : Ren} (hs : Sub ρ ρ') {d d' : Deferred} (h : DRel ρ d d') : DRel ρ' d d' := by
  cases h with
  | mark h => exact .mark (hs _ _ h)
  | fn ha hc => exact .fn (ha.mono hs) (hc.mono hs)
theorem DLRel.mono {ρ ρ' : Ren} (hs : Sub ρ ρ') {l l' : List Deferred} (h : DLRel ρ l l') : DLRel ρ' l l' := by
  induction h with
  | nil => exact .nil
  | cons h _ ih => exact .cons (h.mono hs) ih

structure FrRel (B : Nat) (w0 : World) (ρ : Ren) (fr : Fr) (a : Act) (w : World) : Prop where
  ts : LRel ρ fr.ts a.tmps.toList
  ds : DLRel ρ fr.ds a.defers
  w : WRel B w0 ρ fr.σ w

def CPost (B : Nat) (w0 : World) (ρ : Ren) (n : Nat) (rs : List (Value × ASt)) : Ending → World → Prop :=
  fun e w' => ∃ r, r ∈ rs ∧ ∃ ρ' v', e = .returned v' ∧ Ext n ρ ρ' ∧ n ≤ r.2.next ∧ VRel ρ' r.1 v' ∧ WRel B w0 ρ' r.2 w'

def QPost (B : Nat) (w0 : World) (ρ : Ren) (n : Nat) (rs : List (AExit × Fr)) : Exit → Act → World → Prop :=
  fun e a w => ∃ r, r ∈ rs ∧ ∃ ρ', e = r.1.to ∧ Ext n ρ ρ' ∧ n ≤ r.2.σ.next ∧ FrRel B w0 ρ' r.2 a w

theorem QPost.lift {B : Nat} {w0 : World} {ρ ρ' : Ren} {n n' : Nat} {rs rs' : List (AExit × Fr)} {e : Exit} {a : Act} {w : World} (h : QPost B w0 ρ' n' rs' e a w) (h1 : Ext n ρ ρ') (h2 : n ≤ n') (h3 : ∀ y, y ∈ rs' → y ∈ rs) : QPost B w0 ρ n rs e a w :=
  let ⟨r, k1, ρ2, k2, k3, k4, k5⟩ := h; ⟨r, h3 r k1, ρ2, k2, h1.trans k3 h2, Nat.le_trans h2 k4, k5⟩

def AtRd (ρ : Ren) (rd : Option Nat) (F : Fence) : Prop :=
  match rd with
  | none => F = Fence.wide
  | some l => ∃ t, ρ l = some t ∧ F = Fence.wide.inRound t.blk

theorem AtRd.mono {ρ ρ' : Ren} {rd : Option Nat} {F : Fence} (hs : Sub ρ ρ') (h : AtRd ρ rd F) : AtRd ρ' rd F := by
  cases rd with
  | none => exact h
  | some l => obtain ⟨t, h1, h2⟩ := h; exact ⟨t, hs _ _ h1, h2⟩

theorem AtRd.fn {ρ : Ren} {rd : Option Nat} {F : Fence} (h : AtRd ρ rd F) (f : FuncId) : F.fn f := by
  cases rd with
  | none => cases h; exact trivial
  | some l => obtain ⟨t, _, rfl⟩ := h; exact trivial

theorem AtRd.depth {ρ : Ren} {rd : Option Nat} {F : Fence} (h : AtRd ρ rd F) : F.depth = none := by
  cases rd with
  | none => cases h; rfl
  | some l => obtain ⟨t, _, rfl⟩ := h; rfl

theorem AtRd.one {ρ : Ren} {rd : Option Nat} {F : Fence} (h : AtRd ρ rd F) {n : Nat} : F.depth.isSome = true → 1 ≤ n := by
  rw [h.depth]; intro h; cases h

theorem AtRd.callsIn {ρ : Ren} {rd : Option Nat} {F : Fence} (h : AtRd ρ rd F) {n : Nat} {P : Program} {f : FuncId} {args : Array Value} {w : World} {R : Ending → World → Prop}
    (hc : CallsIn Fence.wide n P f args w R) : CallsIn F n P f args w R := by
  cases rd with
  | none => cases h; exact hc
  | some l => obtain ⟨t, _, rfl⟩ := h; exact hc

theorem AtRd.roundIn {ρ : Ren} {rd : Option Nat} {F : Fence} (h : AtRd ρ rd F) {n : Nat} {P : Program} {l : Nat} {f : FuncId} {tmps : Array Value} {a b : Code} {w : World} {R : Ending → World → Prop}
    (hc : RoundIn Fence.wide n P l f tmps a b w R) : RoundIn F n P l f tmps a b w R := by
  cases rd with
  | none => cases h; exact hc
  | some l => obtain ⟨t, _, rfl⟩ := h; exact hc

/-- What is asked of the program. -/
structure POk (P : Program) : Prop where
  num : ∀ (g : FuncId) (fn : Func), P.funcs[g]? = some fn → fn.name ≠ "runtime.NumGoroutine"

structure KnownOk (P : Program) (G : Gl) (B : Nat) (w0 : World) (x : Known) : Prop where
  fn : ∀ g as σ v σ', x.fn g as σ = some (v, σ') → ∀ ρ w as', WRel B w0 ρ σ w → LRel ρ as as' →
    ∃ ρ' v' w', (callFunc g ⟨as'⟩).run P w = .ok (.value v') w' ∧ Ext σ.next ρ ρ' ∧ VRel ρ' v v' ∧ WRel B w0 ρ' σ' w' ∧ σ.next ≤ σ'.next
  call : ∀ g as σ r, x.call g as σ = some r → ∀ ρ w as', GOk P G ρ → WRel B w0 ρ σ w → LRel ρ as as' → CallsIn Fence.wide 0 P g ⟨as'⟩ w (CPost B w0 ρ σ.next [r])
  eqO : ∀ o o', x.eqO o o' = true → o = o'
  eqV : ∀ v v', x.eqV v v' = true → v = v'

structure RecOk (P : Program) (G : Gl) (B : Nat) (w0 : World) (R : Rec) : Prop where
  call : ∀ f args σ rs, R.call f args σ = some rs → ∀ ρ w args', GOk P G ρ → WRel B w0 ρ σ w → LRel ρ args args' →
    CallsIn Fence.wide 0 P f ⟨args'⟩ w (CPost B w0 ρ σ.next rs)
  dcall : ∀ f args σ rs, R.dcall f args σ = some rs → ∀ ρ w args', GOk P G ρ → WRel B w0 ρ σ w → LRel ρ args args' →
    CallsDIn Fence.wide 0 P f ⟨args'⟩ .returning w (fun e u' w' => u' = .returning ∧ (∃ v, e = .returned v) ∧ ∃ σ', σ' ∈ rs ∧ ∃ ρ', Ext σ.next ρ ρ' ∧ σ.next ≤ σ'.next ∧ WRel B w0 ρ' σ' w')
  code : ∀ rd c fr rs, R.code rd c fr = some rs → ∀ ρ w a F, GOk P G ρ → AtRd ρ rd F → FrRel B w0 ρ fr a w →
    c.wpIn F 0 P (QPost B w0 ρ fr.σ.next rs) a w
  codeD : ∀ c fr rs, R.codeD c fr = some rs → ∀ ρ w a (c₀ : Frame) (cs : List Frame), c₀.mode = .returning → GOk P G ρ → FrRel B w0 ρ fr a w →
    c.wpSIn Fence.wide 0 P (fun e a' cs' w' => cs' = c₀ :: cs ∧ QPost B w0 ρ fr.σ.next rs e a' w') a (c₀ :: cs) w
  yield : ∀ l args σ rs, R.yield l args σ = some rs → ∀ ρ w args' t, ρ l = some t → GOk P G ρ → WRel B w0 ρ σ w → LRel ρ args args' →
    ∃ fn tmps assign body, (Instr.yield t.blk ⟨args'⟩).run P w = .ok (.round t.blk fn tmps assign body) w ∧
      RoundIn Fence.wide 0 P t.blk fn tmps assign body w (CPost B w0 ρ σ.next rs)

section
variable {P : Program} {G : Gl} {B : Nat} {w0 : World} {R : Rec} {x : Known} {ρ : Ren}

theorem put_rel {ts : List Value} {a : Act} (h : LRel ρ ts a.tmps.toList) (d : Option Tmp) {v v' : Value} (hv : VRel ρ v v') : LRel ρ (putT ts d v) (a.put d v').tmps.toList := by
  cases d with
  | none => exact h
  | some d =>
    simp only [putT, setF_eq, Act.put, Array.toList_setIfInBounds]
    exact h.set d hv

theorem put_defers (a : Act) (d : Option Tmp) (v : Value) : (a.put d v).defers = a.defers := by cases d <;> rfl

theorem wanted_rel {all : List Oper} {ops : Array Oper} (hall : all = ops.toList) {ts : List Value} {a : Act} (h : LRel ρ ts a.tmps.toList) {o : Oper} {b : Bool} (hw : wantedA all ts o = some b) :
    Region.wanted o (yielded ops a.tmps) = b := by
  subst hall
  unfold wantedA at hw
  unfold Region.wanted
  split at hw
  · rename_i hg; rw [hg]; simpa using hw
  · rename_i j want hg
    rw [hg]
    simp only
    split at hw
    · rename_i o' ho'
      split at hw
      · rename_i d hd
        have e1 : ops[j]? = some o' := by simpa using ho'
        simp only [yielded, e1, Option.bind_some, hd]
        split at hw
        · rename_i b' hb'
          obtain ⟨v', h1, h2⟩ := h.getElem? d _ hb'
          have := flat_eq (v := .bool b') rfl h2
          subst this
          have h1 : a.tmps[d]? = some (.bool b') := by simpa using h1
          rw [h1]
          simp only [Option.some.injEq] at hw ⊢
          rw [← hw]
          cases b' <;> cases want <;> rfl
        · rename_i cs hb'
          obtain ⟨v', h1, h2⟩ := h.getElem? d _ hb'
          have h1 : a.tmps[d]? = some v' := by simpa using h1
          rw [h1]
          cases h2 with
          | flat hf => simp [flat] at hf
          | tuple _ => simpa using hw
        · cases hw
      · cases hw
    · cases hw

theorem callFunc_enter (hp : POk P) {g : FuncId} (hb : hasBody P g = true) (as : Array Value) (w : World) : (callFunc g as).run P w = .ok (.enter g as) w := by
  unfold hasBody at hb
  split at hb
  · rename_i fn hfn
    have hn := hp.num g fn hfn
    simp [callFunc, hfn, hn, Option.isNone_iff_eq_none, Option.isSome_iff_ne_none.1 hb]
  · cases hb

theorem exec_call (a : Act) (o : Oper) {f : Operand} {args : Array Operand} {ats : Array TypeId} (ho : o.op = .call ⟨.value f, args, ats⟩) {g : Fn} {first cap : Array Value} (hf : a.eval f = .func g first cap) (w : World) :
    (execOp a.eval o).run P w = (invoke (.fn g cap) (first ++ args.map a.eval)).run P w := by
  obtain ⟨dst, op, type, pos, after, guard⟩ := o
  simp only at ho
  subst ho
  simp [execOp, resolve, Deferred.ofValue, hf]

theorem invoke_func (g : FuncId) (cap as : Array Value) : invoke (.fn (.func g) cap) as = callFunc g (as ++ cap) := rfl
theorem invoke_yield (l : Nat) (cap as : Array Value) : invoke (.fn (.yield l) cap) as = Instr.yield l as := rfl

theorem func_inv {f : Fn} {a b : Array Value} {v' : Value} (h : VRel ρ (.func f a b) v') : ∃ f' a' b', v' = .func f' ⟨a'⟩ ⟨b'⟩ ∧ FnRel ρ f f' ∧ LRel ρ a.toList a' ∧ LRel ρ b.toList b' := by
  cases h with
  | flat hf => simp [flat] at hf
  | func hf ha hb => exact ⟨_, _, _, rfl, hf, ha, hb⟩

theorem not_defer {σ : ASt} {w : World} {a : Act} {o : Oper} {v : Value} {σ' : ASt} (h : StepOk P B w0 ρ σ w a o v σ') (c : Call) : o.op ≠ .defer c := by
  obtain ⟨ρ', v', w', nx, h1, h2, _⟩ := h
  intro he
  obtain ⟨dst, op, type, pos, after, guard⟩ := o
  simp only at he
  subst he
  simp only [execOp, Sem.run_bind, Sem.run_pure] at h1
  cases hr : (resolve a.eval c type).run P w with
  | ok d w1 =>
    rw [hr] at h1
    simp only [Result.andThen_ok, Result.ok.injEq] at h1
    rcases h2 with h2 | ⟨h2, _⟩ <;> (rw [h2] at h1; cases h1.1)
  | halt q w1 => rw [hr] at h1; simp at h1

/-- An operation that is no call, walked. -/
theorem of_step {σ : ASt} {w : World} {ts : List Value} {a : Act} {ds : List Deferred} {o : Oper} {v : Value} {σ' : ASt} {rd : Option Nat} {F : Fence} (h : StepOk P B w0 ρ σ w a o v σ') (hfr : FrRel B w0 ρ ⟨ts, ds, σ⟩ a w) (hF : AtRd ρ rd F)
    {next : Act → World → Prop} {Q : Exit → Act → World → Prop}
    (hn : ∀ ρ' a' w', Ext σ.next ρ ρ' → σ.next ≤ σ'.next → FrRel B w0 ρ' ⟨putT ts o.dst v, ds, σ'⟩ a' w' → next a' w') : o.wpIn F 0 P a w next Q := by
  have hd : ∀ c, o.op ≠ .defer c := not_defer h
  obtain ⟨ρ', v', w', nx, h1, h2, h3, h4, h5, h6⟩ := h
  refine ⟨fun f _ => hF.fn f, ?_⟩
  rw [Oper.semAt_eq _ _ _ hd, h1]
  have hs := hfr.w.sub h3
  have key : next (a.put o.dst v') w' := hn ρ' _ w' h3 h6 ⟨put_rel (hfr.ts.mono hs) _ h4, by rw [put_defers]; exact hfr.ds.mono hs, h5⟩
  rcases h2 with rfl | ⟨rfl, rfl⟩ <;> exact key

theorem CPost.tells {B : Nat} {w0 : World} {ρ : Ren} {n : Nat} {rs js : List (Value × ASt)} (ht : ∀ r, r ∈ rs → ∃ j, j ∈ js ∧ Tells B w0 r j) {e : Ending} {w : World} (h : CPost B w0 ρ n rs e w) : CPost B w0 ρ n js e w :=
  let ⟨r, hr, ρ', v', h1, h2, h3, h4, h5⟩ := h
  let ⟨j, hj, t1, t2, t3⟩ := ht r hr
  ⟨j, hj, ρ', v', h1, h2, by rw [t2]; exact h3, by rw [t1]; exact h4, t3 _ _ h5⟩

theorem knownCall_sound (hR : RecOk P G B w0 R) (hx : KnownOk P G B w0 x) {g : FuncId} {vs vs' : List Value} {σ : ASt} {rs : List (Value × ASt)} (h : knownCall R x g vs σ = some rs) {w : World} (hg : GOk P G ρ) (hw : WRel B w0 ρ σ w) (ha : LRel ρ vs vs') :
    CallsIn Fence.wide 0 P g ⟨vs'⟩ w (CPost B w0 ρ σ.next rs) := by
  unfold knownCall at h
  split at h
  · rename_i r hr
    simp only [Option.some.injEq] at h
    subst h
    exact hx.call _ _ _ _ hr ρ w _ hg hw ha
  · unfold joinA at h
    cases hj : x.join g with
    | false => rw [hj] at h; exact hR.call _ _ _ _ h ρ w _ hg hw ha
    | true =>
      rw [hj] at h
      simp only at h
      split at h
      · rename_i r rest hr
        simp only [Option.some.injEq] at h
        subst h
        refine CallsIn.mono (hR.call _ _ _ _ hr ρ w _ hg hw ha) fun e w' hq => hq.tells fun q hq => ?_
        have := joinL_tells (B := B) (w0 := w0) hx.eqO hx.eqV rest r
        rcases List.mem_cons.1 hq with rfl | hq
        · exact this.1 q (.refl q)
        · exact this.2 q hq
      · exact hR.call _ _ _ _ h ρ w _ hg hw ha

theorem callOp_sound (hp : POk P) (hR : RecOk P G B w0 R) (hx : KnownOk P G B w0 x) {ts tf : List Value} {o : Oper} {f : Operand} {args : Array Operand} {ats : Array TypeId} (ho : o.op = .call ⟨.value f, args, ats⟩) {σ : ASt} {rs : List (Value × ASt)} (hc : callOp R x P ts o f args σ = some rs)
    {a : Act} {w : World} {ds : List Deferred} {rd : Option Nat} {F : Fence} (hg : GOk P G ρ) (hF : AtRd ρ rd F) (hfr : FrRel B w0 ρ ⟨tf, ds, σ⟩ a w) (hf : VRel ρ (ev ts f) (a.eval f)) (ha : LRel ρ (args.toList.map (ev ts)) (args.toList.map a.eval))
    {next : Act → World → Prop} {Q : Exit → Act → World → Prop}
    (hn : ∀ r, r ∈ rs → ∀ ρ' a' w', Ext σ.next ρ ρ' → σ.next ≤ r.2.next → FrRel B w0 ρ' ⟨putT tf o.dst r.1, ds, r.2⟩ a' w' → next a' w') : o.wpIn F 0 P a w next Q := by
  have hd : ∀ c, o.op ≠ .defer c := by rw [ho]; intro c h; cases h
  have hget : ∀ (rs' : List (Value × ASt)), (∀ r, r ∈ rs' → r ∈ rs) → ∀ e w', CPost B w0 ρ σ.next rs' e w' → ∃ v', e = .returned v' ∧ next (a.put o.dst v') w' := by
    intro rs' hsub e w' ⟨r, hr, ρ', v', he, h3, h6, h4, h5⟩
    have hs := hfr.w.sub h3
    exact ⟨v', he, hn r (hsub r hr) ρ' _ w' h3 h6 ⟨put_rel (hfr.ts.mono hs) _ h4, by rw [put_defers]; exact hfr.ds.mono hs, h5⟩⟩
  unfold callOp at hc
  split at hc
  · rename_i g first cap hev
    rw [hev] at hf
    obtain ⟨f', first', cap', hv', hfn, h1, h2⟩ := func_inv hf
    have hfn : f' = .func g := hfn
    subst hfn
    have hexec := fun w => exec_call (P := P) a o ho hv' w
    have e1 : (⟨first'⟩ : Array Value) ++ args.map a.eval ++ ⟨cap'⟩ = ⟨first' ++ args.toList.map a.eval ++ cap'⟩ := by apply Array.ext'; simp
    have hargs : LRel ρ (first.toList ++ args.toList.map (ev ts) ++ cap.toList) (first' ++ args.toList.map a.eval ++ cap') := (h1.append ha).append h2
    cases hb : hasBody P g with
    | true =>
      rw [hb] at hc
      simp only [cond_true] at hc
      have hcall := knownCall_sound hR hx hc hg hfr.w hargs
      refine ⟨fun f _ => hF.fn f, ?_⟩
      rw [Oper.semAt_eq _ _ _ hd, hexec, invoke_func, callFunc_enter hp hb, e1]
      refine ⟨hF.one, CallsIn.mono (hF.callsIn hcall) fun e w' hq => ?_⟩
      obtain ⟨v', rfl, hk⟩ := hget rs (fun _ h => h) e w' hq
      exact hk
    | false =>
      rw [hb] at hc
      simp only [cond_false] at hc
      split at hc
      · rename_i v hv
        simp only [Option.some.injEq] at hc
        subst hc
        have hst : StepOk P B w0 ρ σ w a o v σ := flatOp_sound hfr.w hv (by rw [ho]; rfl) (fun y hy => by
          rw [ho] at hy
          have hy : y = f ∨ y ∈ args := by simpa [Op.operands, Call.operands] using hy
          rcases hy with rfl | hy
          · rw [hev]; exact hf
          · have hl : LRel ρ (args.toList.map (ev ts)) (args.toList.map a.eval) := ha
            have : ∀ (l : List Operand), LRel ρ (l.map (ev ts)) (l.map a.eval) → ∀ y, y ∈ l → VRel ρ (ev ts y) (a.eval y) := by
              intro l
              induction l with
              | nil => intro _ y hy; cases hy
              | cons z l ih =>
                intro h y hy
                simp only [List.map_cons] at h
                cases h with
                | cons hz hl =>
                  rcases List.mem_cons.1 hy with rfl | hy
                  · exact hz
                  · exact ih hl y hy
            exact this _ hl y (by simpa using hy))
        exact of_step hst hfr hF fun ρ' a' w' h3 h6 hr => hn (v, σ) (List.mem_singleton.2 rfl) ρ' a' w' h3 h6 hr
      · split at hc
        · rename_i r hr
          simp only [Option.some.injEq] at hc
          subst hc
          obtain ⟨ρ', v', w', k1, k2, k3, k4, k5⟩ := hx.fn _ _ _ _ _ hr ρ w _ hfr.w hargs
          refine ⟨fun f _ => hF.fn f, ?_⟩
          rw [Oper.semAt_eq _ _ _ hd, hexec, invoke_func, e1, k1]
          have hs := hfr.w.sub k2
          exact hn r (List.mem_singleton.2 rfl) ρ' _ w' k2 k5 ⟨put_rel (hfr.ts.mono hs) _ k3, by rw [put_defers]; exact hfr.ds.mono hs, k4⟩
        · cases hc
  · rename_i l first cap hev
    rw [hev] at hf
    obtain ⟨f', first', cap', hv', hfn, h1, h2⟩ := func_inv hf
    obtain ⟨t, ht, rfl⟩ := id hfn
    have hexec := fun w => exec_call (P := P) a o ho hv' w
    have e1 : (⟨first'⟩ : Array Value) ++ args.map a.eval = ⟨first' ++ args.toList.map a.eval⟩ := by apply Array.ext'; simp
    obtain ⟨fn, tmps, assign, body, k1, k2⟩ := hR.yield _ _ _ _ hc ρ w _ t ht hg hfr.w (h1.append ha)
    refine ⟨fun f _ => hF.fn f, ?_⟩
    rw [Oper.semAt_eq _ _ _ hd, hexec, invoke_yield, e1, k1]
    refine ⟨hF.one, RoundIn.mono (hF.roundIn k2) fun e w' hq => ?_⟩
    obtain ⟨v', rfl, hk⟩ := hget rs (fun _ h => h) e w' hq
    exact hk
  · cases hc

theorem opA_sound (hp : POk P) (hR : RecOk P G B w0 R) (hx : KnownOk P G B w0 x) {rd : Option Nat} {ts : List Value} {ds : List Deferred} {o : Oper} {σ : ASt} {rs : List (Value × List Deferred × ASt)} (ho : opA R x P G rd ts ds o σ = some rs)
    {a : Act} {w : World} {F : Fence} (hg : GOk P G ρ) (hF : AtRd ρ rd F) (hfr : FrRel B w0 ρ ⟨ts, ds, σ⟩ a w)
    {next : Act → World → Prop} {Q : Exit → Act → World → Prop}
    (hn : ∀ r, r ∈ rs → ∀ ρ' a' w', Ext σ.next ρ ρ' → σ.next ≤ r.2.2.next → FrRel B w0 ρ' ⟨putT ts o.dst r.1, r.2.1, r.2.2⟩ a' w' → next a' w') : o.wpIn F 0 P a w next Q := by
  unfold opA at ho
  split at ho
  · rename_i f args ats hop
    cases hb : (okOp G f && args.toList.all (okOp G)) with
    | false => rw [hb] at ho; cases ho
    | true =>
      rw [hb] at ho
      simp only [cond_true] at ho
      simp only [Bool.and_eq_true] at hb
      obtain ⟨xs, hxs, hin⟩ := bindL_some ho
      refine callOp_sound hp hR hx hop hxs hg hF hfr (ev_rel hg hfr.ts hb.1) (args_rel fun y hy => ev_rel hg hfr.ts (List.all_eq_true.1 hb.2 y hy)) fun r hr ρ' a' w' h1 h2 h3 => ?_
      obtain ⟨r', h4, h5⟩ := hin r hr
      simp only [Option.some.injEq] at h4
      subst h4
      exact hn _ (h5 _ (List.mem_singleton.2 rfl)) ρ' a' w' h1 h2 h3
  · rename_i f args ats hop
    cases hb : (okOp G f && args.toList.all (okOp G)) with
    | false => rw [hb] at ho; cases ho
    | true =>
      rw [hb] at ho
      simp only [cond_true] at ho
      simp only [Bool.and_eq_true] at hb
      split at ho
      · rename_i g first cap hev
        simp only [Option.some.injEq] at ho
        subst ho
        have hF' : F = Fence.wide := hF
        subst hF'
        have hf := ev_rel hg hfr.ts hb.1
        have ha := args_rel (ρ := ρ) (ts := ts) (a := a) (l := args.toList) fun y hy => ev_rel hg hfr.ts (List.all_eq_true.1 hb.2 y hy)
        rw [hev] at hf
        obtain ⟨f', first', cap', hv', hfn, h1, h2⟩ := func_inv hf
        have hfn : f' = .func g := hfn
        subst hfn
        refine ⟨fun f _ => trivial, ?_⟩
        have e1 : (⟨first'⟩ : Array Value) ++ args.map a.eval = ⟨first' ++ args.toList.map a.eval⟩ := by apply Array.ext'; simp
        have hexec : (o.semAt Fence.wide.round a.eval).run P w = .ok (.defer { target := .fn (.func g) ⟨cap'⟩, args := ⟨first' ++ args.toList.map a.eval⟩ }) w := by
          obtain ⟨dst, op, type, pos, after, guard⟩ := o
          simp only at hop
          subst hop
          simp only [Fence.wide_round, Oper.semAt_none, execOp, resolve, Deferred.ofValue, hv', Sem.run_bind, Sem.run_pure, Result.andThen_ok, e1]
        rw [hexec]
        refine hn _ (List.mem_singleton.2 rfl) ρ _ w (Ext.refl _ _) (Nat.le_refl _) ⟨?_, ?_, hfr.w⟩
        · exact put_rel (a := { a with defers := _ :: a.defers }) hfr.ts _ LRel.undef
        · rw [put_defers]
          refine .cons ?_ hfr.ds
          obtain ⟨cap⟩ := cap
          exact .fn (h1.append ha) h2
      · cases ho
  · rename_i y hop
    cases hb : okOp G y with
    | false => rw [hb] at ho; cases ho
    | true =>
      rw [hb] at ho
      simp only [cond_true] at ho
      split at ho
      · rename_i ns hns
        simp only [Option.some.injEq] at ho
        obtain ⟨r, hr, v', w', k1, k2, k3, k4⟩ := nextsA_sound (P := P) (t := o.type) hfr.w hns (ev_rel hg hfr.ts hb)
        have hst : StepOk P B w0 ρ σ w a o r.1 r.2 := ⟨ρ, v', w', .value v', by
          obtain ⟨dst, op, type, pos, after, guard⟩ := o
          simp only at hop
          subst hop
          simp [execOp, k1], .inl rfl, Ext.refl _ _, k2, k3, Nat.le_of_eq k4.symm⟩
        exact of_step hst hfr hF fun ρ' a' w' h1 h2 h3 => hn (r.1, ds, r.2) (ho ▸ List.mem_map.2 ⟨r, hr, rfl⟩) ρ' a' w' h1 h2 h3
      · cases ho
  · split at ho
    · rename_i r hr
      simp only [Option.some.injEq] at ho
      subst ho
      exact of_step (stepOp_sound hg hfr.ts hfr.w hr) hfr hF fun ρ' a' w' h1 h2 h3 => hn (r.1, ds, r.2) (List.mem_singleton.2 rfl) ρ' a' w' h1 h2 h3
    · cases ho

theorem about_wide {ρ : Ren} {rd : Option Nat} {F : Fence} (hF : AtRd ρ rd F) (o : Oper) (w : World) (a : Act) : ∀ f, o.about P w a.eval = some f → F.fn f := fun f _ => hF.fn f

theorem opsA_sound (hp : POk P) (hR : RecOk P G B w0 R) (hx : KnownOk P G B w0 x) {rd : Option Nat} {ops : Array Oper} {F : Fence} :
    ∀ (rest : List Oper) (k : Nat), (∀ j, rest[j]? = ops[k + j]?) → ∀ {fr : Fr} {rs : List (AExit × Fr)}, opsA R x P G rd ops.toList rest fr = some rs → ∀ {ρ : Ren} {a : Act} {w : World} {Q : Exit → Act → World → Prop}, GOk P G ρ → AtRd ρ rd F → FrRel B w0 ρ fr a w →
      (∀ e a w, QPost B w0 ρ fr.σ.next rs e a w → Q e a w) → wpOpsIn F 0 P ops Q (List.range' k rest.length) a w := by
  intro rest
  induction rest with
  | nil =>
    intro k _ fr rs h ρ a w Q _ _ hfr hQ
    simp only [opsA, Option.some.injEq] at h
    subst h
    exact hQ _ _ _ ⟨_, List.mem_singleton.2 rfl, ρ, rfl, Ext.refl _ _, Nat.le_refl _, hfr⟩
  | cons o rest ih =>
    intro k hk fr rs h ρ a w Q hg hF hfr hQ
    have h0 : ops[k]? = some o := by simpa using (hk 0).symm
    have hk' : ∀ j, rest[j]? = ops[k + 1 + j]? := fun j => by have := hk (j + 1); simpa [Nat.add_assoc, Nat.add_comm 1 j] using this
    simp only [opsA] at h
    simp only [List.length_cons, List.range'_succ, wpOpsIn, h0]
    split at h
    · rename_i hw
      rw [wanted_rel rfl hfr.ts hw]
      simp only [if_true]
      obtain ⟨xs, hxs, hin⟩ := bindL_some h
      refine opA_sound hp hR hx hxs hg hF hfr fun r hr ρ' a' w' h1 h2 h3 => ?_
      obtain ⟨rs', h4, h5⟩ := hin r hr
      have hs := hfr.w.sub h1
      exact ih (k + 1) hk' h4 (hg.mono hs) (hF.mono hs) h3 fun e a w hq => hQ e a w (hq.lift h1 h2 h5)
    · rename_i hw
      rw [wanted_rel rfl hfr.ts hw]
      simp only [Bool.false_eq_true, if_false]
      refine ⟨about_wide hF o w a, ?_⟩
      exact ih (k + 1) hk' h hg hF ⟨put_rel hfr.ts _ LRel.undef, by rw [put_defers]; exact hfr.ds, hfr.w⟩ hQ
    · cases h
end
end Go.Cre
end
