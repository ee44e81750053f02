/-
The law of the evaluator: control flow.
-/
import Derived.Test.YtmcccdgpmlacdaaGreatDoorCreQ
noncomputable section
namespace Go.Cre
open Go.RowKit (Below)

theorem wpIn_loop_fuel {F : Fence} {n : Nat} {P : Program} {c : Code} {Q : Exit → Act → World → Prop} (I : Nat → Act → World → Prop) (h0 : ∀ a w, ¬ I 0 a w)
    (round : ∀ k a w, I (k + 1) a w → c.wpIn F n P (Exit.then (I k) Q) a w) (k : Nat) (a : Act) (w : World) (h : I k a w) : (Code.loop c).wpIn F n P Q a w := by
  intro b kk cs hro hb hr
  have key : ∀ k a w, I k a w → ∃ e a' w', Q e a' w' ∧ ArrivesIn (Machine.fenced P F) P (lone (b.atR a (.code c :: .inLoop c :: kk)) cs w) b kk cs e a' w' := by
    intro k
    induction k with
    | zero => intro a w h; exact (h0 a w h).elim
    | succ k ih =>
      intro a w hI
      obtain ⟨e, a₁, w₁, hq, harr⟩ := round k a w hI b (.inLoop c :: kk) cs hro hb hr
      cases e with
      | normal =>
        obtain ⟨e₂, a₂, w₂, hq₂, harr₂⟩ := ih a₁ w₁ hq
        exact ⟨e₂, a₂, w₂, hq₂, .of_steps (StepsIn.trans harr (.one (fenced_calm hb hr rfl) stepR_inLoop)) harr₂⟩
      | exit id => exact ⟨_, a₁, w₁, hq, .pass (x := .inLoop c) rfl (fun _ _ => .inl (by simp)) harr⟩
      | goto l => exact ⟨_, a₁, w₁, hq, .pass (x := .inLoop c) rfl (fun _ _ => .inl (by simp)) harr⟩
      | ret => exact ⟨_, a₁, w₁, hq, .pass (x := .inLoop c) rfl (fun _ _ => .inl (by simp)) harr⟩
      | panic ch => exact ⟨_, a₁, w₁, hq, .pass (x := .inLoop c) rfl (fun _ _ => .inl (by simp)) harr⟩
      | outgrown => exact ⟨_, a₁, w₁, hq, .pass (x := .inLoop c) rfl (fun _ _ => .inl (by simp)) harr⟩
  obtain ⟨e, a', w', hq, harr⟩ := key k a w h
  exact ⟨e, a', w', hq, .of_steps (.one (fenced_calm hb hr rfl) stepR_loop) harr⟩

def DrawsOk (P : Program) (G : Gl) (B : Nat) (w0 : World) (D : Draws) : Prop :=
  ∀ R, RecOk P G B w0 R → ∀ rd ops fr rs, D R rd ops fr = some rs → ∀ id (arr : Array Oper), arr.toList = ops → ∀ ρ w a F, GOk P G ρ → AtRd ρ rd F → FrRel B w0 ρ fr a w →
    (Code.region id arr true).wpIn F 0 P (QPost B w0 ρ fr.σ.next rs) a w

section
variable {P : Program} {G : Gl} {B : Nat} {w0 : World} {R : Rec} {x : Known} {D : Draws}

theorem QPost.self {ρ : Ren} {fr : Fr} {a : Act} {w : World} (e : AExit) (h : FrRel B w0 ρ fr a w) : QPost B w0 ρ fr.σ.next [(e, fr)] e.to a w :=
  ⟨_, List.mem_singleton.2 rfl, ρ, rfl, Ext.refl _ _, Nat.le_refl _, h⟩

/-- One code after another. -/
theorem then_sound {c : Code} {F : Fence} {rd : Option Nat} {ρ : Ren} {fr : Fr} {a : Act} {w : World} {xs rs : List (AExit × Fr)} {f : AExit × Fr → Option (List (AExit × Fr))} {K : Act → World → Prop} {Q : Exit → Act → World → Prop}
    (hc : c.wpIn F 0 P (QPost B w0 ρ fr.σ.next xs) a w) (hg : GOk P G ρ) (hF : AtRd ρ rd F) (hfr : FrRel B w0 ρ fr a w)
    (hin : ∀ r, r ∈ xs → ∃ rs', f r = some rs' ∧ ∀ y, y ∈ rs' → y ∈ rs)
    (hK : ∀ fr' rs', f (.normal, fr') = some rs' → ∀ ρ' a' w', GOk P G ρ' → AtRd ρ' rd F → FrRel B w0 ρ' fr' a' w' → (∀ e a2 w2, QPost B w0 ρ' fr'.σ.next rs' e a2 w2 → Q e a2 w2) → K a' w')
    (hQ : ∀ e fr' rs', e ≠ .normal → f (e, fr') = some rs' → ∀ ρ' a' w', FrRel B w0 ρ' fr' a' w' → (∀ e a2 w2, QPost B w0 ρ' fr'.σ.next rs' e a2 w2 → Q e a2 w2) → Q e.to a' w')
    (hl : ∀ e a2 w2, QPost B w0 ρ fr.σ.next rs e a2 w2 → Q e a2 w2) :
    c.wpIn F 0 P (Exit.then K Q) a w := by
  refine wpIn_mono hc fun e a' w' ⟨⟨e', fr'⟩, hr, ρ', he, h1, h2, h3⟩ => ?_
  obtain ⟨rs', h4, h5⟩ := hin _ hr
  have hs := hfr.w.sub h1
  have hl' : ∀ e a2 w2, QPost B w0 ρ' fr'.σ.next rs' e a2 w2 → Q e a2 w2 := fun e a2 w2 hq => hl e a2 w2 (hq.lift h1 h2 h5)
  subst he
  cases e' with
  | normal => exact hK fr' rs' h4 ρ' a' w' (hg.mono hs) (hF.mono hs) h3 hl'
  | exit id => exact hQ _ fr' rs' (by simp) h4 ρ' a' w' h3 hl'
  | ret => exact hQ _ fr' rs' (by simp) h4 ρ' a' w' h3 hl'

theorem loopA_sound (hR : RecOk P G B w0 R) {rd : Option Nat} {b : Code} {k : Nat} {fr : Fr} {rs : List (AExit × Fr)} (h : loopA R rd b k fr = some rs) {ρ : Ren} {a : Act} {w : World} {F : Fence} (hg : GOk P G ρ) (hF : AtRd ρ rd F) (hfr : FrRel B w0 ρ fr a w) :
    (Code.loop b).wpIn F 0 P (QPost B w0 ρ fr.σ.next rs) a w := by
  refine wpIn_loop_fuel (fun k a w => ∃ fr' rs' ρ', loopA R rd b k fr' = some rs' ∧ GOk P G ρ' ∧ AtRd ρ' rd F ∧ FrRel B w0 ρ' fr' a w ∧ (∀ e a w, QPost B w0 ρ' fr'.σ.next rs' e a w → QPost B w0 ρ fr.σ.next rs e a w)) ?_ ?_ k a w ⟨fr, rs, ρ, h, hg, hF, hfr, fun _ _ _ h => h⟩
  · intro a w ⟨fr', rs', ρ', h, _⟩
    cases h
  · intro k a w ⟨fr1, rs1, ρ1, h1, hg1, hF1, hfr1, hQ1⟩
    simp only [loopA] at h1
    obtain ⟨xs, hxs, hin⟩ := bindL_some h1
    refine then_sound (hR.code _ _ _ _ hxs ρ1 w a F hg1 hF1 hfr1) hg1 hF1 hfr1 hin ?_ ?_ hQ1
    · intro fr' rs' h4 ρ' a' w' hg' hF' h3 hl
      exact ⟨fr', rs', ρ', h4, hg', hF', h3, hl⟩
    · intro e fr' rs' hne h4 ρ' a' w' h3 hl
      cases e with
      | normal => exact (hne rfl).elim
      | exit id => simp only [Option.some.injEq] at h4; subst h4; exact hl _ _ _ (QPost.self _ h3)
      | ret => simp only [Option.some.injEq] at h4; subst h4; exact hl _ _ _ (QPost.self _ h3)

theorem getLoop_run {w : World} {l : Nat} {r : Loop} (h : w.heap[l]? = some (.loop r)) : (Instr.getLoop l).run P w = .ok r w := by
  simp [Instr.getLoop, getObj, Sem.run, h]

theorem setObj_run {w : World} {b : Nat} {o : Obj} {o1 : Loop} (h : w.heap[b]? = some (.loop o1)) : (setObj b o).run P w = .ok () { w with heap := w.heap.setIfInBounds b o } := by
  simp [setObj, Sem.run, h]

theorem endLoop_sound {ρ : Ren} {σ : ASt} {w : World} (h : WRel B w0 ρ σ w) {l : Nat} {t : Tgt} (ht : ρ l = some t) {s : LoopState} {p : Option Code} {ts : List Value} {ps : Array Tmp} {a b : Code} {d : Nat} (hl : σ.get l = some (.loop s p ts ps a b d)) (hs : s ≠ .busy) :
    ∃ w', (Instr.endLoop t.blk).run P w = .ok p w' ∧ WRel B w0 ρ (σ.put l (.loop .exhausted p ts ps a b d)) w' := by
  obtain ⟨o', ho, fn, ts', td, h1, h2, rfl⟩ := h.obj _ _ _ hl ht
  refine ⟨{ w with heap := w.heap.setIfInBounds t.blk (.loop { state := .exhausted, pending := p, fn := fn, tmps := ⟨ts'⟩, params := ps, assign := a, body := b, defers := td.blk }) }, ?_, h.set hl ht rfl ⟨fn, ts', td, h1, h2, rfl⟩⟩
  simp only [Instr.endLoop, Sem.run_bind, getLoop_run ho, Result.andThen_ok]
  have : (s == LoopState.busy) = false := by simpa using hs
  simp [this, setObj_run ho]

theorem enterA_sound {ρ : Ren} {rd : Option Nat} {F : Fence} (hF : AtRd ρ rd F) {fr : Fr} {ps : Array Tmp} {assign body : Code} {l : Nat} {mark : List Deferred} {σ2 : ASt} (h : enterA rd fr ps assign body = some (l, mark, σ2)) {a : Act} {w : World} (hfr : FrRel B w0 ρ fr a w) (fn : FuncId) :
    ∃ ρ2 t mark' w2, (Instr.enterLoop fn a.tmps ps assign body F.round).run P w = .ok (t.blk, mark') w2 ∧ ρ2 l = some t ∧ DLRel ρ2 mark mark' ∧ Ext fr.σ.next ρ ρ2 ∧ fr.σ.next ≤ σ2.next ∧ WRel B w0 ρ2 σ2 w2 := by
  unfold enterA at h
  cases rd with
  | none =>
    simp only [Option.some.injEq, Prod.mk.injEq] at h
    obtain ⟨rfl, rfl, rfl⟩ := h
    have hF : F = Fence.wide := hF
    subst hF
    obtain ⟨ρ1, e1, e2, e3⟩ := hfr.w.new (.deferred false) (.deferred (some [])) ⟨w.heap.size, 0, 0, 0, 0, undef⟩ rfl (fun _ _ => rfl)
    have hs1 := hfr.w.sub e1
    obtain ⟨ρ2, k1, k2, k3⟩ := e2.new (.loop .ready none fr.ts ps assign body fr.σ.next) (.loop { state := .ready, pending := none, fn := fn, tmps := ⟨a.tmps.toList⟩, params := ps, assign := assign, body := body, defers := w.heap.size })
      ⟨w.heap.size + 1, 0, 0, 0, 0, undef⟩ (by simp) (fun ρ' hs => ⟨fn, a.tmps.toList, _, hs _ _ e3, (hfr.ts.mono hs1).mono hs, rfl⟩)
    have hs2 := e2.sub k1
    refine ⟨ρ2, _, [{ target := .collected w.heap.size, args := #[] }], _, ?_, k3, .cons (.mark (hs2 _ _ e3)) .nil, e1.trans k1 (Nat.le_succ _), Nat.le_trans (Nat.le_succ _) (Nat.le_succ _), k2⟩
    simp [Instr.enterLoop, run_newObj]
    rfl
  | some rl =>
    obtain ⟨t0, ht0, rfl⟩ := hF
    simp only at h
    split at h
    · rename_i s1 p1 ts1 ps1 a1 b1 d hd
      simp only [Option.some.injEq, Prod.mk.injEq] at h
      obtain ⟨rfl, rfl, rfl⟩ := h
      obtain ⟨o', ho, fn1, ts', td, h1, h2, rfl⟩ := hfr.w.obj _ _ _ hd ht0
      obtain ⟨ρ2, k1, k2, k3⟩ := hfr.w.new (.loop .ready none fr.ts ps assign body d) (.loop { state := .ready, pending := none, fn := fn, tmps := ⟨a.tmps.toList⟩, params := ps, assign := assign, body := body, defers := td.blk })
        ⟨w.heap.size, 0, 0, 0, 0, undef⟩ rfl (fun ρ' hs => ⟨fn, a.tmps.toList, td, hs _ _ h1, hfr.ts.mono hs, rfl⟩)
      refine ⟨ρ2, _, [], _, ?_, k3, .nil, k1, Nat.le_succ _, k2⟩
      simp only [Fence.inRound_round, Instr.enterLoop, Sem.run_bind, getLoop_run ho, Result.andThen_ok, Sem.run_pure, run_newObj, Array.toArray_toList]
    · cases h

theorem DLRel.append {ρ : Ren} {a a' b b' : List Deferred} (h : DLRel ρ a a') (k : DLRel ρ b b') : DLRel ρ (a ++ b) (a' ++ b') := by
  induction h with
  | nil => exact k
  | cons h _ ih => exact .cons h ih

theorem rangeFuncA_sound (hp : POk P) (hR : RecOk P G B w0 R) (hbody : ∀ f args σ rs, R.call f args σ = some rs → hasBody P f = true) {rd : Option Nat} {f : Operand} {ps : Array Tmp} {assign body : Code} {fr : Fr} {rs : List (AExit × Fr)} (h : rangeFuncA R G rd f ps assign body fr = some rs)
    {ρ : Ren} {a : Act} {w : World} {F : Fence} (hg : GOk P G ρ) (hF : AtRd ρ rd F) (hfr : FrRel B w0 ρ fr a w) :
    (Code.rangeFunc f ps assign body).wpIn F 0 P (QPost B w0 ρ fr.σ.next rs) a w := by
  unfold rangeFuncA at h
  cases hok : okOp G f with
  | false => rw [hok] at h; cases h
  | true =>
    rw [hok] at h
    simp only [cond_true] at h
    split at h
    · rename_i g first cap hev
      have hf := ev_rel hg hfr.ts hok
      rw [hev] at hf
      obtain ⟨f', first', cap', hv', hfn, h1, h2⟩ := func_inv hf
      have hfn : f' = .func g := hfn
      subst hfn
      split at h
      · rename_i l mark σ2 hent
        obtain ⟨xs, hxs, hin⟩ := bindL_some h
        refine wpIn_rangeFunc fun fn _ => ?_
        obtain ⟨ρ2, t, mark', w2, k1, k2, k3, k4, k5, k6⟩ := enterA_sound (P := P) hF hent hfr fn
        have hs2 := hfr.w.sub k4
        have hargs : LRel ρ2 (first.toList ++ [.func (.yield l) #[] #[]] ++ cap.toList) (first' ++ [.func (.yield t.blk) #[] #[]] ++ cap') :=
          ((h1.mono hs2).append (.cons (.func (f := .yield l) (f' := .yield t.blk) (a := []) (b := []) (show FnRel ρ2 (.yield l) (.yield t.blk) from ⟨t, k2, rfl⟩) .nil .nil) .nil)).append (h2.mono hs2)
        refine ⟨t.blk, mark', w2, { target := .fn (.func g) ⟨cap'⟩, args := ⟨first'⟩ ++ #[.func (.yield t.blk) #[] #[]] }, w2, g, ⟨first' ++ [.func (.yield t.blk) #[] #[]] ++ cap'⟩, w2, k1, ?_, ?_, ?_, hF.one, ?_⟩
        · have ee : a.eval (.const (.func (.yield t.blk) #[] #[])) = .func (.yield t.blk) #[] #[] := rfl
          simp [resolve, Deferred.ofValue, hv', ee]
        · intro f' _; exact hF.fn f'
        · show (invoke (.fn (.func g) ⟨cap'⟩) _).run P w2 = _
          rw [invoke_func, callFunc_enter hp (hbody _ _ _ _ hxs)]
          simp
        · refine CallsIn.mono (hF.callsIn (hR.call _ _ _ _ hxs ρ2 w2 _ (hg.mono hs2) k6 hargs)) fun e w3 hq => ?_
          obtain ⟨r, hr, ρ3, v', rfl, q1, q2, q3, q4⟩ := hq
          obtain ⟨rs', h4, h5⟩ := hin r hr
          have hs3 := k6.sub q1
          have hlt := hs3 _ _ k2
          have he := k4.trans q1 k5
          have hs4 := hfr.w.sub he
          split at h4
          · rename_i s p ts ps1 a1 b1 d hgl
            split at h4
            · cases h4
            · rename_i hsb
              obtain ⟨w4, m1, m2⟩ := endLoop_sound (P := P) q4 hlt hgl (fun e => hsb e)
              have hfr4 : FrRel B w0 ρ3 ⟨fr.ts, mark ++ fr.ds, r.2.put l (.loop .exhausted p ts ps1 a1 b1 d)⟩ { a with defers := mark' ++ a.defers } w4 :=
                ⟨hfr.ts.mono hs4, (k3.mono hs3).append (hfr.ds.mono hs4), m2⟩
              refine ⟨p, w4, m1, ?_⟩
              have hnx : fr.σ.next ≤ (r.2.put l (.loop .exhausted p ts ps1 a1 b1 d)).next := Nat.le_trans k5 q2
              split at h4
              · simp only [Option.some.injEq] at h4
                subst h4
                exact (QPost.self .normal hfr4).lift he hnx h5
              · rename_i c
                exact wpIn_mono (hR.code _ _ _ _ h4 ρ3 w4 _ F (hg.mono hs4) (hF.mono hs4) hfr4) fun e a' w' hq => hq.lift he hnx h5
          · cases h4
      · cases h
    · cases h

theorem codeA_sound (hp : POk P) (hR : RecOk P G B w0 R) (hbody : ∀ f args σ rs, R.call f args σ = some rs → hasBody P f = true) (hx : KnownOk P G B w0 x) (hD : DrawsOk P G B w0 D) {rd : Option Nat} {c : Code} {fr : Fr} {rs : List (AExit × Fr)} (h : codeA R x D P G rd c fr = some rs)
    {ρ : Ren} {a : Act} {w : World} {F : Fence} (hg : GOk P G ρ) (hF : AtRd ρ rd F) (hfr : FrRel B w0 ρ fr a w) :
    c.wpIn F 0 P (QPost B w0 ρ fr.σ.next rs) a w := by
  cases c with
  | skip => simp only [codeA, Option.some.injEq] at h; subst h; exact wpIn_skip (QPost.self .normal hfr)
  | label l => simp only [codeA, Option.some.injEq] at h; subst h; exact wpIn_label (QPost.self .normal hfr)
  | ret => simp only [codeA, Option.some.injEq] at h; subst h; exact wpIn_ret (QPost.self .ret hfr)
  | exit id => simp only [codeA, Option.some.injEq] at h; subst h; exact wpIn_exit (QPost.self (.exit id) hfr)
  | seq c1 c2 =>
    simp only [codeA] at h
    obtain ⟨xs, hxs, hin⟩ := bindL_some h
    refine wpIn_seq (then_sound (hR.code _ _ _ _ hxs ρ w a F hg hF hfr) hg hF hfr hin ?_ ?_ fun _ _ _ h => h)
    · intro fr' rs' h4 ρ' a' w' hg' hF' h3 hl
      exact wpIn_mono (hR.code _ _ _ _ h4 ρ' w' a' F hg' hF' h3) hl
    · intro e fr' rs' hne h4 ρ' a' w' h3 hl
      cases e with
      | normal => exact (hne rfl).elim
      | exit id => simp only [Option.some.injEq] at h4; subst h4; exact hl _ _ _ (QPost.self _ h3)
      | ret => simp only [Option.some.injEq] at h4; subst h4; exact hl _ _ _ (QPost.self _ h3)
  | cond o c1 c2 =>
    simp only [codeA] at h
    cases hok : okOp G o with
    | false => rw [hok] at h; cases h
    | true =>
      rw [hok] at h
      simp only [cond_true] at h
      split at h
      · rename_i t hev
        have hb : a.eval o = .bool t := flat_eq (v := .bool t) rfl (hev ▸ ev_rel hg hfr.ts hok)
        refine wpIn_cond hb ?_
        have := hR.code _ _ _ _ h ρ w a F hg hF hfr
        cases t <;> exact this
      · cases h
  | block id b =>
    simp only [codeA] at h
    obtain ⟨xs, hxs, hin⟩ := bindL_some h
    refine wpIn_block (wpIn_mono (hR.code _ _ _ _ hxs ρ w a F hg hF hfr) fun e a' w' ⟨⟨e', fr'⟩, hr, ρ', he, h1, h2, h3⟩ => ?_)
    obtain ⟨rs', h4, h5⟩ := hin _ hr
    subst he
    cases e' with
    | normal => simp only [Option.some.injEq] at h4; subst h4; exact (QPost.self .normal h3).lift h1 h2 h5
    | ret => simp only [Option.some.injEq] at h4; subst h4; exact (QPost.self .ret h3).lift h1 h2 h5
    | exit i =>
      simp only [Option.some.injEq] at h4
      subst h4
      simp only [AExit.to, Exit.inBlock]
      by_cases hi : i = id
      · subst hi
        simp only [if_true]
        simp only [Nat.beq_refl, cond_true] at h5
        exact (QPost.self .normal h3).lift h1 h2 h5
      · rw [if_neg hi]
        have : Nat.beq i id = false := by
          cases hb : Nat.beq i id with
          | false => rfl
          | true => exact (hi (Nat.eq_of_beq_eq_true hb)).elim
        simp only [this, cond_false] at h5
        exact (QPost.self (.exit i) h3).lift h1 h2 h5
  | loop b => simp only [codeA] at h; exact loopA_sound hR h hg hF hfr
  | region id ops d =>
    cases d with
    | false =>
      simp only [codeA] at h
      refine wpIn_region ?_
      have := opsA_sound hp hR hx (ops := ops) (F := F) ops.toList 0 (by simp) h hg hF hfr (fun _ _ _ h => h)
      rw [List.range_eq_range']
      simpa using this
    | true => simp only [codeA] at h; exact hD R hR rd _ fr rs h id ops rfl ρ w a F hg hF hfr
  | rangeFunc f ps assign body => simp only [codeA] at h; exact rangeFuncA_sound hp hR hbody h hg hF hfr
  | _ => simp [codeA] at h
end
end Go.Cre
end
