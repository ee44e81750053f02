/-
One operation, calls of functions left out: the law.
-/
import Derived.Test.YtmcccdgpmlacdaaGreatDoorCreN
noncomputable section
namespace Go.Cre
open Go.RowKit (Below)

section
variable {G : Gl} {P : Program} {B : Nat} {w0 : World} {ρ : Ren} {σ : ASt} {w : World} {ts : List Value} {a : Act}

theorem orelV {o : Option Operand} (he : ∀ x, o = some x → VRel ρ (ev ts x) (a.eval x)) : ORelV ρ (o.map (ev ts)) (o.map a.eval) := by
  cases o with
  | none => trivial
  | some x => exact he x rfl

theorem memOp_sound (h : WRel B w0 ρ σ w) {o : Oper} {v : Value} {σ' : ASt} (hm : memOp P ts o σ = some (v, σ')) (he : ∀ x ∈ o.op.operands.toList, VRel ρ (ev ts x) (a.eval x)) :
    StepOk P B w0 ρ σ w a o v σ' := by
  obtain ⟨dst, op, type, pos, after, guard⟩ := o
  cases op with
  | move x =>
    simp only [memOp, Option.some.injEq, Prod.mk.injEq] at hm
    obtain ⟨rfl, rfl⟩ := hm
    exact .of_same h ⟨_, rfl, he x (by simp [Op.operands])⟩
  | assign x =>
    simp only [memOp, Option.some.injEq, Prod.mk.injEq] at hm
    obtain ⟨rfl, rfl⟩ := hm
    exact .of_same h ⟨_, rfl, he x (by simp [Op.operands])⟩
  | pick c x y =>
    simp only [memOp] at hm
    split at hm
    · rename_i t hc
      simp only [Option.some.injEq, Prod.mk.injEq] at hm
      obtain ⟨rfl, rfl⟩ := hm
      have e1 : a.eval c = .bool t := flat_eq (v := .bool t) rfl (hc ▸ he c (by simp [Op.operands]))
      refine .of_same h ⟨bif t then a.eval x else a.eval y, ?_, ?_⟩
      · simp only [execOp, e1, asBool]
        cases t <;> simp
      · cases t
        · exact he y (by simp [Op.operands])
        · exact he x (by simp [Op.operands])
    · cases hm
  | alloc t =>
    simp only [memOp] at hm
    split at hm
    · rename_i z hz
      simp only [Option.some.injEq] at hm
      obtain ⟨zv, h1, h2, h3⟩ := zeroT_run w hz
      obtain ⟨ρ', k1, k2, k3, k4, k5⟩ := newA_sound (P := P) h t (flatL_refl h3)
      rw [hm] at k3 k4 k5
      refine .of_gives (s := Instr.alloc t true (.tuple #[])) ⟨ρ', _, _, ?_, k2, k3, k4, k5⟩ rfl
      have e : zv.cells = ⟨z⟩ := by rw [← h2]
      simp only [Instr.alloc, Sem.run_bind, h1, Result.andThen_ok, newVar, e, k1, Sem.run_pure]
    · cases hm
  | box t x =>
    simp only [memOp] at hm
    cases hso : solid (ev ts x) with
    | false => rw [hso] at hm; cases hm
    | true =>
    rw [hso] at hm
    simp only [cond_true, Option.some.injEq] at hm
    obtain ⟨ρ', k1, k2, k3, k4, k5⟩ := newA_sound (P := P) h t (cells_rel (he x (by simp [Op.operands])) hso)
    rw [hm] at k3 k4 k5
    refine .of_gives (s := Instr.box t (a.eval x)) ⟨ρ', _, _, ?_, k2, k3, k4, k5⟩ rfl
    have e : (a.eval x).cells = ⟨(a.eval x).cells.toList⟩ := by simp
    rw [← e] at k1
    simp only [Instr.box, newVar, Sem.run_bind, k1, Result.andThen_ok, Sem.run_pure]
  | build t parts =>
    simp only [memOp] at hm
    split at hm
    · rename_i v0 hv
      simp only [Option.some.injEq, Prod.mk.injEq] at hm
      obtain ⟨rfl, rfl⟩ := hm
      have hp := parts_rel (ρ := ρ) (ts := ts) (a := a) (parts := parts) (fun p hp => he _ (by
        simp only [Op.operands]; exact List.mem_map.2 ⟨p, hp, rfl⟩))
      obtain ⟨v', h1, h2⟩ := buildA_sound (P := P) (w := w) hv hp
      exact .of_same h ⟨v', by simp only [execOp, Sem.run_bind]; exact (congrArg (fun r => Result.andThen r _) h1).trans rfl, h2⟩
    · cases hm
  | buildSlice t n parts =>
    simp only [memOp] at hm
    have hp := parts_rel (ρ := ρ) (ts := ts) (a := a) (parts := parts) (fun p hp => he _ (by
      simp only [Op.operands]; exact List.mem_map.2 ⟨p, hp, rfl⟩))
    refine .of_gives (buildSliceA_sound (P := P) h hm hp) ?_
    simp only [execOp]
  | load t x =>
    simp only [memOp] at hm
    split at hm
    · rename_i v0 hv
      simp only [Option.some.injEq, Prod.mk.injEq] at hm
      obtain ⟨rfl, rfl⟩ := hm
      obtain ⟨v', h1, h2⟩ := loadV_sound (P := P) h hv (he x (by simp [Op.operands]))
      exact .of_same h ⟨v', by simp [execOp, h1], h2⟩
    · cases hm
  | store t x y =>
    simp only [memOp] at hm
    split at hm
    · rename_i σ1 hv
      simp only [Option.some.injEq, Prod.mk.injEq] at hm
      obtain ⟨rfl, rfl⟩ := hm
      exact .of_put h (storeV_sound (P := P) h hv (he x (by simp [Op.operands])) (he y (by simp [Op.operands]))) rfl
    · cases hm
  | nilCheck x =>
    simp only [memOp] at hm
    split at hm
    · rename_i v0 hv
      simp only [Option.some.injEq, Prod.mk.injEq] at hm
      obtain ⟨rfl, rfl⟩ := hm
      exact .of_same h (nilCheckA_sound hv (he x (by simp [Op.operands])) rfl rfl)
    · cases hm
  | binOp op t x y yt =>
    simp only [memOp] at hm
    split at hm
    · rename_i v0 hv
      simp only [Option.some.injEq, Prod.mk.injEq] at hm
      obtain ⟨rfl, rfl⟩ := hm
      obtain ⟨v', h1, h2⟩ := binA_sound (P := P) (w := w) (ox := x) (oy := y) hv (he x (by simp [Op.operands])) (he y (by simp [Op.operands]))
      refine .of_same h ⟨v', ?_, h2⟩
      simp only [execOp]
      simp only [Sem.run_bind] at h1 ⊢
      rw [h1]; rfl
    · cases hm
  | convert s d x =>
    simp only [memOp] at hm
    have hx := he x (by simp [Op.operands])
    split at hm
    · rename_i v0 hv
      simp only [Option.some.injEq, Prod.mk.injEq] at hm
      obtain ⟨rfl, rfl⟩ := hm
      obtain ⟨h1, h2⟩ := unsafeConvA_sound (P := P) h hv hx
      exact .of_same h ⟨_, by simp [execOp, h1], h2⟩
    · exact .of_gives (convA_sound (P := P) h hm hx) rfl
  | makeInterface t x =>
    simp only [memOp] at hm
    split at hm
    · rename_i v0 hv
      simp only [Option.some.injEq, Prod.mk.injEq] at hm
      obtain ⟨rfl, rfl⟩ := hm
      obtain ⟨v', h1, h2⟩ := makeIfaceA_sound (P := P) (w := w) hv (he x (by simp [Op.operands]))
      exact .of_same h ⟨v', by simp [execOp, h1], h2⟩
    · cases hm
  | makeFunc fn first captured =>
    cases fn with
    | func f =>
      simp only [memOp, Option.some.injEq, Prod.mk.injEq] at hm
      obtain ⟨rfl, rfl⟩ := hm
      have h1 := args_rel (ρ := ρ) (ts := ts) (a := a) (l := first.toList) (fun x hx => he x (by simp [Op.operands]; exact .inl (by simpa using hx)))
      have h2 := args_rel (ρ := ρ) (ts := ts) (a := a) (l := captured.toList) (fun x hx => he x (by simp [Op.operands]; exact .inr (by simpa using hx)))
      refine .of_same h ⟨.func (.func f) (first.map a.eval) (captured.map a.eval), by simp [execOp, Instr.makeFunc], ?_⟩
      have e1 : first.map a.eval = ⟨first.toList.map a.eval⟩ := by apply Array.ext'; simp
      have e2 : captured.map a.eval = ⟨captured.toList.map a.eval⟩ := by apply Array.ext'; simp
      rw [e1, e2]
      exact .func rfl h1 h2
    | _ => simp [memOp] at hm
  | makeMap t r =>
    simp only [memOp] at hm
    refine .of_gives (makeMapA_sound (P := P) (t := t) (r' := r.map a.eval) h hm (orelV fun x hx => he x (by simp [Op.operands, hx]))) rfl
  | makeSlice t l c =>
    simp only [memOp] at hm
    exact .of_gives (makeSliceA_sound (P := P) h hm (he l (by simp [Op.operands])) (he c (by simp [Op.operands]))) rfl
  | slice t x lo hi mx =>
    simp only [memOp] at hm
    cases hb : (mx.isNone || hi.isSome) with
    | false => rw [hb] at hm; cases hm
    | true =>
      rw [hb] at hm
      simp only [cond_true] at hm
      split at hm
      · rename_i v0 hv
        simp only [Option.some.injEq, Prod.mk.injEq] at hm
        obtain ⟨rfl, rfl⟩ := hm
        obtain ⟨v', h1, h2⟩ := sliceA_sound (P := P) h hv (he x (by simp [Op.operands])) (orelV fun y hy => he y (by simp [Op.operands, hy])) (orelV fun y hy => he y (by simp [Op.operands, hy])) (orelV fun y hy => he y (by simp [Op.operands, hy]))
          (fun hs => by
            simp only [Option.isSome_map] at hs ⊢
            simp only [Bool.or_eq_true, Option.isNone_iff_eq_none] at hb
            rcases hb with hb | hb
            · rw [hb] at hs; cases hs
            · exact hb)
        exact .of_same h ⟨v', by simp [execOp, h1], h2⟩
      · cases hm
  | fieldAddr t x f =>
    simp only [memOp] at hm
    split at hm
    · rename_i v0 hv
      simp only [Option.some.injEq, Prod.mk.injEq] at hm
      obtain ⟨rfl, rfl⟩ := hm
      obtain ⟨v', h1, h2⟩ := fieldAddrA_sound (P := P) (w := w) hv (he x (by simp [Op.operands]))
      exact .of_same h ⟨v', by simp [execOp, h1], h2⟩
    · cases hm
  | field t x f =>
    simp only [memOp] at hm
    split at hm
    · rename_i v0 hv
      simp only [Option.some.injEq, Prod.mk.injEq] at hm
      obtain ⟨rfl, rfl⟩ := hm
      obtain ⟨v', h1, h2⟩ := fieldA_sound (P := P) (w := w) hv (he x (by simp [Op.operands]))
      exact .of_same h ⟨v', by simp [execOp, h1], h2⟩
    · cases hm
  | indexAddr t x i =>
    simp only [memOp] at hm
    split at hm
    · rename_i v0 hv
      simp only [Option.some.injEq, Prod.mk.injEq] at hm
      obtain ⟨rfl, rfl⟩ := hm
      obtain ⟨v', h1, h2⟩ := indexAddrA_sound (P := P) (w := w) hv (he x (by simp [Op.operands])) (he i (by simp [Op.operands]))
      exact .of_same h ⟨v', by simp [execOp, h1], h2⟩
    · cases hm
  | index t x i =>
    simp only [memOp] at hm
    split at hm
    · rename_i v0 hv
      simp only [Option.some.injEq, Prod.mk.injEq] at hm
      obtain ⟨rfl, rfl⟩ := hm
      obtain ⟨v', h1, h2⟩ := indexA_sound (P := P) (w := w) hv (he x (by simp [Op.operands])) (he i (by simp [Op.operands]))
      exact .of_same h ⟨v', by simp [execOp, h1], h2⟩
    · cases hm
  | lookup t x i ok =>
    simp only [memOp] at hm
    split at hm
    · rename_i v0 hv
      simp only [Option.some.injEq, Prod.mk.injEq] at hm
      obtain ⟨rfl, rfl⟩ := hm
      obtain ⟨v', h1, h2⟩ := lookupA_sound (P := P) h hv (he x (by simp [Op.operands])) (he i (by simp [Op.operands]))
      exact .of_same h ⟨v', by simp [execOp, h1], h2⟩
    · cases hm
  | mapUpdate t m k x =>
    simp only [memOp] at hm
    split at hm
    · rename_i σ1 hv
      simp only [Option.some.injEq, Prod.mk.injEq] at hm
      obtain ⟨rfl, rfl⟩ := hm
      exact .of_put h (updateA_sound (P := P) h hv (he m (by simp [Op.operands])) (he k (by simp [Op.operands])) (he x (by simp [Op.operands]))) rfl
    · cases hm
  | insert t m k x =>
    simp only [memOp] at hm
    split at hm
    · rename_i σ1 hv
      simp only [Option.some.injEq, Prod.mk.injEq] at hm
      obtain ⟨rfl, rfl⟩ := hm
      exact .of_put h (updateA_sound (P := P) h hv (he m (by simp [Op.operands])) (he k (by simp [Op.operands])) (he x (by simp [Op.operands]))) rfl
    · cases hm
  | range t x =>
    simp only [memOp] at hm
    exact .of_gives (rangeA_sound (P := P) h hm (he x (by simp [Op.operands]))) rfl
  | next x s =>
    cases s with
    | true => simp [memOp] at hm
    | false =>
      simp only [memOp] at hm
      obtain ⟨⟨v', w', h1, h2, h3⟩, h4⟩ := nextA_sound (P := P) (t := type) h hm (he x (by simp [Op.operands]))
      exact ⟨ρ, v', w', .value v', by simp [execOp, h1], .inl rfl, Ext.refl _ _, h2, h3, Nat.le_of_eq h4.symm⟩
  | entry x =>
    simp only [memOp] at hm
    split at hm
    · rename_i v0 hv
      simp only [Option.some.injEq, Prod.mk.injEq] at hm
      obtain ⟨rfl, rfl⟩ := hm
      obtain ⟨v', h1, h2⟩ := entryA_sound (P := P) h hv (he x (by simp [Op.operands]))
      exact .of_same h ⟨v', by simp [execOp, h1], h2⟩
    · cases hm
  | typeAssert x xt t ok =>
    simp only [memOp] at hm
    split at hm
    · rename_i v0 hv
      simp only [Option.some.injEq, Prod.mk.injEq] at hm
      obtain ⟨rfl, rfl⟩ := hm
      obtain ⟨v', h1, h2⟩ := typeAssertA_sound (P := P) (w := w) (xt := xt) hv (he x (by simp [Op.operands]))
      exact .of_same h ⟨v', by simp [execOp, h1], h2⟩
    · cases hm
  | extract x i =>
    simp only [memOp] at hm
    split at hm
    · rename_i v0 hv
      simp only [Option.some.injEq, Prod.mk.injEq] at hm
      obtain ⟨rfl, rfl⟩ := hm
      obtain ⟨v', h1, h2⟩ := extractA_sound (P := P) (w := w) hv (he x (by simp [Op.operands]))
      exact .of_same h ⟨v', by simp [execOp, h1], h2⟩
    · cases hm
  | call c =>
    obtain ⟨callee, args, ats⟩ := c
    cases callee with
    | builtin b =>
      simp only [memOp] at hm
      have ha := args_rel (ρ := ρ) (ts := ts) (a := a) (l := args.toList) (fun x hx => he x (by simp [Op.operands, Call.operands]; simpa using hx))
      obtain ⟨ρ', v', w', h1, h2, h3, h4, h5⟩ := builtinA_sound (P := P) (ty := type) (cs := args.map fun | .const _ => true | _ => false) h hm ha
      refine ⟨ρ', v', w', .value v', ?_, .inl rfl, h2, h3, h4, h5⟩
      have e1 : args.map a.eval = ⟨args.toList.map a.eval⟩ := by apply Array.ext'; simp
      simp only [execOp, resolve, Sem.run_bind, Sem.run_pure, Result.andThen_ok, invoke, e1]
      exact h1
    | value f => simp [memOp] at hm
    | invoke r m => simp [memOp] at hm
  | sliceToArrayPointer t x => simp [memOp] at hm
  | makeChan t x => simp [memOp] at hm
  | mapEntry t m k => simp [memOp] at hm
  | entryStore t m s x => simp [memOp] at hm
  | go c => simp [memOp] at hm
  | «defer» c => simp [memOp] at hm
  | panic x => simp [memOp] at hm
  | send c x => simp [memOp] at hm
  | recv t c ok => simp [memOp] at hm
  | select cs b => simp [memOp] at hm
  | unOp op t x => simp [memOp] at hm
  | ready g => simp [memOp] at hm
  | waits g => simp [memOp] at hm

theorem tokOp_sound (hg : GOk P G ρ) (h : WRel B w0 ρ σ w) {o : Oper} {v : Value} (ht : tokOp G ts o = some v) (he : ∀ y ∈ o.op.operands.toList, VRel ρ (ev ts y) (a.eval y)) : StepOk P B w0 ρ σ w a o v σ := by
  obtain ⟨k, hk, hm⟩ := tokOp_mem ht
  have hf := hg.2 _ hm
  obtain ⟨dst, op, type, pos, after, guard⟩ := o
  simp only at hk he
  unfold keyOf at hk
  split at hk
  · rename_i op t x y yt
    cases hk
    obtain ⟨x', y', v', h1, h2, h3, h4⟩ := hf
    have ex := h1.eq (he x (by simp [Op.operands]))
    have ey := h2.eq (he y (by simp [Op.operands]))
    refine .of_same h ⟨v', ?_, h3⟩
    have := h4 w x y
    rw [← ex, ← ey] at this
    simp only [execOp]
    simp only [Sem.run_bind] at this ⊢
    rw [this]; rfl
  · rename_i op t x
    cases hk
    obtain ⟨x', v', h1, h3, h4⟩ := hf
    have ex := h1.eq (he x (by simp [Op.operands]))
    refine .of_same h ⟨v', ?_, h3⟩
    have := h4 w
    rw [← ex] at this
    simp [execOp, this]
  · rename_i s d x
    cases hk
    obtain ⟨x', v', h1, h3, h4⟩ := hf
    have ex := h1.eq (he x (by simp [Op.operands]))
    refine .of_same h ⟨v', ?_, h3⟩
    have := h4 w
    rw [← ex] at this
    simp [execOp, this]
  · rename_i t x i
    cases hk
    obtain ⟨x', i', v', h1, h2, h3, h4⟩ := hf
    have ex := h1.eq (he x (by simp [Op.operands]))
    have ei := h2.eq (he i (by simp [Op.operands]))
    refine .of_same h ⟨v', ?_, h3⟩
    have := h4 w
    rw [← ex, ← ei] at this
    simp [execOp, this]
  · rename_i t x i
    cases hk
    obtain ⟨x', i', v', h1, h2, h3, h4⟩ := hf
    have ex := h1.eq (he x (by simp [Op.operands]))
    have ei := h2.eq (he i (by simp [Op.operands]))
    refine .of_same h ⟨v', ?_, h3⟩
    have := h4 w
    rw [← ex, ← ei] at this
    simp [execOp, this]
  · rename_i t x lo hi
    cases hk
    obtain ⟨x', lo', hi', v', h1, h2, h2', h3, h4⟩ := hf
    have ex := h1.eq (he x (by simp [Op.operands]))
    have eo : ∀ (l : Option Operand) (l' : Option Value), SolidO ρ (l.map (ev ts)) l' → (∀ y, l = some y → VRel ρ (ev ts y) (a.eval y)) → l.map a.eval = l' := by
      intro l l' hs hv
      cases l with
      | none => cases l' with
        | none => rfl
        | some _ => exact hs.elim
      | some y => cases l' with
        | none => exact hs.elim
        | some z => exact congrArg some (Solid.eq hs (hv y rfl))
    have el := eo lo lo' h2 (fun y hy => he y (by simp [Op.operands, hy]))
    have eh := eo hi hi' h2' (fun y hy => he y (by simp [Op.operands, hy]))
    refine .of_same h ⟨v', ?_, h3⟩
    have := h4 w
    rw [← ex, ← el, ← eh] at this
    simp [execOp, this]
  · rename_i args ats
    split at hk
    · rename_i x t hx hats
      cases hk
      obtain ⟨x', v', h1, h3, h4⟩ := hf
      have ea : args = #[x] := by
        apply Array.ext'
        simpa using hx
      subst ea
      have ex := h1.eq (he x (by simp [Op.operands, Call.operands]))
      refine .of_same h ⟨v', ?_, h3⟩
      have := h4 w ats type (#[x].map fun | .const _ => true | _ => false) hats
      rw [← ex] at this
      have e1 : (#[x] : Array Operand).map a.eval = #[a.eval x] := by simp
      simp only [execOp, resolve, Sem.run_bind, Sem.run_pure, Result.andThen_ok, invoke, e1]
      exact this
    · cases hk
  · rename_i b args ats _
    split at hk
    · rename_i x y t hx hats
      cases hk
      obtain ⟨x', y', v', h1, h2, h3, h4⟩ := hf
      have ea : args = #[x, y] := by
        apply Array.ext'
        simpa using hx
      subst ea
      have ex := h1.eq (he x (by simp [Op.operands, Call.operands]))
      have ey := h2.eq (he y (by simp [Op.operands, Call.operands]))
      refine .of_same h ⟨v', ?_, h3⟩
      have := h4 w ats type (#[x, y].map fun | .const _ => true | _ => false) hats
      rw [← ex, ← ey] at this
      have e1 : (#[x, y] : Array Operand).map a.eval = #[a.eval x, a.eval y] := by simp
      simp only [execOp, resolve, Sem.run_bind, Sem.run_pure, Result.andThen_ok, invoke, e1]
      exact this
    · cases hk
  · cases hk

theorem stepOp_sound_he (hg : GOk P G ρ) (h : WRel B w0 ρ σ w) {o : Oper} {v : Value} {σ' : ASt} (hs : stepOp P G ts o σ = some (v, σ')) (he : ∀ y, y ∈ o.op.operands.toList → okOp G y = true → VRel ρ (ev ts y) (a.eval y)) : StepOk P B w0 ρ σ w a o v σ' := by
  obtain ⟨hb, hs⟩ := stepOp_spec hs
  simp only [okOper, Bool.and_eq_true, Bool.not_eq_true'] at hb
  have he : ∀ y ∈ o.op.operands.toList, VRel ρ (ev ts y) (a.eval y) := fun y hy => he y hy (List.all_eq_true.1 hb.2 y hy)
  rcases hs with ⟨hv, rfl⟩ | hs | ⟨hv, rfl⟩
  · exact flatOp_sound h hv hb.1 he
  · exact memOp_sound h hs he
  · exact tokOp_sound hg h hv he

theorem stepOp_sound (hg : GOk P G ρ) (ht : LRel ρ ts a.tmps.toList) (h : WRel B w0 ρ σ w) {o : Oper} {v : Value} {σ' : ASt} (hs : stepOp P G ts o σ = some (v, σ')) : StepOk P B w0 ρ σ w a o v σ' :=
  stepOp_sound_he hg h hs fun _ _ hok => ev_rel hg ht hok
end
end Go.Cre
end
