/-
append.
-/
import Derived.Test.YtmcccdgpmlacdaaGreatDoorCreJ
noncomputable section
namespace Go.Cre
open Go.RowKit (Below)

section
variable {P : Program} {B : Nat} {w0 : World} {ρ : Ren} {σ : ASt} {w : World}

/-- An object is forgotten; a new one lies where it lay. -/
theorem WRel.rebase (h : WRel B w0 ρ σ w) {b : Nat} {o o1 : AObj} {t t2 : Tgt} {o' : Obj} (hg : σ.get b = some o) (hb : ρ b = some t)
    (hr : o.isRo = false) (ht2 : t2.blk = t.blk) (ho : ∀ ρ', Sub ρ ρ' → ORel ρ' t2 o1 o') :
    ∃ ρ', Ext σ.next ρ ρ' ∧ WRel B w0 ρ' ((σ.kill b).new o1) { w with heap := w.heap.setIfInBounds t.blk o' } ∧ ρ' σ.next = some t2 := by
  let ρ' : Ren := fun b => if b = σ.next then some t2 else ρ b
  have he : Ext σ.next ρ ρ' := fun b hb => by simp only [ρ']; rw [if_neg (by omega)]
  have hs := h.sub he
  have hlt := h.lt b t hb
  have hB := h.own b o t hg hb hr
  have hget : ∀ b1 o2, ((σ.kill b).new o1).get b1 = some o2 → (b1 = σ.next ∧ o2 = o1) ∨ (b1 ≠ σ.next ∧ b1 ≠ b ∧ σ.get b1 = some o2) := by
    intro b1 o2 hg1
    rw [ASt.get_new] at hg1
    have hn : (σ.kill b).next = σ.next := rfl
    rw [hn] at hg1
    split at hg1
    · rename_i e; simp only [Option.some.injEq] at hg1; exact .inl ⟨e, hg1.symm⟩
    · rename_i e
      rw [ASt.get_kill] at hg1
      split at hg1
      · cases hg1
      · rename_i e2; exact .inr ⟨e, e2, hg1⟩
  refine ⟨ρ', he, ⟨?_, ?_, ?_, ?_, ?_, ?_, ?_, ?_⟩, by simp [ρ']⟩
  · refine h.below.trans ⟨rfl, rfl, rfl, by simp, fun k hk => ?_⟩
    simp only [Array.getElem?_setIfInBounds]
    rw [if_neg (by omega)]
  · intro b1 t1 hb1
    simp only [ρ'] at hb1
    simp only [Array.size_setIfInBounds]
    split at hb1
    · simp only [Option.some.injEq] at hb1; subst hb1; omega
    · exact h.lt b1 t1 hb1
  · intro b1 o2 t1 hg1 hb1
    simp only [ρ'] at hb1
    simp only [Array.getElem?_setIfInBounds]
    rcases hget b1 o2 hg1 with ⟨e, e2⟩ | ⟨e, e2, hg2⟩
    · subst e2
      rw [if_pos e] at hb1
      simp only [Option.some.injEq] at hb1
      subst hb1
      exact ⟨o', by rw [if_pos ht2.symm, if_pos (by omega)], ho _ hs⟩
    · rw [if_neg e] at hb1
      obtain ⟨o3, h1, h2⟩ := h.obj b1 o2 t1 hg2 hb1
      refine ⟨o3, ?_, h2.mono hs⟩
      rw [if_neg (fun e' => e2 (h.inj b1 b o2 o t1 t hg2 hg hb1 hb e'.symm))]; exact h1
  · intro b1 o2 t1 hg1 hb1 hr2
    simp only [ρ'] at hb1
    rcases hget b1 o2 hg1 with ⟨e, e2⟩ | ⟨e, e2, hg2⟩
    · rw [if_pos e] at hb1
      simp only [Option.some.injEq] at hb1
      subst hb1; omega
    · rw [if_neg e] at hb1
      exact h.own b1 o2 t1 hg2 hb1 hr2
  · intro b1 b2 o2 o3 t1 t3 hg1 hg2 hb1 hb2 hblk
    simp only [ρ'] at hb1 hb2
    rcases hget b1 o2 hg1 with ⟨e, e2⟩ | ⟨e, e2, hg1'⟩
    · rcases hget b2 o3 hg2 with ⟨f, f2⟩ | ⟨f, f2, hg2'⟩
      · rw [e, f]
      · rw [if_pos e] at hb1; rw [if_neg f] at hb2
        simp only [Option.some.injEq] at hb1; subst hb1
        exact absurd (h.inj b2 b o3 o t3 t hg2' hg hb2 hb (by omega)) f2
    · rcases hget b2 o3 hg2 with ⟨f, f2⟩ | ⟨f, f2, hg2'⟩
      · rw [if_neg e] at hb1; rw [if_pos f] at hb2
        simp only [Option.some.injEq] at hb2; subst hb2
        exact absurd (h.inj b1 b o2 o t1 t hg1' hg hb1 hb (by omega)) e2
      · rw [if_neg e] at hb1; rw [if_neg f] at hb2
        exact h.inj b1 b2 o2 o3 t1 t3 hg1' hg2' hb1 hb2 hblk
  · intro b1 hb1
    have hn : σ.next + 1 ≤ b1 := hb1
    simp only [ρ']
    rw [if_neg (by omega)]
    exact h.fresh b1 (by omega)
  · intro b1 o2 hg1
    show b1 < σ.next + 1
    rcases hget b1 o2 hg1 with ⟨e, _⟩ | ⟨_, _, hg2⟩
    · omega
    · have := h.bounded b1 o2 hg2; omega
  · simp only [Array.size_setIfInBounds]; exact h.room

/-! ### The run -/

/-- What is appended: how many elements, which cells. -/
def srcA (P : Program) (σ : ASt) (t2 : Option TypeId) (elem : TypeId) (sz : Nat) (x : Value) : Option (Nat × List Value) :=
  match t2 with
  | none => none
  | some t2 => match P.underlying t2 with
    | some (.int _) => match natOf x, zeroT P elem, bytesT P elem with
      | some n, some z, some b => bif Nat.ble n 16777216 && Nat.ble (n * b) 281474976710656 then some (n, zerosL z (n * z.length)) else none
      | _, _, _ => none
    | some _ => match lenOfA x with
      | some n => match firstA σ sz n x with
        | some vs => bif Nat.beq vs.length (n * sz) then some (n, vs) else none
        | none => none
      | none => none
    | none => none

theorem zeroCells_eq (z : Value) (n : Nat) : Builtin.zeroCells z.cells n = ⟨zerosL z.cells.toList (n * z.cells.toList.length)⟩ := by
  unfold Builtin.zeroCells
  rw [← zerosL_eq, Array.length_toList]

theorem loadCellsFrom_drew (a : Addr) : ∀ (n i : Nat) (acc r : Array Value), (loadCellsFrom a i n acc).run P w = .ok r w →
    (loadCellsFrom a i n acc).run P { w with drawn := w.drawn + 1 } = .ok r { w with drawn := w.drawn + 1 }
  | 0, i, acc, r, h => by simp [loadCellsFrom] at h ⊢; exact h
  | n + 1, i, acc, r, h => by
    have hc : ({ w with drawn := w.drawn + 1 } : World).cell? (a.add i) = w.cell? (a.add i) := rfl
    have hh : ({ w with drawn := w.drawn + 1 } : World).heap = w.heap := rfl
    simp only [loadCellsFrom, Sem.run_bind, run_load, hc] at h ⊢
    cases hv : w.cell? (a.add i) with
    | some v =>
      simp only [hv, Result.andThen_ok] at h ⊢
      exact loadCellsFrom_drew a n (i + 1) _ r h
    | none =>
      simp only [hv] at h ⊢
      have hf : ({ w with drawn := w.drawn + 1 } : World).farLoad P (a.add i) (Mode.plain == .atomic) = w.farLoad P (a.add i) (Mode.plain == .atomic) := rfl
      rw [hf]
      cases hfl : w.farLoad P (a.add i) (Mode.plain == .atomic) with
      | error e => rw [hfl] at h; cases h
      | ok x =>
        obtain ⟨v, q⟩ := x
        rw [hfl] at h
        simp only [Result.andThen_ok] at h ⊢
        exact loadCellsFrom_drew a n (i + 1) _ r h

theorem firstCells_drew {sz n : Nat} {x : Value} {r : Array Value} (h : (Builtin.firstCells sz n x).run P w = .ok r w) :
    (Builtin.firstCells sz n x).run P { w with drawn := w.drawn + 1 } = .ok r { w with drawn := w.drawn + 1 } := by
  unfold Builtin.firstCells at h ⊢
  split at h
  · exact loadCellsFrom_drew _ _ _ _ _ h
  · simp at h ⊢; exact h
  · simp at h ⊢; exact h
  · simp at h

theorem loadN_cells {b o n : Nat} {vs cs : List Value} {e : TypeId} {s : Nat} {opn : Bool} {fr : AFr} {ro : Bool} {ys : List Value} {d : Nat} (hg : σ.get b = some (.cells cs e s opn fr ro))
    (hr : LRel ρ cs ((ys.drop d).take cs.length)) (hl : loadN σ ⟨b, o, none⟩ n = some vs) : LRel ρ vs ((ys.drop (d + o)).take n) := by
  unfold loadN at hl
  simp only [hg] at hl
  cases hn : Nat.beq (List.take n (List.drop o cs)).length n with
  | false => rw [hn] at hl; cases hl
  | true =>
    rw [hn] at hl
    simp only [cond_true, Option.some.injEq] at hl
    subst hl
    have hn := Nat.eq_of_beq_eq_true hn
    have := (hr.drop o).take n
    rw [List.drop_take, List.take_take, List.drop_drop] at this
    have e : min n (cs.length - o) = n := by simp at hn; omega
    rw [e] at this
    exact this

/-- The run of append, once what is appended is known. -/
theorem append_run {ts : Array TypeId} {ty t1 t2 elem : TypeId} {sz n : Nat} {base : Option Addr} {len cap : Nat} {x x' : Value} {vs : List Value}
    (h1 : ts[0]? = some t1) (h2 : ts[1]? = some t2) (hu : P.underlying t1 = some (.slice elem)) (hsz : sizeT P elem = some sz)
    (hsrc : srcA P σ (some t2) elem sz x = some (n, vs)) (hx : VRel ρ x x') (h : WRel B w0 ρ σ w)
    (hz0 : ∃ z, zeroT P elem = some z ∧ z.length = sz) :
    ∃ ys, LRel ρ vs ys ∧ vs.length = n * sz ∧
      (∀ (w' : World), len + n ≤ cap → (∀ a, base = some a → (storeCells (a.add (len * sz)) ys).run P w = .ok () w') → (base = none → w' = w) →
        (Builtin.append_ ts ty #[.slice base len cap, x']).run P w = .ok (.slice base (len + n) cap) w') ∧
      (∀ (old : List Value) (b : Nat), cap < len + n → bytesT P elem = some b → Builtin.nextslicecap (len + n) cap * b ≤ 281474976710656 → len + n ≤ 9223372036854775807 →
        (∀ wd : World, wd = { w with drawn := w.drawn + 1 } → (Builtin.firstCells sz len (.slice base len cap)).run P wd = .ok ⟨old⟩ wd) →
        ∃ (k : Nat) (spare : List Value), len + n ≤ k ∧ spare.length = (k - (len + n)) * sz ∧
          (Builtin.append_ ts ty #[.slice base len cap, x']).run P w = .ok (.slice (some ⟨w.heap.size, 0, none⟩) (len + n) k) { w with drawn := w.drawn + 1, heap := w.heap.push (.cells ⟨old ++ ys ++ spare⟩ elem) }) := by
  obtain ⟨z, hz, hzl⟩ := hz0
  obtain ⟨zv, hzr, hzc, hzf⟩ := zeroT_run w hz
  have a0 : ∀ s : Value, (#[s, x'] : Array Value)[0]? = some s := fun _ => rfl
  have a1 : ∀ s : Value, (#[s, x'] : Array Value)[1]? = some x' := fun _ => rfl
  have hch : (choose (.appendCap (len + n) cap elem)).run P w = .ok (len + n + (w.tape w.drawn (.appendCap (len + n) cap elem)) % (2 ^ 63 - (len + n))) { w with drawn := w.drawn + 1 } := by
    simp [choose, Sem.run, Question.forced, Question.cut]
  have hsp : ∀ k, (zerosL z (k * z.length)).length = k * sz := by intro k; rw [zerosL_length, hzl]
  have hzd : (zeroValue elem).run P { w with drawn := w.drawn + 1 } = .ok zv { w with drawn := w.drawn + 1 } := by
    obtain ⟨zv', h5, h6, _⟩ := zeroT_run { w with drawn := w.drawn + 1 } hz
    have h7 : ∀ (w1 w2 : World) (v1 v2 : Value), (zeroValue elem).run P w1 = .ok v1 w1 → (zeroValue elem).run P w2 = .ok v2 w2 → v1 = v2 := by
      intro w1 w2 v1 v2 k1 k2
      simp only [zeroValue, typeInfo, Sem.run_bind, run_program, Result.andThen_ok] at k1 k2
      cases hi : P.info? elem with
      | none => simp [hi] at k1
      | some i =>
        cases hzz : i.zero with
        | none => simp [hi, hzz, unsupported] at k1
        | some q => simp [hi, hzz] at k1 k2; rw [← k1, ← k2]
    rw [h7 _ _ _ _ h5 hzr] at h5
    exact h5
  unfold srcA at hsrc
  simp only at hsrc
  split at hsrc
  · rename_i k hu2
    split at hsrc
    · rename_i n1 z1 b1 hn1 hz1 hb1
      rw [hz] at hz1
      simp only [Option.some.injEq] at hz1
      subst hz1
      cases hbb : (Nat.ble n1 16777216 && Nat.ble (n1 * b1) 281474976710656) with
      | false => rw [hbb] at hsrc; cases hsrc
      | true =>
        rw [hbb] at hsrc
        simp only [cond_true, Option.some.injEq, Prod.mk.injEq] at hsrc
        obtain ⟨rfl, rfl⟩ := hsrc
        simp only [Bool.and_eq_true, Nat.ble_eq] at hbb
        obtain ⟨q1, q2⟩ := hbb
        obtain ⟨kk, rfl, _⟩ := natOf_some hn1 hx
        obtain ⟨i, hi, hib⟩ := bytesT_run (w := w) hb1
        have hwrap := wrap_small q1
        have t1 : ¬ ((n1 : Int) < 0) := by omega
        have t2 : ¬ ((281474976710656 : Int) < (n1 : Int) * (i.bytes : Int)) := by
          have : ((n1 * i.bytes : Nat) : Int) ≤ 281474976710656 := Int.ofNat_le.2 (by rw [hib]; exact q2)
          simp only [Int.natCast_mul] at this
          omega
        have hzc' := zeroCells_eq zv n1
        rw [hzc] at hzc'
        refine ⟨zerosL z (n1 * z.length), flatL_refl (zerosL_flat hzf _), by rw [hsp], ?_, ?_⟩
        · intro w' hle hst hno
          have hnew : (if n1 * sz = 0 then pure #[] else do pure (Builtin.zeroCells (← zeroValue elem).cells n1) : Sem (Array Value)).run P w = .ok ⟨zerosL z (n1 * z.length)⟩ w := by
            by_cases h0 : n1 * sz = 0
            · have : zerosL z (n1 * z.length) = [] := List.length_eq_zero_iff.1 (by rw [hsp, h0])
              rw [this]; simp [h0]
            · simp [h0, hzr, hzc']
          simp only [Builtin.append_, h1, h2, a0, a1, Sem.run_bind, und_run w hu, und_run w hu2, Result.andThen_ok, sizeT_run w hsz, Sem.run_pure, if_true, asInt, asIntOf, hwrap, t1, hi, if_false, Int.toNat_natCast, hle,
            show ¬ ((n1 : Int) * (i.bytes : Int) > 2 ^ 48) from t2, Bool.not_true, Bool.false_eq_true, hnew]
          cases base with
          | none => rw [hno rfl]; rfl
          | some a => simp only [Sem.run_bind, hst a rfl, Result.andThen_ok, Sem.run_pure]
        · intro old b hlt hb hnext hmax hold
          obtain ⟨i', hi', hib'⟩ := bytesT_run (w := w) hb
          rw [hi] at hi'
          simp only [Result.ok.injEq, and_true] at hi'
          subst hi'
          obtain ⟨i2, hi2, hib2⟩ := bytesT_run (w := { w with drawn := w.drawn + 1 }) hb
          have hcap : ¬ (len + n1 ≤ cap) := by omega
          have hm : ¬ (((len + n1 : Nat) : Int) > IntKind.i64.max) := by
            rw [IntKind.max_i64]; omega
          have hnx : ¬ (Builtin.nextslicecap (len + n1) cap * i.bytes > 2 ^ 48) := by rw [hib']; omega
          have hnew : (if n1 * sz = 0 then pure #[] else do pure (Builtin.zeroCells (← zeroValue elem).cells n1) : Sem (Array Value)).run P { w with drawn := w.drawn + 1 } = .ok ⟨zerosL z (n1 * z.length)⟩ { w with drawn := w.drawn + 1 } := by
            by_cases h0 : n1 * sz = 0
            · have : zerosL z (n1 * z.length) = [] := List.length_eq_zero_iff.1 (by rw [hsp, h0])
              rw [this]; simp [h0]
            · simp only [h0, if_false, Sem.run_bind, hzd, Result.andThen_ok, hzc', Sem.run_pure]
          refine ⟨len + n1 + (w.tape w.drawn (.appendCap (len + n1) cap elem)) % (2 ^ 63 - (len + n1)), zerosL z ((w.tape w.drawn (.appendCap (len + n1) cap elem)) % (2 ^ 63 - (len + n1)) * z.length), Nat.le_add_right _ _, by rw [hsp, Nat.add_sub_cancel_left], ?_⟩
          simp only [Builtin.append_, h1, h2, a0, a1, Sem.run_bind, und_run w hu, und_run w hu2, Result.andThen_ok, sizeT_run w hsz, Sem.run_pure, if_true, asInt, asIntOf, hwrap, t1, hi, if_false, Int.toNat_natCast,
            show ¬ ((n1 : Int) * (i.bytes : Int) > 2 ^ 48) from t2, Bool.not_true, Bool.false_eq_true, hcap, hm, false_and, hnx, hch, run_askRoom, hi2, hold _ rfl, hnew, hzd, newRow, run_newObj]
          have ez := zeroCells_eq zv ((w.tape w.drawn (.appendCap (len + n1) cap elem)) % (2 ^ 63 - (len + n1)))
          rw [hzc] at ez
          have esub : len + n1 + (w.tape w.drawn (.appendCap (len + n1) cap elem)) % (2 ^ 63 - (len + n1)) - (len + n1) = (w.tape w.drawn (.appendCap (len + n1) cap elem)) % (2 ^ 63 - (len + n1)) := Nat.add_sub_cancel_left _ _
          rw [esub, ez]
          simp
    · cases hsrc
  · rename_i d hne hu2
    split at hsrc
    · rename_i n1 hn1
      split at hsrc
      · rename_i vs1 hvs1
        cases hbb : Nat.beq vs1.length (n1 * sz) with
        | false => rw [hbb] at hsrc; cases hsrc
        | true =>
        rw [hbb] at hsrc
        simp only [cond_true, Option.some.injEq, Prod.mk.injEq] at hsrc
        have hbb := Nat.eq_of_beq_eq_true hbb
        obtain ⟨rfl, rfl⟩ := hsrc
        have hl := lenOfA_run (P := P) (w := w) hn1 hx
        obtain ⟨ys, f1, f2⟩ := firstA_run (P := P) h hvs1 hx (fun m hm => by rw [hn1] at hm; simp only [Option.some.injEq] at hm; omega)
        refine ⟨ys, f2, hbb, ?_, ?_⟩
        · intro w' hle hst hno
          simp only [Builtin.append_, h1, h2, a0, a1, Sem.run_bind, und_run w hu, und_run w hu2, Result.andThen_ok, sizeT_run w hsz, Sem.run_pure, Bool.false_eq_true, if_false, hl, hle, if_true, Bool.not_false, f1]
          cases base with
          | none => rw [hno rfl]; rfl
          | some a => simp only [Sem.run_bind, hst a rfl, Result.andThen_ok, Sem.run_pure]
        · intro old b hlt hb hnext hmax hold
          obtain ⟨i, hi, rfl⟩ := bytesT_run (w := w) hb
          obtain ⟨i2, hi2, hib⟩ := bytesT_run (w := { w with drawn := w.drawn + 1 }) hb
          have hcap : ¬ (len + n1 ≤ cap) := by omega
          have hm : ¬ (((len + n1 : Nat) : Int) > IntKind.i64.max) := by
            rw [IntKind.max_i64]; omega
          have hnx : ¬ (Builtin.nextslicecap (len + n1) cap * i.bytes > 2 ^ 48) := by omega
          refine ⟨len + n1 + (w.tape w.drawn (.appendCap (len + n1) cap elem)) % (2 ^ 63 - (len + n1)), zerosL z ((w.tape w.drawn (.appendCap (len + n1) cap elem)) % (2 ^ 63 - (len + n1)) * z.length), Nat.le_add_right _ _, by rw [hsp, Nat.add_sub_cancel_left], ?_⟩
          simp only [Builtin.append_, h1, h2, a0, a1, Sem.run_bind, und_run w hu, und_run w hu2, Result.andThen_ok, sizeT_run w hsz, Sem.run_pure, Bool.false_eq_true, if_false, hl, hcap, hi, hm, false_and, hnx, hch, run_askRoom, hi2, hold _ rfl, Bool.not_false, if_true, firstCells_drew f1, hzd, newRow, run_newObj]
          have ez := zeroCells_eq zv ((w.tape w.drawn (.appendCap (len + n1) cap elem)) % (2 ^ 63 - (len + n1)))
          rw [hzc] at ez
          have esub : len + n1 + (w.tape w.drawn (.appendCap (len + n1) cap elem)) % (2 ^ 63 - (len + n1)) - (len + n1) = (w.tape w.drawn (.appendCap (len + n1) cap elem)) % (2 ^ 63 - (len + n1)) := Nat.add_sub_cancel_left _ _
          rw [esub, ez]
          simp
      · cases hsrc
    · cases hsrc
  · cases hsrc

/-! ### The law -/

theorem one_rel {ns ns' : List Value} (hn : LRel ρ ns ns') (h : ns.all oneA = true) : ∀ v ∈ ns', one v = true := by
  induction ns generalizing ns' with
  | nil => cases hn; intro v hv; cases hv
  | cons a l ih =>
    cases hn with
    | cons hv hl =>
      simp only [List.all_cons, Bool.and_eq_true] at h
      intro v hm
      cases hm with
      | head => exact one_val hv h.1
      | tail _ hm => exact ih hl h.2 v hm

theorem growBy_le (n : Nat) : ∀ (r c : Nat), c ≤ 2 * n + 192 → Builtin.growBy n r c ≤ 2 * n + 192
  | 0, c, h => h
  | r + 1, c, h => by
    unfold Builtin.growBy
    split
    · exact h
    · exact growBy_le n r _ (by omega)

theorem nextcap_le {need cap : Nat} (h : cap < need) : Builtin.nextslicecap need cap ≤ 2 * need + 192 := by
  unfold Builtin.nextslicecap
  split
  · omega
  · split
    · omega
    · exact growBy_le need 4 cap (by omega)

def frShift (fr : AFr) (o k : Nat) : Option AFr :=
  match fr with
  | .no => some .no
  | .tail => some .tail
  | .any => none
  | .span lo hi => bif Nat.ble o lo && Nat.ble hi (o + k) && Nat.ble lo hi then some (.span (lo - o) (hi - o)) else none

def appendA (P : Program) (σ : ASt) (t1 t2 : Option TypeId) (s x : Value) : Option (Value × ASt) :=
  match t1.bind P.underlying, s with
  | some (.slice elem), .slice base len cap =>
    match sizeT P elem, zeroT P elem, bytesT P elem with
    | some sz, some z, some by_ =>
      bif Nat.beq sz 0 || !Nat.beq z.length sz then none else
      match srcA P σ t2 elem sz x with
      | some (n, vs) =>
        bif Nat.ble (len + n) cap then
          match base with
          | some a => bif Nat.beq n 0 then some (s, σ) else
            match storeN σ ⟨a.block, a.off + len * sz, none⟩ vs with
            | some σ' => some (.slice base (len + n) cap, σ')
            | none => none
          | none => bif Nat.beq n 0 then some (s, σ) else none
        else
          bif Nat.ble ((2 * (len + n) + 192) * by_) 281474976710656 && Nat.ble (len + n) 281474976710656 then
            match base with
            | none => bif Nat.beq cap 0 && Nat.beq len 0 then some (rowA σ elem sz vs true .no n n) else none
            | some a =>
              match σ.get a.block, loadN σ ⟨a.block, a.off, none⟩ (len * sz) with
              | some (.cells cs e s opn fr ro), some old =>
                bif opn && Nat.beq (a.off + cap * s) cs.length then
                  bif !ro && Nat.beq s sz && Nat.beq e elem && vs.all oneA then
                    match frShift fr a.off (len * sz) with
                    | some fr' => some (rowA (σ.kill a.block) elem sz (old ++ vs) true fr' (len + n) (len + n))
                    | none => none
                  else none
                else some (rowA σ elem sz (old ++ vs) true .no (len + n) (len + n))
              | _, _ => none
          else none
      | none => none
    | _, _, _ => none
  | _, _ => none

theorem appendA_sound (h : WRel B w0 ρ σ w) {ts : Array TypeId} {ty : TypeId} {s s' x x' v : Value} {σ' : ASt} (ha : appendA P σ ts[0]? ts[1]? s x = some (v, σ')) (hs : VRel ρ s s') (hx : VRel ρ x x') :
    Gives P B w0 ρ σ w (Builtin.append_ ts ty #[s', x']) v σ' := by
  unfold appendA at ha
  cases h1 : ts[0]? with
  | none => rw [h1] at ha; simp at ha
  | some t1 =>
  rw [h1] at ha
  simp only [Option.bind_some] at ha
  split at ha
  · rename_i elem base len cap hu
    split at ha
    · rename_i sz z by_ hsz hz hby
      cases hq : (Nat.beq sz 0 || !Nat.beq z.length sz) with
      | true => rw [hq] at ha; cases ha
      | false =>
      rw [hq] at ha
      simp only [cond_false] at ha
      simp only [Bool.or_eq_false_iff, Bool.not_eq_false'] at hq
      have hz1 : z.length = sz := Nat.eq_of_beq_eq_true hq.2
      have hsz0 : sz ≠ 0 := fun e => by rw [e] at hq; exact absurd hq.1 (by decide)
      split at ha
      · rename_i n vs hsrc
        cases h2 : ts[1]? with
        | none => rw [h2] at hsrc; simp [srcA] at hsrc
        | some t2 =>
        rw [h2] at hsrc
        -- the run, whatever base and room are
        have R : ∀ (base' : Option Addr) (cap' : Nat), _ := fun base' cap' => append_run (ty := ty) (base := base') (len := len) (cap := cap') h1 h2 hu hsz hsrc hx h ⟨z, hz, hz1⟩
        cases hfit : Nat.ble (len + n) cap with
        | true =>
          rw [hfit] at ha
          simp only [cond_true] at ha
          have hfit : len + n ≤ cap := by simpa using hfit
          have idle : ∀ (base' : Option Addr) (cap' : Nat), n = 0 → len ≤ cap' → (Builtin.append_ ts ty #[.slice base' len cap', x']).run P w = .ok (.slice base' len cap') w := by
            intro base' cap' hn hle
            subst hn
            obtain ⟨ys, r1, r2, r3, _⟩ := R base' cap'
            have hys : ys = [] := by
              have h0 : vs.length = 0 := by rw [r2]; simp
              have := r1.length
              exact List.length_eq_zero_iff.1 (by omega)
            subst hys
            exact r3 w hle (fun a _ => rfl) (fun _ => rfl)
          split at ha
          · rename_i a
            cases hn : Nat.beq n 0 with
            | true =>
              rw [hn] at ha
              simp only [cond_true, Option.some.injEq, Prod.mk.injEq] at ha
              obtain ⟨rfl, rfl⟩ := ha
              have hn := Nat.eq_of_beq_eq_true hn
              cases hs with
              | flat hf => simp [flat] at hf
              | slice ht hc => exact ⟨ρ, _, w, idle _ _ hn (by omega), Ext.refl _ _, .slice ht hc, h, Nat.le_refl _⟩
              | slice0 ht hc => exact ⟨ρ, _, w, idle _ _ hn (Nat.zero_le _), Ext.refl _ _, .slice0 ht hc, h, Nat.le_refl _⟩
            | false =>
              rw [hn] at ha
              simp only [cond_false] at ha
              have hn : n ≠ 0 := fun e => by rw [e, Nat.beq_refl] at hn; cases hn
              split at ha
              · rename_i σ1 hst
                simp only [Option.some.injEq, Prod.mk.injEq] at ha
                obtain ⟨rfl, rfl⟩ := ha
                cases hs with
                | flat hf => simp [flat] at hf
                | slice ht hc =>
                  rename_i b o t'
                  obtain ⟨ys, r1, r2, r3, _⟩ := R (some ⟨t'.blk, t'.off + o, none⟩) (cap + if o + cap * t'.sz = t'.len then t'.extra else 0)
                  obtain ⟨w', k1, k2, k3⟩ := storeN_sound (P := P) h hst ht r1
                  refine ⟨ρ, _, w', r3 w' (by omega) (fun a ea => ?_) (fun e => by cases e), Ext.refl _ _, .slice ht hc, k2, by rw [k3]; exact Nat.le_refl _⟩
                  simp only [Option.some.injEq] at ea
                  subst ea
                  rw [Addr.add_mk, Nat.add_assoc]
                  exact k1
                | slice0 ht hc => omega
              · cases ha
          · cases hn : Nat.beq n 0 with
            | false => rw [hn] at ha; cases ha
            | true =>
              rw [hn] at ha
              simp only [cond_true, Option.some.injEq, Prod.mk.injEq] at ha
              obtain ⟨rfl, rfl⟩ := ha
              have hn := Nat.eq_of_beq_eq_true hn
              have := flat_eq (v := .slice none len cap) rfl hs
              subst this
              exact ⟨ρ, _, w, idle _ _ hn (by omega), Ext.refl _ _, .flat rfl, h, Nat.le_refl _⟩
        | false =>
          rw [hfit] at ha
          simp only [cond_false] at ha
          have hfit : ¬ (len + n ≤ cap) := fun e => by rw [← Nat.ble_eq] at e; rw [e] at hfit; cases hfit
          cases hbd : (Nat.ble ((2 * (len + n) + 192) * by_) 281474976710656 && Nat.ble (len + n) 281474976710656) with
          | false => rw [hbd] at ha; cases ha
          | true =>
          rw [hbd] at ha
          simp only [cond_true] at ha
          simp only [Bool.and_eq_true, Nat.ble_eq] at hbd
          obtain ⟨hbd1, hbd2⟩ := hbd
          have hnext : ∀ c, c < len + n → Builtin.nextslicecap (len + n) c * by_ ≤ 281474976710656 := fun c hc => Nat.le_trans (Nat.mul_le_mul_right _ (nextcap_le hc)) hbd1
          split at ha
          · cases hb : (Nat.beq cap 0 && Nat.beq len 0) with
            | false => rw [hb] at ha; cases ha
            | true =>
              rw [hb] at ha
              simp only [cond_true, Option.some.injEq] at ha
              simp only [Bool.and_eq_true] at hb
              have hc0 := Nat.eq_of_beq_eq_true hb.1
              have hl0 := Nat.eq_of_beq_eq_true hb.2
              subst hc0 hl0
              have := flat_eq (v := .slice none 0 0) rfl hs
              subst this
              obtain ⟨ys, r1, r2, _, r4⟩ := R none 0
              obtain ⟨k, spare, q1, q2, q3⟩ := r4 [] by_ (by omega) hby (hnext _ (by omega)) (by omega) (fun wd _ => rfl)
              simp only [Nat.zero_add, List.nil_append] at q1 q2 q3
              obtain ⟨ρ', e1, e2, e3, e4⟩ := rowA_sound h.drew elem sz true .no (0, 0) n n (k - n) spare r1 q2 r2.symm (fun e => by cases e) (Nat.le_refl _) rfl
              rw [ha] at e2 e3 e4
              rw [show n + (k - n) = k by omega] at e2
              exact ⟨ρ', _, _, q3, e1, e2, e3, e4⟩
          · rename_i a
            split at ha
            · rename_i cs e sz' opn fr ro old hg hold
              -- when it grows
              have G : ∀ (a' : Addr) (cap' : Nat) (t' : Tgt), ρ a.block = some t' → cap' < len + n → (len ≠ 0 → a' = ⟨t'.blk, t'.off + a.off, none⟩) →
                  ∃ (olds ys spare : List Value) (k : Nat), LRel ρ old olds ∧ LRel ρ vs ys ∧ vs.length = n * sz ∧ old.length = len * sz ∧ len + n ≤ k ∧ spare.length = (k - (len + n)) * sz ∧
                    (Builtin.append_ ts ty #[.slice (some a') len cap', x']).run P w = .ok (.slice (some ⟨w.heap.size, 0, none⟩) (len + n) k) { w with drawn := w.drawn + 1, heap := w.heap.push (.cells ⟨olds ++ ys ++ spare⟩ elem) } := by
                intro a' cap' t' ht hc haddr
                obtain ⟨ys, r1, r2, _, r4⟩ := R (some a') cap'
                obtain ⟨olds, o1, o2, o3⟩ := loadN_sound (P := P) h.drew hold ht
                have hfc : ∀ wd : World, wd = { w with drawn := w.drawn + 1 } → (Builtin.firstCells sz len (.slice (some a') len cap')).run P wd = .ok ⟨olds⟩ wd := by
                  intro wd e
                  subst e
                  by_cases hl0 : len = 0
                  · subst hl0
                    have : olds = [] := List.length_eq_zero_iff.1 (by rw [o2.length, o3]; simp)
                    subst this
                    simp [Builtin.firstCells, loadCells, loadCellsFrom]
                  · rw [haddr hl0]; exact o1
                obtain ⟨k, spare, q1, q2, q3⟩ := r4 olds by_ hc hby (hnext _ hc) (by omega) hfc
                exact ⟨olds, ys, spare, k, o2, r1, r2, o3, q1, q2, q3⟩
              cases hopen : (opn && Nat.beq (a.off + cap * sz') cs.length) with
              | false =>
                rw [hopen] at ha
                simp only [cond_false, Option.some.injEq] at ha
                have fin : ∀ (a' : Addr) (t' : Tgt), ρ a.block = some t' → (len ≠ 0 → a' = ⟨t'.blk, t'.off + a.off, none⟩) → Gives P B w0 ρ σ w (Builtin.append_ ts ty #[.slice (some a') len cap, x']) v σ' := by
                  intro a' t' ht haddr
                  obtain ⟨olds, ys, spare, k, g1, g2, g3, g4, g5, g6, g7⟩ := G a' cap t' ht (by omega) haddr
                  obtain ⟨ρ', e1, e2, e3, e4⟩ := rowA_sound h.drew elem sz true .no (0, 0) (len + n) (len + n) (k - (len + n)) spare (g1.append g2) g6 (by rw [List.length_append, g3, g4, Nat.add_mul]) (fun e => by cases e) (Nat.le_refl _) rfl
                  rw [ha] at e2 e3 e4
                  rw [show len + n + (k - (len + n)) = k by omega] at e2
                  exact ⟨ρ', _, _, g7, e1, e2, e3, e4⟩
                simp only [Bool.and_eq_false_iff] at hopen
                cases hs with
                | flat hf => simp [flat] at hf
                | slice ht hc =>
                  rename_i b o t'
                  obtain ⟨o', _, hr⟩ := h.obj _ _ _ hg ht
                  have e0 : (if o + cap * t'.sz = t'.len then t'.extra else 0) = 0 := by
                    rcases hopen with hb | hb
                    · subst hb; rw [hr.closed]; simp
                    · rw [if_neg]
                      intro hcon
                      rw [hr.szEq.1, hr.szEq.2] at hcon
                      simp only at hb
                      rw [hcon, Nat.beq_refl] at hb
                      cases hb
                  rw [e0, Nat.add_zero]
                  exact fin _ t' ht (fun _ => rfl)
                | @slice0 b o o1 cap' t' ht hc =>
                  obtain ⟨o', _, hr⟩ := h.obj _ _ _ hg ht
                  have e0 : cap' = 0 := by
                    rcases hc with hc | ⟨k1, _, k3⟩
                    · exact hc
                    · rcases hopen with hb | hb
                      · subst hb; rw [k3]; exact hr.closed
                      · exfalso
                        simp only [Nat.zero_mul, Nat.add_zero] at hb
                        rw [k1, hr.szEq.2, Nat.beq_refl] at hb
                        cases hb
                  subst e0
                  exact fin _ t' ht (fun e => absurd rfl e)
              | true =>
                rw [hopen] at ha
                simp only [cond_true] at ha
                cases hok : (!ro && Nat.beq sz' sz && Nat.beq e elem && vs.all oneA) with
                | false => rw [hok] at ha; cases ha
                | true =>
                rw [hok] at ha
                simp only [cond_true] at ha
                simp only [Bool.and_eq_true, Bool.not_eq_true'] at hok hopen
                obtain ⟨⟨⟨hro, hszz⟩, hel⟩, hvone⟩ := hok
                have hszz := Nat.eq_of_beq_eq_true hszz
                have hel := Nat.eq_of_beq_eq_true hel
                subst hszz hel
                have hend := Nat.eq_of_beq_eq_true hopen.2
                split at ha
                · rename_i fr' hfr'
                  simp only [Option.some.injEq] at ha
                  have fin : ∀ (a' : Addr) (cap' : Nat) (t' : Tgt), ρ a.block = some t' → (len ≠ 0 → a' = ⟨t'.blk, t'.off + a.off, none⟩) → (cap' = cap + t'.extra ∧ a' = ⟨t'.blk, t'.off + a.off, none⟩ ∨ cap' < len + n) →
                      Gives P B w0 ρ σ w (Builtin.append_ ts ty #[.slice (some a') len cap', x']) v σ' := by
                    intro a' cap' t' ht haddr hcase
                    by_cases hgrow : cap' < len + n
                    · obtain ⟨olds, ys, spare, k, g1, g2, g3, g4, g5, g6, g7⟩ := G a' cap' t' ht hgrow haddr
                      obtain ⟨ρ', e1, e2, e3, e4⟩ := rowA_sound (h.drew.kill a.block) e sz' true fr' (0, 0) (len + n) (len + n) (k - (len + n)) spare (g1.append g2) g6 (by rw [List.length_append, g3, g4, Nat.add_mul]) (fun e => by cases e) (Nat.le_refl _)
                        (by unfold frShift at hfr'; cases fr with
                            | any => simp only at hfr'; cases hfr'
                            | no => simp only [Option.some.injEq] at hfr'; subst hfr'; rfl
                            | tail => simp only [Option.some.injEq] at hfr'; subst hfr'; exact .inl rfl
                            | span lo hi =>
                              simp only at hfr'
                              cases hz2 : (Nat.ble a.off lo && Nat.ble hi (a.off + len * sz') && Nat.ble lo hi) with
                              | false => rw [hz2] at hfr'; cases hfr'
                              | true => rw [hz2] at hfr'; simp only [cond_true, Option.some.injEq] at hfr'; subst hfr'; exact .inl rfl)
                      rw [ha] at e2 e3 e4
                      rw [show len + n + (k - (len + n)) = k by omega] at e2
                      exact ⟨ρ', _, _, g7, e1, e2, e3, e4⟩
                    · obtain ⟨hcap, haddr'⟩ := hcase.resolve_right hgrow
                      subst haddr'
                      obtain ⟨ob, hob, ys0, f, rfl, m1, m2, mlen, mrel, mop, mfr⟩ := h.obj _ _ _ hg ht
                      obtain ⟨olds, o1, o2, o3⟩ := loadN_sound (P := P) h hold ht
                      obtain ⟨ys, r1, r2, r3, _⟩ := R (some ⟨t'.blk, t'.off + a.off, none⟩) cap'
                      have hyl := r1.length
                      have hen : a.off + cap * t'.sz = cs.length := by rw [m1]; exact hend
                      -- the numbers
                      have hln : (len + n) * t'.sz ≤ cap' * t'.sz := Nat.mul_le_mul_right _ (by omega)
                      have hcs : cap' * t'.sz = cap * t'.sz + t'.extra * t'.sz := by rw [hcap, Nat.add_mul]
                      have hadd : (len + n) * t'.sz = len * t'.sz + n * t'.sz := Nat.add_mul _ _ _
                      have hext : t'.extra * t'.sz = t'.extra * sz' := by rw [m1]
                      have hs1 : len * sz' = len * t'.sz := by rw [m1]
                      have hs2 : n * sz' = n * t'.sz := by rw [m1]
                      have hfree : ∀ j, t'.off + a.off + len * sz' + 0 ≤ j → j < t'.off + a.off + len * sz' + 0 + ys.length → ¬ (f.1 ≤ j ∧ j < f.2) := by
                        intro j hj1 hj2 ⟨hj3, hj4⟩
                        cases fr with
                        | any => simp [frShift] at hfr'
                        | no => have : f.1 = f.2 := mfr; omega
                        | tail =>
                          rcases mfr with mfr | mfr
                          · omega
                          · subst mfr; simp only at hj3 hj4; omega
                        | span lo hi =>
                          unfold frShift at hfr'
                          simp only at hfr'
                          cases hz2 : (Nat.ble a.off lo && Nat.ble hi (a.off + len * sz') && Nat.ble lo hi) with
                          | false => rw [hz2] at hfr'; cases hfr'
                          | true =>
                            simp only [Bool.and_eq_true, Nat.ble_eq] at hz2
                            rcases mfr with mfr | mfr
                            · omega
                            · subst mfr; simp only at hj3 hj4; omega
                      have hone := one_rel r1 hvone
                      have hrun := run_storeCells_list P t'.blk (t'.off + a.off + len * sz') e f ys 0 ys0 w hob (by omega) hone hfree
                      have hor : ∀ ρ', Sub ρ ρ' → ORel ρ' ⟨t'.blk, t'.off + a.off, (old ++ vs).length, cap' - (len + n), sz', undef⟩ (.cells (old ++ vs) e sz' true fr' false)
                          (.cells ⟨ys0.take (t'.off + a.off + len * sz' + 0) ++ ys ++ ys0.drop (t'.off + a.off + len * sz' + 0 + ys.length)⟩ e f) := by
                        intro ρ' hs
                        have hov : (old ++ vs).length = len * sz' + n * sz' := by rw [List.length_append, o3, r2]
                        have hx2 : (cap' - (len + n)) * sz' = cap' * t'.sz - (len + n) * t'.sz := by rw [m1, Nat.sub_mul]
                        refine ⟨_, f, rfl, rfl, rfl, ?_, ?_, (fun e => by cases e), ?_⟩
                        · simp only [Nat.add_zero, List.length_append, List.length_take, List.length_drop]
                          simp only [List.length_append] at hov
                          omega
                        · rw [hov]
                          have ee : List.take (len * sz' + n * sz') (List.drop (t'.off + a.off) (ys0.take (t'.off + a.off + len * sz' + 0) ++ ys ++ ys0.drop (t'.off + a.off + len * sz' + 0 + ys.length))) =
                              (ys0.drop (t'.off + a.off)).take (len * sz') ++ ys := by
                            simp only [Nat.add_zero, List.append_assoc]
                            rw [List.drop_append, List.drop_take]
                            have l0 : t'.off + a.off - (ys0.take (t'.off + a.off + len * sz')).length = 0 := by simp only [List.length_take]; omega
                            rw [l0, List.drop_zero, Nat.add_sub_cancel_left]
                            rw [List.take_append]
                            have l1 : (List.take (len * sz') (List.drop (t'.off + a.off) ys0)).length = len * sz' := by simp only [List.length_take, List.length_drop]; omega
                            rw [l1, List.take_take, Nat.min_eq_right (Nat.le_add_right _ _), Nat.add_sub_cancel_left, List.take_append]
                            have l2 : n * sz' - ys.length = 0 := by omega
                            rw [l2, List.take_zero, List.append_nil, List.take_of_length_le (show ys.length ≤ n * sz' by omega)]
                          rw [ee]
                          refine LRel.append ?_ (r1.mono hs)
                          have q := loadN_cells hg mrel hold
                          exact q.mono hs
                        · have hlen2 : (List.take (t'.off + a.off + len * sz' + 0) ys0 ++ ys ++ List.drop (t'.off + a.off + len * sz' + 0 + ys.length) ys0).length = ys0.length := by
                            simp only [Nat.add_zero, List.length_append, List.length_take, List.length_drop]; omega
                          rw [hlen2]
                          unfold frShift at hfr'
                          cases fr with
                          | any => simp only at hfr'; cases hfr'
                          | no => simp only [Option.some.injEq] at hfr'; subst hfr'; exact mfr
                          | tail => simp only [Option.some.injEq] at hfr'; subst hfr'; exact mfr
                          | span lo hi =>
                            simp only at hfr'
                            cases hz2 : (Nat.ble a.off lo && Nat.ble hi (a.off + len * sz') && Nat.ble lo hi) with
                            | false => rw [hz2] at hfr'; cases hfr'
                            | true =>
                              rw [hz2] at hfr'
                              simp only [cond_true, Option.some.injEq] at hfr'
                              subst hfr'
                              simp only [Bool.and_eq_true, Nat.ble_eq] at hz2
                              rcases mfr with mfr | mfr
                              · exact .inl mfr
                              · right
                                rw [mfr]
                                simp only [Prod.mk.injEq]
                                omega
                      obtain ⟨ρ', e1, e2, e3⟩ := h.rebase (o1 := .cells (old ++ vs) e sz' true fr' false) (t2 := ⟨t'.blk, t'.off + a.off, (old ++ vs).length, cap' - (len + n), sz', undef⟩) hg ht hro rfl hor
                      have hw := r3 _ (by omega) (fun a2 ea => by
                        simp only [Option.some.injEq] at ea
                        subst ea
                        rw [Addr.add_mk]
                        exact hrun) (fun e => by cases e)
                      have hov : (old ++ vs).length = (len + n) * sz' := by rw [List.length_append, o3, r2, Nat.add_mul]
                      simp only [rowA, Prod.mk.injEq] at ha
                      obtain ⟨rfl, rfl⟩ := ha
                      refine ⟨ρ', _, _, hw, e1, ?_, e2, Nat.le_succ _⟩
                      have := VRel.slice (ρ := ρ') (o := 0) (len := len + n) e3 (show len + n ≠ 0 by omega)
                      simp only [Nat.zero_add, hov, if_true] at this
                      rw [show len + n + (cap' - (len + n)) = cap' by omega] at this
                      exact this
                  cases hs with
                  | flat hf => simp [flat] at hf
                  | slice ht hc =>
                    rename_i b o t'
                    obtain ⟨o', _, hr⟩ := h.obj _ _ _ hg ht
                    have hcond : o + cap * t'.sz = t'.len := by rw [hr.szEq.1, hr.szEq.2]; exact hend
                    rw [if_pos hcond]
                    exact fin _ _ t' ht (fun _ => rfl) (.inl ⟨rfl, rfl⟩)
                  | @slice0 b o o1 cap' t' ht hc =>
                    refine fin _ _ t' ht (fun e => absurd rfl e) ?_
                    rcases hc with hc | ⟨k1, k2, k3⟩
                    · subst hc; exact .inr (by omega)
                    · exact .inl ⟨by omega, by rw [k2]⟩
                · cases ha
            · cases ha
      · cases ha
    · cases ha
  · cases ha

end
end Go.Cre
end
