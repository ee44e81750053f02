/-
Regions that draw their order: one operation, in whatever order.
-/
import Derived.Test.YtmcccdgpmlacdaaGreatDoorCreU
noncomputable section
namespace Go.Cre
open Go.RowKit (Below)

section
variable {P : Program} {G : Gl} {B : Nat} {w0 : World} {R : Rec} {x : Known} {ρ : Ren} {σ : ASt} {w : World} {a : Act}

def upd (ρ : Ren) (b : Nat) (t : Tgt) : Ren := fun c => if c = b then some t else ρ c
theorem upd_sub {b : Nat} {t : Tgt} (hb : ρ b = none) : Sub ρ (upd ρ b t) := fun c u hc => by
  simp only [upd]
  split
  · rename_i e; rw [e, hb] at hc; cases hc
  · exact hc
theorem upd_self (ρ : Ren) (b : Nat) (t : Tgt) : upd ρ b t b = some t := by simp [upd]
theorem upd_ne {b c : Nat} {t : Tgt} (h : c ≠ b) : upd ρ b t c = ρ c := by simp [upd, h]

theorem WRel.settle (h : WRel B w0 ρ σ w) {b : Nat} {o : AObj} {o' : Obj} {t : Tgt} (hg : σ.get b = some o) (hb : ρ b = none) (ht : t.blk = w.heap.size) (ho : ORel (upd ρ b t) t o o') :
    WRel B w0 (upd ρ b t) σ { w with heap := w.heap.push o' } := by
  have hs : Sub ρ (upd ρ b t) := upd_sub hb
  refine ⟨h.below.alloc h.room o', ?_, ?_, ?_, ?_, ?_, h.bounded, ?_⟩
  · intro c t1 hc
    simp only [upd] at hc
    simp only [Array.size_push]
    split at hc
    · simp only [Option.some.injEq] at hc; subst hc; omega
    · have := h.lt c t1 hc; omega
  · intro c o1 t1 hgc hc
    simp only [upd] at hc
    split at hc
    · rename_i e
      rw [e, hg] at hgc
      simp only [Option.some.injEq] at hgc hc
      subst hgc; subst hc
      exact ⟨o', by rw [ht]; simp, ho⟩
    · obtain ⟨o2, h1, h2⟩ := h.obj c o1 t1 hgc hc
      refine ⟨o2, ?_, h2.mono hs⟩
      have := h.lt c t1 hc
      rw [Array.getElem?_push, if_neg (by omega)]; exact h1
  · intro c o1 t1 hgc hc hr
    simp only [upd] at hc
    split at hc
    · simp only [Option.some.injEq] at hc; subst hc; rw [ht]; exact h.room
    · exact h.own c o1 t1 hgc hc hr
  · intro c c' o1 o2 t1 t2 hgc hgc' hc hc' hblk
    simp only [upd] at hc hc'
    by_cases e : c = b
    · by_cases e' : c' = b
      · rw [e, e']
      · rw [if_pos e] at hc; rw [if_neg e'] at hc'
        simp only [Option.some.injEq] at hc; subst hc
        have := h.lt c' t2 hc'; omega
    · by_cases e' : c' = b
      · rw [if_neg e] at hc; rw [if_pos e'] at hc'
        simp only [Option.some.injEq] at hc'; subst hc'
        have := h.lt c t1 hc; omega
      · rw [if_neg e] at hc; rw [if_neg e'] at hc'
        exact h.inj c c' o1 o2 t1 t2 hgc hgc' hc hc' hblk
  · intro c hc
    have := h.bounded b o hg
    simp only [upd]
    rw [if_neg (by omega)]
    exact h.fresh c hc
  · simp only [Array.size_push]; have := h.room; omega

theorem allocA_sound (h : WRel B w0 ρ σ w) {ts : List Value} {o : Oper} {b : Nat} {v : Value} {obj : AObj} (ha : allocA P G ts o b = some (v, obj)) (hg : σ.get b = some obj) (hb : ρ b = none)
    (he0 : ∀ y, y ∈ o.op.operands.toList → okOp G y = true → VRel ρ (ev ts y) (a.eval y)) :
    ∃ t v' w', (execOp a.eval o).run P w = .ok (.value v') w' ∧ VRel (upd ρ b t) v v' ∧ WRel B w0 (upd ρ b t) σ w' := by
  unfold allocA at ha
  cases hok : o.op.operands.toList.all (okOp G) with
  | false => rw [hok] at ha; cases ha
  | true =>
    rw [hok] at ha
    simp only [cond_true] at ha
    have he : ∀ y, y ∈ o.op.operands.toList → VRel ρ (ev ts y) (a.eval y) := fun y hy => he0 y hy (List.all_eq_true.1 hok y hy)
    clear he0 hok
    have cell : ∀ {vs vs' : List Value} {t : TypeId}, LRel ρ vs vs' → σ.get b = some (.cells vs t vs.length false .no false) →
        VRel (upd ρ b ⟨w.heap.size, 0, vs.length, 0, vs.length, undef⟩) (.pointer (some ⟨b, 0, none⟩)) (.pointer (some ⟨w.heap.size, 0, none⟩)) ∧
        WRel B w0 (upd ρ b ⟨w.heap.size, 0, vs.length, 0, vs.length, undef⟩) σ { w with heap := w.heap.push (.cells ⟨vs'⟩ t) } := by
      intro vs vs' t hl hgb
      refine ⟨?_, h.settle (t := ⟨w.heap.size, 0, vs.length, 0, vs.length, undef⟩) hgb hb rfl ⟨vs', (0, 0), rfl, rfl, rfl, by simp [hl.length], by simpa [← hl.length] using hl.mono (upd_sub hb), fun _ => ⟨rfl, rfl⟩, rfl⟩⟩
      exact VRel.ptr (o := 0) (upd_self ρ b _)
    obtain ⟨dst, op, type, pos, after, guard⟩ := o
    simp only at ha
    split at ha
    · rename_i t
      split at ha
      · rename_i z hz
        simp only [Option.some.injEq, Prod.mk.injEq] at ha
        obtain ⟨rfl, rfl⟩ := ha
        obtain ⟨zv, h1, h2, h3⟩ := zeroT_run w hz
        obtain ⟨k1, k2⟩ := cell (flatL_refl (ρ := ρ) h3) hg
        have e : zv.cells = ⟨z⟩ := by rw [← h2]
        exact ⟨_, _, _, by simp [execOp, Instr.alloc, h1, newVar, e, newRow], k1, k2⟩
      · cases ha
    · rename_i t y
      cases hso : solid (ev ts y) with
      | false => rw [hso] at ha; cases ha
      | true =>
      rw [hso] at ha
      simp only [cond_true, Option.some.injEq, Prod.mk.injEq] at ha
      obtain ⟨rfl, rfl⟩ := ha
      obtain ⟨k1, k2⟩ := cell (cells_rel (he y (by simp [Op.operands])) hso) hg
      exact ⟨_, _, _, by simp [execOp, Instr.box, newVar, newRow], k1, k2⟩
    · rename_i t
      simp only [Option.some.injEq, Prod.mk.injEq] at ha
      obtain ⟨rfl, rfl⟩ := ha
      have hset := h.settle (t := ⟨w.heap.size, 0, 0, 0, 0, undef⟩) (o' := .map #[] 0) hg hb rfl ⟨[], rfl, .nil⟩
      exact ⟨⟨w.heap.size, 0, 0, 0, 0, undef⟩, .map (some w.heap.size), _, by simp [execOp, Instr.makeMap], .map (upd_self ρ b _), hset⟩
    · rename_i t len parts
      have hp := parts_rel (ρ := ρ) (ts := ts) (a := a) (parts := parts) (fun p hp => he _ (by
        simp only [Op.operands]; exact List.mem_map.2 ⟨p, hp, rfl⟩))
      split at ha
      · rename_i elem hu
        split at ha
        · rename_i n z hn hz
          cases hc : Nat.ble (len * n) 16777216 with
          | false => rw [hc] at ha; cases ha
          | true =>
            rw [hc] at ha
            simp only [cond_true] at ha
            have hc : len * n ≤ 16777216 := by simpa using hc
            split at ha
            · rename_i r hr
              simp only [Option.some.injEq, Prod.mk.injEq] at ha
              obtain ⟨rfl, rfl⟩ := ha
              obtain ⟨zv, hz1, hz2, hfl⟩ := zeroT_run w hz
              obtain ⟨r', h1, h2⟩ := fill_sound (ρ := ρ) _ _ _ _ _ _ hp (flatL_refl (zerosL_flat hfl (len * n))) hr
              have hrl := fillL_length hr
              rw [zerosL_length] at hrl
              have hset := h.settle (t := ⟨w.heap.size, 0, r.length, 0, n, undef⟩) (o' := .cells ⟨r'⟩ elem) hg hb rfl ⟨r', (0, 0), rfl, rfl, rfl, by simp [h2.length], by simpa [← h2.length] using h2.mono (upd_sub hb), fun _ => ⟨rfl, rfl⟩, rfl⟩
              refine ⟨⟨w.heap.size, 0, r.length, 0, n, undef⟩, .slice (some ⟨w.heap.size, 0, none⟩) len len, _, ?_, ?_, hset⟩
              · have hbig : ¬ (len * n > 2 ^ 24) := by omega
                have run : (Instr.buildSlice t len ⟨(parts.map fun (i, y) => (i, a.eval y)).toList⟩).run P w = .ok (.slice (some ⟨w.heap.size, 0, none⟩) len len) { w with heap := w.heap.push (.cells ⟨r'⟩ elem) } := by
                  clear hp
                  revert h1
                  generalize (parts.map fun (i, y) => (i, a.eval y)).toList = q
                  intro h1
                  by_cases h0 : len * n = 0
                  · have e5 := zeros_none (z := z)
                    simp only [h0] at h1
                    simp [Instr.buildSlice, und_run w hu, sizeT_run w hn, h0, e5, h1, newRow]
                  · have e5 := zerosL_eq zv (len * n)
                    rw [hz2] at e5
                    simp only [Instr.buildSlice, Sem.run_bind, und_run w hu, Result.andThen_ok, sizeT_run w hn, hbig, if_false, h0, Sem.run_pure, hz1, e5, h1, newRow, run_newObj]
                simp only [execOp, Sem.run_bind]
                exact (congrArg (fun r => Result.andThen r _) run).trans rfl
              · by_cases hl0 : len = 0
                · subst hl0
                  have hl0 : r.length = 0 := by omega
                  have := VRel.slice0 (ρ := upd ρ b ⟨w.heap.size, 0, r.length, 0, n, undef⟩) (o := 0) (o' := 0) (cap' := 0) (upd_self ρ b _) (.inr ⟨hl0.symm, rfl, rfl⟩)
                  simpa using this
                · have := VRel.slice (ρ := upd ρ b ⟨w.heap.size, 0, r.length, 0, n, undef⟩) (o := 0) (len := len) (upd_self ρ b _) hl0
                  simp only [Nat.zero_add, hrl, if_true] at this
                  simpa [hrl] using this
            · cases ha
        · cases ha
      · cases ha
    · rename_i t l c
      split at ha
      · rename_i l1 c1 elem el ec hu
        obtain ⟨k1, e1, _⟩ := natOf_some el (he l (by simp [Op.operands]))
        obtain ⟨k2, e2, _⟩ := natOf_some ec (he c (by simp [Op.operands]))
        split at ha
        · rename_i n z by_ hn hz hby
          cases hc : (Nat.beq l1 c1 && Nat.ble 1 c1 && Nat.ble c1 16777216 && Nat.ble (by_ * c1) 281474976710656) with
          | false => rw [hc] at ha; cases ha
          | true =>
            rw [hc] at ha
            simp only [cond_true, Option.some.injEq, Prod.mk.injEq] at ha
            obtain ⟨rfl, rfl⟩ := ha
            simp only [Bool.and_eq_true, Nat.ble_eq] at hc
            obtain ⟨⟨⟨b0, b1⟩, b2⟩, b3⟩ := hc
            obtain rfl := Nat.eq_of_beq_eq_true b0
            obtain ⟨i, hi, rfl⟩ := bytesT_run (w := w) hby
            obtain ⟨zv, hz1, hz2, hfl⟩ := zeroT_run w hz
            have hzl := zerosL_length z (l1 * n)
            have hset := h.settle (t := ⟨w.heap.size, 0, (zerosL z (l1 * n)).length, 0, n, undef⟩) (o' := .cells ⟨zerosL z (l1 * n)⟩ elem) hg hb rfl ⟨zerosL z (l1 * n), (0, 0), rfl, rfl, rfl, by simp, by simpa using flatL_refl (zerosL_flat hfl (l1 * n)), fun _ => ⟨rfl, rfl⟩, rfl⟩
            refine ⟨⟨w.heap.size, 0, (zerosL z (l1 * n)).length, 0, n, undef⟩, .slice (some ⟨w.heap.size, 0, none⟩) l1 l1, _, ?_, ?_, hset⟩
            · have wl := wrap_small (n := l1) (by omega)
              have t1 : ¬ ((281474976710656 : Int) < (i.bytes : Int) * (l1 : Int)) := by
                have : ((i.bytes * l1 : Nat) : Int) ≤ 281474976710656 := Int.ofNat_le.2 b3
                simp only [Int.natCast_mul] at this
                omega
              have t3 : ¬ ((l1 : Int) < 0) := by omega
              have run : (Instr.makeSlice t (a.eval l) (a.eval c)).run P w = .ok (.slice (some ⟨w.heap.size, 0, none⟩) l1 l1) { w with heap := w.heap.push (.cells ⟨zerosL z (l1 * n)⟩ elem) } := by
                rw [e1, e2]
                by_cases h0 : l1 * n = 0
                · have e5 := zeros_none (z := z)
                  rw [h0]
                  simp [Instr.makeSlice, und_run w hu, asInt, asIntOf, hi, wl, t1, t3, sizeT_run w hn, h0, e5, newRow]
                · have e5 := zerosL_eq zv (l1 * n)
                  rw [hz2] at e5
                  simp [Instr.makeSlice, und_run w hu, asInt, asIntOf, hi, wl, t1, t3, sizeT_run w hn, h0, hz1, e5, newRow]
              simp only [execOp, Sem.run_bind]
              exact (congrArg (fun r => Result.andThen r _) run).trans rfl
            · have := VRel.slice (ρ := upd ρ b ⟨w.heap.size, 0, (zerosL z (l1 * n)).length, 0, n, undef⟩) (o := 0) (len := l1) (cap := l1) (upd_self ρ b _) (by omega)
              simpa using this
        · cases ha
      · cases ha
    · cases ha

theorem readA_sound (hg : GOk P G ρ) (h : WRel B w0 ρ σ w) {ts : List Value} {o : Oper} {v : Value} (hr : readA P G ts o σ = some v) (he : ∀ y, y ∈ o.op.operands.toList → okOp G y = true → VRel ρ (ev ts y) (a.eval y)) : StepOk P B w0 ρ σ w a o v σ := by
  obtain ⟨hb, h1⟩ := readA_spec hr
  simp only [okRead, Bool.and_eq_true, Bool.not_eq_true'] at hb
  rcases h1 with h1 | h1
  · exact flatOp_sound h h1 hb.1.1 fun y hy => he y hy (List.all_eq_true.1 hb.2 y hy)
  · exact stepOp_sound_he hg h h1 he

theorem list_he {ts : List Value} {l : List Operand} (he : ∀ y, y ∈ l → VRel ρ (ev ts y) (a.eval y)) : LRel ρ (l.map (ev ts)) (l.map a.eval) := args_rel he

theorem writerA_sound (hp : POk P) (hR : RecOk P G B w0 R) (hx : KnownOk P G B w0 x) {ts tf : List Value} {ds : List Deferred} {o : Oper} {rs : List (Value × ASt)} (hw : writerA R x P G ts o σ = some rs) {rd : Option Nat} {F : Fence}
    (hg : GOk P G ρ) (hF : AtRd ρ rd F) (hfr : FrRel B w0 ρ ⟨tf, ds, σ⟩ a w) (he : ∀ y, y ∈ o.op.operands.toList → okOp G y = true → VRel ρ (ev ts y) (a.eval y))
    {next : Act → World → Prop} {Q : Exit → Act → World → Prop}
    (hn : ∀ r, r ∈ rs → ∀ ρ' a' w', Ext σ.next ρ ρ' → σ.next ≤ r.2.next → FrRel B w0 ρ' ⟨putT tf o.dst r.1, ds, r.2⟩ a' w' → next a' w') : o.wpIn F 0 P a w next Q := by
  unfold writerA at hw
  split at hw
  · rename_i f args ats hop
    cases hb : (okOp G f && args.toList.all (okOp G)) with
    | false => rw [hb] at hw; cases hw
    | true =>
      rw [hb] at hw
      simp only [cond_true] at hw
      simp only [Bool.and_eq_true] at hb
      have hmem : ∀ y, y = f ∨ y ∈ args.toList → y ∈ o.op.operands.toList := by
        intro y hy
        rw [hop]
        simp only [Op.operands, Call.operands]
        rcases hy with rfl | hy
        · simp
        · simp; exact .inr (by simpa using hy)
      exact callOp_sound hp hR hx hop hw hg hF hfr (he f (hmem f (.inl rfl)) hb.1) (args_rel fun y hy => he y (hmem y (.inr hy)) (List.all_eq_true.1 hb.2 y hy)) hn
  · cases hw
  · split at hw
    · rename_i r hr
      simp only [Option.some.injEq] at hw
      subst hw
      exact of_step (stepOp_sound_he hg hfr.w hr he) hfr hF fun ρ' a' w' h1 h2 h3 => hn r (List.mem_singleton.2 rfl) ρ' a' w' h1 h2 h3
    · cases hw

theorem objEq_eq {o o' : AObj} (h : objEq o o' = true) : o = o' := by
  unfold objEq at h
  split at h
  · simp only [Bool.and_eq_true] at h
    rw [veqL_eq (fun _ _ => veq_eq depth) h.1.1, Nat.eq_of_beq_eq_true h.1.2, Nat.eq_of_beq_eq_true h.2]
  · rfl
  · cases h

theorem dstIs_eq {ts : List Value} {o : Oper} {v : Value} (h : dstIs ts o v = true) {d : Tmp} (hd : o.dst = some d) : v = ts.getD d undef := by
  unfold dstIs at h
  rw [hd] at h
  rw [← getF_eq]
  exact veq_eq depth h

theorem idOf_mem {ids : List (Nat × Nat)} {i b : Nat} (h : idOf ids i = some b) : (i, b) ∈ ids := by
  induction ids with
  | nil => cases h
  | cons p r ih =>
    simp only [idOf] at h
    cases hb : Nat.beq p.1 i with
    | true =>
      rw [hb] at h
      simp only [cond_true, Option.some.injEq] at h
      have := Nat.eq_of_beq_eq_true hb
      obtain ⟨p1, p2⟩ := p
      simp only at this h
      rw [← this, ← h]
      exact List.mem_cons_self
    | false => rw [hb] at h; exact List.mem_cons_of_mem _ (ih h)

theorem ev_looks {all : List Oper} {o : Oper} {ts tf : List Value} (h : ∀ d, d ∈ looks all o → tf.getD d undef = ts.getD d undef) {y : Operand} (hy : y ∈ o.op.operands.toList) : ev tf y = ev ts y := by
  cases y with
  | tmp d =>
    simp only [ev, getF_eq]
    exact h d (List.mem_append_right _ (List.mem_filterMap.2 ⟨.tmp d, hy, rfl⟩))
  | _ => rfl

theorem wanted_looks {all : List Oper} {o : Oper} {ts tf : List Value} (hl : tf.length = ts.length) (h : ∀ d, d ∈ looks all o → tf.getD d undef = ts.getD d undef) : wantedA all tf o = wantedA all ts o := by
  unfold wantedA
  cases hg : o.guard with
  | none => rfl
  | some jw =>
    obtain ⟨j, want⟩ := jw
    simp only
    cases ho : all[j]? with
    | none => rfl
    | some o' =>
      simp only
      cases hd : o'.dst with
      | none => rfl
      | some d =>
        have h1 := h d (List.mem_append_left _ (by simp [hg, ho, hd]))
        have h2 : tf[d]? = ts[d]? := by
          by_cases hlt : d < ts.length
          · rw [List.getElem?_eq_getElem (hl ▸ hlt), List.getElem?_eq_getElem hlt]
            simp only [List.getD_eq_getElem?_getD, List.getElem?_eq_getElem (hl ▸ hlt : d < tf.length), List.getElem?_eq_getElem hlt, Option.getD_some] at h1
            rw [h1]
          · have h3 : ts.length ≤ d := Nat.le_of_not_lt hlt
            have h4 : tf.length ≤ d := hl ▸ h3
            rw [List.getElem?_eq_none h3, List.getElem?_eq_none h4]
        simp only [h2]
end
end Go.Cre
end
