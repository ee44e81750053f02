/-
Maps read and written; iterators over maps; bytes and strings.
-/
import Derived.Test.YtmcccdgpmlacdaaGreatDoorCreG
noncomputable section
namespace Go.Cre
open Go.RowKit (Below)

section
variable {P : Program} {B : Nat} {w0 : World} {ρ : Ren} {σ : ASt} {w : World}

/-! ### Looking up -/

def FRel (ρ : Ren) : Option (Nat × Value) → Option (Nat × Value) → Prop
  | none, none => True
  | some (i, v), some (j, v') => i = j ∧ VRel ρ v v'
  | _, _ => False

theorem findNow_rel {d : TypeDesc} {k : Value} {es es' : List MapEntry} (h : ERel ρ es es') : ∀ (i : Nat),
    (Instr.findNow d k es i = none → Instr.findNow d k es' i = none) ∧ (∀ r, Instr.findNow d k es i = some r → ∃ r', Instr.findNow d k es' i = some r' ∧ FRel ρ r r') := by
  induction h with
  | nil => intro i; exact ⟨fun h => h, fun r hr => ⟨none, rfl, by simp only [Instr.findNow, Option.some.injEq] at hr; subst hr; trivial⟩⟩
  | cons hk hv hl ih =>
    rename_i key v v' b l l'
    intro i
    simp only [Instr.findNow]
    cases hs : Instr.sameNow d k key with
    | none => exact ⟨fun _ => rfl, fun r hr => by cases hr⟩
    | some bb => cases bb with
      | true => exact ⟨(fun h => by cases h), fun r hr => ⟨_, rfl, by simp only [Option.some.injEq] at hr; subst hr; exact ⟨rfl, hv⟩⟩⟩
      | false => exact ih (i + 1)

theorem findAsking_rel {kt : TypeId} {k : Value} {es es' : List MapEntry} (h : ERel ρ es es') : ∀ (i : Nat) (r : Option (Nat × Value)),
    pureRun P (Instr.findAsking kt k es i) = some r → ∃ r', (Instr.findAsking kt k es' i).run P w = .ok r' w ∧ FRel ρ r r' := by
  induction h with
  | nil =>
    intro i r hr
    simp only [Instr.findAsking] at hr
    have : r = none := by simpa [pureRun, pure] using hr.symm
    subst this
    exact ⟨none, rfl, trivial⟩
  | cons hk hv hl ih =>
    rename_i key v v' b l l'
    intro i r hr
    simp only [Instr.findAsking, pureRun_bind] at hr
    cases he : pureRun P (Op.equal kt k key) with
    | none => rw [he] at hr; cases hr
    | some bb =>
      rw [he] at hr
      simp only [Option.bind_some] at hr
      have hrun := pureRun_run he w
      simp only [Instr.findAsking, Sem.run_bind, hrun, Result.andThen_ok]
      cases bb with
      | true =>
        have : r = some (i, v) := by simpa [pureRun, pure] using hr.symm
        subst this
        exact ⟨some (i, v'), rfl, rfl, hv⟩
      | false => exact ih (i + 1) r (by simpa using hr)

def findA (P : Program) (kt : TypeId) (k : Value) (es : List MapEntry) : Option (Option (Nat × Value)) :=
  match P.underlying kt with
  | some d => match Instr.findNow d k es 0 with
    | some r => some r
    | none => pureRun P (Instr.findAsking kt k es 0)
  | none => none

theorem findA_sound {kt : TypeId} {k : Value} {es es' : List MapEntry} (he : ERel ρ es es') {r : Option (Nat × Value)} (h : findA P kt k es = some r) :
    ∃ r', (Instr.findKey kt k es').run P w = .ok r' w ∧ FRel ρ r r' := by
  unfold findA at h
  split at h
  · rename_i d hu
    have hn := findNow_rel (d := d) (k := k) he 0
    split at h
    · rename_i r0 h0
      simp only [Option.some.injEq] at h
      subst h
      obtain ⟨r', h1, h2⟩ := hn.2 _ h0
      exact ⟨r', by simp [Instr.findKey, und_run w hu, h1], h2⟩
    · rename_i h0
      obtain ⟨r', h1, h2⟩ := findAsking_rel (P := P) (w := w) he 0 r h
      exact ⟨r', by simp [Instr.findKey, und_run w hu, hn.1 h0, h1], h2⟩
  · cases h

theorem ERel.isEmpty {es es' : List MapEntry} (he : ERel ρ es es') : es'.isEmpty = es.isEmpty := by cases he <;> rfl
theorem ERel.length {es es' : List MapEntry} (he : ERel ρ es es') : es'.length = es.length := by induction he <;> simp_all

def keyOk (P : Program) (empty : Bool) (kt : TypeId) (k : Value) : Bool := flat2 k && (pureRun P (Instr.checkKey empty 10000 kt k)).isSome
theorem keyOk_run {empty : Bool} {kt : TypeId} {k k' : Value} (h : keyOk P empty kt k = true) (hk : VRel ρ k k') : k' = k ∧ flat2 k = true ∧ (Instr.checkKey empty 10000 kt k).run P w = .ok () w := by
  simp only [keyOk, Bool.and_eq_true] at h
  obtain ⟨u, hu⟩ := Option.isSome_iff_exists.1 h.2
  exact ⟨flat2_eq h.1 hk, h.1, pureRun_run hu w⟩

def entriesA (σ : ASt) (x : Value) : Option (List MapEntry) :=
  match x with
  | .map none => some []
  | .map (some r) => match σ.get r with
    | some (.map es _) => some es
    | _ => none
  | _ => none

def lookupA (P : Program) (σ : ASt) (t : TypeId) (x i : Value) (ok : Bool) : Option Value :=
  match P.underlying t, entriesA σ x with
  | some (.map kt et), some es =>
    bif keyOk P es.isEmpty kt i then
      match findA P kt i es with
      | some (some (_, v)) => some (bif ok then .tuple ⟨[v, .bool true]⟩ else v)
      | some none => match zeroV P et with
        | some z => some (bif ok then .tuple ⟨[z, .bool false]⟩ else z)
        | none => none
      | none => none
    else none
  | _, _ => none

theorem entriesA_sound (h : WRel B w0 ρ σ w) {x x' : Value} {es : List MapEntry} (he : entriesA σ x = some es) (hx : VRel ρ x x') :
    ∃ es', ERel ρ es es' ∧ ((x' = .map none ∧ es' = []) ∨ ∃ r c, x' = .map (some r) ∧ w.heap[r]? = some (.map ⟨es'⟩ c)) := by
  unfold entriesA at he
  split at he
  · simp only [Option.some.injEq] at he
    subst he
    cases hx
    exact ⟨[], .nil, .inl ⟨rfl, rfl⟩⟩
  · rename_i r
    split at he
    · rename_i es0 c hg
      simp only [Option.some.injEq] at he
      subst he
      cases hx with
      | flat hf => simp [flat] at hf
      | map ht =>
        rename_i t'
        obtain ⟨o', ho, es', rfl, hr⟩ := h.obj _ _ _ hg ht
        exact ⟨es', hr, .inr ⟨t'.blk, c, rfl, ho⟩⟩
    · cases he
  · cases he

theorem run_getObj_map {r c : Nat} {es : Array MapEntry} (h : w.heap[r]? = some (.map es c)) : (getObj r).run P w = .ok (.map es c) w := by
  simp [getObj, Sem.run, h]

theorem lookupA_sound (h : WRel B w0 ρ σ w) {t : TypeId} {x x' i i' v : Value} {ok : Bool} (hl : lookupA P σ t x i ok = some v) (hx : VRel ρ x x') (hi : VRel ρ i i') :
    ∃ v', (Instr.lookup t x' i' ok).run P w = .ok v' w ∧ VRel ρ v v' := by
  unfold lookupA at hl
  split at hl
  · rename_i kt et es hu he
    obtain ⟨es', her, hcase⟩ := entriesA_sound h he hx
    cases hk : keyOk P es.isEmpty kt i with
    | false => rw [hk] at hl; cases hl
    | true =>
      rw [hk] at hl
      simp only [cond_true] at hl
      obtain ⟨rfl, hkf, hck⟩ := keyOk_run (P := P) (w := w) hk hi
      rw [← her.isEmpty] at hck
      have key : ∀ (r : Option (Nat × Value)), (Instr.findKey kt i' es').run P w = .ok r w → (Instr.lookup t x' i' ok).run P w =
          (match r with
           | some (_, v) => (.ok (if ok then .tuple #[v, .bool true] else v) w : Result Value)
           | none => ((zeroValue et).run P w).andThen fun z w => .ok (if ok then .tuple #[z, .bool false] else z) w) := by
        intro r hr
        rcases hcase with ⟨rfl, rfl⟩ | ⟨b, c, rfl, hb⟩
        · have hck' : (Instr.checkKey (#[] : Array MapEntry).isEmpty 10000 kt i').run P w = .ok () w := hck
          simp only [Instr.lookup, Sem.run_bind, und_run w hu, Result.andThen_ok, Sem.run_pure, hck', hr]
          cases r with
          | none => simp
          | some p => obtain ⟨j, v⟩ := p; simp
        · have hck' : (Instr.checkKey (⟨es'⟩ : Array MapEntry).isEmpty 10000 kt i').run P w = .ok () w := by simpa using hck
          simp only [Instr.lookup, Sem.run_bind, und_run w hu, Result.andThen_ok, run_getObj_map hb, Sem.run_pure, hck', hr]
          cases r with
          | none => simp
          | some p => obtain ⟨j, v⟩ := p; simp
      split at hl
      · rename_i j v0 hf
        obtain ⟨r', h1, h2⟩ := findA_sound (P := P) (w := w) her hf
        cases r' with
        | none => exact h2.elim
        | some p =>
          obtain ⟨j', v'⟩ := p
          have := key _ h1
          simp only [Option.some.injEq] at hl
          subst hl
          refine ⟨_, this, ?_⟩
          cases ok
          · exact h2.2
          · exact .tuple (.cons h2.2 (.cons (.flat rfl) .nil))
      · rename_i hf
        obtain ⟨r', h1, h2⟩ := findA_sound (P := P) (w := w) her hf
        cases r' with
        | some p => exact h2.elim
        | none =>
          have := key _ h1
          split at hl
          · rename_i z hz
            obtain ⟨hz1, hz2⟩ := zeroV_run w hz
            simp only [Option.some.injEq] at hl
            subst hl
            simp only [hz1, Result.andThen_ok] at this
            refine ⟨_, this, ?_⟩
            cases ok
            · exact flat2_refl hz2
            · exact .tuple (.cons (flat2_refl hz2) (.cons (.flat rfl) .nil))
          · cases hl
      · cases hl
  · cases hl

/-! ### Storing -/

def setAtL (es : List MapEntry) (i : Nat) (k v : Value) : List MapEntry :=
  match es, i with
  | [], _ => []
  | e :: es, 0 => ⟨k, v, e.born⟩ :: es
  | e :: es, i + 1 => e :: setAtL es i k v

theorem ERel.setAt {es es' : List MapEntry} (h : ERel ρ es es') {k v v' : Value} (hk : flat2 k = true) (hv : VRel ρ v v') (i : Nat) : ERel ρ (setAtL es i k v) (setAtL es' i k v') := by
  induction h generalizing i with
  | nil => exact .nil
  | cons hk' hv' hl ih => cases i with
    | zero => exact .cons hk hv hl
    | succ i => exact .cons hk' hv' (ih i)

theorem modify_setAt (es : List MapEntry) (i : Nat) (k v : Value) : (⟨es⟩ : Array MapEntry).modify i (fun e => { e with key := k, val := v }) = ⟨setAtL es i k v⟩ := by
  apply Array.ext'
  simp only [Array.toList_modify]
  induction es generalizing i with
  | nil => simp [setAtL]
  | cons e es ih => cases i with
    | zero => simp [setAtL]
    | succ i => simp [setAtL, ih]

theorem ERel.snoc {es es' : List MapEntry} (h : ERel ρ es es') {k v v' : Value} {b : Nat} (hk : flat2 k = true) (hv : VRel ρ v v') : ERel ρ (es ++ [⟨k, v, b⟩]) (es' ++ [⟨k, v', b⟩]) := by
  induction h with
  | nil => exact .cons hk hv .nil
  | cons hk' hv' hl ih => exact .cons hk' hv' ih

theorem ERel.key {es es' : List MapEntry} (h : ERel ρ es es') (i : Nat) : (es'[i]?).map (·.key) = (es[i]?).map (·.key) := by
  induction h generalizing i with
  | nil => rfl
  | cons hk hv hl ih => cases i with
    | zero => rfl
    | succ i => simpa using ih i

def updateA (P : Program) (σ : ASt) (t : TypeId) (m k x : Value) : Option ASt :=
  match P.underlying t, m with
  | some (.map kt _), .map (some r) => match σ.get r with
    | some (.map es c) =>
      bif keyOk P false kt k then
        match findA P kt k es with
        | some (some (i, _)) => match es[i]? with
          | some e => bif Instr.sameBits 10000 e.key k then some (σ.put r (.map (setAtL es i k x) c)) else none
          | none => none
        | some none => some (σ.put r (.map (es ++ [⟨k, x, c⟩]) (c + 1)))
        | none => none
      else none
    | _ => none
  | _, _ => none

theorem updateA_sound (h : WRel B w0 ρ σ w) {t : TypeId} {m m' k k' x x' : Value} {σ' : ASt} (hu : updateA P σ t m k x = some σ') (hm : VRel ρ m m') (hk : VRel ρ k k') (hx : VRel ρ x x') :
    ∃ w', (Instr.mapUpdate t m' k' x').run P w = .ok () w' ∧ WRel B w0 ρ σ' w' ∧ σ'.next = σ.next := by
  unfold updateA at hu
  split at hu
  · rename_i kt et r hut
    split at hu
    · rename_i es c hg
      cases hm with
      | flat hf => simp [flat] at hf
      | map ht =>
        rename_i t'
        obtain ⟨o', ho, es', rfl, her⟩ := h.obj _ _ _ hg ht
        cases hko : keyOk P false kt k with
        | false => rw [hko] at hu; cases hu
        | true =>
          rw [hko] at hu
          simp only [cond_true] at hu
          obtain ⟨rfl, hkf, hck⟩ := keyOk_run (P := P) (w := w) hko hk
          have hset : ∀ (o : Obj), (setObj t'.blk o).run P w = .ok () { w with heap := w.heap.setIfInBounds t'.blk o } := by
            intro o; simp [setObj, Sem.run, ho]
          split at hu
          · rename_i i v0 hf
            obtain ⟨r', h1, h2⟩ := findA_sound (P := P) (w := w) her hf
            cases r' with
            | none => exact h2.elim
            | some p =>
              obtain ⟨j', v'⟩ := p
              obtain ⟨rfl, h2⟩ := h2
              split at hu
              · rename_i e hei
                cases hsb : Instr.sameBits 10000 e.key k' with
                | false => rw [hsb] at hu; cases hu
                | true =>
                  rw [hsb] at hu
                  simp only [cond_true, Option.some.injEq] at hu
                  subst hu
                  have hke := her.key i
                  rw [hei] at hke
                  refine ⟨{ w with heap := w.heap.setIfInBounds t'.blk (.map ⟨setAtL es' i k' x'⟩ c) }, ?_, h.set hg ht rfl ⟨_, rfl, her.setAt hkf hx i⟩, rfl⟩
                  simp only [Instr.mapUpdate, Sem.run_bind, und_run w hut, Result.andThen_ok, run_getObj_map ho, hck, h1]
                  have e1 : (((⟨es'⟩ : Array MapEntry)[i]?).map (·.key)).getD k' = e.key := by simp [hke]
                  rw [e1]
                  simp only [Instr.keyThatStays, hsb, if_true, Sem.run_pure, Result.andThen_ok, modify_setAt, hset]
              · cases hu
          · rename_i hf
            obtain ⟨r', h1, h2⟩ := findA_sound (P := P) (w := w) her hf
            cases r' with
            | some p => exact h2.elim
            | none =>
              simp only [Option.some.injEq] at hu
              subst hu
              refine ⟨{ w with heap := w.heap.setIfInBounds t'.blk (.map ⟨es' ++ [⟨k', x', c⟩]⟩ (c + 1)) }, ?_, h.set hg ht rfl ⟨_, rfl, her.snoc hkf hx⟩, rfl⟩
              simp only [Instr.mapUpdate, Sem.run_bind, und_run w hut, Result.andThen_ok, run_getObj_map ho, hck, h1]
              have e1 : (⟨es'⟩ : Array MapEntry).push { key := k', val := x', born := c } = ⟨es' ++ [⟨k', x', c⟩]⟩ := by simp
              rw [e1, hset]
          · cases hu
    · cases hu
  · cases hu

end
end Go.Cre
end
