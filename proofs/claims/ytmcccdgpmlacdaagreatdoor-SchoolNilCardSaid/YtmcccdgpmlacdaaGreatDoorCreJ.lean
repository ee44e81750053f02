/-
The entry under an iterator; the builtins.
-/
import Derived.Test.YtmcccdgpmlacdaaGreatDoorCreI
noncomputable section
namespace Go.Cre
open Go.RowKit (Below)

section
variable {P : Program} {B : Nat} {w0 : World} {ρ : Ren} {σ : ASt} {w : World}

def entryA (σ : ASt) (x : Value) : Option Value :=
  match x with
  | .pointer (some ⟨r, 0, _⟩) => match σ.get r with
    | some (.mapIter (some m) _ seen stepped) => match seen.getLast?, σ.get m with
      | some stamp, some (.map es c) => bif Nat.beq c stepped then
          match es.find? (fun e => e.born == stamp) with
          | some e => some (.tuple ⟨[e.key, e.val]⟩)
          | none => none
        else none
      | _, _ => none
    | _ => none
  | _ => none

theorem entryA_sound (h : WRel B w0 ρ σ w) {x x' v : Value} (hn : entryA σ x = some v) (hx : VRel ρ x x') :
    ∃ v', (Instr.entry x').run P w = .ok v' w ∧ VRel ρ v v' := by
  unfold entryA at hn
  split at hn
  · rename_i r sp
    cases hx with
    | flat hf => simp [flat] at hf
    | ptr ht =>
    rename_i t'
    split at hn
    · rename_i m since seen stepped hg
      split at hn
      · rename_i stamp es c hs hgm
        obtain ⟨o', ho, h0, tm, htm, rfl⟩ := h.obj _ _ _ hg ht
        obtain ⟨om, hom, es', rfl, her⟩ := h.obj _ _ _ hgm htm
        rw [h0]
        cases hb : Nat.beq c stepped with
        | false => rw [hb] at hn; cases hn
        | true =>
          rw [hb] at hn
          simp only [cond_true] at hn
          have hb := Nat.eq_of_beq_eq_true hb
          subst hb
          split at hn
          · rename_i e he
            simp only [Option.some.injEq] at hn
            subst hn
            obtain ⟨hkf, v', hf, hv⟩ := her.find (fun b => b == stamp) e he
            refine ⟨.tuple #[e.key, v'], ?_, .tuple (.cons (flat2_refl hkf) (.cons hv .nil))⟩
            have hback : (⟨seen⟩ : Array Nat).back? = some stamp := by simpa [Array.back?, List.getLast?_eq_getElem?] using hs
            have hfa : (⟨es'⟩ : Array MapEntry).find? (fun e => e.born == stamp) = some ⟨e.key, v', e.born⟩ := by simpa using hf
            simp only [Instr.entry, Nat.zero_add, Sem.run_bind, run_getObj_iter ho, Result.andThen_ok, hback, run_getObj_map hom, bne_self_eq_false, Bool.false_eq_true, if_false, hfa, Sem.run_pure]
          · cases hn
      · cases hn
    · cases hn
  · cases hn

/-! ### len, cap -/

def lenA (P : Program) (σ : ASt) (t : Option TypeId) (x : Value) : Option Value :=
  match t.bind P.underlying, x with
  | some (.slice _), .slice _ n _ => some (.int .i64 n)
  | some (.array n _), .agg _ => some (.int .i64 n)
  | some (.pointer e), .pointer _ => match P.underlying e with
    | some (.array n _) => some (.int .i64 n)
    | _ => none
  | some (.map _ _), .map (some r) => match σ.get r with
    | some (.map es _) => some (.int .i64 es.length)
    | _ => none
  | _, _ => none

theorem lenA_sound (h : WRel B w0 ρ σ w) {ts : Array TypeId} {ty : TypeId} {x x' v : Value} (hl : lenA P σ ts[0]? x = some v) (hx : VRel ρ x x') :
    ∃ v', (Builtin.len_ ts ty #[x']).run P w = .ok v' w ∧ VRel ρ v v' := by
  unfold lenA at hl
  cases ht : ts[0]? with
  | none => rw [ht] at hl; simp at hl
  | some t =>
    rw [ht] at hl
    simp only [Option.bind_some] at hl
    have fin : ∀ (d : TypeDesc) (r : Result Value), P.underlying t = some d → ((do
        match d, x' with
        | .string, .string s => pure (goInt s.size)
        | .array n _, _ => pure (goInt n)
        | .pointer arr, _ => do
          let .array n _ ← underlying arr | stuck "len: pointer to array expected"
          pure (goInt n)
        | .slice _, .slice _ n _ => pure (goInt n)
        | .map _ _, .map none | .chan _ _, .chan none => pure (goInt 0)
        | .map _ _, .map (some r) => do
          let .map entries _ ← getObj r | stuck "len: map expected"
          pure (goInt entries.size)
        | .chan _ _, .chan (some r) => do
          let .chan _ buf _ _ _ timer ← getObj r | stuck "len: channel expected"
          pure (goInt (if timer then 0 else buf.size))
        | _, _ => stuck "len: string, array, pointer to array, slice, map or channel expected" : Sem Value)).run P w = r → (Builtin.len_ ts ty #[x']).run P w = r := by
      intro d r hu hr
      rw [← hr]
      have : (#[x'] : Array Value)[0]? = some x' := rfl
      simp only [Builtin.len_, ht, this, Sem.run_bind, und_run w hu, Result.andThen_ok]
      rfl
    split at hl
    · rename_i e a n c hu
      simp only [Option.some.injEq] at hl
      subst hl
      refine ⟨.int .i64 n, fin _ _ hu ?_, .flat rfl⟩
      cases hx <;> rfl
    · rename_i n e cs hu
      simp only [Option.some.injEq] at hl
      subst hl
      exact ⟨.int .i64 n, fin _ _ hu rfl, .flat rfl⟩
    · rename_i e a hu
      split at hl
      · rename_i n e' hu2
        simp only [Option.some.injEq] at hl
        subst hl
        exact ⟨.int .i64 n, fin _ _ hu (by simp only [Sem.run_bind, und_run w hu2, Result.andThen_ok]; rfl), .flat rfl⟩
      · cases hl
    · rename_i k e r hu
      split at hl
      · rename_i es c hg
        simp only [Option.some.injEq] at hl
        subst hl
        cases hx with
        | flat hf => simp [flat] at hf
        | map htm =>
          rename_i t'
          obtain ⟨o', ho, es', rfl, her⟩ := h.obj _ _ _ hg htm
          refine ⟨.int .i64 es.length, fin _ _ hu ?_, .flat rfl⟩
          simp only [Sem.run_bind, run_getObj_map ho, Result.andThen_ok]
          simp [goInt, her.length]
      · cases hl
    · cases hl

def capA (P : Program) (σ : ASt) (t : Option TypeId) (x : Value) : Option Value :=
  match t.bind P.underlying, x with
  | some (.slice _), .slice none _ c => some (.int .i64 c)
  | some (.slice _), .slice (some a) _ c => match σ.get a.block with
    | some (.cells vs _ sz opn _ _) => bif opn && Nat.beq (a.off + c * sz) vs.length then none else some (.int .i64 c)
    | _ => none
  | _, _ => none

theorem capA_sound (h : WRel B w0 ρ σ w) {ts : Array TypeId} {ty : TypeId} {x x' v : Value} (hl : capA P σ ts[0]? x = some v) (hx : VRel ρ x x') :
    ∃ v', (Builtin.cap_ ts ty #[x']).run P w = .ok v' w ∧ VRel ρ v v' := by
  unfold capA at hl
  cases ht : ts[0]? with
  | none => rw [ht] at hl; simp at hl
  | some t =>
    rw [ht] at hl
    simp only [Option.bind_some] at hl
    have fin : ∀ (e : TypeId) (a : Option Addr) (n c : Nat), P.underlying t = some (.slice e) → x' = .slice a n c → (Builtin.cap_ ts ty #[x']).run P w = .ok (.int .i64 c) w := by
      intro e a n c hu hx'
      subst hx'
      simp [Builtin.cap_, ht, und_run w hu, goInt]
    split at hl
    · rename_i e n c hu
      simp only [Option.some.injEq] at hl
      subst hl
      have := flat_eq (v := .slice none n c) rfl hx
      exact ⟨_, fin _ _ _ _ hu this, .flat rfl⟩
    · rename_i e a n c hu
      split at hl
      · rename_i vs el sz opn fr ro hg
        cases hb : (opn && Nat.beq (a.off + c * sz) vs.length) with
        | true => rw [hb] at hl; cases hl
        | false =>
          rw [hb] at hl
          simp only [cond_false, Option.some.injEq] at hl
          subst hl
          simp only [Bool.and_eq_false_iff] at hb
          cases hx with
          | flat hf => simp [flat] at hf
          | slice htt hc =>
            rename_i b o t'
            obtain ⟨o', _, hr⟩ := h.obj _ _ _ hg htt
            have e0 : (if o + c * t'.sz = t'.len then t'.extra else 0) = 0 := by
              rcases hb with hb | hb
              · subst hb; rw [hr.closed]; simp
              · rw [if_neg]
                intro hcon
                rw [hr.szEq.1, hr.szEq.2] at hcon
                simp only at hb
                rw [hcon, Nat.beq_refl] at hb
                cases hb
            exact ⟨.int .i64 c, fin _ _ _ c hu (by rw [e0, Nat.add_zero]), .flat rfl⟩
          | slice0 htt hc =>
            rename_i b o o1 cap' t'
            obtain ⟨o', _, hr⟩ := h.obj _ _ _ hg htt
            have e0 : cap' = 0 := by
              rcases hc with hc | ⟨h1, _, h3⟩
              · exact hc
              · rcases hb with hb | hb
                · subst hb; rw [h3]; exact hr.closed
                · exfalso
                  simp only [Nat.zero_mul, Nat.add_zero] at hb
                  rw [h1, hr.szEq.2, Nat.beq_refl] at hb
                  cases hb
            subst e0
            exact ⟨_, fin _ _ _ _ hu rfl, .flat rfl⟩
      · cases hl
    · cases hl

/-! ### The cells that copy and append take -/

def lenOfA (x : Value) : Option Nat :=
  match x with
  | .slice _ n _ => some n
  | .string s => some s.size
  | _ => none

def firstA (σ : ASt) (sz n : Nat) (x : Value) : Option (List Value) :=
  match x with
  | .slice none _ _ => some []
  | .slice (some a) _ _ => loadN σ a (n * sz)
  | .string s => some ((byteVals s).take n)
  | _ => none

theorem lenOfA_run {x x' : Value} {n : Nat} (h : lenOfA x = some n) (hx : VRel ρ x x') : (Builtin.lenOf x').run P w = .ok n w := by
  unfold lenOfA at h
  split at h
  · simp only [Option.some.injEq] at h; subst h; cases hx <;> rfl
  · simp only [Option.some.injEq] at h; subst h; cases hx; rfl
  · cases h

theorem firstA_run (h : WRel B w0 ρ σ w) {x x' : Value} {sz n : Nat} {vs : List Value} (hf : firstA σ sz n x = some vs) (hx : VRel ρ x x') (hn : ∀ m, lenOfA x = some m → n ≤ m) :
    ∃ ys, (Builtin.firstCells sz n x').run P w = .ok ⟨ys⟩ w ∧ LRel ρ vs ys := by
  unfold firstA at hf
  split at hf
  · simp only [Option.some.injEq] at hf; subst hf; cases hx; exact ⟨[], rfl, .nil⟩
  · rename_i a len cap
    cases hx with
    | flat hf => simp [flat] at hf
    | slice ht hc =>
      obtain ⟨ys, h1, h2, _⟩ := loadN_sound (P := P) h hf ht
      exact ⟨ys, h1, h2⟩
    | slice0 ht hc =>
      have : n = 0 := by have := hn 0 rfl; omega
      subst this
      have hv : vs = [] := by
        unfold loadN at hf
        split at hf
        · simp at hf; exact hf
        · cases hf
      subst hv
      exact ⟨[], by simp [Builtin.firstCells, loadCells, loadCellsFrom], .nil⟩
  · rename_i s
    simp only [Option.some.injEq] at hf
    subst hf
    cases hx
    refine ⟨(byteVals s).take n, ?_, (flatL_refl (byteVals_flat s)).take n⟩
    have : ((s.extract 0 n).data.map fun b => Value.int .u8 b.toNat) = ⟨(byteVals s).take n⟩ := by
      apply Array.ext'
      simp [byteVals, ByteArray.extract, ByteArray.copySlice, List.extract_eq_take_drop]
    simp only [Builtin.firstCells, this, Sem.run_pure]
  · cases hf

/-! ### copy, delete, clear -/

def copyA (P : Program) (σ : ASt) (t : Option TypeId) (d s : Value) : Option (Value × ASt) :=
  match t.bind P.underlying, d, lenOfA s with
  | some (.slice elem), .slice base dl _, some sl => match sizeT P elem, firstA σ ((sizeT P elem).getD 0) (Nat.min sl dl) s with
    | some _, some vs => match base with
      | none => bif Nat.beq (Nat.min sl dl) 0 then some (.int .i64 0, σ) else none
      | some a => bif Nat.beq (Nat.min sl dl) 0 then bif vs.isEmpty then some (.int .i64 0, σ) else none else match storeN σ a vs with
        | some σ' => some (.int .i64 (Nat.min sl dl), σ')
        | none => none
    | _, _ => none
  | _, _, _ => none

theorem loadN_zero {a : Addr} {vs : List Value} (h : loadN σ a 0 = some vs) : vs = [] := by
  unfold loadN at h
  split at h
  · simp at h; exact h
  · cases h

theorem copyA_sound (h : WRel B w0 ρ σ w) {ts : Array TypeId} {ty : TypeId} {d d' s s' v : Value} {σ' : ASt} (hc : copyA P σ ts[0]? d s = some (v, σ')) (hd : VRel ρ d d') (hs : VRel ρ s s') :
    (∃ v' w', (Builtin.copy_ ts ty #[d', s']).run P w = .ok v' w' ∧ VRel ρ v v' ∧ WRel B w0 ρ σ' w') ∧ σ'.next = σ.next := by
  unfold copyA at hc
  cases ht : ts[0]? with
  | none => rw [ht] at hc; simp at hc
  | some t =>
    rw [ht] at hc
    simp only [Option.bind_some] at hc
    split at hc
    · rename_i elem base dl dc sl hu hsl
      split at hc
      · rename_i sz vs hsz hvs
        rw [hsz, Option.getD_some] at hvs
        have hlen := lenOfA_run (P := P) (w := w) hsl hs
        obtain ⟨ys, h1, h2⟩ := firstA_run (P := P) h hvs hs (fun m hm => by rw [hsl] at hm; simp only [Option.some.injEq] at hm; subst hm; exact Nat.min_le_left _ _)
        have e0 : (#[d', s'] : Array Value)[0]? = some d' := rfl
        have e1 : (#[d', s'] : Array Value)[1]? = some s' := rfl
        split at hc
        · have := flat_eq (v := .slice none dl dc) rfl hd
          subst this
          cases hb : Nat.beq (Nat.min sl dl) 0 with
          | false => rw [hb] at hc; cases hc
          | true =>
            rw [hb] at hc
            simp only [cond_true, Option.some.injEq, Prod.mk.injEq] at hc
            obtain ⟨rfl, rfl⟩ := hc
            have hb := Nat.eq_of_beq_eq_true hb
            refine ⟨⟨.int .i64 0, w, ?_, .flat rfl, h⟩, rfl⟩
            simp only [Builtin.copy_, ht, e0, e1, Sem.run_bind, und_run w hu, Result.andThen_ok, hlen, sizeT_run w hsz, h1, Sem.run_pure]
            simp only [hb]
            rfl
        · rename_i a
          have run : ∀ (a' : Addr) (c' : Nat) (w' : World), (storeCells a' ys).run P w = .ok () w' → (Builtin.copy_ ts ty #[.slice (some a') dl c', s']).run P w = .ok (.int .i64 (Nat.min sl dl)) w' := by
            intro a' c' w' hst
            have e0 : (#[Value.slice (some a') dl c', s'] : Array Value)[0]? = some (.slice (some a') dl c') := rfl
            have e1 : (#[Value.slice (some a') dl c', s'] : Array Value)[1]? = some s' := rfl
            simp only [Builtin.copy_, ht, e0, e1, Sem.run_bind, und_run w hu, Result.andThen_ok, hlen, sizeT_run w hsz, h1, hst, Sem.run_pure]
            rfl
          cases hb : Nat.beq (Nat.min sl dl) 0 with
          | true =>
            rw [hb] at hc
            simp only [cond_true] at hc
            cases hv : vs.isEmpty with
            | false => rw [hv] at hc; cases hc
            | true =>
              rw [hv] at hc
              simp only [cond_true, Option.some.injEq, Prod.mk.injEq] at hc
              obtain ⟨rfl, rfl⟩ := hc
              have hb := Nat.eq_of_beq_eq_true hb
              have hv : vs = [] := List.isEmpty_iff.1 hv
              subst hv
              have hys : ys = [] := by cases h2; rfl
              subst hys
              have e : (.int .i64 ((Nat.min sl dl : Nat) : Int) : Value) = .int .i64 0 := by rw [hb]; rfl
              cases hd with
              | flat hf => simp [flat] at hf
              | slice htt hcc => exact ⟨⟨_, w, by rw [← e]; exact run _ _ w rfl, .flat rfl, h⟩, rfl⟩
              | slice0 htt hcc => exact ⟨⟨_, w, by rw [← e]; exact run _ _ w rfl, .flat rfl, h⟩, rfl⟩
          | false =>
            rw [hb] at hc
            simp only [cond_false] at hc
            split at hc
            · rename_i σ1 hst
              simp only [Option.some.injEq, Prod.mk.injEq] at hc
              obtain ⟨rfl, rfl⟩ := hc
              cases hd with
              | flat hf => simp [flat] at hf
              | slice htt hcc =>
                obtain ⟨w', k1, k2, k3⟩ := storeN_sound (P := P) h hst htt h2
                exact ⟨⟨_, w', run _ _ w' k1, .flat rfl, k2⟩, k3⟩
              | slice0 htt hcc =>
                exfalso
                have : Nat.min sl 0 = 0 := Nat.min_zero sl
                rw [this, Nat.beq_refl] at hb
                cases hb
            · cases hc
      · cases hc
    · cases hc

def eraseL (es : List MapEntry) (i : Nat) : List MapEntry := es.eraseIdx i
theorem ERel.erase {es es' : List MapEntry} (h : ERel ρ es es') (i : Nat) : ERel ρ (es.eraseIdx i) (es'.eraseIdx i) := by
  induction h generalizing i with
  | nil => simp; exact .nil
  | cons hk hv hl ih => cases i with
    | zero => exact hl
    | succ i => exact .cons hk hv (ih i)

def deleteA (P : Program) (σ : ASt) (t : Option TypeId) (m k : Value) : Option ASt :=
  match t.bind P.underlying, m with
  | some (.map kt _), .map none => bif keyOk P true kt k then some σ else none
  | some (.map kt _), .map (some r) => match σ.get r with
    | some (.map es c) => bif keyOk P es.isEmpty kt k then
        match findA P kt k es with
        | some (some (i, _)) => some (σ.put r (.map (es.eraseIdx i) c))
        | some none => some (σ.put r (.map es c))
        | none => none
      else none
    | _ => none
  | _, _ => none

theorem deleteA_sound (h : WRel B w0 ρ σ w) {ts : Array TypeId} {ty : TypeId} {m m' k k' : Value} {σ' : ASt} (hd : deleteA P σ ts[0]? m k = some σ') (hm : VRel ρ m m') (hk : VRel ρ k k') :
    (∃ w', (Builtin.delete_ ts ty #[m', k']).run P w = .ok (.tuple #[]) w' ∧ WRel B w0 ρ σ' w') ∧ σ'.next = σ.next := by
  unfold deleteA at hd
  cases ht : ts[0]? with
  | none => rw [ht] at hd; simp at hd
  | some t =>
    rw [ht] at hd
    simp only [Option.bind_some] at hd
    have e0 : (#[m', k'] : Array Value)[0]? = some m' := rfl
    have e1 : (#[m', k'] : Array Value)[1]? = some k' := rfl
    split at hd
    · rename_i kt et hu
      cases hko : keyOk P true kt k with
      | false => rw [hko] at hd; cases hd
      | true =>
        rw [hko] at hd
        simp only [cond_true, Option.some.injEq] at hd
        subst hd
        obtain ⟨rfl, _, hck⟩ := keyOk_run (P := P) (w := w) hko hk
        have := flat_eq (v := .map none) rfl hm
        subst this
        refine ⟨⟨w, ?_, h⟩, rfl⟩
        simp only [Builtin.delete_, ht, e0, e1, Sem.run_bind, und_run w hu, Result.andThen_ok, hck, Sem.run_pure]
    · rename_i kt et r hu
      split at hd
      · rename_i es c hg
        cases hm with
        | flat hf => simp [flat] at hf
        | map htt =>
          rename_i t'
          obtain ⟨o', ho, es', rfl, her⟩ := h.obj _ _ _ hg htt
          cases hko : keyOk P es.isEmpty kt k with
          | false => rw [hko] at hd; cases hd
          | true =>
            rw [hko] at hd
            simp only [cond_true] at hd
            obtain ⟨rfl, _, hck⟩ := keyOk_run (P := P) (w := w) hko hk
            rw [← her.isEmpty] at hck
            have hck' : (Instr.checkKey (⟨es'⟩ : Array MapEntry).isEmpty 10000 kt k').run P w = .ok () w := by simpa using hck
            have hset : ∀ (o : Obj), (setObj t'.blk o).run P w = .ok () { w with heap := w.heap.setIfInBounds t'.blk o } := by
              intro o; simp [setObj, Sem.run, ho]
            split at hd
            · rename_i i v0 hf
              simp only [Option.some.injEq] at hd
              subst hd
              obtain ⟨r', h1, h2⟩ := findA_sound (P := P) (w := w) her hf
              cases r' with
              | none => exact h2.elim
              | some p =>
                obtain ⟨j', v'⟩ := p
                obtain ⟨rfl, h2⟩ := h2
                refine ⟨⟨{ w with heap := w.heap.setIfInBounds t'.blk (.map ⟨es'.eraseIdx i⟩ c) }, ?_, h.set hg htt rfl ⟨_, rfl, her.erase i⟩⟩, rfl⟩
                have ee : (⟨es'⟩ : Array MapEntry).eraseIdxIfInBounds i = ⟨es'.eraseIdx i⟩ := by
                  apply Array.ext'; simp
                simp only [Builtin.delete_, ht, e0, e1, Sem.run_bind, und_run w hu, Result.andThen_ok, run_getObj_map ho, hck', h1, ee, hset, Sem.run_pure]
            · rename_i hf
              simp only [Option.some.injEq] at hd
              subst hd
              obtain ⟨r', h1, h2⟩ := findA_sound (P := P) (w := w) her hf
              cases r' with
              | some p => exact h2.elim
              | none =>
                refine ⟨⟨{ w with heap := w.heap.setIfInBounds t'.blk (.map ⟨es'⟩ c) }, ?_, h.set hg htt rfl ⟨_, rfl, her⟩⟩, rfl⟩
                simp only [Builtin.delete_, ht, e0, e1, Sem.run_bind, und_run w hu, Result.andThen_ok, run_getObj_map ho, hck', h1, hset, Sem.run_pure]
            · cases hd
      · cases hd
    · cases hd

end
end Go.Cre
end
