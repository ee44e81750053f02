/-
Bytes and strings; iterators over maps; the builtins but for append.
-/
import Derived.Test.YtmcccdgpmlacdaaGreatDoorCreH
noncomputable section
namespace Go.Cre
open Go.RowKit (Below)

section
variable {P : Program} {B : Nat} {w0 : World} {ρ : Ren} {σ : ASt} {w : World}

/-! ### Bytes and strings -/

def bytesL : List Value → Option (List Int)
  | [] => some []
  | .int .u8 n :: vs => match bytesL vs with
    | some ns => some (n :: ns)
    | none => none
  | _ :: _ => none

theorem bytesL_eq : ∀ {vs : List Value} {ns : List Int}, bytesL vs = some ns → vs = ns.map (Value.int .u8) := by
  intro vs
  induction vs with
  | nil => intro ns h; simp only [bytesL, Option.some.injEq] at h; subst h; rfl
  | cons v vs ih =>
    intro ns h
    unfold bytesL at h
    split at h
    · rename_i heq; cases heq
    · rename_i n vs' heq
      obtain ⟨rfl, rfl⟩ := List.cons.inj heq
      split at h
      · rename_i ms hm
        simp only [Option.some.injEq] at h
        subst h
        simp [ih hm]
      · cases h
    · cases h

theorem bytes_rel {vs vs' : List Value} {ns : List Int} (h : bytesL vs = some ns) (hr : LRel ρ vs vs') : vs' = ns.map (Value.int .u8) := by
  have := bytesL_eq h
  subst this
  exact flatL_eq (by simp [flat]) hr

def strOf (ns : List Int) : ByteArray := ⟨⟨ns.map fun n => UInt8.ofNat n.toNat⟩⟩

theorem foldl_push (ns : List Int) (s : ByteArray) : ns.foldl (fun (r : ByteArray) n => r.push (UInt8.ofNat n.toNat)) s = ⟨⟨s.data.toList ++ ns.map fun n => UInt8.ofNat n.toNat⟩⟩ := by
  induction ns generalizing s with
  | nil => simp
  | cons n ns ih => rw [List.foldl_cons, ih]; simp [ByteArray.push]

theorem strOf_eq (ns : List Int) : ns.foldl (fun (r : ByteArray) n => r.push (UInt8.ofNat n.toNat)) ByteArray.empty = strOf ns := by
  rw [foldl_push]; rfl

def byteVals (s : ByteArray) : List Value := s.data.toList.map fun b => .int .u8 b.toNat

def convA (P : Program) (σ : ASt) (s d : TypeId) (x : Value) : Option (Value × ASt) :=
  match P.underlying s, P.underlying d, x with
  | some .string, some (.slice e), .string bs => match P.underlying e with
    | some (.int .u8) => some (rowA σ e 1 (byteVals bs) true .tail bs.size bs.size)
    | _ => none
  | some (.slice e), some .string, .slice a len _ => match P.underlying e with
    | some (.int .u8) => match a with
      | none => some (.string .empty, σ)
      | some a => match loadN σ a len with
        | some vs => match bytesL vs with
          | some ns => some (.string (strOf ns), σ)
          | none => none
        | none => none
    | _ => none
  | _, _, _ => none

theorem byteVals_flat (s : ByteArray) : (byteVals s).all flat = true := by
  rw [List.all_eq_true]
  intro v hv
  obtain ⟨b, _, rfl⟩ := List.mem_map.1 hv
  rfl
theorem byteVals_length (s : ByteArray) : (byteVals s).length = s.size := by simp [byteVals]

theorem freeze_last (o : Array Value) (e : TypeId) (n : Nat) : ({ w with heap := w.heap.push (.cells o e) } : World).freeze ⟨w.heap.size, n, none⟩ 1 = { w with heap := w.heap.push (.cells o e (n, n + 1)) } := by
  unfold World.freeze
  simp only [Nat.succ_ne_self, if_false]
  congr 1
  apply Array.ext_getElem?
  intro i
  simp only [Array.getElem?_modify, Array.getElem?_push]
  by_cases h : w.heap.size = i
  · subst h; simp
  · simp [h, show ¬ i = w.heap.size from fun e => h e.symm]

theorem convA_sound (h : WRel B w0 ρ σ w) {s d : TypeId} {x x' v : Value} {σ' : ASt} (hc : convA P σ s d x = some (v, σ')) (hx : VRel ρ x x') :
    Gives P B w0 ρ σ w (convert s d x') v σ' := by
  unfold convA at hc
  split at hc
  · rename_i e bs hs hd
    have : x' = .string bs := flat_eq (v := .string bs) rfl hx
    subst this
    split at hc
    · rename_i he
      simp only [Option.some.injEq] at hc
      obtain ⟨cap, hcap, hrun⟩ : ∃ k, bs.size ≤ k ∧ (choose (.appendCap bs.size 0 e)).run P w = .ok k { w with drawn := w.drawn + 1 } :=
        ⟨bs.size + (w.tape w.drawn (.appendCap bs.size 0 e)) % (2 ^ 63 - bs.size), Nat.le_add_right _ _, by simp [choose, Sem.run, Question.forced, Question.cut]⟩
      have hspare : (List.replicate (cap - bs.size) (Value.int .u8 0)).length = (cap - bs.size) * 1 := by simp
      obtain ⟨ρ', e1, e2, e3, e4⟩ := rowA_sound h.drew e 1 true .tail (cap, cap + 1) bs.size bs.size (cap - bs.size) (List.replicate (cap - bs.size) (Value.int .u8 0)) (flatL_refl (byteVals_flat bs)) hspare
        (by rw [byteVals_length]; omega) (fun h => by cases h) (Nat.le_refl _) (.inr (by rw [byteVals_length, List.length_replicate]; congr 1 <;> omega))
      rw [hc] at e2 e3 e4
      refine ⟨ρ', _, _, ?_, e1, e2, e3, e4⟩
      have earr : (bs.data.map fun b => Value.int .u8 b.toNat) ++ Array.replicate (cap - bs.size) (.int .u8 0) = ⟨byteVals bs ++ List.replicate (cap - bs.size) (.int .u8 0)⟩ := by
        apply Array.ext'
        simp [byteVals]
      have hsz : (⟨byteVals bs ++ List.replicate (cap - bs.size) (Value.int .u8 0)⟩ : Array Value).size = cap := by
        simp [byteVals_length]; omega
      have hsh : ({ w with heap := w.heap.push (.cells ⟨byteVals bs ++ List.replicate (cap - bs.size) (.int .u8 0)⟩ e), drawn := w.drawn + 1 } : World).shape? w.heap.size = some (e, cap) := by
        simp only [World.shape?, Array.getElem?_push_size, hsz]
      have hfz := freeze_last (w := { w with drawn := w.drawn + 1 }) ⟨byteVals bs ++ List.replicate (cap - bs.size) (.int .u8 0)⟩ e cap
      simp only at hfz
      simp only [convert, Sem.run_bind, und_run w hs, und_run w hd, Result.andThen_ok, und_run w he, Conv.stringToBytes, hrun, earr, newRow, run_newObj, Sem.run_pure, markStringish, run_shape, hsh, run_freeze, hfz]
      rw [show bs.size + (cap - bs.size) = cap by omega]
    · cases hc
  · rename_i e a len cap hs hd
    split at hc
    · rename_i he
      split at hc
      · simp only [Option.some.injEq, Prod.mk.injEq] at hc
        obtain ⟨rfl, rfl⟩ := hc
        cases hx with
        | flat hf =>
          exact ⟨ρ, _, _, by rw [run_convert_bytes_string w s d e none len cap hs he hd]; rfl, Ext.refl _ _, .flat rfl, h, Nat.le_refl _⟩
      · rename_i a
        split at hc
        · rename_i vs hvs
          split at hc
          · rename_i ns hns
            simp only [Option.some.injEq, Prod.mk.injEq] at hc
            obtain ⟨rfl, rfl⟩ := hc
            have fin : ∀ (a' : Addr) (cap' : Nat), (loadCells a' len).run P w = .ok (ns.map (Value.int .u8)).toArray w → (convert s d (.slice (some a') len cap')).run P w = .ok (.string (strOf ns)) w := by
              intro a' cap' hr
              rw [run_convert_bytes_string w s d e _ len cap' hs he hd, run_bytesToString w a' len cap' ns hr, strOf_eq]
            cases hx with
            | flat hf => simp [flat] at hf
            | slice ht hcp =>
              obtain ⟨ys, h1, h2, _⟩ := loadN_sound (P := P) h hvs ht
              have := bytes_rel hns h2
              subst this
              exact ⟨ρ, _, _, fin _ _ h1, Ext.refl _ _, .flat rfl, h, Nat.le_refl _⟩
            | slice0 ht hcp =>
              have hnil : ns = [] := by
                have h1 := bytesL_eq hns
                unfold loadN at hvs
                split at hvs
                · simp at hvs
                  rw [hvs] at h1
                  exact List.map_eq_nil_iff.1 h1.symm
                · cases hvs
              subst hnil
              exact ⟨ρ, _, _, fin _ _ (by simp [loadCells, loadCellsFrom]), Ext.refl _ _, .flat rfl, h, Nat.le_refl _⟩
          · cases hc
        · cases hc
    · cases hc
  · cases hc

/-! ### Iterators over maps -/

theorem ERel.filter {es es' : List MapEntry} (h : ERel ρ es es') (p : Nat → Bool) : ERel ρ (es.filter fun e => p e.born) (es'.filter fun e => p e.born) := by
  induction h with
  | nil => exact .nil
  | cons hk hv hl ih =>
    rename_i k v v' b l l'
    simp only [List.filter_cons]
    cases p b with
    | true => exact .cons hk hv ih
    | false => exact ih

theorem ERel.all {es es' : List MapEntry} (h : ERel ρ es es') (p : Nat → Bool) : (es'.all fun e => p e.born) = es.all fun e => p e.born := by
  induction h with
  | nil => rfl
  | cons hk hv hl ih => simp only [List.all_cons, ih]

theorem ERel.find {es es' : List MapEntry} (h : ERel ρ es es') (p : Nat → Bool) (e : MapEntry) (he : es.find? (fun e => p e.born) = some e) :
    flat2 e.key = true ∧ ∃ v', es'.find? (fun e => p e.born) = some ⟨e.key, v', e.born⟩ ∧ VRel ρ e.val v' := by
  induction h with
  | nil => cases he
  | cons hk hv hl ih =>
    rename_i k v v' b l l'
    simp only [List.find?_cons] at he ⊢
    cases hp : p b with
    | true => rw [hp] at he; simp only [Option.some.injEq] at he; subst he; exact ⟨hk, v', rfl, hv⟩
    | false => rw [hp] at he; exact ih he

theorem ERel.nil_eq {l : List MapEntry} (h : ERel ρ [] l) : l = [] := by cases h; rfl
theorem ERel.one_eq {e : MapEntry} {l : List MapEntry} (h : ERel ρ [e] l) : ∃ v', l = [⟨e.key, v', e.born⟩] ∧ flat2 e.key = true ∧ VRel ρ e.val v' := by
  cases h with
  | cons hk hv hl => rw [hl.nil_eq]; exact ⟨_, rfl, hk, hv⟩

def rangeA (P : Program) (σ : ASt) (t : TypeId) (x : Value) : Option (Value × ASt) :=
  match P.underlying t, x with
  | some (.map _ _), .map none => some (.pointer (some ⟨σ.next, 0, none⟩), σ.new (.mapIter none 0 [] 0))
  | some (.map _ _), .map (some m) => match σ.get m with
    | some (.map _ c) => some (.pointer (some ⟨σ.next, 0, none⟩), σ.new (.mapIter (some m) c [] c))
    | _ => none
  | _, _ => none

theorem newObj_sound (h : WRel B w0 ρ σ w) (o : AObj) (o' : Obj) (ho : ∀ ρ', Sub ρ ρ' → ORel ρ' ⟨w.heap.size, 0, 0, 0, 0, undef⟩ o o') :
    ∃ ρ', Ext σ.next ρ ρ' ∧ VRel ρ' (.pointer (some ⟨σ.next, 0, none⟩)) (.pointer (some ⟨w.heap.size, 0, none⟩)) ∧ WRel B w0 ρ' (σ.new o) { w with heap := w.heap.push o' } ∧ ρ' σ.next = some ⟨w.heap.size, 0, 0, 0, 0, undef⟩ := by
  obtain ⟨ρ', h1, h2, h3⟩ := h.new o o' ⟨w.heap.size, 0, 0, 0, 0, undef⟩ rfl ho
  refine ⟨ρ', h1, ?_, h2, h3⟩
  have := VRel.ptr (o := 0) h3
  simpa using this

theorem rangeA_sound (h : WRel B w0 ρ σ w) {t : TypeId} {x x' v : Value} {σ' : ASt} (hr : rangeA P σ t x = some (v, σ')) (hx : VRel ρ x x') :
    Gives P B w0 ρ σ w (Instr.range t x') v σ' := by
  unfold rangeA at hr
  split at hr
  · rename_i hu
    simp only [Option.some.injEq, Prod.mk.injEq] at hr
    obtain ⟨rfl, rfl⟩ := hr
    have : x' = .map none := flat_eq (v := .map none) rfl hx
    subst this
    obtain ⟨ρ', h1, h2, h3, _⟩ := newObj_sound h (.mapIter none 0 [] 0) (.mapIter none 0 #[] 0) (fun _ _ => ⟨rfl, rfl⟩)
    exact ⟨ρ', _, _, by simp only [Instr.range, Sem.run_bind, und_run w hu, Result.andThen_ok, Sem.run_pure, run_newObj], h1, h2, h3, Nat.le_succ _⟩
  · rename_i m hu
    split at hr
    · rename_i es c hg
      simp only [Option.some.injEq, Prod.mk.injEq] at hr
      obtain ⟨rfl, rfl⟩ := hr
      cases hx with
      | flat hf => simp [flat] at hf
      | map ht =>
        rename_i t'
        obtain ⟨o', ho, es', rfl, her⟩ := h.obj _ _ _ hg ht
        obtain ⟨ρ', h1, h2, h3, _⟩ := newObj_sound h (.mapIter (some m) c [] c) (.mapIter (some t'.blk) c #[] c) (fun ρ' hs => ⟨rfl, t', hs _ _ ht, rfl⟩)
        exact ⟨ρ', _, _, by simp only [Instr.range, Sem.run_bind, und_run w hu, Result.andThen_ok, run_getObj_map ho, Sem.run_pure, run_newObj], h1, h2, h3, Nat.le_succ _⟩
    · cases hr
  · cases hr

def nextA (σ : ASt) (x : Value) : Option (Value × ASt) :=
  match x with
  | .pointer (some ⟨r, 0, _⟩) => match σ.get r with
    | some (.mapIter none _ _ _) => some (.tuple ⟨[.bool false]⟩, σ)
    | some (.mapIter (some m) since seen last) => match σ.get m with
      | some (.map es c) =>
        bif !seen.isEmpty && !es.isEmpty && (es.all fun e => decide (e.born ≥ last)) then none else
        match (es.filter fun e => !seen.contains e.born).filter (fun e => decide (e.born < since)), (es.filter fun e => !seen.contains e.born).filter (fun e => decide (e.born ≥ since)) with
        | [], [] => some (.tuple ⟨[.bool false]⟩, σ)
        | [e], [] => some (.tuple ⟨[.bool true, e.key, e.val]⟩, σ.put r (.mapIter (some m) since (seen ++ [e.born]) c))
        | _, _ => none
      | _ => none
    | _ => none
  | _ => none

theorem run_getObj_iter {r s l : Nat} {m : Option Nat} {q : Array Nat} (h : w.heap[r]? = some (.mapIter m s q l)) : (getObj r).run P w = .ok (.mapIter m s q l) w := by
  simp [getObj, Sem.run, h]

theorem nextA_sound (h : WRel B w0 ρ σ w) {t : TypeId} {x x' v : Value} {σ' : ASt} (hn : nextA σ x = some (v, σ')) (hx : VRel ρ x x') :
    (∃ v' w', (Instr.next x' false t).run P w = .ok v' w' ∧ VRel ρ v v' ∧ WRel B w0 ρ σ' w') ∧ σ'.next = σ.next := by
  unfold nextA at hn
  split at hn
  · rename_i r sp
    cases hx with
    | flat hf => simp [flat] at hf
    | ptr ht =>
    rename_i t'
    split at hn
    · rename_i s q l hg
      simp only [Option.some.injEq, Prod.mk.injEq] at hn
      obtain ⟨rfl, rfl⟩ := hn
      obtain ⟨o', ho, h0, rfl⟩ := h.obj _ _ _ hg ht
      rw [h0]
      exact ⟨⟨.tuple #[.bool false], w, by simp only [Instr.next, Nat.zero_add, Sem.run_bind, run_getObj_iter ho, Result.andThen_ok]; rfl, .tuple (.cons (.flat rfl) .nil), h⟩, rfl⟩
    · rename_i m since seen last hg
      split at hn
      · rename_i es c hgm
        obtain ⟨o', ho, h0, tm, htm, rfl⟩ := h.obj _ _ _ hg ht
        obtain ⟨om, hom, es', rfl, her⟩ := h.obj _ _ _ hgm htm
        rw [h0]
        cases hb : (!seen.isEmpty && !es.isEmpty && (es.all fun e => decide (e.born ≥ last))) with
        | true => rw [hb] at hn; cases hn
        | false =>
          rw [hb] at hn
          simp only [cond_false] at hn
          have f1 := (her.filter fun b => !seen.contains b).filter fun b => decide (b < since)
          have f2 := (her.filter fun b => !seen.contains b).filter fun b => decide (b ≥ since)
          have hb' : (!(⟨seen⟩ : Array Nat).isEmpty && !(⟨es'⟩ : Array MapEntry).isEmpty && ((⟨es'⟩ : Array MapEntry).all fun e => decide (e.born ≥ last))) = false := by
            have e1 := her.isEmpty
            have e2 := her.all fun b => decide (b ≥ last)
            rw [← e1, ← e2] at hb
            simpa using hb
          have hset : ∀ (o : Obj), (setObj t'.blk o).run P w = .ok () { w with heap := w.heap.setIfInBounds t'.blk o } := by
            intro o; simp [setObj, Sem.run, ho]
          split at hn
          · rename_i e1 e2
            simp only [Option.some.injEq, Prod.mk.injEq] at hn
            obtain ⟨rfl, rfl⟩ := hn
            rw [e1] at f1
            rw [e2] at f2
            have g1 : List.filter (fun e => decide (e.born < since)) (List.filter (fun e => !seen.contains e.born) es') = [] := f1.nil_eq
            have g2 : List.filter (fun e => decide (e.born ≥ since)) (List.filter (fun e => !seen.contains e.born) es') = [] := f2.nil_eq
            refine ⟨⟨.tuple #[.bool false], w, ?_, .tuple (.cons (.flat rfl) .nil), h⟩, rfl⟩
            simp only [Instr.next, Nat.zero_add, Sem.run_bind, run_getObj_iter ho, Result.andThen_ok, run_getObj_map hom, hb', Bool.false_eq_true, if_false]
            have k1 : (((⟨es'⟩ : Array MapEntry).filter fun e => !(⟨seen⟩ : Array Nat).contains e.born).filter fun e => decide (e.born < since)) = #[] := by
              apply Array.ext'; simpa using g1
            have k2 : (((⟨es'⟩ : Array MapEntry).filter fun e => !(⟨seen⟩ : Array Nat).contains e.born).filter fun e => decide (e.born ≥ since)) = #[] := by
              apply Array.ext'; simpa using g2
            rw [k1, k2]
            simp [choose, Sem.run, Question.forced]
          · rename_i e e1 e2
            simp only [Option.some.injEq, Prod.mk.injEq] at hn
            obtain ⟨rfl, rfl⟩ := hn
            rw [e1] at f1
            rw [e2] at f2
            obtain ⟨v1, g1, hkf, hv1⟩ := f1.one_eq
            have g2 : List.filter (fun e => decide (e.born ≥ since)) (List.filter (fun e => !seen.contains e.born) es') = [] := f2.nil_eq
            refine ⟨⟨.tuple #[.bool true, e.key, v1], { w with heap := w.heap.setIfInBounds t'.blk (.mapIter (some tm.blk) since ⟨seen ++ [e.born]⟩ c) }, ?_, .tuple (.cons (.flat rfl) (.cons (flat2_refl hkf) (.cons hv1 .nil))),
              h.set hg ht rfl ⟨h0, tm, htm, rfl⟩⟩, rfl⟩
            simp only [Instr.next, Nat.zero_add, Sem.run_bind, run_getObj_iter ho, Result.andThen_ok, run_getObj_map hom, hb', Bool.false_eq_true, if_false]
            have k1 : (((⟨es'⟩ : Array MapEntry).filter fun e => !(⟨seen⟩ : Array Nat).contains e.born).filter fun e => decide (e.born < since)) = #[⟨e.key, v1, e.born⟩] := by
              apply Array.ext'; simpa using g1
            have k2 : (((⟨es'⟩ : Array MapEntry).filter fun e => !(⟨seen⟩ : Array Nat).contains e.born).filter fun e => decide (e.born ≥ since)) = #[] := by
              apply Array.ext'; simpa using g2
            rw [k1, k2]
            simp [choose, Sem.run, Question.forced, hset]
          · cases hn
      · cases hn
    · cases hn
  · cases hn

end
end Go.Cre
end
