/-
Literals, new rows, maps.
-/
import Derived.Test.YtmcccdgpmlacdaaGreatDoorCreE
noncomputable section
namespace Go.Cre
open Go.RowKit (Below)

/-! ### Filling -/

def fillL (place : Nat → Option (Nat × Nat)) (cells : List Value) : List (Nat × Value) → Option (List Value)
  | [] => some cells
  | (i, v) :: rest =>
    match place i with
    | none => none
    | some (off, size) => bif solid v && Nat.beq v.cells.toList.length size && Nat.ble (off + v.cells.toList.length) cells.length then fillL place (splice cells off v.cells.toList) rest else none

inductive PRel (ρ : Ren) : List (Nat × Value) → List (Nat × Value) → Prop
  | nil : PRel ρ [] []
  | cons {i : Nat} {v v' : Value} {l l' : List (Nat × Value)} (h : VRel ρ v v') (hl : PRel ρ l l') : PRel ρ ((i, v) :: l) ((i, v') :: l')

theorem foldl_splice (off : Nat) : ∀ (vs : List Value) (k : Nat) (cs : List Value), off + k + vs.length ≤ cs.length →
    ((vs.zipIdx k).foldl (fun (cs : Array Value) (x : Value × Nat) => cs.setIfInBounds (off + x.2) x.1) ⟨cs⟩) = ⟨splice cs (off + k) vs⟩
  | [], k, cs, _ => by simp [splice]
  | v :: vs, k, cs, h => by
    simp only [List.length_cons] at h
    simp only [List.zipIdx_cons, List.foldl_cons]
    have e : (⟨cs⟩ : Array Value).setIfInBounds (off + k) v = ⟨cs.set (off + k) v⟩ := by simp
    rw [e, foldl_splice off vs (k + 1) (cs.set (off + k) v) (by simp; omega)]
    congr 1
    unfold splice
    simp only [List.length_cons]
    apply List.ext_getElem?
    intro j
    simp only [List.getElem?_append, List.length_take, List.length_set, List.length_cons, List.getElem?_take, List.getElem?_drop, List.getElem?_set]
    by_cases c1 : j < off + k
    · simp [c1, show j < min (off + (k + 1)) cs.length by omega, show j < off + (k + 1) by omega, show j < min (off + k) cs.length by omega, show ¬ off + k = j by omega]
    · by_cases c2 : j = off + k
      · subst c2
        simp [show off + k < min (off + (k + 1)) cs.length by omega, show off + k < off + (k + 1) by omega, show ¬ (off + k < min (off + k) cs.length) by omega, show off + k - min (off + k) cs.length = 0 by omega, show off + k < cs.length by omega]
      · simp only [show ¬ (j < min (off + (k + 1)) cs.length) by omega, show ¬ (j < min (off + k) cs.length) by omega, if_false]
        by_cases c3 : j < off + k + (vs.length + 1)
        · simp only [show j - min (off + (k + 1)) cs.length < vs.length by omega, show j - min (off + k) cs.length < vs.length + 1 by omega, if_true]
          rw [show j - min (off + k) cs.length = (j - min (off + (k + 1)) cs.length) + 1 by omega]
          simp
        · simp only [show ¬ (j - min (off + (k + 1)) cs.length < vs.length) by omega, show ¬ (j - min (off + k) cs.length < vs.length + 1) by omega, if_false]
          rw [show off + (k + 1) + vs.length + (j - min (off + (k + 1)) cs.length - vs.length) = off + k + (vs.length + 1) + (j - min (off + k) cs.length - (vs.length + 1)) by omega]
          simp [show ¬ (off + k = off + k + (vs.length + 1) + (j - min (off + k) cs.length - (vs.length + 1))) by omega]

section
variable {P : Program} {B : Nat} {w0 : World} {ρ : Ren} {σ : ASt} {w : World}

theorem LRel.splice {l l' : List Value} {ns ns' : List Value} (h : LRel ρ l l') (hn : LRel ρ ns ns') (off : Nat) : LRel ρ (splice l off ns) (Cre.splice l' off ns') := by
  unfold Cre.splice
  rw [hn.length]
  exact (h.take off).append (hn.append (h.drop _))

theorem fill_sound (place : Nat → Option (Nat × Nat)) : ∀ (parts parts' : List (Nat × Value)) (cs cs' r : List Value), PRel ρ parts parts' → LRel ρ cs cs' → fillL place cs parts = some r →
    ∃ r', Instr.fill place ⟨cs'⟩ parts' = some ⟨r'⟩ ∧ LRel ρ r r' := by
  intro parts
  induction parts with
  | nil =>
    intro parts' cs cs' r hp hc h
    cases hp
    simp only [fillL, Option.some.injEq] at h
    subst h
    exact ⟨cs', rfl, hc⟩
  | cons p parts ih =>
    intro parts' cs cs' r hp hc h
    cases hp with
    | cons hv hl =>
    rename_i i v v' l'
    simp only [fillL] at h
    split at h
    · cases h
    · rename_i off size hpl
      cases hb : (solid v && Nat.beq v.cells.toList.length size && Nat.ble (off + v.cells.toList.length) cs.length) with
      | false => rw [hb] at h; cases h
      | true =>
        rw [hb] at h
        simp only [cond_true] at h
        simp only [Bool.and_eq_true, Nat.ble_eq] at hb
        obtain ⟨⟨b0, b1⟩, b2⟩ := hb
        have b1 := Nat.eq_of_beq_eq_true b1
        have hcv := cells_rel hv b0
        have hlv := hcv.length
        have hlc := hc.length
        obtain ⟨r', h1, h2⟩ := ih l' (splice cs off v.cells.toList) (splice cs' off v'.cells.toList) r hl (hc.splice hcv off) h
        refine ⟨r', ?_, h2⟩
        simp only [Instr.fill, hpl]
        have n1 : v'.cells.size = v.cells.toList.length := by rw [← hlv]; simp
        rw [n1, b1]
        have n2 : (⟨cs'⟩ : Array Value).size = cs.length := by simp [hlc]
        rw [n2]
        have n3 : ¬ (off + size > cs.length) := by rw [b1] at b2; omega
        simp only [ne_eq, not_true_eq_false, decide_false, Bool.false_or, n3, if_false, Bool.false_eq_true]
        have := foldl_splice off v'.cells.toList 0 cs' (by rw [hlv, hlc]; omega)
        simp only [Nat.add_zero] at this
        have e : Array.foldl (fun (cs : Array Value) (x : Value × Nat) => cs.setIfInBounds (off + x.2) x.1) ⟨cs'⟩ v'.cells.zipIdx = ⟨splice cs' off v'.cells.toList⟩ := by
          rw [← this, ← Array.foldl_toList, Array.toList_zipIdx]
        rw [← h1]
        congr 1

/-! ### Struct and array literals -/

def placesA (P : Program) : List Field → Option (List (Nat × Nat))
  | [] => some []
  | f :: fs => match sizeT P f.type, placesA P fs with
    | some n, some ps => some ((f.offset, n) :: ps)
    | _, _ => none

theorem places_run : ∀ (fs : List Field) (ps : List (Nat × Nat)), placesA P fs = some ps → (fs.mapM fun f => do pure (f.offset, ← sizeOf f.type) : Sem _).run P w = .ok ps w := by
  intro fs
  induction fs with
  | nil => intro ps h; simp only [placesA, Option.some.injEq] at h; subst h; simp
  | cons f fs ih =>
    intro ps h
    simp only [placesA] at h
    split at h
    · rename_i n ps' h1 h2
      simp only [Option.some.injEq] at h
      subst h
      simp only [List.mapM_cons, Sem.run_bind, sizeT_run w h1, Result.andThen_ok, Sem.run_pure]
      rw [ih ps' h2]
      simp
    · cases h

def buildA (P : Program) (t : TypeId) (parts : List (Nat × Value)) : Option Value :=
  match zeroT P t, P.underlying t with
  | some z, some (.struct fs) => match placesA P fs.toList with
    | some ps => match fillL (ps[·]?) z parts with
      | some r => some (.agg ⟨r⟩)
      | none => none
    | none => none
  | some z, some (.array _ elem) => match sizeT P elem with
    | some n => match fillL (fun i => some (i * n, n)) z parts with
      | some r => some (.agg ⟨r⟩)
      | none => none
    | none => none
  | _, _ => none

theorem buildA_sound {t : TypeId} {parts parts' : List (Nat × Value)} {v : Value} (h : buildA P t parts = some v) (hp : PRel ρ parts parts') :
    ∃ v', (Instr.build t ⟨parts'⟩).run P w = .ok v' w ∧ VRel ρ v v' := by
  unfold buildA at h
  split at h
  · rename_i z fs hz hu
    obtain ⟨z', hz', rfl, hfl⟩ := zeroT_run w hz
    split at h
    · rename_i ps hps
      split at h
      · rename_i r hr
        simp only [Option.some.injEq] at h
        subst h
        obtain ⟨r', h1, h2⟩ := fill_sound (ρ := ρ) _ _ _ _ _ _ hp (flatL_refl hfl) hr
        have hm := places_run (w := w) _ _ hps
        refine ⟨.agg ⟨r'⟩, ?_, .agg h2⟩
        have e : (fun (x : Nat) => (⟨ps⟩ : Array (Nat × Nat))[x]?) = (fun (x : Nat) => ps[x]?) := by funext x; simp
        simp only [Instr.build, Sem.run_bind, hz', Result.andThen_ok, und_run w hu, Array.mapM_eq_mapM_toList, Sem.run_map, hm, e]
        have e2 : (⟨z'.cells.toList⟩ : Array Value) = z'.cells := by simp
        rw [e2] at h1
        rw [h1]
        simp
      · cases h
    · cases h
  · rename_i z n0 elem hz hu
    obtain ⟨z', hz', rfl, hfl⟩ := zeroT_run w hz
    split at h
    · rename_i n hn
      split at h
      · rename_i r hr
        simp only [Option.some.injEq] at h
        subst h
        obtain ⟨r', h1, h2⟩ := fill_sound (ρ := ρ) _ _ _ _ _ _ hp (flatL_refl hfl) hr
        refine ⟨.agg ⟨r'⟩, ?_, .agg h2⟩
        have e2 : (⟨z'.cells.toList⟩ : Array Value) = z'.cells := by simp
        rw [e2] at h1
        simp only [Instr.build, Sem.run_bind, hz', Result.andThen_ok, und_run w hu, sizeT_run w hn, h1]
        simp
      · cases h
    · cases h
  · cases h

/-! ### Rows of zeros -/

def zerosL (z : List Value) (n : Nat) : List Value :=
  match z with
  | [v] => List.replicate n v
  | z => (List.range n).map fun i => (⟨z⟩ : Array Value)[i % z.length]!

theorem zerosL_eq (z : Value) (n : Nat) : ((Array.range n).map fun i => z.cells[i % z.cells.size]!) = ⟨zerosL z.cells.toList n⟩ := by
  apply Array.ext'
  unfold zerosL
  split
  · rename_i v hv
    have : z.cells = #[v] := by apply Array.ext'; simpa using hv
    rw [this]
    simp only [Array.toList_map, Array.toList_range]
    apply List.ext_getElem?
    intro i
    by_cases hi : i < n
    · simp [hi, Nat.mod_one]
    · simp [hi]
  · simp

theorem zerosL_length (z : List Value) (n : Nat) : (zerosL z n).length = n := by
  unfold zerosL
  split <;> simp

theorem zerosL_flat {z : List Value} (h : z.all flat = true) (n : Nat) : (zerosL z n).all flat = true := by
  rw [List.all_eq_true] at h ⊢
  unfold zerosL
  split
  · intro v hv
    rw [List.mem_replicate] at hv
    rw [hv.2]; exact h _ (by simp)
  · intro v hv
    obtain ⟨i, _, rfl⟩ := List.mem_map.1 hv
    by_cases hi : i % z.length < z.length
    · simp only [getElem!_pos, List.size_toArray, hi]
      exact h _ (by simp)
    · have : (⟨z⟩ : Array Value)[i % z.length]! = default := by simp [getElem!_neg, hi]
      rw [this]; rfl

/-! ### New rows behind slices -/

/-- A new row; a slice over it. -/
def rowA (σ : ASt) (elem : TypeId) (sz : Nat) (vs : List Value) (opn : Bool) (fr : AFr) (len cap : Nat) : Value × ASt :=
  (.slice (some ⟨σ.next, 0, none⟩) len cap, σ.new (.cells vs elem sz opn fr false))

theorem rowA_sound (h : WRel B w0 ρ σ w) (elem : TypeId) (sz : Nat) {vs vs' : List Value} (opn : Bool) (fr : AFr) (f : Nat × Nat) (len cap extra : Nat) (spare : List Value) (hv : LRel ρ vs vs')
    (hsp : spare.length = extra * sz) (hc : cap * sz = vs.length) (ho : opn = false → extra = 0) (hlc : len ≤ cap) (hfr : FrOk ⟨w.heap.size, 0, vs.length, extra, sz, undef⟩ (vs'.length + spare.length) fr f) :
    ∃ ρ', Ext σ.next ρ ρ' ∧ VRel ρ' (rowA σ elem sz vs opn fr len cap).1 (.slice (some ⟨w.heap.size, 0, none⟩) len (cap + extra)) ∧
      WRel B w0 ρ' (rowA σ elem sz vs opn fr len cap).2 { w with heap := w.heap.push (.cells ⟨vs' ++ spare⟩ elem f) } ∧ σ.next ≤ (rowA σ elem sz vs opn fr len cap).2.next := by
  obtain ⟨ρ', h1, h2, h3⟩ := h.new (.cells vs elem sz opn fr false) (.cells ⟨vs' ++ spare⟩ elem f) ⟨w.heap.size, 0, vs.length, extra, sz, undef⟩ rfl (fun ρ' hs =>
    ⟨vs' ++ spare, f, rfl, rfl, rfl, by simp [hv.length, hsp], by
      have : List.take vs.length (List.drop 0 (vs' ++ spare)) = vs' := by rw [List.drop_zero, ← hv.length, List.take_left]
      rw [this]; exact hv.mono hs, fun e => ⟨ho e, rfl⟩, by simpa using hfr⟩)
  refine ⟨ρ', h1, ?_, h2, Nat.le_succ _⟩
  by_cases hcap : cap = 0
  · subst hcap
    have : len = 0 := by omega
    subst this
    have hl0 : vs.length = 0 := by omega
    have := VRel.slice0 (ρ := ρ') (o := 0) (o' := 0) (cap' := extra) h3 (.inr ⟨hl0.symm, rfl, rfl⟩)
    simpa [rowA] using this
  · have := VRel.slice (ρ := ρ') (o := 0) (len := len) h3 hcap
    simp only [Nat.zero_add, hc, if_true] at this
    simpa [rowA] using this

def buildSliceA (P : Program) (σ : ASt) (t : TypeId) (len : Nat) (parts : List (Nat × Value)) : Option (Value × ASt) :=
  match P.underlying t with
  | some (.slice elem) => match sizeT P elem, zeroT P elem with
    | some n, some z => bif Nat.ble (len * n) 16777216 then
        match fillL (fun i => some (i * n, n)) (zerosL z (len * n)) parts with
        | some r => some (rowA σ elem n r false .no len len)
        | none => none
      else none
    | _, _ => none
  | _ => none

theorem fillL_length {place : Nat → Option (Nat × Nat)} : ∀ {parts : List (Nat × Value)} {cs r : List Value}, fillL place cs parts = some r → r.length = cs.length := by
  intro parts
  induction parts with
  | nil => intro cs r h; simp only [fillL, Option.some.injEq] at h; rw [h]
  | cons p parts ih =>
    intro cs r h
    obtain ⟨i, v⟩ := p
    simp only [fillL] at h
    split at h
    · cases h
    · rename_i off size _
      cases hb : (solid v && Nat.beq v.cells.toList.length size && Nat.ble (off + v.cells.toList.length) cs.length) with
      | false => rw [hb] at h; cases h
      | true =>
        rw [hb] at h
        simp only [Bool.and_eq_true, Nat.ble_eq] at hb
        rw [ih h, splice_length hb.2]

theorem zeros_none {z : List Value} (f : Nat → Value) : (Array.range 0).map f = ⟨zerosL z 0⟩ := by
  rw [List.length_eq_zero_iff.1 (zerosL_length z 0)]
  apply Array.ext'
  simp

theorem buildSliceA_sound (h : WRel B w0 ρ σ w) {t : TypeId} {len : Nat} {parts parts' : List (Nat × Value)} {v : Value} {σ' : ASt} (hb : buildSliceA P σ t len parts = some (v, σ')) (hp : PRel ρ parts parts') :
    Gives P B w0 ρ σ w (Instr.buildSlice t len ⟨parts'⟩) v σ' := by
  unfold buildSliceA at hb
  split at hb
  · rename_i elem hu
    split at hb
    · rename_i n z hn hz
      cases hc : Nat.ble (len * n) 16777216 with
      | false => rw [hc] at hb; cases hb
      | true =>
        rw [hc] at hb
        simp only [cond_true] at hb
        have hc : len * n ≤ 16777216 := by simpa using hc
        split at hb
        · rename_i r hr
          simp only [Option.some.injEq] at hb
          obtain ⟨zv, hz1, hz2, hfl⟩ := zeroT_run w hz
          obtain ⟨r', h1, h2⟩ := fill_sound (ρ := ρ) _ _ _ _ _ _ hp (flatL_refl (zerosL_flat hfl (len * n))) hr
          have hrl := fillL_length hr
          rw [zerosL_length] at hrl
          obtain ⟨ρ', e1, e2, e3, e4⟩ := rowA_sound h elem n false .no (0, 0) len len 0 [] h2 (by simp) (by omega) (fun _ => rfl) (Nat.le_refl _) rfl
          rw [hb] at e2 e3 e4
          refine ⟨ρ', _, _, ?_, e1, e2, e3, e4⟩
          have hbig : ¬ (len * n > 2 ^ 24) := by omega
          by_cases h0 : len * n = 0
          · have e5 := zeros_none (z := z)
            simp only [h0] at h1
            simp [Instr.buildSlice, und_run w hu, sizeT_run w hn, h0, e5, h1, newRow]
          · have e5 := zerosL_eq zv (len * n)
            rw [hz2] at e5
            simp only [Instr.buildSlice, Sem.run_bind, und_run w hu, Result.andThen_ok, sizeT_run w hn, hbig, if_false, h0, Sem.run_pure, hz1, e5, h1, newRow, run_newObj, List.append_nil, Nat.add_zero]
        · cases hb
    · cases hb
  · cases hb

end
end Go.Cre
end
