/-
Memory: what the abstract reads, writes and new rows come to in the world.
-/
import Derived.Test.YtmcccdgpmlacdaaGreatDoorCreB
import Derived.Laws.Sem
import Derived.Laws.Cells
import Derived.Laws.CopyRow
import Derived.Laws.World
noncomputable section
namespace Go.Cre
open Go.RowKit (Below)

theorem Addr.add_mk (g o i : Nat) : (⟨g, o, none⟩ : Addr).add i = ⟨g, o + i, none⟩ := by unfold Addr.add; split <;> simp_all

theorem setCell_list {w : World} {g k : Nat} {cur : List Value} {e : TypeId} {f : Nat × Nat} (v : Value) (hg : w.heap[g]? = some (.cells ⟨cur⟩ e f)) :
    w.setCell ⟨g, k, none⟩ v = { w with heap := w.heap.setIfInBounds g (.cells ⟨cur.set k v⟩ e f) } := by
  have hlt : g < w.heap.size := by
    rcases Nat.lt_or_ge g w.heap.size with h | h
    · exact h
    · simp [Array.getElem?_eq_none h] at hg
  unfold World.setCell
  congr 1
  apply Array.ext_getElem?
  intro j
  simp only [Array.getElem?_modify, Array.getElem?_setIfInBounds]
  by_cases e1 : g = j
  · subst e1
    simp [hlt] at hg ⊢
    rw [hg]
    simp
  · simp [e1]

theorem setHeap_twice {w : World} {g : Nat} (o1 o2 : Obj) :
    ({ w with heap := (w.heap.setIfInBounds g o1).setIfInBounds g o2 } : World) = { w with heap := w.heap.setIfInBounds g o2 } := by
  simp

theorem setHeap_same {w : World} {g : Nat} {o : Obj} (hg : w.heap[g]? = some o) : ({ w with heap := w.heap.setIfInBounds g o } : World) = w := by
  have : w.heap.setIfInBounds g o = w.heap := by
    apply Array.ext_getElem?
    intro j
    simp only [Array.getElem?_setIfInBounds]
    by_cases e1 : g = j
    · subst e1
      have hlt : g < w.heap.size := by
        rcases Nat.lt_or_ge g w.heap.size with h | h
        · exact h
        · simp [Array.getElem?_eq_none h] at hg
      simp [hlt] at hg ⊢; exact hg.symm
    · simp [e1]
  rw [this]

def one (v : Value) : Bool := match v with | .agg _ | .tuple _ => false | _ => true
/-- The same of a value told, where none stands for any value at all. -/
def oneA (v : Value) : Bool := match v with | .agg _ | .tuple _ | .complex .. => false | _ => true

theorem one_val {ρ : Ren} {x y : Value} (hr : VRel ρ x y) (h : oneA x = true) : one y = true := by
  cases hr with
  | tok _ h1 =>
    rename_i t _
    revert h1
    cases t.val <;> simp [single, one]
  | hole => cases h
  | flat hf => cases x <;> first | rfl | (simp [flat] at hf)
  | _ => simp_all [one, oneA]
theorem run_store_list (P : Program) {w : World} {g k : Nat} {cur : List Value} {e : TypeId} {f : Nat × Nat} (v : Value) (h1 : one v = true)
    (hg : w.heap[g]? = some (.cells ⟨cur⟩ e f)) (hk : k < cur.length) (hf : ¬ (f.1 ≤ k ∧ k < f.2)) :
    (store ⟨g, k, none⟩ v).run P w = .ok () { w with heap := w.heap.setIfInBounds g (.cells ⟨cur.set k v⟩ e f) } := by
  have hc : w.cell? ⟨g, k, none⟩ = some cur[k] := by simp [World.cell?, hg, hk]
  have hz : w.frozen? ⟨g, k, none⟩ = false := by
    obtain ⟨lo, hi⟩ := f
    simp only [World.frozen?, hg]
    simp only [not_and, Nat.not_lt] at hf
    by_cases h : lo ≤ k
    · simp [h, hf h]
    · simp [h]
  rw [← setCell_list v hg]
  cases v <;> first | (simp [one] at h1; done) | simp [store, Sem.run, hc, hz]

theorem run_storeCells_list (P : Program) (g o : Nat) (e : TypeId) (f : Nat × Nat) : ∀ (vs : List Value) (i : Nat) (cur : List Value) (w : World),
    w.heap[g]? = some (.cells ⟨cur⟩ e f) → o + i + vs.length ≤ cur.length → (∀ v ∈ vs, one v = true) → (∀ j, o + i ≤ j → j < o + i + vs.length → ¬ (f.1 ≤ j ∧ j < f.2)) →
    (storeCells ⟨g, o, none⟩ vs i).run P w = .ok () { w with heap := w.heap.setIfInBounds g (.cells ⟨cur.take (o + i) ++ vs ++ cur.drop (o + i + vs.length)⟩ e f) }
  | [], i, cur, w, hg, _, _, _ => by
    have e1 : cur.take (o + i) ++ [] ++ cur.drop (o + i + ([] : List Value).length) = cur := by simp
    rw [e1, setHeap_same hg]
    rfl
  | v :: rest, i, cur, w, hg, hl, h1, hf => by
    simp only [List.length_cons] at hl hf
    have hlt : g < w.heap.size := by
      rcases Nat.lt_or_ge g w.heap.size with h | h
      · exact h
      · simp [Array.getElem?_eq_none h] at hg
    have hst := run_store_list P (w := w) (k := o + i) v (h1 v (by simp)) hg (by omega) (hf (o + i) (by omega) (by omega))
    have ih := run_storeCells_list P g o e f rest (i + 1) (cur.set (o + i) v) { w with heap := w.heap.setIfInBounds g (.cells ⟨cur.set (o + i) v⟩ e f) }
      (by simp [hlt]) (by simp; omega) (fun x hx => h1 x (by simp [hx])) (fun j hj hj' => hf j (by omega) (by omega))
    simp only [storeCells, Sem.run_bind, Addr.add_mk, hst, Result.andThen_ok, ih, Array.setIfInBounds_setIfInBounds]
    congr 4
    have ee : (cur.set (o + i) v).take (o + (i + 1)) ++ rest ++ (cur.set (o + i) v).drop (o + (i + 1) + rest.length) = cur.take (o + i) ++ v :: rest ++ cur.drop (o + i + (rest.length + 1)) := by
      apply List.ext_getElem?
      intro j
      simp only [List.getElem?_append, List.length_append, List.length_take, List.length_set, List.length_cons, List.getElem?_take, List.getElem?_drop, List.getElem?_set]
      by_cases c1 : j < o + i
      · have : j < min (o + (i + 1)) cur.length := by omega
        simp [this, c1, show j < o + (i+1) by omega, show j < min (o + i) cur.length by omega, show j < min (o + (i+1)) cur.length + rest.length by omega, show j < min (o+i) cur.length + (rest.length + 1) by omega, show ¬ o + i = j by omega]
      · by_cases c2 : j = o + i
        · subst c2
          simp [show o + i < min (o + (i+1)) cur.length by omega, show o + i < min (o + (i+1)) cur.length + rest.length by omega, show o + i < o + (i + 1) by omega, show ¬ (o + i < min (o + i) cur.length) by omega,
            show o + i < min (o+i) cur.length + (rest.length+1) by omega, show o + i - min (o + i) cur.length = 0 by omega, show o + i < cur.length by omega]
        · by_cases c3 : j < o + i + (rest.length + 1)
          · simp only [show j < min (o + (i+1)) cur.length + rest.length by omega, show j < min (o+i) cur.length + (rest.length+1) by omega, if_true, show ¬ (j < min (o + (i+1)) cur.length) by omega, show ¬ (j < min (o + i) cur.length) by omega, if_false]
            rw [show j - min (o + i) cur.length = (j - min (o + (i+1)) cur.length) + 1 by omega]
            simp
          · simp only [show ¬ (j < min (o + (i+1)) cur.length + rest.length) by omega, show ¬ (j < min (o+i) cur.length + (rest.length+1)) by omega, if_false]
            rw [show o + (i + 1) + rest.length + (j - (min (o + (i + 1)) cur.length + rest.length)) = o + i + (rest.length + 1) + (j - (min (o + i) cur.length + (rest.length + 1))) by omega]
            simp [show ¬ (o + i = o + i + (rest.length + 1) + (j - (min (o + i) cur.length + (rest.length + 1)))) by omega]
    rw [ee]; rfl

/-! ## Reading -/

def loadN (σ : ASt) (a : Addr) (n : Nat) : Option (List Value) :=
  match σ.get a.block with
  | some (.cells vs _ _ _ _ _) => let l := (vs.drop a.off).take n; bif Nat.beq l.length n then some l else none
  | _ => none

section
variable {P : Program} {B : Nat} {w0 : World} {ρ : Ren} {σ : ASt} {w : World}

theorem loadN_sound (h : WRel B w0 ρ σ w) {b o n : Nat} {vs : List Value} {t : Tgt} (hl : loadN σ ⟨b, o, none⟩ n = some vs) (ht : ρ b = some t) :
    ∃ ys, (loadCells ⟨t.blk, t.off + o, none⟩ n).run P w = .ok ⟨ys⟩ w ∧ LRel ρ vs ys ∧ vs.length = n := by
  unfold loadN at hl
  split at hl
  · rename_i cs e sz opn fr ro hg
    simp only at hg
    obtain ⟨o', ho, ys, f, rfl, _, _, hlen, hrel, _⟩ := h.obj b _ t hg ht
    dsimp only at hl
    cases hn : Nat.beq (List.take n (List.drop o cs)).length n with
    | false => rw [hn] at hl; cases hl
    | true =>
      rw [hn] at hl
      simp only [cond_true, Option.some.injEq] at hl
      subst hl
      have hn := Nat.eq_of_beq_eq_true hn
      have hle : o + n ≤ cs.length ∨ n = 0 := by simp at hn; omega
      refine ⟨((ys.drop (t.off + o)).take n), ?_, ?_, hn⟩
      · have hll : ((ys.drop (t.off + o)).take n).length = n := by
          simp only [List.length_take, List.length_drop]; omega
        have := run_loadCells_list (P := P) w ⟨t.blk, t.off + o, none⟩ ((ys.drop (t.off + o)).take n) (fun j v hv => by
          rw [Addr.add_mk]
          simp only [World.cell?, ho]
          rw [List.getElem?_take] at hv
          split at hv
          · rw [List.getElem?_drop] at hv
            simpa using hv
          · cases hv)
        rw [hll] at this
        exact this
      · have := (hrel.drop o).take n
        rw [List.drop_take, List.take_take, List.drop_drop] at this
        have e : min n (cs.length - o) = n := by omega
        rw [e] at this
        exact this
  · cases hl

/-! ## Writing -/

def splice (vs : List Value) (off : Nat) (ns : List Value) : List Value := vs.take off ++ (ns ++ vs.drop (off + ns.length))
def frFree : AFr → Nat → Nat → Bool
  | .span lo hi, off, n => Nat.ble (off + n) lo || Nat.ble hi off
  | .any, _, _ => false
  | _, _, _ => true
def storeN (σ : ASt) (a : Addr) (ns : List Value) : Option ASt :=
  match σ.get a.block with
  | some (.cells vs e sz opn fr ro) =>
    bif !ro && Nat.ble (a.off + ns.length) vs.length && frFree fr a.off ns.length && ns.all oneA then some (σ.put a.block (.cells (splice vs a.off ns) e sz opn fr ro)) else none
  | _ => none

theorem splice_length {vs ns : List Value} {off : Nat} (h : off + ns.length ≤ vs.length) : (splice vs off ns).length = vs.length := by
  simp [splice]; omega

theorem frFree_sound {t : Tgt} {n : Nat} {fr : AFr} {f : Nat × Nat} (h : FrOk t n fr f) {off k : Nat} (hf : frFree fr off k = true) (hn : t.off + off + k ≤ n) :
    ∀ j, t.off + off ≤ j → j < t.off + off + k → ¬ (f.1 ≤ j ∧ j < f.2) := by
  intro j h1 h2 ⟨h3, h4⟩
  cases fr with
  | any => cases hf
  | no => have : f.1 = f.2 := h; omega
  | span lo hi =>
    rcases h with h | h
    · omega
    · subst h
      simp only [frFree, Bool.or_eq_true, Nat.ble_eq] at hf
      simp only at h3 h4
      omega
  | tail =>
    rcases h with h | h
    · omega
    · subst h; simp only at h3 h4; omega

theorem storeN_sound (h : WRel B w0 ρ σ w) {b o : Nat} {ns ns' : List Value} {σ' : ASt} {t : Tgt} (hs : storeN σ ⟨b, o, none⟩ ns = some σ') (ht : ρ b = some t) (hn : LRel ρ ns ns') :
    ∃ w', (storeCells ⟨t.blk, t.off + o, none⟩ ns').run P w = .ok () w' ∧ WRel B w0 ρ σ' w' ∧ σ'.next = σ.next := by
  unfold storeN at hs
  split at hs
  · rename_i cs e sz opn fr ro hg
    simp only at hg
    obtain ⟨o', ho, ys, f, rfl, h1, h2, hlen, hrel, hop, hfr⟩ := h.obj b _ t hg ht
    cases hc : (!ro && Nat.ble (o + ns.length) cs.length && frFree fr o ns.length && ns.all oneA) with
    | false => rw [hc] at hs; cases hs
    | true =>
      rw [hc] at hs
      simp only [cond_true, Option.some.injEq] at hs
      subst hs
      simp only [Bool.and_eq_true, Bool.not_eq_true', Nat.ble_eq, List.all_eq_true] at hc
      obtain ⟨⟨⟨hro, hle⟩, hff⟩, hone⟩ := hc
      have hln := hn.length
      have hone' : ∀ v ∈ ns', one v = true := by
        intro v hv
        obtain ⟨i, hi, rfl⟩ := List.getElem_of_mem hv
        have hi' : i < ns.length := by omega
        obtain ⟨v', hv', hr⟩ := hn.getElem? i ns[i] (by simp [hi'])
        have ho1 := hone ns[i] (List.getElem_mem hi')
        have : v' = ns'[i] := by simpa [hi] using hv'.symm
        subst this
        revert ho1 hr
        generalize ns[i] = x
        generalize ns'[i] = y
        intro ho1 hr
        exact one_val hr ho1
      have hfree := frFree_sound hfr hff (by rw [hlen]; have := Nat.zero_le (t.extra * sz); omega)
      have hrun := run_storeCells_list P t.blk (t.off + o) e f ns' 0 ys w ho (by rw [hln, hlen]; have := Nat.zero_le (t.extra * sz); omega) hone' (fun j hj hj' => hfree j (by omega) (by omega))
      refine ⟨_, hrun, ?_, rfl⟩
      refine h.set hg ht (by simpa [AObj.isRo] using hro) ?_
      refine ⟨_, f, rfl, h1, by rw [splice_length hle]; exact h2, ?_, ?_, hop, ?_⟩
      · rw [splice_length hle]
        simp only [Nat.add_zero, List.length_append, List.length_take, List.length_drop]
        have := Nat.zero_le (t.extra * sz)
        omega
      · rw [splice_length hle]
        have e1 : ((ys.take (t.off + o + 0) ++ ns' ++ ys.drop (t.off + o + 0 + ns'.length)).drop t.off).take cs.length = splice ((ys.drop t.off).take cs.length) o ns' := by
          unfold splice
          simp only [Nat.add_zero, List.append_assoc]
          rw [List.drop_append, List.drop_take]
          have : t.off - (ys.take (t.off + o)).length = 0 := by simp only [List.length_take]; have := Nat.zero_le (t.extra * sz); omega
          rw [this, List.drop_zero, Nat.add_sub_cancel_left]
          rw [List.take_append, List.take_append]
          have l1 : (List.take o (List.drop t.off ys)).length = o := by simp only [List.length_take, List.length_drop]; have := Nat.zero_le (t.extra * sz); omega
          rw [l1, List.take_take, List.take_take, Nat.min_eq_right (show o ≤ cs.length by omega), Nat.min_eq_left (show o ≤ cs.length by omega)]
          rw [List.take_of_length_le (show ns'.length ≤ cs.length - o by omega)]
          rw [List.drop_take, List.drop_drop]
          rw [Nat.sub_sub, Nat.add_assoc t.off o]
        rw [e1]
        unfold splice
        rw [hln]
        exact (hrel.take o).append (hn.append (hrel.drop _))
      · have : (List.take (t.off + o + 0) ys ++ ns' ++ List.drop (t.off + o + 0 + ns'.length) ys).length = ys.length := by
          simp only [Nat.add_zero, List.length_append, List.length_take, List.length_drop]
          have := Nat.zero_le (t.extra * sz)
          omega
        rw [this]; exact hfr
  · cases hs
end
end Go.Cre
end
