/-
A map's iteration, with every candidate; states that know less; outcomes joined.
-/
import Derived.Test.YtmcccdgpmlacdaaGreatDoorCreO
noncomputable section
namespace Go.Cre
open Go.RowKit (Below)

def nextM (σ : ASt) (x : Value) : Option (List (Value × ASt)) :=
  match x with
  | .pointer (some ⟨r, 0, _⟩) => match σ.get r with
    | some (.mapIter (some m) since seen last) => match σ.get m with
      | some (.map es c) =>
        bif !seen.isEmpty && !es.isEmpty && (es.all fun e => decide (e.born ≥ last)) then none else
        match (es.filter fun e => !seen.contains e.born).filter (fun e => decide (e.born ≥ since)) with
        | [] => match (es.filter fun e => !seen.contains e.born).filter (fun e => decide (e.born < since)) with
          | [] => none
          | e :: l => some ((e :: l).map fun e => (.tuple ⟨[.bool true, e.key, e.val]⟩, σ.put r (.mapIter (some m) since (seen ++ [e.born]) c)))
        | _ => none
      | _ => none
    | _ => none
  | _ => none

def nextsA (σ : ASt) (x : Value) : Option (List (Value × ASt)) :=
  match nextA σ x with
  | some r => some [r]
  | none => nextM σ x

section
variable {P : Program} {B : Nat} {w0 : World} {ρ : Ren} {σ : ASt} {w : World}

theorem ERel.getElem {es es' : List MapEntry} (h : ERel ρ es es') (i : Nat) (hi : i < es.length) : ∃ v', es'[i]? = some ⟨es[i].key, v', es[i].born⟩ ∧ flat2 es[i].key = true ∧ VRel ρ es[i].val v' := by
  induction h generalizing i with
  | nil => simp at hi
  | cons hk hv hl ih => cases i with
    | zero => exact ⟨_, rfl, hk, hv⟩
    | succ i => simpa using ih i (by simpa using hi)

theorem nextM_sound (h : WRel B w0 ρ σ w) {t : TypeId} {x x' : Value} {rs : List (Value × ASt)} (hn : nextM σ x = some rs) (hx : VRel ρ x x') :
    ∃ r, r ∈ rs ∧ ∃ v' w', (Instr.next x' false t).run P w = .ok v' w' ∧ VRel ρ r.1 v' ∧ WRel B w0 ρ r.2 w' ∧ r.2.next = σ.next := by
  unfold nextM at hn
  split at hn
  · rename_i r sp
    cases hx with
    | flat hf => simp [flat] at hf
    | ptr ht =>
    rename_i t'
    split at hn
    · rename_i m since seen last hg
      split at hn
      · rename_i es c hgm
        obtain ⟨o', ho, h0, tm, htm, rfl⟩ := h.obj _ _ _ hg ht
        obtain ⟨om, hom, es', rfl, her⟩ := h.obj _ _ _ hgm htm
        rw [h0]
        cases hb : (!seen.isEmpty && !es.isEmpty && (es.all fun e => decide (e.born ≥ last))) with
        | true => rw [hb] at hn; cases hn
        | false =>
          rw [hb] at hn
          simp only [cond_false] at hn
          have f1 := (her.filter fun b => !seen.contains b).filter fun b => decide (b < since)
          have f2 := (her.filter fun b => !seen.contains b).filter fun b => decide (b ≥ since)
          have hb' : (!(⟨seen⟩ : Array Nat).isEmpty && !(⟨es'⟩ : Array MapEntry).isEmpty && ((⟨es'⟩ : Array MapEntry).all fun e => decide (e.born ≥ last))) = false := by
            have e1 := her.isEmpty
            have e2 := her.all fun b => decide (b ≥ last)
            rw [← e1, ← e2] at hb
            simpa using hb
          split at hn
          · rename_i e2
            rw [e2] at f2
            have g2 : List.filter (fun e => decide (e.born ≥ since)) (List.filter (fun e => !seen.contains e.born) es') = [] := f2.nil_eq
            split at hn
            · cases hn
            · rename_i e l e1
              simp only [Option.some.injEq] at hn
              rw [e1] at f1
              generalize hq : List.filter (fun e => decide (e.born < since)) (List.filter (fun e => !seen.contains e.born) es') = q at f1
              have k1 : (((⟨es'⟩ : Array MapEntry).filter fun e => !(⟨seen⟩ : Array Nat).contains e.born).filter fun e => decide (e.born < since)) = ⟨q⟩ := by
                apply Array.ext'; simpa using hq
              have k2 : (((⟨es'⟩ : Array MapEntry).filter fun e => !(⟨seen⟩ : Array Nat).contains e.born).filter fun e => decide (e.born ≥ since)) = #[] := by
                apply Array.ext'; simpa using g2
              have hlen := f1.length
              have hne : ¬ ((⟨q⟩ : Array MapEntry).isEmpty = true) := by
                cases q with
                | nil => simp at hlen
                | cons _ _ => simp
              have hcand : ((if (⟨q⟩ : Array MapEntry).isEmpty = true then #[none] else #[]) ++ ((⟨q⟩ : Array MapEntry) ++ #[]).map some : Array (Option MapEntry)) = ⟨q.map some⟩ := by
                rw [if_neg hne]; apply Array.ext'; simp
              -- whichever number the world tells
              have key : ∀ (i : Nat) (w1 : World), i < q.length → WRel B w0 ρ σ w1 → w1.heap = w.heap →
                  ∃ r, r ∈ rs ∧ ∃ (e1 : MapEntry) (w' : World), (⟨q.map some⟩ : Array (Option MapEntry))[i]? = some (some e1) ∧
                    (setObj t'.blk (.mapIter (some tm.blk) since ((⟨seen⟩ : Array Nat).push e1.born) c)).run P w1 = .ok () w' ∧ VRel ρ r.1 (.tuple #[.bool true, e1.key, e1.val]) ∧ WRel B w0 ρ r.2 w' ∧ r.2.next = σ.next := by
                intro i w1 hi hw1 hheap
                have hi' : i < (e :: l).length := by rw [← hlen]; exact hi
                obtain ⟨v1, g1, hkf, hv1⟩ := f1.getElem i hi'
                have ho1 : w1.heap[t'.blk]? = some (.mapIter (some tm.blk) since ⟨seen⟩ last) := by rw [hheap]; exact ho
                refine ⟨(.tuple ⟨[.bool true, (e :: l)[i].key, (e :: l)[i].val]⟩, σ.put r (.mapIter (some m) since (seen ++ [(e :: l)[i].born]) c)), ?_, ⟨(e :: l)[i].key, v1, (e :: l)[i].born⟩, { w1 with heap := w1.heap.setIfInBounds t'.blk (.mapIter (some tm.blk) since ⟨seen ++ [(e :: l)[i].born]⟩ c) }, by simp [g1], by simp [setObj, Sem.run, ho1], .tuple (.cons (.flat rfl) (.cons (flat2_refl hkf) (.cons hv1 .nil))), hw1.set hg ht rfl ⟨h0, tm, htm, rfl⟩, rfl⟩
                rw [← hn]
                exact List.mem_map.2 ⟨(e :: l)[i], List.getElem_mem hi', rfl⟩
              simp only [Instr.next, Nat.zero_add, Sem.run_bind, run_getObj_iter ho, Result.andThen_ok, run_getObj_map hom, hb', Bool.false_eq_true, if_false]
              rw [k1, k2, hcand]
              have hsz : (⟨q.map some⟩ : Array (Option MapEntry)).size = q.length := by simp
              rw [hsz]
              cases hfo : (Question.mapNext q.length).forced with
              | true =>
                have hr : (choose (.mapNext q.length)).run P w = .ok 0 w := by simp [choose, Sem.run, hfo]
                obtain ⟨r, h1, e1, w', h2, h3, h4, h5, h6⟩ := key 0 w (by rw [hlen]; simp) h rfl
                refine ⟨r, h1, _, w', ?_, h4, h5, h6⟩
                rw [hr]
                simp only [Sem.run_pure, Sem.run_bind, Result.andThen_ok, h2, h3]
              | false =>
                have hr : (choose (.mapNext q.length)).run P w = .ok ((Question.mapNext q.length).cut (w.tape w.drawn (.mapNext q.length))) { w with drawn := w.drawn + 1 } := by simp [choose, Sem.run, hfo]
                obtain ⟨r, h1, e1, w', h2, h3, h4, h5, h6⟩ := key ((Question.mapNext q.length).cut (w.tape w.drawn (.mapNext q.length))) { w with drawn := w.drawn + 1 } (Nat.mod_lt _ (by rw [hlen]; simp)) h.drew rfl
                refine ⟨r, h1, _, w', ?_, h4, h5, h6⟩
                rw [hr]
                simp only [Sem.run_pure, Sem.run_bind, Result.andThen_ok, h2, h3]
          · cases hn
      · cases hn
    · cases hn
  · cases hn

theorem nextsA_sound (h : WRel B w0 ρ σ w) {t : TypeId} {x x' : Value} {rs : List (Value × ASt)} (hn : nextsA σ x = some rs) (hx : VRel ρ x x') :
    ∃ r, r ∈ rs ∧ ∃ v' w', (Instr.next x' false t).run P w = .ok v' w' ∧ VRel ρ r.1 v' ∧ WRel B w0 ρ r.2 w' ∧ r.2.next = σ.next := by
  unfold nextsA at hn
  split at hn
  · rename_i r hr
    simp only [Option.some.injEq] at hn
    subst hn
    obtain ⟨v, σ'⟩ := r
    obtain ⟨⟨v', w', h1, h2, h3⟩, h4⟩ := nextA_sound (P := P) (t := t) h hr hx
    exact ⟨_, List.mem_singleton.2 rfl, v', w', h1, h2, h3, h4⟩
  · exact nextM_sound h hn hx

/-- Knowing less. -/
theorem WRel.weaken (h : WRel B w0 ρ σ w) {σ' : ASt} (hn : σ'.next = σ.next) (hs : ∀ b o, σ'.get b = some o → σ.get b = some o) : WRel B w0 ρ σ' w :=
  ⟨h.below, h.lt, fun b o t hg => h.obj b o t (hs b o hg), fun b o t hg => h.own b o t (hs b o hg), fun b b' o o' t t' hg hg' => h.inj b b' o o' t t' (hs b o hg) (hs b' o' hg'),
    fun b hb => h.fresh b (hn ▸ hb), fun b o hg => by rw [hn]; exact h.bounded b o (hs b o hg), h.room⟩
end

/-! ## What two heaps have in common -/
def meetF (f : AObj → AObj → Bool) : Trie AObj → Trie AObj → Trie AObj
  | .node v l r, .node v' l' r' => .node (match v, v' with
    | some o, some o' => bif f o o' then some o else none
    | _, _ => none) (meetF f l l') (meetF f r r')
  | _, _ => .leaf

theorem meetF_get {f : AObj → AObj → Bool} (hf : ∀ o o', f o o' = true → o = o') : ∀ (t t' : Trie AObj) (k : Nat) (o : AObj), (meetF f t t').get k = some o → t.get k = some o ∧ t'.get k = some o := by
  intro t
  induction t with
  | leaf => intro t' k o h; simp [meetF, Trie.get] at h
  | node v l r ihl ihr =>
    intro t' k o h
    cases t' with
    | leaf => simp [meetF, Trie.get] at h
    | node v' l' r' =>
      simp only [meetF, Trie.get] at h ⊢
      cases h1 : Nat.beq k 0 with
      | true =>
        rw [h1] at h
        simp only [cond_true] at h ⊢
        split at h
        · rename_i o1 o2
          cases h2 : f o1 o2 with
          | false => rw [h2] at h; cases h
          | true =>
            rw [h2] at h
            simp only [cond_true, Option.some.injEq] at h
            subst h
            exact ⟨rfl, by rw [hf _ _ h2]⟩
        · cases h
      | false =>
        rw [h1] at h
        simp only [cond_false] at h ⊢
        cases h2 : Nat.beq (k % 2) 1 with
        | true => rw [h2] at h; simp only [cond_true] at h ⊢; exact ihl _ _ _ h
        | false => rw [h2] at h; simp only [cond_false] at h ⊢; exact ihr _ _ _ h

def joinL (f : AObj → AObj → Bool) (e : Value → Value → Bool) (r : Value × ASt) : List (Value × ASt) → List (Value × ASt)
  | [] => [r]
  | s :: rest => bif Nat.beq r.2.next s.2.next && e r.1 s.1 then joinL f e (r.1, ⟨meetF f r.2.heap s.2.heap, r.2.next⟩) rest else s :: joinL f e r rest

/-- 'j' tells of 'r' no more than is so. -/
def Tells (B : Nat) (w0 : World) (r j : Value × ASt) : Prop := j.1 = r.1 ∧ j.2.next = r.2.next ∧ ∀ ρ w, WRel B w0 ρ r.2 w → WRel B w0 ρ j.2 w
theorem Tells.refl {B : Nat} {w0 : World} (r : Value × ASt) : Tells B w0 r r := ⟨rfl, rfl, fun _ _ h => h⟩

theorem joinL_tells {B : Nat} {w0 : World} {f : AObj → AObj → Bool} (hf : ∀ o o', f o o' = true → o = o') {e : Value → Value → Bool} (he : ∀ v v', e v v' = true → v = v') : ∀ (rest : List (Value × ASt)) (r : Value × ASt),
    (∀ q, Tells B w0 q r → ∃ j, j ∈ joinL f e r rest ∧ Tells B w0 q j) ∧ (∀ s, s ∈ rest → ∃ j, j ∈ joinL f e r rest ∧ Tells B w0 s j) := by
  intro rest
  induction rest with
  | nil => intro r; exact ⟨fun q hq => ⟨r, List.mem_singleton.2 rfl, hq⟩, fun s hs => by cases hs⟩
  | cons s rest ih =>
    intro r
    simp only [joinL]
    cases hb : (Nat.beq r.2.next s.2.next && e r.1 s.1) with
    | false =>
      simp only [cond_false]
      refine ⟨fun q hq => ?_, fun s' hs' => ?_⟩
      · obtain ⟨j, h1, h2⟩ := (ih r).1 q hq
        exact ⟨j, List.mem_cons_of_mem _ h1, h2⟩
      · rcases List.mem_cons.1 hs' with rfl | hs'
        · exact ⟨s', List.mem_cons_self, .refl _⟩
        · obtain ⟨j, h1, h2⟩ := (ih r).2 s' hs'
          exact ⟨j, List.mem_cons_of_mem _ h1, h2⟩
    | true =>
      simp only [cond_true]
      simp only [Bool.and_eq_true] at hb
      have hn := Nat.eq_of_beq_eq_true hb.1
      have hv := he _ _ hb.2
      have hget : ∀ b o, ASt.get ⟨meetF f r.2.heap s.2.heap, r.2.next⟩ b = some o → r.2.get b = some o ∧ s.2.get b = some o := by
        intro b o hg
        simp only [ASt.get, Trie.getQ_eq] at hg ⊢
        exact meetF_get hf _ _ _ _ hg
      have t1 : Tells B w0 r (r.1, ⟨meetF f r.2.heap s.2.heap, r.2.next⟩) := ⟨rfl, rfl, fun ρ w h => h.weaken rfl fun b o hg => (hget b o hg).1⟩
      have t2 : Tells B w0 s (r.1, ⟨meetF f r.2.heap s.2.heap, r.2.next⟩) := ⟨hv, hn, fun ρ w h => h.weaken hn fun b o hg => (hget b o hg).2⟩
      refine ⟨fun q hq => ?_, fun s' hs' => ?_⟩
      · exact (ih _).1 q ⟨t1.1.trans hq.1, t1.2.1.trans hq.2.1, fun ρ w h => t1.2.2 ρ w (hq.2.2 ρ w h)⟩
      · rcases List.mem_cons.1 hs' with rfl | hs'
        · exact (ih _).1 s' t2
        · exact (ih _).2 s' hs'
end Go.Cre
end
