/-
Package unsafe, as far as strings.Builder leans on it; clear.
-/
import Derived.Test.YtmcccdgpmlacdaaGreatDoorCreL
import Derived.Lib.UnsafeStr
noncomputable section
namespace Go.Cre
open Go.RowKit (Below)

section
variable {P : Program} {B : Nat} {w0 : World} {ρ : Ren} {σ : ASt} {w : World}

def sliceDataA (x : Value) : Option Value :=
  match x with
  | .slice none _ _ => some (.pointer none)
  | .slice (some a) _ c => bif Nat.beq c 0 then none else some (.pointer (some a))
  | _ => none

theorem sliceDataA_sound {ts : Array TypeId} {ty : TypeId} {x x' v : Value} (h : sliceDataA x = some v) (hx : VRel ρ x x') :
    ∃ v', (Builtin.unsafeSliceData_ ts ty #[x']).run P w = .ok v' w ∧ VRel ρ v v' := by
  unfold sliceDataA at h
  split at h
  · simp only [Option.some.injEq] at h; subst h
    have := flat_eq (v := .slice none _ _) rfl hx; subst this
    exact ⟨_, rfl, .flat rfl⟩
  · rename_i a n c
    cases hb : Nat.beq c 0 with
    | true => rw [hb] at h; cases h
    | false =>
      rw [hb] at h
      simp only [cond_false, Option.some.injEq] at h; subst h
      have hc0 : c ≠ 0 := fun e => by rw [e] at hb; cases hb
      cases hx with
      | flat hf => simp [flat] at hf
      | slice ht hc => exact ⟨_, Lib.run_unsafeSliceData_row w ts ty _ _ _ (by omega), .ptr ht⟩
      | slice0 ht hc => exact absurd rfl hc0
  · cases h

theorem liesAt_same {e : TypeId} (hs : P.cellsOf e = 1) (d : Nat) {count off n : Nat} (h : off + n ≤ count) : liesAt P (d + 1) e count off e n = true := by
  unfold liesAt
  have hd : P.depth = (2 * (P.types.size + Made.depth) + 1) + 1 := rfl
  have : rowAt P (fun x => sameLayout P P.depth x e) P.depth e count off n = true := by
    rw [hd]
    unfold rowAt sameLayout
    simp [hs, Nat.mod_one, h]
  rw [this]
  rfl

theorem loadBytes_run {a : Addr} : ∀ (ns : List Int) (k : Nat) (acc : ByteArray), (∀ j n, ns[j]? = some n → w.cell? (a.add (k + j)) = some (.int .u8 n)) →
    (loadBytes (a.add k) acc ns.length).run P w = .ok (ns.foldl (fun (r : ByteArray) n => r.push (UInt8.ofNat n.toNat)) acc) w := by
  intro ns
  induction ns with
  | nil => intro k acc _; rfl
  | cons n ns ih =>
    intro k acc h
    have h0 := h 0 n rfl
    simp only [Nat.add_zero] at h0
    have hadd : (a.add k).add 1 = a.add (k + 1) := by
      unfold Addr.add
      by_cases hk : k = 0 <;> simp [hk, Nat.add_assoc]
    have := ih (k + 1) (acc.push (UInt8.ofNat n.toNat)) (fun j m hj => by rw [Nat.add_assoc, Nat.add_comm 1 j]; exact h (j + 1) m (by simpa using hj))
    simp only [List.length_cons, loadBytes, Sem.run_bind, run_load, h0, Result.andThen_ok, hadd]
    exact this

theorem unsafeString_eq (t : TypeId) (rest : List TypeId) (ty : TypeId) (p : Option Addr) (x : Value) : Builtin.unsafeString_ ⟨t :: rest⟩ ty #[.pointer p, x] =
    (do
      let n ← asInt x
      if n < 0 then runtimePanic (.error "unsafe.String: len out of range")
      if n > IntKind.i64.max then unsupported (.unsafePointer "String: a length above the largest int")
      match p with
      | none =>
        if n = 0 then pure (.string .empty)
        else runtimePanic (.error "unsafe.String: ptr is nil and len is not zero")
      | some a =>
        if n = 0 then pure (.string .empty)
        else if ← variablesAt a (← elemOf t) n.toNat then do
          let s ← loadBytes a .empty n.toNat
          freeze a n.toNat
          pure (.string s)
        else unsupported (.unsafePointer "String: not so many bytes at ptr")) := rfl

def frFreeze (fr : AFr) (o n : Nat) : Option AFr :=
  match fr with
  | .no => some (.span o (o + n))
  | .span lo hi => bif Nat.ble o lo && Nat.ble hi (o + n) && Nat.ble lo hi then some (.span o (o + n)) else none
  | .tail => none
  | .any => none

def unsafeStringA (P : Program) (σ : ASt) (t : Option TypeId) (p n : Value) : Option (Value × ASt) :=
  match natOf n, p with
  | some 0, .pointer _ => some (.string .empty, σ)
  | some n, .pointer (some a) =>
    match t.bind P.underlying, σ.get a.block, loadN σ a n with
    | some (.pointer u), some (.cells cs e sz opn fr false), some vs =>
      bif Nat.beq u e && Nat.beq (P.cellsOf e) 1 && Nat.beq sz 1 && Nat.ble n 281474976710656 then
        match bytesL vs, frFreeze fr a.off n with
        | some ns, some fr' => some (.string (strOf ns), σ.put a.block (.cells cs e sz opn fr' false))
        | _, _ => none
      else none
    | _, _, _ => none
  | _, _ => none

theorem unsafeStringA_sound (h : WRel B w0 ρ σ w) {ts : Array TypeId} {ty : TypeId} {p p' n n' v : Value} {σ' : ASt} (hu : unsafeStringA P σ ts[0]? p n = some (v, σ')) (ht0 : ts[0]?.isSome = true) (hp : VRel ρ p p') (hn : VRel ρ n n') :
    (∃ w', (Builtin.unsafeString_ ts ty #[p', n']).run P w = .ok v w' ∧ VRel ρ v v ∧ WRel B w0 ρ σ' w') ∧ σ'.next = σ.next := by
  obtain ⟨t, rest, rfl⟩ : ∃ t rest, ts = ⟨t :: rest⟩ := by
    obtain ⟨l⟩ := ts
    cases l with
    | nil => simp at ht0
    | cons t rest => exact ⟨t, rest, rfl⟩
  have ht : (⟨t :: rest⟩ : Array TypeId)[0]? = some t := rfl
  unfold unsafeStringA at hu
  split at hu
  · rename_i a h0
    simp only [Option.some.injEq, Prod.mk.injEq] at hu
    obtain ⟨rfl, rfl⟩ := hu
    obtain ⟨k, rfl, _⟩ := natOf_some h0 hn
    refine ⟨⟨w, ?_, .flat rfl, h⟩, rfl⟩
    cases hp with
    | flat hf => cases a with
      | none => rw [unsafeString_eq]; simp [asInt, asIntOf]
      | some a => simp [flat] at hf
    | ptr htt => rw [unsafeString_eq]; simp [asInt, asIntOf]
  · rename_i n1 a hne hn1
    obtain ⟨k, rfl, _⟩ := natOf_some hn1 hn
    rw [ht] at hu
    simp only [Option.bind_some] at hu
    have hn0 : n1 ≠ 0 := fun e => hne e
    split at hu
    · rename_i u cs e sz opn fr vs hut hg hl
      cases hb : (Nat.beq u e && Nat.beq (P.cellsOf e) 1 && Nat.beq sz 1 && Nat.ble n1 281474976710656) with
      | false => rw [hb] at hu; cases hu
      | true =>
        rw [hb] at hu
        simp only [cond_true] at hu
        simp only [Bool.and_eq_true, Nat.ble_eq] at hb
        obtain ⟨⟨⟨b1, b2⟩, b3⟩, b4⟩ := hb
        have b1 := Nat.eq_of_beq_eq_true b1
        have b2 := Nat.eq_of_beq_eq_true b2
        have b3 := Nat.eq_of_beq_eq_true b3
        subst b1
        split at hu
        · rename_i ns fr' hns hfr
          simp only [Option.some.injEq, Prod.mk.injEq] at hu
          obtain ⟨rfl, rfl⟩ := hu
          cases hp with
          | flat hf => simp [flat] at hf
          | @ptr b o t' htt =>
            obtain ⟨o', ho, ys, f, rfl, m1, m2, mlen, mrel, mop, mfr⟩ := h.obj _ _ _ hg htt
            have hcells := loadN_cells (o := o) hg mrel hl
            have hvl : vs.length = n1 := by
              unfold loadN at hl
              simp only [hg] at hl
              cases hq : Nat.beq (List.take n1 (List.drop o cs)).length n1 with
              | false => rw [hq] at hl; cases hl
              | true => rw [hq] at hl; simp only [cond_true, Option.some.injEq] at hl; rw [← hl]; exact Nat.eq_of_beq_eq_true hq
            have hys := bytes_rel hns hcells
            have hnl : ns.length = n1 := by
              have := hcells.length
              rw [hys, List.length_map] at this
              omega
            have hle : t'.off + o + n1 ≤ ys.length := by
              have : (List.take n1 (List.drop (t'.off + o) ys)).length = n1 := by rw [hys, List.length_map, hnl]
              simp only [List.length_take, List.length_drop] at this
              omega
            have hlb := loadBytes_run (P := P) (w := w) (a := ⟨t'.blk, t'.off + o, none⟩) ns 0 .empty (fun j m hj => by
              rw [Nat.zero_add, Addr.add_mk]
              simp only [World.cell?, ho]
              have : (List.take n1 (List.drop (t'.off + o) ys))[j]? = some (.int .u8 m) := by rw [hys]; simp [hj]
              rw [List.getElem?_take] at this
              split at this
              · rw [List.getElem?_drop] at this; simpa using this
              · cases this)
            rw [hnl, strOf_eq, Addr.add_mk, Nat.add_zero] at hlb
            have hsh : w.shape? t'.blk = some (u, ys.length) := by simp [World.shape?, ho]
            have hva : (variablesAt ⟨t'.blk, t'.off + o, none⟩ u n1).run P w = .ok true w := by
              have hd : P.depth = (2 * (P.types.size + Made.depth) + 1) + 1 := rfl
              have hli := liesAt_same (P := P) (e := u) b2 (2 * (P.types.size + Made.depth) + 1) (count := ys.length) (off := t'.off + o) (n := n1) hle
              simp only [variablesAt, Sem.run_bind, run_program, Result.andThen_ok, run_shape, hsh, Sem.run_pure, b2, Nat.div_one]
              rw [hd, hli]
            have hfz : w.freeze ⟨t'.blk, t'.off + o, none⟩ n1 = { w with heap := w.heap.setIfInBounds t'.blk (.cells ⟨ys⟩ u (if f.1 == f.2 then (t'.off + o, t'.off + o + n1) else (min f.1 (t'.off + o), max f.2 (t'.off + o + n1)))) } := by
              have hlt : t'.blk < w.heap.size := h.lt _ _ htt
              unfold World.freeze
              rw [if_neg hn0]
              congr 1
              apply Array.ext_getElem?
              intro j
              simp only [Array.getElem?_modify, Array.getElem?_setIfInBounds]
              by_cases e1 : t'.blk = j
              · subst e1
                rw [ho]
                simp [hlt]
              · simp [e1]
            refine ⟨⟨_, ?_, .flat rfl, h.set hg htt rfl (o' := .cells ⟨ys⟩ u (if f.1 == f.2 then (t'.off + o, t'.off + o + n1) else (min f.1 (t'.off + o), max f.2 (t'.off + o + n1)))) ⟨ys, _, rfl, m1, m2, mlen, mrel, mop, ?_⟩⟩, rfl⟩
            · have t1 : ¬ ((n1 : Int) < 0) := by omega
              have t2 : ¬ ((n1 : Int) > IntKind.i64.max) := by rw [IntKind.max_i64]; omega
              have t3 : ¬ ((n1 : Int) = 0) := by omega
              rw [unsafeString_eq]
              simp only [Sem.run_bind, asInt, asIntOf, Sem.run_pure, Result.andThen_ok, t1, t2, t3, if_false, elemOf, und_run w hut, Int.toNat_natCast, hva, if_true, hlb, run_freeze, hfz]
            · unfold frFreeze at hfr
              cases fr with
              | any => cases hfr
              | no =>
                simp only [Option.some.injEq] at hfr; subst hfr
                have : f.1 = f.2 := mfr
                right
                simp [this, Nat.add_assoc]
              | tail => cases hfr
              | span lo hi =>
                simp only at hfr
                cases hz2 : (Nat.ble o lo && Nat.ble hi (o + n1) && Nat.ble lo hi) with
                | false => rw [hz2] at hfr; cases hfr
                | true =>
                  rw [hz2] at hfr
                  simp only [cond_true, Option.some.injEq] at hfr
                  subst hfr
                  simp only [Bool.and_eq_true, Nat.ble_eq] at hz2
                  right
                  rcases mfr with mfr | mfr
                  · simp [mfr, Nat.add_assoc]
                  · rw [mfr]
                    simp only [beq_iff_eq, Nat.add_left_cancel_iff]
                    split
                    · simp [Nat.add_assoc]
                    · simp only [Prod.mk.injEq]; omega
        · cases hu
    · cases hu
  · cases hu

def unsafeConvA (P : Program) (σ : ASt) (s d : TypeId) (x : Value) : Option Value :=
  match P.underlying s, P.underlying d, x with
  | some (.pointer t), some .unsafePointer, .pointer (some a) => match sizeT P t, σ.get a.block with
    | some n, some (.cells vs _ _ _ _ _) => bif !Nat.beq n 0 && Nat.blt a.off vs.length then some x else none
    | _, _ => none
  | some .unsafePointer, some (.pointer u), .pointer (some a) => match sizeT P u, σ.get a.block with
    | some n, some (.cells vs e _ false _ _) => bif !Nat.beq n 0 && liesAt P P.depth e (vs.length / P.cellsOf e) a.off u 1 then some x else none
    | _, _ => none
  | _, _, _ => none

theorem unsafeConvA_sound (h : WRel B w0 ρ σ w) {s d : TypeId} {x x' v : Value} (hc : unsafeConvA P σ s d x = some v) (hx : VRel ρ x x') :
    (convert s d x').run P w = .ok x' w ∧ VRel ρ v x' := by
  unfold unsafeConvA at hc
  split at hc
  · rename_i t a hs hd
    split at hc
    · rename_i n vs e sz opn fr ro hn hg
      cases hb : (!Nat.beq n 0 && Nat.blt a.off vs.length) with
      | false => rw [hb] at hc; cases hc
      | true =>
        rw [hb] at hc
        simp only [cond_true, Option.some.injEq] at hc
        subst hc
        simp only [Bool.and_eq_true, Bool.not_eq_true', Nat.blt_eq] at hb
        have hn0 : n ≠ 0 := fun e => by rw [e] at hb; exact absurd hb.1 (by decide)
        cases hx with
        | flat hf => simp [flat] at hf
        | @ptr b o t' ht =>
          refine ⟨?_, .ptr ht⟩
          obtain ⟨o', ho, ys, f, rfl, m1, m2, mlen, mrel, mop, mfr⟩ := h.obj _ _ _ hg ht
          have hsh : w.shape? t'.blk = some (e, ys.length) := by simp [World.shape?, ho]
          have hlt : ¬ (t'.off + o ≥ ys.length) := by
            have := hb.2
            have := Nat.zero_le (t'.extra * sz)
            simp only at *
            omega
          simp only [convert, Sem.run_bind, und_run w hs, und_run w hd, Result.andThen_ok, Conv.unsafePointer, Conv.seenAt, viewAt, run_shape, hsh, Option.isSome_some, if_true, Sem.run_pure, cellsIn, sizeT_run w hn, hn0, decide_false, Bool.false_or]
          simp [hlt]
    · cases hc
  · rename_i u a hs hd
    split at hc
    · rename_i n vs e sz fr ro hn hg
      cases hb : (!Nat.beq n 0 && liesAt P P.depth e (vs.length / P.cellsOf e) a.off u 1) with
      | false => rw [hb] at hc; cases hc
      | true =>
        rw [hb] at hc
        simp only [cond_true, Option.some.injEq] at hc
        subst hc
        simp only [Bool.and_eq_true, Bool.not_eq_true'] at hb
        have hn0 : n ≠ 0 := fun e => by rw [e] at hb; exact absurd hb.1 (by decide)
        cases hx with
        | flat hf => simp [flat] at hf
        | @ptr b o t' ht =>
          refine ⟨?_, .ptr ht⟩
          obtain ⟨o', ho, hr⟩ := h.obj _ _ _ hg ht
          have c1 := hr.closed
          have c2 := hr.closedOff
          obtain ⟨ys, f, rfl, m1, m2, mlen, mrel, mop, mfr⟩ := hr
          have hsh : w.shape? t'.blk = some (e, vs.length) := by simp [World.shape?, ho, mlen, c1, c2]
          have hla := hb.2
          simp only at hla
          simp only [convert, Sem.run_bind, und_run w hs, und_run w hd, Result.andThen_ok, Conv.unsafePointer, Conv.seenAt, viewAt, run_shape, hsh, Option.isSome_some, if_true, Sem.run_pure, sizeT_run w hn, hn0, variablesAt, run_program, c2, Nat.zero_add, hla, Bool.or_true]
    · cases hc
  · cases hc

end
end Go.Cre
end
