/- oplog: a log's entries as cells; what the evaluator's answer says of them. -/
import Derived.Test.YtljejfiecaihfaaGreatDoorOH
namespace Go.Proofs.YtljejfiecaihfaaGreatDoor
open Go Go.RowKit Go.Cre
set_option maxRecDepth 1000000
noncomputable section
def toksF (i : Nat) : Nat → List Value
  | 0 => []
  | m + 1 => tk i :: toksF (i + 1) m
def toks (m : Nat) : List Value := toksF 100 m
def sS : ByteArray := ⟨#[115]⟩
/-- A log of these cells. -/
def isLog (b : Nat) (s : ByteArray) (n : Nat) (vs : List Value) (v : Value) (σ : ASt) : Bool :=
  match v with
  | .agg ⟨[x, y, .slice ao m cap]⟩ => veq depth x (nt b) && (veq depth y (.string s) && (Nat.beq m n && (match ao with
    | none => Nat.beq n 0 && Nat.beq cap 0
    | some ⟨id, o, none⟩ => Nat.beq o 0 && (Nat.beq cap n && (match σ.get id with
      | some (.cells ws e sz _ _ _) => veqL (veq depth) ws vs && (Nat.beq e 34 && Nat.beq sz 3)
      | _ => false))
    | _ => false)))
  | _ => false
/-- As 'isLog', and nil where it is empty. -/
def isLogS (b : Nat) (s : ByteArray) (n : Nat) (vs : List Value) (v : Value) (σ : ASt) : Bool :=
  isLog b s n vs v σ && match v with
    | .agg ⟨[_, _, .slice none _ _]⟩ => Nat.beq n 0
    | .agg ⟨[_, _, .slice (some _) _ _]⟩ => !Nat.beq n 0
    | _ => false
def isAgg3 (v : Value) : Bool :=
  match v with
  | .agg ⟨[.int .i64 _, .string _, .slice _ _ _]⟩ => true
  | _ => false
def chk (rs : Option (List (Value × ASt))) (p : Value × ASt → Bool) : Bool :=
  match rs with
  | some rs => rs.all p
  | none => false
def cellsOf : List Ent → List Value
  | [] => []
  | e :: r => nt e.c :: nt e.k :: .string e.t :: cellsOf r
theorem cellsOf_length : ∀ es : List Ent, (cellsOf es).length = 3 * es.length
  | [] => rfl
  | e :: r => by simp only [cellsOf, List.length_cons, cellsOf_length r]; omega
theorem cellsOf_single : ∀ (es : List Ent) (v : Value), v ∈ cellsOf es → single v = true
  | [], v, h => by cases h
  | e :: r, v, h => by
    simp only [cellsOf, List.mem_cons] at h
    rcases h with rfl | rfl | rfl | h
    · rfl
    · rfl
    · rfl
    · exact cellsOf_single r v h
theorem cellsOf_append : ∀ a b : List Ent, cellsOf (a ++ b) = cellsOf a ++ cellsOf b
  | [], b => rfl
  | e :: r, b => by simp only [List.cons_append, cellsOf, cellsOf_append r b]
theorem cellsOf_drop : ∀ (k : Nat) (es : List Ent), cellsOf (es.drop k) = (cellsOf es).drop (3 * k)
  | 0, es => rfl
  | k + 1, [] => by simp [cellsOf]
  | k + 1, e :: r => by
    rw [List.drop_succ_cons, cellsOf_drop k r, Nat.mul_add]
    rfl
theorem cellsOf_take : ∀ (k : Nat) (es : List Ent), cellsOf (es.take k) = (cellsOf es).take (3 * k)
  | 0, es => rfl
  | k + 1, [] => by simp [cellsOf]
  | k + 1, e :: r => by
    rw [List.take_succ_cons, cellsOf, cellsOf_take k r, Nat.mul_add]
    rfl
theorem cellsOf_get : ∀ (es : List Ent) (j : Nat) (e : Ent), es[j]? = some e → (cellsOf es)[3 * j]? = some (nt e.c) ∧ (cellsOf es)[3 * j + 1]? = some (nt e.k) ∧ (cellsOf es)[3 * j + 2]? = some (.string e.t)
  | [], j, e, h => by simp at h
  | x :: r, 0, e, h => by
    simp only [List.getElem?_cons_zero, Option.some.injEq] at h
    subst h
    exact ⟨rfl, rfl, rfl⟩
  | x :: r, j + 1, e, h => by
    rw [List.getElem?_cons_succ] at h
    exact cellsOf_get r j e h
/-- A row of entries with what is spare behind it. -/
def LogAt (w : World) (ao : Option Addr) (cap : Nat) (es : List Ent) : Prop :=
  (es = [] ∧ ao = none ∧ cap = 0) ∨ ∃ t o, RowIn w t (cellsOf es) 34 ∧ t.sz = 3 ∧ ao = some ⟨t.blk, o, none⟩ ∧ (es ≠ [] → o = t.off ∧ cap = es.length + t.extra)
theorem LogAt.row {w : World} {ao : Option Addr} {cap : Nat} {es : List Ent} (h : LogAt w ao cap es) : RowAt w ao es := by
  intro j e hj
  rcases h with ⟨rfl, _, _⟩ | ⟨t, o, ⟨h1, h2, ys, f, h3, h4, h5⟩, hs, rfl, ho⟩
  · simp at hj
  · obtain ⟨rfl, _⟩ := ho (fun e => by subst e; simp at hj)
    obtain ⟨k0, k1, k2⟩ := cellsOf_get es j e hj
    have hjl : j < es.length := (List.getElem?_eq_some_iff.1 hj).1
    have cl := cellsOf_length es
    have key : ∀ i v, (cellsOf es)[i]? = some v → w.cell? ⟨t.blk, t.off + i, none⟩ = some v := by
      intro i v hv
      rw [← h5] at hv
      rw [List.getElem?_take] at hv
      split at hv
      · rw [List.getElem?_drop] at hv
        simp [World.cell?, h3, hv]
      · cases hv
    exact ⟨t.blk, t.off, rfl, h1, by rw [Nat.mul_comm]; exact key _ _ k0, by rw [Nat.mul_comm, Nat.add_assoc]; exact key _ _ k1, by rw [Nat.mul_comm, Nat.add_assoc]; exact key _ _ k2⟩
theorem LogAt.below {w w' : World} {ao : Option Addr} {cap : Nat} {es : List Ent} (h : LogAt w ao cap es) (hb : Below w.heap.size w w') : LogAt w' ao cap es := by
  rcases h with h | ⟨t, o, h1, h2⟩
  · exact .inl h
  · exact .inr ⟨t, o, h1.below hb, h2⟩
variable {P : Program} {G : Gl} {B : Nat} {w0 w : World} {ρ ρ' : Ren} {σ : ASt}
theorem toks_rel : ∀ (l : List Value) (i : Nat), (∀ j v, l[j]? = some v → ρ (i + j) = some (tokT v)) → (∀ v, v ∈ l → single v = true) → LRel ρ (toksF i l.length) l
  | [], i, _, _ => .nil
  | v :: r, i, h, hs => .cons (vT (h 0 v rfl) rfl (hs v List.mem_cons_self)) (toks_rel r (i + 1) (fun j u hu => by
      have := h (j + 1) u hu
      rw [show i + 1 + j = i + (j + 1) by omega]; exact this) (fun u hu => hs u (List.mem_cons_of_mem _ hu)))
theorem toks_inv : ∀ (l : List Value) (i : Nat) {x : List Value}, (∀ j v, l[j]? = some v → ρ (i + j) = some (tokT v)) → LRel ρ (toksF i l.length) x → x = l
  | [], i, x, _, h => nilV h
  | v :: r, i, x, h, hx => by
    obtain ⟨y, s, rfl, h1, h2⟩ := consV hx
    have e1 := tokV (h 0 v rfl) h1
    have e2 := toks_inv r (i + 1) (fun j u hu => by
      have := h (j + 1) u hu
      rw [show i + 1 + j = i + (j + 1) by omega]; exact this) h2
    rw [e1, e2]
    rfl
def envC : Nat → List Value → List (Nat × Tgt)
  | _, [] => []
  | i, v :: r => (i, tokT v) :: envC (i + 1) r
theorem envC_at : ∀ (l : List Value) (i j : Nat) (v : Value) (e2 : List (Nat × Tgt)), l[j]? = some v → lookE (envC i l ++ e2) (i + j) = some (tokT v)
  | [], i, j, v, e2, h => by simp at h
  | x :: r, i, 0, v, e2, h => by
    simp only [List.getElem?_cons_zero, Option.some.injEq] at h
    subst h
    simp [envC, lookE]
  | x :: r, i, j + 1, v, e2, h => by
    rw [List.getElem?_cons_succ] at h
    have := envC_at r (i + 1) j v e2 h
    simp only [envC, List.cons_append, lookE]
    rw [if_neg (by omega), show i + (j + 1) = i + 1 + j by omega]
    exact this
theorem envC_lt : ∀ (l : List Value) (i b : Nat) (e2 : List (Nat × Tgt)), b < i → lookE (envC i l ++ e2) b = lookE e2 b
  | [], i, b, e2, h => rfl
  | x :: r, i, b, e2, h => by
    simp only [envC, List.cons_append, lookE]
    rw [if_neg (by omega)]
    exact envC_lt r (i + 1) b e2 (by omega)
theorem envC_mem : ∀ (l : List Value) (i : Nat) (p : Nat × Tgt), p ∈ envC i l → p.2.blk = 0 ∧ i ≤ p.1 ∧ p.1 < i + l.length
  | [], i, p, h => by cases h
  | x :: r, i, p, h => by
    rcases List.mem_cons.1 h with rfl | h
    · exact ⟨rfl, Nat.le_refl _, by simp⟩
    · have := envC_mem r (i + 1) p h
      simp only [List.length_cons]
      omega
/-- A call that the evaluator answers: each of its outcomes passes. -/
theorem calls_chk {R : Rec} (hR : RecOk P G B w0 R) {f : FuncId} {args args' : List Value} {p : Value × ASt → Bool} (h : chk (R.call f args σ) p = true) (hg : GOk P G ρ) (hw : WRel B w0 ρ σ w) (ha : LRel ρ args args') :
    Calls P f ⟨args'⟩ w fun e w' => ∃ r, p r = true ∧ ∃ ρ' v', e = .returned v' ∧ Ext σ.next ρ ρ' ∧ VRel ρ' r.1 v' ∧ WRel B w0 ρ' r.2 w' := by
  unfold chk at h
  split at h
  · rename_i rs hrs
    refine (callsIn_wide.1 (hR.call f args σ rs hrs ρ w args' hg hw ha)).mono ?_
    rintro e w' ⟨r, hr, ρ', v', h1, h2, _, h3, h4⟩
    exact ⟨r, List.all_eq_true.1 h r hr, ρ', v', h1, h2, h3, h4⟩
  · cases h
theorem isLog_rel {b : Nat} {s : ByteArray} {n : Nat} {vs : List Value} {v v' : Value} {es : List Ent} (h : isLog b s n vs v σ = true) (hv : VRel ρ v v') (hw : WRel B w0 ρ σ w) (hn : n = es.length) (hc : ∀ x, LRel ρ vs x → x = cellsOf es) :
    ∃ ao cap, v' = lg b s ao n cap ∧ LogAt w ao cap es := by
  unfold isLog at h
  split at h
  · rename_i x y ao m cap
    simp only [Bool.and_eq_true] at h
    obtain ⟨h1, h2, h3, h4⟩ := h
    have h1 := veq_eq depth h1
    have h2 := veq_eq depth h2
    have h3 := Nat.eq_of_beq_eq_true h3
    subst h1 h2 h3
    obtain ⟨l, rfl, hl⟩ := aggV hv
    obtain ⟨x', _, rfl, g1, hl⟩ := consV hl
    obtain ⟨y', _, rfl, g2, hl⟩ := consV hl
    obtain ⟨z', _, rfl, g3, hl⟩ := consV hl
    cases nilV hl
    have g1 := flat_eq (v := nt b) rfl g1
    have g2 := flat_eq (v := .string s) rfl g2
    subst g1 g2
    split at h4
    · simp only [Bool.and_eq_true] at h4
      have e1 := Nat.eq_of_beq_eq_true h4.1
      have e2 := Nat.eq_of_beq_eq_true h4.2
      subst e2
      have g3 := flat_eq (v := .slice none m 0) rfl g3
      subst g3
      refine ⟨none, 0, rfl, .inl ⟨?_, rfl, rfl⟩⟩
      exact List.eq_nil_of_length_eq_zero (by omega)
    · rename_i id o
      simp only [Bool.and_eq_true] at h4
      obtain ⟨e1, e2, h5⟩ := h4
      have e1 := Nat.eq_of_beq_eq_true e1
      have e2 := Nat.eq_of_beq_eq_true e2
      subst e1 e2
      split at h5
      · rename_i ws e sz opn fr ro hg
        simp only [Bool.and_eq_true] at h5
        obtain ⟨e3, e4, e5⟩ := h5
        have e3 := veqL_eq (fun _ _ => veq_eq depth) e3
        have e4 := Nat.eq_of_beq_eq_true e4
        have e5 := Nat.eq_of_beq_eq_true e5
        subst e3 e4 e5
        cases g3 with
        | flat hf => simp [flat] at hf
        | slice ht hc0 =>
          obtain ⟨vs', k1, k2, k3⟩ := hw.rowIn hg ht
          have k4 := hc _ k1
          subst k4
          refine ⟨_, _, rfl, .inr ⟨_, _, k2, k3, rfl, fun _ => ⟨rfl, ?_⟩⟩⟩
          have := k2.2.1
          rw [cellsOf_length] at this
          rw [if_pos (by rw [this, k3]; omega), ← hn]
        | slice0 ht hc0 =>
          obtain ⟨vs', k1, k2, k3⟩ := hw.rowIn hg ht
          have k4 := hc _ k1
          subst k4
          exact ⟨_, _, rfl, .inr ⟨_, _, k2, k3, rfl, fun hne => absurd (List.eq_nil_of_length_eq_zero hn.symm) hne⟩⟩
      · cases h5
    · cases h4
  · cases h
/-- A row of entries; nil where there are none. -/
def LogS (w : World) (ao : Option Addr) (cap : Nat) (es : List Ent) : Prop :=
  (es = [] ∧ ao = none ∧ cap = 0) ∨ ∃ t, es ≠ [] ∧ RowIn w t (cellsOf es) 34 ∧ t.sz = 3 ∧ ao = some ⟨t.blk, t.off, none⟩ ∧ cap = es.length + t.extra
theorem LogS.at {w : World} {ao : Option Addr} {cap : Nat} {es : List Ent} (h : LogS w ao cap es) : LogAt w ao cap es := by
  rcases h with h | ⟨t, h0, h1, h2, rfl, h3⟩
  · exact .inl h
  · exact .inr ⟨t, t.off, h1, h2, rfl, fun _ => ⟨rfl, h3⟩⟩
theorem LogS.below {w w' : World} {ao : Option Addr} {cap : Nat} {es : List Ent} (h : LogS w ao cap es) (hb : Below w.heap.size w w') : LogS w' ao cap es := by
  rcases h with h | ⟨t, h0, h1, h2⟩
  · exact .inl h
  · exact .inr ⟨t, h0, h1.below hb, h2⟩
theorem isLogS_rel {b : Nat} {s : ByteArray} {n : Nat} {vs : List Value} {v v' : Value} {es : List Ent} (h : isLogS b s n vs v σ = true) (hv : VRel ρ v v') (hw : WRel B w0 ρ σ w) (hn : n = es.length) (hc : ∀ x, LRel ρ vs x → x = cellsOf es) :
    ∃ ao cap, v' = lg b s ao n cap ∧ LogS w ao cap es := by
  unfold isLogS at h
  simp only [Bool.and_eq_true] at h
  obtain ⟨h, hh⟩ := h
  obtain ⟨ao, cap, rfl, hA⟩ := isLog_rel h hv hw hn hc
  refine ⟨ao, cap, rfl, ?_⟩
  split at hh
  · rename_i x y m c
    have e1 := Nat.eq_of_beq_eq_true hh
    have hes : es = [] := List.eq_nil_of_length_eq_zero (by omega)
    obtain ⟨l, e, hl⟩ := aggV hv
    obtain ⟨x', _, rfl, g1, hl⟩ := consV hl
    obtain ⟨y', _, rfl, g2, hl⟩ := consV hl
    obtain ⟨z', _, rfl, g3, hl⟩ := consV hl
    cases nilV hl
    have g3 := flat_eq (v := .slice none m c) rfl g3
    subst g3
    cases e
    simp only [isLog, Bool.and_eq_true] at h
    exact .inl ⟨hes, rfl, Nat.eq_of_beq_eq_true h.2.2.2.2⟩
  · have hne : es ≠ [] := fun e => by
      subst e
      rw [hn] at hh
      cases hh
    rcases hA with ⟨e, _⟩ | ⟨t, o, h1, h2, rfl, h3⟩
    · exact absurd e hne
    · obtain ⟨rfl, h4⟩ := h3 hne
      exact .inr ⟨t, hne, h1, h2, rfl, h4⟩
  · cases hh
theorem isAgg3_rel {v v' : Value} (h : isAgg3 v = true) (hv : VRel ρ v v') : ∃ x y z, v' = .agg ⟨[x, y, z]⟩ ∧ single x = true ∧ single y = true ∧ single z = true := by
  unfold isAgg3 at h
  split at h
  · obtain ⟨l, rfl, hl⟩ := aggV hv
    obtain ⟨x', _, rfl, g1, hl⟩ := consV hl
    obtain ⟨y', _, rfl, g2, hl⟩ := consV hl
    obtain ⟨z', _, rfl, g3, hl⟩ := consV hl
    cases nilV hl
    refine ⟨_, _, _, rfl, ?_, ?_, ?_⟩
    · cases g1; rfl
    · cases g2; rfl
    · cases g3 <;> rfl
  · cases h
end
end Go.Proofs.YtljejfiecaihfaaGreatDoor
