/-
What one operation comes to, calls of functions left out.
-/
import Derived.Test.YtmcccdgpmlacdaaGreatDoorCreM
import Derived.TacticsIn
noncomputable section
namespace Go.Cre
open Go.RowKit (Below)

def getF (l : List Value) (n : Nat) : Value := List.rec (motive := fun _ => Nat → Value) (fun _ => undef) (fun a _ ih n => Bool.casesOn (Nat.beq n 0) (ih (Nat.sub n 1)) a) l n
def setF (l : List Value) (n : Nat) (v : Value) : List Value := List.rec (motive := fun _ => Nat → List Value) (fun _ => []) (fun a r ih n => Bool.casesOn (Nat.beq n 0) (a :: ih (Nat.sub n 1)) (v :: r)) l n
theorem getF_eq (l : List Value) : ∀ n, getF l n = l.getD n undef := by
  induction l with
  | nil => intro n; rfl
  | cons a l ih =>
    intro n
    cases n with
    | zero => rfl
    | succ n => exact (ih n).trans rfl
theorem setF_eq (l : List Value) (v : Value) : ∀ n, setF l n v = l.set n v := by
  induction l with
  | nil => intro n; rfl
  | cons a l ih =>
    intro n
    cases n with
    | zero => rfl
    | succ n => exact congrArg (a :: ·) (ih n)

def ev (ts : List Value) : Operand → Value
  | .tmp t => getF ts t
  | .const v => v
  | .global g => .pointer (some ⟨g, 0, none⟩)
  | .func f => .func (.func f) #[] #[]

/-- An operation on values that are told by name alone. -/
inductive TKey where
  | bin (op : BinOp) (t : TypeId) (x y : Value)
  | un (op : UnOp) (x : Value)
  | conv (s d : TypeId) (x : Value)
  | len (t : TypeId) (x : Value)
  | idxA (t : TypeId) (x i : Value)
  | idx (t : TypeId) (x i : Value)
  | cut (t : TypeId) (x : Value) (lo hi : Option Value)
  | pin (x : Value)
  | two (b : Builtin) (t : TypeId) (x y : Value)

/-- How many package-level variables; what operations on named values give. -/
structure Gl where
  n : Nat
  tab : List (TKey × Value)

def okOp (G : Gl) : Operand → Bool
  | .const v => flat2 v
  | .global g => Nat.blt g G.n
  | _ => true

/-- What a value stands for, whatever comes. -/
def Solid0 (ρ : Ren) (x x' : Value) : Prop := (flat2 x = true ∧ x' = x) ∨ ∃ k t, x = .chan (some k) ∧ ρ k = some t ∧ x' = t.val
theorem Solid0.mono {ρ ρ' : Ren} {x x' : Value} (h : Solid0 ρ x x') (hs : Sub ρ ρ') : Solid0 ρ' x x' := by
  rcases h with h | ⟨k, t, h1, h2, h3⟩
  · exact .inl h
  · exact .inr ⟨k, t, h1, hs _ _ h2, h3⟩
theorem Solid0.eq {ρ : Ren} {x x' y : Value} (h : Solid0 ρ x x') (hy : VRel ρ x y) : y = x' := by
  rcases h with ⟨h, rfl⟩ | ⟨k, t, rfl, h2, rfl⟩
  · exact flat2_eq h hy
  · cases hy with
    | flat hf => simp [flat] at hf
    | tok h3 _ => rw [h2] at h3; cases h3; rfl
inductive SolidL (ρ : Ren) : List Value → List Value → Prop
  | nil : SolidL ρ [] []
  | cons {x x' : Value} {l l' : List Value} (h : Solid0 ρ x x') (hl : SolidL ρ l l') : SolidL ρ (x :: l) (x' :: l')
theorem SolidL.mono {ρ ρ' : Ren} {l l' : List Value} (h : SolidL ρ l l') (hs : Sub ρ ρ') : SolidL ρ' l l' := by
  induction h with
  | nil => exact .nil
  | cons h _ ih => exact .cons (h.mono hs) ih
theorem SolidL.eq {ρ : Ren} {l l' : List Value} (h : SolidL ρ l l') : ∀ {y}, LRel ρ l y → y = l' := by
  induction h with
  | nil => intro y hy; cases hy; rfl
  | cons h _ ih => intro y hy; cases hy with | cons h1 h2 => rw [h.eq h1, ih h2]
def Solid (ρ : Ren) (x x' : Value) : Prop := Solid0 ρ x x' ∨ ∃ l l', x = .agg ⟨l⟩ ∧ x' = .agg ⟨l'⟩ ∧ SolidL ρ l l'
theorem Solid.mono {ρ ρ' : Ren} {x x' : Value} (h : Solid ρ x x') (hs : Sub ρ ρ') : Solid ρ' x x' := by
  rcases h with h | ⟨l, l', h1, h2, h3⟩
  · exact .inl (h.mono hs)
  · exact .inr ⟨l, l', h1, h2, h3.mono hs⟩
theorem Solid.eq {ρ : Ren} {x x' y : Value} (h : Solid ρ x x') (hy : VRel ρ x y) : y = x' := by
  rcases h with h | ⟨l, l', rfl, rfl, h⟩
  · exact h.eq hy
  · cases hy with
    | flat hf => simp [flat] at hf
    | agg h2 => rw [h.eq h2]
def SolidO (ρ : Ren) : Option Value → Option Value → Prop
  | none, none => True
  | some x, some y => Solid ρ x y
  | _, _ => False
theorem SolidO.mono {ρ ρ' : Ren} {x x' : Option Value} (h : SolidO ρ x x') (hs : Sub ρ ρ') : SolidO ρ' x x' := by
  cases x <;> cases x' <;> first | exact h | exact Solid.mono h hs

def Fact (P : Program) (ρ : Ren) : TKey × Value → Prop
  | (.bin op t x y, v) => ∃ x' y' v', Solid ρ x x' ∧ Solid ρ y y' ∧ VRel ρ v v' ∧ ∀ w ox oy, (do eqGuard op t ox oy x' y'; binOp op t x' y' : Sem Value).run P w = .ok v' w
  | (.un op x, v) => ∃ x' v', Solid ρ x x' ∧ VRel ρ v v' ∧ ∀ w, (Op.unary op x').run P w = .ok v' w
  | (.conv s d x, v) => ∃ x' v', Solid ρ x x' ∧ VRel ρ v v' ∧ ∀ w, (convert s d x').run P w = .ok v' w
  | (.len t x, v) => ∃ x' v', Solid ρ x x' ∧ VRel ρ v v' ∧ ∀ w (ats : Array TypeId) ty cs, ats[0]? = some t → (builtin .len ats ty cs #[x']).run P w = .ok (.value v') w
  | (.idxA t x i, v) => ∃ x' i' v', Solid ρ x x' ∧ Solid ρ i i' ∧ VRel ρ v v' ∧ ∀ w, (Instr.indexAt t x' i').run P w = .ok v' w
  | (.idx t x i, v) => ∃ x' i' v', Solid ρ x x' ∧ Solid ρ i i' ∧ VRel ρ v v' ∧ ∀ w, (Instr.index t x' i').run P w = .ok v' w
  | (.cut t x lo hi, v) => ∃ x' lo' hi' v', Solid ρ x x' ∧ SolidO ρ lo lo' ∧ SolidO ρ hi hi' ∧ VRel ρ v v' ∧ ∀ w, (Instr.sliceAt t x' lo' hi' none).run P w = .ok v' w
  | (.pin x, v) => Solid ρ x v ∧ VRel ρ x v
  | (.two b t x y, v) => ∃ x' y' v', Solid ρ x x' ∧ Solid ρ y y' ∧ VRel ρ v v' ∧ ∀ w (ats : Array TypeId) ty cs, ats[0]? = some t → (builtin b ats ty cs #[x', y']).run P w = .ok (.value v') w
theorem Fact.mono {P : Program} {ρ ρ' : Ren} {e : TKey × Value} (h : Fact P ρ e) (hs : Sub ρ ρ') : Fact P ρ' e := by
  obtain ⟨k, v⟩ := e
  cases k with
  | bin op t x y => obtain ⟨x', y', v', h1, h2, h3, h4⟩ := h; exact ⟨x', y', v', h1.mono hs, h2.mono hs, h3.mono hs, h4⟩
  | un op x => obtain ⟨x', v', h1, h3, h4⟩ := h; exact ⟨x', v', h1.mono hs, h3.mono hs, h4⟩
  | conv s d x => obtain ⟨x', v', h1, h3, h4⟩ := h; exact ⟨x', v', h1.mono hs, h3.mono hs, h4⟩
  | len t x => obtain ⟨x', v', h1, h3, h4⟩ := h; exact ⟨x', v', h1.mono hs, h3.mono hs, h4⟩
  | idxA t x i => obtain ⟨x', y', v', h1, h2, h3, h4⟩ := h; exact ⟨x', y', v', h1.mono hs, h2.mono hs, h3.mono hs, h4⟩
  | idx t x i => obtain ⟨x', y', v', h1, h2, h3, h4⟩ := h; exact ⟨x', y', v', h1.mono hs, h2.mono hs, h3.mono hs, h4⟩
  | pin x => exact ⟨Solid.mono h.1 hs, VRel.mono hs h.2⟩
  | two b t x y => obtain ⟨x', y', v', h1, h2, h3, h4⟩ := h; exact ⟨x', y', v', h1.mono hs, h2.mono hs, h3.mono hs, h4⟩
  | cut t x lo hi => obtain ⟨x', y', z', v', h1, h2, h2', h3, h4⟩ := h; exact ⟨x', y', z', v', h1.mono hs, h2.mono hs, h2'.mono hs, h3.mono hs, h4⟩

/-- The package-level variables lie where they lie; the table holds. -/
def GOk (P : Program) (G : Gl) (ρ : Ren) : Prop := (∀ g, g < G.n → ∃ t, ρ g = some t ∧ t.blk = g ∧ t.off = 0) ∧ ∀ e, e ∈ G.tab → Fact P ρ e
theorem GOk.mono {P : Program} {G : Gl} {ρ ρ' : Ren} (h : GOk P G ρ) (hs : Sub ρ ρ') : GOk P G ρ' := ⟨fun g hg => let ⟨t, h1, h2⟩ := h.1 g hg; ⟨t, hs _ _ h1, h2⟩, fun e he => (h.2 e he).mono hs⟩

section
variable {G : Gl} {P : Program} {B : Nat} {w0 : World} {ρ : Ren} {σ : ASt} {w : World} {ts : List Value} {a : Act}

theorem ev_rel (hg : GOk P G ρ) (ht : LRel ρ ts a.tmps.toList) {x : Operand} (hx : okOp G x = true) : VRel ρ (ev ts x) (a.eval x) := by
  cases x with
  | tmp t =>
    have := ht.getD t
    simpa [ev, getF_eq, Act.eval] using this
  | const v => exact flat2_refl hx
  | global g =>
    obtain ⟨t, h1, h2, h3⟩ := hg.1 g (by simpa [okOp, Nat.blt_eq] using hx)
    have := VRel.ptr (o := 0) h1
    simpa [ev, Act.eval, h2, h3] using this
  | func f => exact .func rfl .nil .nil

/-- An operation on values without addresses, that asks the program alone. -/
def flatOp (P : Program) (ts : List Value) (o : Oper) : Option Value :=
  bif o.op.operands.toList.all fun x => flat2 (ev ts x) then
    match pureRun P (execOp (ev ts) o) with
    | some (.value v) => bif flat2 v then some v else none
    | _ => none
  else none

def isSelect : Op → Bool
  | .select .. => true
  | _ => false

def nilCheckA (x : Value) : Option Value :=
  match x with
  | .pointer (some a) => some (.pointer (some a))
  | .func (.func f) u v => some (.func (.func f) u v)
  | .func (.yield l) u v => some (.func (.yield l) u v)
  | _ => none

def builtinA (P : Program) (σ : ASt) (b : Builtin) (ats : Array TypeId) (args : List Value) : Option (Value × ASt) :=
  match b, args with
  | .len, [x] => match lenA P σ ats[0]? x with
    | some v => some (v, σ)
    | none => none
  | .cap, [x] => match capA P σ ats[0]? x with
    | some v => some (v, σ)
    | none => none
  | .append, [s, x] => appendA P σ ats[0]? ats[1]? s x
  | .copy, [d, s] => copyA P σ ats[0]? d s
  | .delete, [m, k] => match deleteA P σ ats[0]? m k with
    | some σ' => some (.tuple #[], σ')
    | none => none
  | .unsafeSliceData, [x] => match sliceDataA x with
    | some v => some (v, σ)
    | none => none
  | .unsafeString, [p, n] => bif ats[0]?.isSome then unsafeStringA P σ ats[0]? p n else none
  | _, _ => none

def memOp (P : Program) (ts : List Value) (o : Oper) (σ : ASt) : Option (Value × ASt) :=
  match o.op with
  | .move x | .assign x => some (ev ts x, σ)
  | .pick c x y => match ev ts c with
    | .bool t => some (bif t then ev ts x else ev ts y, σ)
    | _ => none
  | .alloc t => match zeroT P t with
    | some z => some (newA σ t z)
    | none => none
  | .box t x => bif solid (ev ts x) then some (newA σ t (ev ts x).cells.toList) else none
  | .build t parts => match buildA P t (parts.toList.map fun p => (p.1, ev ts p.2)) with
    | some v => some (v, σ)
    | none => none
  | .buildSlice t n parts => buildSliceA P σ t n (parts.toList.map fun p => (p.1, ev ts p.2))
  | .load t x => match loadV P σ t (ev ts x) with
    | some v => some (v, σ)
    | none => none
  | .store t x y => match storeV P σ t (ev ts x) (ev ts y) with
    | some σ' => some (undef, σ')
    | none => none
  | .nilCheck x => match nilCheckA (ev ts x) with
    | some v => some (v, σ)
    | none => none
  | .binOp op t x y _ => match binA P op t (ev ts x) (ev ts y) with
    | some v => some (v, σ)
    | none => none
  | .convert s d x => match unsafeConvA P σ s d (ev ts x) with
    | some v => some (v, σ)
    | none => convA P σ s d (ev ts x)
  | .makeInterface t x => match makeIfaceA P t (ev ts x) with
    | some v => some (v, σ)
    | none => none
  | .makeFunc (.func f) first captured => some (.func (.func f) ⟨first.toList.map (ev ts)⟩ ⟨captured.toList.map (ev ts)⟩, σ)
  | .makeMap _ r => makeMapA σ (r.map (ev ts))
  | .makeSlice t l c => makeSliceA P σ t (ev ts l) (ev ts c)
  | .slice t x lo hi mx => bif mx.isNone || hi.isSome then
      match sliceA P σ t (ev ts x) (lo.map (ev ts)) (hi.map (ev ts)) (mx.map (ev ts)) with
      | some v => some (v, σ)
      | none => none
    else none
  | .fieldAddr t x f => match fieldAddrA P t (ev ts x) f with
    | some v => some (v, σ)
    | none => none
  | .field t x f => match fieldA P t (ev ts x) f with
    | some v => some (v, σ)
    | none => none
  | .indexAddr t x i => match indexAddrA P t (ev ts x) (ev ts i) with
    | some v => some (v, σ)
    | none => none
  | .index t x i => match indexA P t (ev ts x) (ev ts i) with
    | some v => some (v, σ)
    | none => none
  | .lookup t x i ok => match lookupA P σ t (ev ts x) (ev ts i) ok with
    | some v => some (v, σ)
    | none => none
  | .mapUpdate t m k x | .insert t m k x => match updateA P σ t (ev ts m) (ev ts k) (ev ts x) with
    | some σ' => some (undef, σ')
    | none => none
  | .range t x => rangeA P σ t (ev ts x)
  | .next x false => nextA σ (ev ts x)
  | .entry x => match entryA σ (ev ts x) with
    | some v => some (v, σ)
    | none => none
  | .typeAssert x _ t ok => match typeAssertA P (ev ts x) t ok with
    | some v => some (v, σ)
    | none => none
  | .extract x i => match extractA (ev ts x) i with
    | some v => some (v, σ)
    | none => none
  | .call ⟨.builtin b, args, ats⟩ => builtinA P σ b ats (args.toList.map (ev ts))
  | _ => none

/-! The arms, by name: so the kernel copies little. -/
def okOper (G : Gl) (o : Oper) : Bool := !isSelect o.op && o.op.operands.toList.all (okOp G)
def pureV (P : Program) (σ : ASt) (s : Sem Value) : Option (Value × ASt) :=
  match pureRun P s with
  | some v => Bool.casesOn (flat2 v) none (some (v, σ))
  | none => none
def a_pick (ts : List Value) (σ : ASt) (c x y : Operand) : Option (Value × ASt) := match ev ts c with
  | .bool t => some (Bool.casesOn t (ev ts y) (ev ts x), σ)
  | _ => none
def a_alloc (P : Program) (σ : ASt) (t : TypeId) : Option (Value × ASt) := match zeroT P t with
  | some z => some (newA σ t z)
  | none => none
def a_build (P : Program) (ts : List Value) (σ : ASt) (t : TypeId) (parts : Array (Nat × Operand)) : Option (Value × ASt) :=
  match buildA P t (parts.toList.map fun p => (p.1, ev ts p.2)) with
  | some v => some (v, σ)
  | none => none
def a_load (P : Program) (ts : List Value) (σ : ASt) (t : TypeId) (x : Operand) : Option (Value × ASt) := match loadV P σ t (ev ts x) with
  | some v => some (v, σ)
  | none => none
def a_store (P : Program) (ts : List Value) (σ : ASt) (t : TypeId) (x y : Operand) : Option (Value × ASt) := match storeV P σ t (ev ts x) (ev ts y) with
  | some σ' => some (undef, σ')
  | none => none
def a_nil (ts : List Value) (σ : ASt) (x : Operand) : Option (Value × ASt) := match nilCheckA (ev ts x) with
  | some v => some (v, σ)
  | none => none
def a_bin1 (P : Program) (ts : List Value) (σ : ASt) (op : BinOp) (t : TypeId) (x y : Operand) : Option (Value × ASt) := match binA P op t (ev ts x) (ev ts y) with
  | some v => some (v, σ)
  | none => none
def a_bin (P : Program) (ts : List Value) (σ : ASt) (op : BinOp) (t : TypeId) (x y : Operand) : Option (Value × ASt) :=
  Bool.casesOn (flat2 (ev ts x)) (a_bin1 P ts σ op t x y) (Bool.casesOn (flat2 (ev ts y)) (a_bin1 P ts σ op t x y) (pureV P σ (do eqGuard op t x y (ev ts x) (ev ts y); binOp op t (ev ts x) (ev ts y))))
def a_un (P : Program) (ts : List Value) (σ : ASt) (op : UnOp) (x : Operand) : Option (Value × ASt) :=
  Bool.casesOn (flat2 (ev ts x)) none (pureV P σ (Op.unary op (ev ts x)))
def a_index1 (P : Program) (ts : List Value) (σ : ASt) (t : TypeId) (x i : Operand) : Option (Value × ASt) := match indexA P t (ev ts x) (ev ts i) with
  | some v => some (v, σ)
  | none => none
def a_index (P : Program) (ts : List Value) (σ : ASt) (t : TypeId) (x i : Operand) : Option (Value × ASt) :=
  Bool.casesOn (flat2 (ev ts x)) (a_index1 P ts σ t x i) (Bool.casesOn (flat2 (ev ts i)) none (pureV P σ (Instr.index t (ev ts x) (ev ts i))))
def a_iface (P : Program) (ts : List Value) (σ : ASt) (t : TypeId) (x : Operand) : Option (Value × ASt) := match makeIfaceA P t (ev ts x) with
  | some v => some (v, σ)
  | none => none
def a_fieldAddr (P : Program) (ts : List Value) (σ : ASt) (t : TypeId) (x : Operand) (f : Nat) : Option (Value × ASt) := match fieldAddrA P t (ev ts x) f with
  | some v => some (v, σ)
  | none => none
def a_field (P : Program) (ts : List Value) (σ : ASt) (t : TypeId) (x : Operand) (f : Nat) : Option (Value × ASt) := match fieldA P t (ev ts x) f with
  | some v => some (v, σ)
  | none => none
def a_indexAddr (P : Program) (ts : List Value) (σ : ASt) (t : TypeId) (x i : Operand) : Option (Value × ASt) := match indexAddrA P t (ev ts x) (ev ts i) with
  | some v => some (v, σ)
  | none => none
def a_lookup (P : Program) (ts : List Value) (σ : ASt) (t : TypeId) (x i : Operand) (ok : Bool) : Option (Value × ASt) := match lookupA P σ t (ev ts x) (ev ts i) ok with
  | some v => some (v, σ)
  | none => none
def a_update (P : Program) (ts : List Value) (σ : ASt) (t : TypeId) (m k x : Operand) : Option (Value × ASt) := match updateA P σ t (ev ts m) (ev ts k) (ev ts x) with
  | some σ' => some (undef, σ')
  | none => none
def a_extract (ts : List Value) (σ : ASt) (x : Operand) (i : Nat) : Option (Value × ASt) := match extractA (ev ts x) i with
  | some v => some (v, σ)
  | none => none

/-- The frequent ones. -/
def fastA (P : Program) (ts : List Value) (o : Oper) (σ : ASt) : Option (Value × ASt) :=
  match o.op with
  | .move x => some (ev ts x, σ)
  | .assign x => some (ev ts x, σ)
  | .pick c x y => a_pick ts σ c x y
  | .alloc t => a_alloc P σ t
  | .box t x => bif solid (ev ts x) then some (newA σ t (ev ts x).cells.toList) else none
  | .build t parts => a_build P ts σ t parts
  | .load t x => a_load P ts σ t x
  | .store t x y => a_store P ts σ t x y
  | .nilCheck x => a_nil ts σ x
  | .binOp op t x y _ => a_bin P ts σ op t x y
  | .unOp op _ x => a_un P ts σ op x
  | .index t x i => a_index P ts σ t x i
  | .makeInterface t x => a_iface P ts σ t x
  | .fieldAddr t x f => a_fieldAddr P ts σ t x f
  | .field t x f => a_field P ts σ t x f
  | .indexAddr t x i => a_indexAddr P ts σ t x i
  | .lookup t x i ok => a_lookup P ts σ t x i ok
  | .mapUpdate t m k x => a_update P ts σ t m k x
  | .extract x i => a_extract ts σ x i
  | _ => none

def flatS (P : Program) (ts : List Value) (o : Oper) (σ : ASt) : Option (Value × ASt) :=
  match flatOp P ts o with
  | some v => some (v, σ)
  | none => memOp P ts o σ

/-! What is told by name: looked up. -/
def byteQ : List UInt8 → List UInt8 → Bool
  | [], [] => true
  | a :: as, b :: bs => Nat.beq a.toNat b.toNat && byteQ as bs
  | _, _ => false
def vE0 (x y : Value) : Bool :=
  match x, y with
  | .chan (some a), .chan (some b) => Nat.beq a b
  | .int k a, .int l b => decide (k = l) && decide (a = b)
  | .bool a, .bool b => a == b
  | .string a, .string b => byteQ a.data.toList b.data.toList
  | .nilFunc, .nilFunc => true
  | .nilIface, .nilIface => true
  | _, _ => false
def vEL : List Value → List Value → Bool
  | [], [] => true
  | a :: as, b :: bs => vE0 a b && vEL as bs
  | _, _ => false
def vE (x y : Value) : Bool :=
  match x, y with
  | .agg ⟨a⟩, .agg ⟨b⟩ => vEL a b
  | x, y => vE0 x y
def vO (x y : Option Value) : Bool :=
  match x, y with
  | none, none => true
  | some x, some y => vE x y
  | _, _ => false
def keyE : TKey → TKey → Bool
  | .bin op t x y, .bin op' t' x' y' => decide (op = op') && Nat.beq t t' && vE x x' && vE y y'
  | .un op x, .un op' x' => decide (op = op') && vE x x'
  | .conv s d x, .conv s' d' x' => Nat.beq s s' && Nat.beq d d' && vE x x'
  | .len t x, .len t' x' => Nat.beq t t' && vE x x'
  | .idxA t x y, .idxA t' x' y' => Nat.beq t t' && vE x x' && vE y y'
  | .idx t x y, .idx t' x' y' => Nat.beq t t' && vE x x' && vE y y'
  | .two b t x y, .two b' t' x' y' => decide (b = b') && Nat.beq t t' && vE x x' && vE y y'
  | .cut t x l h, .cut t' x' l' h' => Nat.beq t t' && vE x x' && vO l l' && vO h h'
  | _, _ => false
def keyOf (ts : List Value) : Op → Option TKey
  | .binOp op t x y _ => some (.bin op t (ev ts x) (ev ts y))
  | .unOp op _ x => some (.un op (ev ts x))
  | .convert s d x => some (.conv s d (ev ts x))
  | .indexAddr t x i => some (.idxA t (ev ts x) (ev ts i))
  | .index t x i => some (.idx t (ev ts x) (ev ts i))
  | .slice t x lo hi none => some (.cut t (ev ts x) (lo.map (ev ts)) (hi.map (ev ts)))
  | .call ⟨.builtin .len, args, ats⟩ => match args.toList, ats[0]? with
    | [x], some t => some (.len t (ev ts x))
    | _, _ => none
  | .call ⟨.builtin b, args, ats⟩ => match args.toList, ats[0]? with
    | [x, y], some t => some (.two b t (ev ts x) (ev ts y))
    | _, _ => none
  | _ => none
def lookT (k : TKey) : List (TKey × Value) → Option Value
  | [] => none
  | e :: r => bif keyE k e.1 then some e.2 else lookT k r
def tokOp (G : Gl) (ts : List Value) (o : Oper) : Option Value :=
  match G.tab with
  | [] => none
  | tab => match keyOf ts o.op with
    | some k => lookT k tab
    | none => none
def tokS (G : Gl) (ts : List Value) (o : Oper) (σ : ASt) : Option (Value × ASt) :=
  match tokOp G ts o with
  | some v => some (v, σ)
  | none => none

def stepOp (P : Program) (G : Gl) (ts : List Value) (o : Oper) (σ : ASt) : Option (Value × ASt) :=
  Bool.casesOn (okOper G o) none (match fastA P ts o σ with
    | some r => some r
    | none => match flatS P ts o σ with
      | some r => some r
      | none => tokS G ts o σ)

theorem byteQ_eq : ∀ {a b : List UInt8}, byteQ a b = true → a = b := by
  intro a
  induction a with
  | nil => intro b h; cases b with
    | nil => rfl
    | cons _ _ => cases h
  | cons x a ih => intro b h; cases b with
    | nil => cases h
    | cons y b =>
      simp only [byteQ, Bool.and_eq_true] at h
      rw [ih h.2, UInt8.toNat_inj.1 (Nat.eq_of_beq_eq_true h.1)]
theorem vE0_eq {x y : Value} (h : vE0 x y = true) : x = y := by
  unfold vE0 at h
  split at h
  · rw [Nat.eq_of_beq_eq_true h]
  · simp only [Bool.and_eq_true, decide_eq_true_eq] at h; rw [h.1, h.2]
  · simp only [beq_iff_eq] at h; rw [h]
  · rename_i a b
    have := byteQ_eq h
    obtain ⟨⟨a⟩⟩ := a
    obtain ⟨⟨b⟩⟩ := b
    have : a = b := this
    rw [this]
  · rfl
  · rfl
  · cases h
theorem vEL_eq : ∀ {a b : List Value}, vEL a b = true → a = b := by
  intro a
  induction a with
  | nil => intro b h; cases b with
    | nil => rfl
    | cons _ _ => cases h
  | cons x a ih => intro b h; cases b with
    | nil => cases h
    | cons y b =>
      simp only [vEL, Bool.and_eq_true] at h
      rw [ih h.2, vE0_eq h.1]
theorem vE_eq {x y : Value} (h : vE x y = true) : x = y := by
  unfold vE at h
  split at h
  · rw [vEL_eq h]
  · exact vE0_eq h
theorem vO_eq {x y : Option Value} (h : vO x y = true) : x = y := by
  unfold vO at h
  split at h
  · rfl
  · rw [vE_eq h]
  · cases h
theorem keyE_eq {a b : TKey} (h : keyE a b = true) : a = b := by
  unfold keyE at h
  split at h
  all_goals first
    | (cases h; done)
    | skip
  all_goals simp only [Bool.and_eq_true, decide_eq_true_eq] at h
  · rw [h.1.1.1, Nat.eq_of_beq_eq_true h.1.1.2, vE_eq h.1.2, vE_eq h.2]
  · rw [h.1, vE_eq h.2]
  · rw [Nat.eq_of_beq_eq_true h.1.1, Nat.eq_of_beq_eq_true h.1.2, vE_eq h.2]
  · rw [Nat.eq_of_beq_eq_true h.1, vE_eq h.2]
  · rw [Nat.eq_of_beq_eq_true h.1.1, vE_eq h.1.2, vE_eq h.2]
  · rw [Nat.eq_of_beq_eq_true h.1.1, vE_eq h.1.2, vE_eq h.2]
  · rw [h.1.1.1, Nat.eq_of_beq_eq_true h.1.1.2, vE_eq h.1.2, vE_eq h.2]
  · rw [Nat.eq_of_beq_eq_true h.1.1.1, vE_eq h.1.1.2, vO_eq h.1.2, vO_eq h.2]
theorem lookT_mem {k : TKey} {v : Value} : ∀ {l : List (TKey × Value)}, lookT k l = some v → (k, v) ∈ l := by
  intro l
  induction l with
  | nil => intro h; cases h
  | cons e r ih =>
    intro h
    simp only [lookT] at h
    cases hb : keyE k e.1 with
    | true =>
      rw [hb] at h
      simp only [cond_true, Option.some.injEq] at h
      rw [keyE_eq hb, ← h]
      exact List.mem_cons_self
    | false => rw [hb] at h; exact List.mem_cons_of_mem _ (ih h)
theorem tokOp_mem {G : Gl} {ts : List Value} {o : Oper} {v : Value} (h : tokOp G ts o = some v) : ∃ k, keyOf ts o.op = some k ∧ (k, v) ∈ G.tab := by
  unfold tokOp at h
  split at h
  · cases h
  · split at h
    · rename_i k hk; exact ⟨k, hk, lookT_mem h⟩
    · cases h

theorem pureV_flat {P : Program} {ts : List Value} {o : Oper} {σ σ' : ASt} {v : Value} {s : Sem Value} (h : pureV P σ s = some (v, σ')) (ho : o.op.operands.toList.all (fun x => flat2 (ev ts x)) = true) (he : execOp (ev ts) o = (do pure (.value (← s)))) :
    flatOp P ts o = some v ∧ σ' = σ := by
  unfold pureV at h
  split at h
  · rename_i v0 hv
    cases hf : flat2 v0 with
    | false => rw [hf] at h; cases h
    | true =>
      rw [hf] at h
      simp only [Option.some.injEq, Prod.mk.injEq] at h
      obtain ⟨rfl, rfl⟩ := h
      refine ⟨?_, rfl⟩
      unfold flatOp
      rw [ho, he]
      simp only [cond_true]
      have : pureRun P (do pure (Next.value (← s)) : Sem Next) = some (.value v0) := by
        rw [pureRun_bind, hv]; rfl
      rw [this]
      simp [hf]
  · cases h

theorem fastA_spec {P : Program} {ts : List Value} {o : Oper} {σ σ' : ASt} {v : Value} (h : fastA P ts o σ = some (v, σ')) : (flatOp P ts o = some v ∧ σ' = σ) ∨ memOp P ts o σ = some (v, σ') := by
  unfold fastA at h
  have hop : ∀ {q : Op}, o.op = q → memOp P ts o σ = memOp P ts { o with op := q } σ := fun e => by rw [← e]
  split at h
  all_goals first
    | (rename_i e; right; rw [hop e]; exact h)
    | skip
  · rename_i c x y e
    right
    rw [hop e]
    simp only [memOp]
    unfold a_pick at h
    split at h
    · rename_i t ht
      rw [← h]
      cases t <;> rfl
    · cases h
  · rename_i op t x y yt e
    unfold a_bin at h
    have hb : a_bin1 P ts σ op t x y = some (v, σ') → memOp P ts o σ = some (v, σ') := fun h => by rw [hop e]; exact h
    cases h1 : flat2 (ev ts x) with
    | false => rw [h1] at h; exact .inr (hb h)
    | true =>
      cases h2 : flat2 (ev ts y) with
      | false => rw [h1, h2] at h; exact .inr (hb h)
      | true =>
        rw [h1, h2] at h
        refine .inl (pureV_flat h (by rw [e]; simp [Op.operands, h1, h2]) ?_)
        obtain ⟨dst, op0, type, pos, after, guard⟩ := o
        simp only at e
        subst e
        rfl
  · rename_i op t x e
    unfold a_un at h
    cases h1 : flat2 (ev ts x) with
    | false => rw [h1] at h; cases h
    | true =>
      rw [h1] at h
      refine .inl (pureV_flat h (by rw [e]; simp [Op.operands, h1]) ?_)
      obtain ⟨dst, op0, type, pos, after, guard⟩ := o
      simp only at e
      subst e
      rfl
  · rename_i t x i e
    unfold a_index at h
    cases h1 : flat2 (ev ts x) with
    | false => rw [h1] at h; right; rw [hop e]; exact h
    | true =>
      cases h2 : flat2 (ev ts i) with
      | false => rw [h1, h2] at h; cases h
      | true =>
        rw [h1, h2] at h
        refine .inl (pureV_flat h (by rw [e]; simp [Op.operands, h1, h2]) ?_)
        obtain ⟨dst, op0, type, pos, after, guard⟩ := o
        simp only at e
        subst e
        rfl
  · cases h

theorem stepOp_spec {P : Program} {G : Gl} {ts : List Value} {o : Oper} {σ σ' : ASt} {v : Value} (h : stepOp P G ts o σ = some (v, σ')) : okOper G o = true ∧ ((flatOp P ts o = some v ∧ σ' = σ) ∨ memOp P ts o σ = some (v, σ') ∨ (tokOp G ts o = some v ∧ σ' = σ)) := by
  unfold stepOp at h
  cases hb : okOper G o with
  | false => rw [hb] at h; cases h
  | true =>
    rw [hb] at h
    refine ⟨rfl, ?_⟩
    simp only at h
    split at h
    · rename_i r hr
      simp only [Option.some.injEq] at h
      subst h
      rcases fastA_spec hr with h1 | h1
      · exact .inl h1
      · exact .inr (.inl h1)
    · split at h
      · rename_i r hr
        simp only [Option.some.injEq] at h
        subst h
        unfold flatS at hr
        split at hr
        · rename_i v0 hv
          simp only [Option.some.injEq, Prod.mk.injEq] at hr
          obtain ⟨rfl, rfl⟩ := hr
          exact .inl ⟨hv, rfl⟩
        · exact .inr (.inl hr)
      · unfold tokS at h
        split at h
        · rename_i v0 hv
          simp only [Option.some.injEq, Prod.mk.injEq] at h
          obtain ⟨rfl, rfl⟩ := h
          exact .inr (.inr ⟨hv, rfl⟩)
        · cases h

/-- What the operation does in the world. -/
def StepOk (P : Program) (B : Nat) (w0 : World) (ρ : Ren) (σ : ASt) (w : World) (a : Act) (o : Oper) (v : Value) (σ' : ASt) : Prop :=
  ∃ ρ' v' w' nx, (execOp a.eval o).run P w = .ok nx w' ∧ (nx = .value v' ∨ nx = .skip ∧ v' = undef) ∧ Ext σ.next ρ ρ' ∧ VRel ρ' v v' ∧ WRel B w0 ρ' σ' w' ∧ σ.next ≤ σ'.next

theorem StepOk.of_same (h : WRel B w0 ρ σ w) {o : Oper} {v : Value} (h1 : ∃ v', (execOp a.eval o).run P w = .ok (.value v') w ∧ VRel ρ v v') : StepOk P B w0 ρ σ w a o v σ :=
  let ⟨v', h2, h3⟩ := h1; ⟨ρ, v', w, _, h2, .inl rfl, Ext.refl _ _, h3, h, Nat.le_refl _⟩

theorem StepOk.of_gives {o : Oper} {v : Value} {σ' : ASt} {s : Sem Value} (h : Gives P B w0 ρ σ w s v σ') (he : execOp a.eval o = (do pure (.value (← s)))) : StepOk P B w0 ρ σ w a o v σ' :=
  let ⟨ρ', v', w', h1, h2, h3, h4, h5⟩ := h; ⟨ρ', v', w', .value v', by rw [he]; simp [h1], .inl rfl, h2, h3, h4, h5⟩

theorem StepOk.of_put (h : WRel B w0 ρ σ w) {o : Oper} {σ' : ASt} {s : Sem Unit} (h1 : ∃ w', s.run P w = .ok () w' ∧ WRel B w0 ρ σ' w' ∧ σ'.next = σ.next) (he : execOp a.eval o = (do s; pure .skip)) : StepOk P B w0 ρ σ w a o undef σ' :=
  let ⟨w', h2, h3, h4⟩ := h1; have _ := h; ⟨ρ, undef, w', .skip, by rw [he]; simp [h2], .inr ⟨rfl, rfl⟩, Ext.refl _ _, LRel.undef, h3, Nat.le_of_eq h4.symm⟩

theorem parts_rel {parts : Array (Nat × Operand)} (he : ∀ p ∈ parts.toList, VRel ρ (ev ts p.2) (a.eval p.2)) :
    PRel ρ (parts.toList.map fun p => (p.1, ev ts p.2)) (parts.map fun (i, x) => (i, a.eval x)).toList := by
  rw [Array.toList_map]
  revert he
  generalize parts.toList = l
  intro he
  induction l with
  | nil => exact .nil
  | cons p l ih => exact .cons (he p (by simp)) (ih fun q hq => he q (by simp [hq]))

theorem args_rel {l : List Operand} (he : ∀ x ∈ l, VRel ρ (ev ts x) (a.eval x)) : LRel ρ (l.map (ev ts)) (l.map a.eval) := by
  induction l with
  | nil => exact .nil
  | cons p l ih => exact .cons (he p (by simp)) (ih fun q hq => he q (by simp [hq]))

theorem flatOp_sound (h : WRel B w0 ρ σ w) {o : Oper} {v : Value} (hf : flatOp P ts o = some v) (hs : isSelect o.op = false) (he : ∀ x ∈ o.op.operands.toList, VRel ρ (ev ts x) (a.eval x)) :
    StepOk P B w0 ρ σ w a o v σ := by
  unfold flatOp at hf
  cases hb : (o.op.operands.toList.all fun x => flat2 (ev ts x)) with
  | false => rw [hb] at hf; cases hf
  | true =>
    rw [hb] at hf
    simp only [cond_true] at hf
    have heq : execOp a.eval o = execOp (ev ts) o := execOp_congr o (fun cs b e => by rw [e] at hs; cases hs) fun x hx => by
      have hx' : x ∈ o.op.operands.toList := by simpa using hx
      exact flat2_eq (List.all_eq_true.1 hb x hx') (he x hx')
    split at hf
    · rename_i v0 hv
      cases h2 : flat2 v0 with
      | false => rw [h2] at hf; cases hf
      | true =>
        rw [h2] at hf
        simp only [cond_true, Option.some.injEq] at hf
        subst hf
        exact .of_same h ⟨v0, by rw [heq]; exact pureRun_run hv w, flat2_refl h2⟩
    · cases hf

theorem nilCheckA_sound {x x' v : Value} (h : nilCheckA x = some v) (hx : VRel ρ x x') {o : Oper} {y : Operand} (ho : o.op = .nilCheck y) (hy : a.eval y = x') :
    ∃ v', (execOp a.eval o).run P w = .ok (.value v') w ∧ VRel ρ v v' := by
  obtain ⟨dst, op, type, pos, after, guard⟩ := o
  simp only at ho
  subst ho
  unfold nilCheckA at h
  split at h
  · simp only [Option.some.injEq] at h; subst h
    cases hx with
    | flat hf => simp [flat] at hf
    | ptr ht => exact ⟨_, by simp only [execOp, hy]; rfl, .ptr ht⟩
  · simp only [Option.some.injEq] at h; subst h
    cases hx with
    | flat hf => simp [flat] at hf
    | func hf ha hb =>
      have := hf
      simp only [FnRel] at this
      subst this
      exact ⟨_, by simp only [execOp, hy]; rfl, .func hf ha hb⟩
  · simp only [Option.some.injEq] at h; subst h
    cases hx with
    | flat hf => simp [flat] at hf
    | func hf ha hb =>
      obtain ⟨t, h1, rfl⟩ := id hf
      exact ⟨_, by simp only [execOp, hy]; rfl, .func hf ha hb⟩
  · cases h

theorem LRel.inv1 {x : Value} {l : List Value} (h : LRel ρ [x] l) : ∃ x', l = [x'] ∧ VRel ρ x x' := by
  cases h with
  | cons hx hl => cases hl; exact ⟨_, rfl, hx⟩
theorem LRel.inv2 {x y : Value} {l : List Value} (h : LRel ρ [x, y] l) : ∃ x' y', l = [x', y'] ∧ VRel ρ x x' ∧ VRel ρ y y' := by
  cases h with
  | cons hx hl => obtain ⟨y', rfl, hy⟩ := hl.inv1; exact ⟨_, y', rfl, hx, hy⟩

theorem builtinA_sound (h : WRel B w0 ρ σ w) {b : Builtin} {ats : Array TypeId} {ty : TypeId} {cs : Array Bool} {args args' : List Value} {v : Value} {σ' : ASt} (hb : builtinA P σ b ats args = some (v, σ')) (ha : LRel ρ args args') :
    ∃ ρ' v' w', (builtin b ats ty cs ⟨args'⟩).run P w = .ok (.value v') w' ∧ Ext σ.next ρ ρ' ∧ VRel ρ' v v' ∧ WRel B w0 ρ' σ' w' ∧ σ.next ≤ σ'.next := by
  unfold builtinA at hb
  split at hb
  · rename_i x
    split at hb
    · rename_i v0 hv
      simp only [Option.some.injEq, Prod.mk.injEq] at hb
      obtain ⟨rfl, rfl⟩ := hb
      obtain ⟨_, rfl, hx⟩ := LRel.inv1 ha
      obtain ⟨v', h1, h2⟩ := lenA_sound (P := P) (ty := ty) h hv hx
      exact ⟨ρ, v', w, by simp [builtin, h1], Ext.refl _ _, h2, h, Nat.le_refl _⟩
    · cases hb
  · rename_i x
    split at hb
    · rename_i v0 hv
      simp only [Option.some.injEq, Prod.mk.injEq] at hb
      obtain ⟨rfl, rfl⟩ := hb
      obtain ⟨_, rfl, hx⟩ := LRel.inv1 ha
      obtain ⟨v', h1, h2⟩ := capA_sound (P := P) (ty := ty) h hv hx
      exact ⟨ρ, v', w, by simp [builtin, h1], Ext.refl _ _, h2, h, Nat.le_refl _⟩
    · cases hb
  · rename_i s x
    obtain ⟨_, _, rfl, hs, hx⟩ := LRel.inv2 ha
    obtain ⟨ρ', v', w', h1, h2, h3, h4, h5⟩ := appendA_sound (P := P) (ty := ty) h hb hs hx
    exact ⟨ρ', v', w', by simp [builtin, h1], h2, h3, h4, h5⟩
  · rename_i d s
    obtain ⟨_, _, rfl, hs, hx⟩ := LRel.inv2 ha
    obtain ⟨⟨v', w', h1, h2, h3⟩, h4⟩ := copyA_sound (P := P) (ty := ty) h hb hs hx
    exact ⟨ρ, v', w', by simp [builtin, h1], Ext.refl _ _, h2, h3, Nat.le_of_eq h4.symm⟩
  · rename_i m k
    split at hb
    · rename_i σ1 hd
      simp only [Option.some.injEq, Prod.mk.injEq] at hb
      obtain ⟨rfl, rfl⟩ := hb
      obtain ⟨_, _, rfl, hs, hx⟩ := LRel.inv2 ha
      obtain ⟨⟨w', h1, h2⟩, h3⟩ := deleteA_sound (P := P) (ty := ty) h hd hs hx
      exact ⟨ρ, .tuple #[], w', by simp [builtin, h1], Ext.refl _ _, .tuple .nil, h2, Nat.le_of_eq h3.symm⟩
    · cases hb
  · rename_i x
    split at hb
    · rename_i v0 hv
      simp only [Option.some.injEq, Prod.mk.injEq] at hb
      obtain ⟨rfl, rfl⟩ := hb
      obtain ⟨_, rfl, hx⟩ := LRel.inv1 ha
      obtain ⟨v', h1, h2⟩ := sliceDataA_sound (P := P) (w := w) (ts := ats) (ty := ty) hv hx
      exact ⟨ρ, v', w, by simp [builtin, h1], Ext.refl _ _, h2, h, Nat.le_refl _⟩
    · cases hb
  · rename_i p n
    cases ht : ats[0]?.isSome with
    | false => rw [ht] at hb; cases hb
    | true =>
      rw [ht] at hb
      simp only [cond_true] at hb
      obtain ⟨_, _, rfl, hs, hx⟩ := LRel.inv2 ha
      obtain ⟨⟨w', h1, h2, h3⟩, h4⟩ := unsafeStringA_sound (P := P) (ty := ty) h hb ht hs hx
      exact ⟨ρ, v, w', by simp [builtin, h1], Ext.refl _ _, h2, h3, Nat.le_of_eq h4.symm⟩
  · cases hb

end
end Go.Cre
end
