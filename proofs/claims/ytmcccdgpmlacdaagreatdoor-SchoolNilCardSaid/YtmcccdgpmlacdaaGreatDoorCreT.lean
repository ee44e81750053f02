/-
Regions that draw their order: the evaluator.
-/
import Derived.Test.YtmcccdgpmlacdaaGreatDoorCreS
noncomputable section
namespace Go.Cre
open Go.RowKit (Below)

/-! ## Equality of values -/

def addrEq (a b : Option Addr) : Bool :=
  match a, b with
  | none, none => true
  | some ⟨x, o, none⟩, some ⟨y, p, none⟩ => Nat.beq x y && Nat.beq o p
  | _, _ => false

def fnEq : Fn → Fn → Bool
  | .func f, .func g => Nat.beq f g
  | .yield f, .yield g => Nat.beq f g
  | _, _ => false

def veqL (f : Value → Value → Bool) : List Value → List Value → Bool
  | [], [] => true
  | a :: as, b :: bs => f a b && veqL f as bs
  | _, _ => false

def optEq (a b : Option Nat) : Bool :=
  match a, b with
  | none, none => true
  | some x, some y => Nat.beq x y
  | _, _ => false

def byteEq : List UInt8 → List UInt8 → Bool
  | [], [] => true
  | a :: as, b :: bs => Nat.beq a.toNat b.toNat && byteEq as bs
  | _, _ => false

def veq : Nat → Value → Value → Bool
  | 0, _, _ => false
  | n + 1, x, y => match x, y with
    | .bool a, .bool b => a == b
    | .int k a, .int l b => decide (k = l) && decide (a = b)
    | .float k a, .float l b => decide (k = l) && Nat.beq a b
    | .string a, .string b => byteEq a.data.toList b.data.toList
    | .pointer a, .pointer b => addrEq a b
    | .slice a l c, .slice a' l' c' => addrEq a a' && Nat.beq l l' && Nat.beq c c'
    | .map a, .map b => optEq a b
    | .chan a, .chan b => optEq a b
    | .func f a b, .func f' a' b' => fnEq f f' && veqL (veq n) a.toList a'.toList && veqL (veq n) b.toList b'.toList
    | .nilFunc, .nilFunc => true
    | .iface t v, .iface t' v' => Nat.beq t t' && veq n v v'
    | .nilIface, .nilIface => true
    | .agg a, .agg b => veqL (veq n) a.toList b.toList
    | .tuple a, .tuple b => veqL (veq n) a.toList b.toList
    | _, _ => false

theorem addrEq_eq {a b : Option Addr} (h : addrEq a b = true) : a = b := by
  unfold addrEq at h
  split at h
  · rfl
  · simp only [Bool.and_eq_true] at h
    rw [Nat.eq_of_beq_eq_true h.1, Nat.eq_of_beq_eq_true h.2]
  · cases h

theorem fnEq_eq {a b : Fn} (h : fnEq a b = true) : a = b := by
  unfold fnEq at h
  split at h
  · rw [Nat.eq_of_beq_eq_true h]
  · rw [Nat.eq_of_beq_eq_true h]
  · cases h

theorem optEq_eq {a b : Option Nat} (h : optEq a b = true) : a = b := by
  unfold optEq at h
  split at h
  · rfl
  · rw [Nat.eq_of_beq_eq_true h]
  · cases h

theorem byteEq_eq : ∀ {a b : List UInt8}, byteEq a b = true → a = b := by
  intro a
  induction a with
  | nil => intro b h; cases b with
    | nil => rfl
    | cons _ _ => cases h
  | cons x a ih => intro b h; cases b with
    | nil => cases h
    | cons y b =>
      simp only [byteEq, Bool.and_eq_true] at h
      rw [ih h.2, UInt8.toNat_inj.1 (Nat.eq_of_beq_eq_true h.1)]

theorem veqL_eq {f : Value → Value → Bool} (hf : ∀ a b, f a b = true → a = b) : ∀ {a b : List Value}, veqL f a b = true → a = b := by
  intro a
  induction a with
  | nil => intro b h; cases b with
    | nil => rfl
    | cons _ _ => cases h
  | cons x a ih => intro b h; cases b with
    | nil => cases h
    | cons y b =>
      simp only [veqL, Bool.and_eq_true] at h
      rw [hf _ _ h.1, ih h.2]

theorem veq_eq : ∀ (n : Nat) {x y : Value}, veq n x y = true → x = y := by
  intro n
  induction n with
  | zero => intro x y h; cases h
  | succ n ih =>
    intro x y h
    have hl : ∀ {a b : Array Value}, veqL (veq n) a.toList b.toList = true → a = b := fun h => Array.ext' (veqL_eq (fun _ _ => ih) h)
    unfold veq at h
    split at h
    · simpa using h
    · simp only [Bool.and_eq_true, decide_eq_true_eq] at h; rw [h.1, h.2]
    · simp only [Bool.and_eq_true, decide_eq_true_eq] at h; rw [h.1, Nat.eq_of_beq_eq_true h.2]
    · rename_i a b
      have := byteEq_eq h
      obtain ⟨a⟩ := a
      obtain ⟨b⟩ := b
      have : a = b := Array.ext' this
      rw [this]
    · rw [addrEq_eq h]
    · simp only [Bool.and_eq_true] at h; rw [addrEq_eq h.1.1, Nat.eq_of_beq_eq_true h.1.2, Nat.eq_of_beq_eq_true h.2]
    · rw [optEq_eq h]
    · rw [optEq_eq h]
    · simp only [Bool.and_eq_true] at h; rw [fnEq_eq h.1.1, hl h.1.2, hl h.2]
    · rfl
    · simp only [Bool.and_eq_true] at h; rw [Nat.eq_of_beq_eq_true h.1, ih h.2]
    · rfl
    · rw [hl h]
    · rw [hl h]
    · cases h

/-! ## Operations that read -/

def isReadOp : Op → Bool
  | .move .. | .assign .. | .pick .. | .build .. | .load .. | .nilCheck .. | .binOp .. | .makeInterface .. | .makeFunc .. | .slice .. | .fieldAddr .. | .field .. | .indexAddr .. | .index .. | .lookup .. | .entry .. | .typeAssert .. | .extract .. => true
  | .call ⟨.builtin .len, _, _⟩ | .call ⟨.builtin .cap, _, _⟩ | .call ⟨.builtin .unsafeSliceData, _, _⟩ => true
  | _ => false

theorem memOp_read {P : Program} {ts : List Value} {o : Oper} {σ σ' : ASt} {v : Value} (h : memOp P ts o σ = some (v, σ')) (hr : isReadOp o.op = true) : σ' = σ := by
  obtain ⟨dst, op, type, pos, after, guard⟩ := o
  simp only at hr
  cases op <;> first
    | (simp only [isReadOp] at hr; cases hr; done)
    | (simp only [memOp, Option.some.injEq, Prod.mk.injEq] at h; exact h.2.symm)
    | (simp only [memOp] at h; split at h <;> first | (simp only [Option.some.injEq, Prod.mk.injEq] at h; exact h.2.symm) | (cases h; done))
    | skip
  case makeFunc fn first captured =>
    cases fn with
    | func f => simp only [memOp, Option.some.injEq, Prod.mk.injEq] at h; exact h.2.symm
    | _ => simp [memOp] at h
  case slice t x lo hi mx =>
    simp only [memOp] at h
    cases hb : (mx.isNone || hi.isSome) with
    | false => rw [hb] at h; cases h
    | true =>
      rw [hb] at h
      simp only [cond_true] at h
      split at h
      · simp only [Option.some.injEq, Prod.mk.injEq] at h; exact h.2.symm
      · cases h
  case call c =>
    obtain ⟨callee, args, ats⟩ := c
    cases callee with
    | builtin b =>
      simp only [memOp] at h
      unfold builtinA at h
      cases b <;> first | (simp only [isReadOp] at hr; cases hr; done) | skip
      all_goals
        split at h <;> first | (split at h <;> first | (simp only [Option.some.injEq, Prod.mk.injEq] at h; exact h.2.symm) | (cases h; done)) | (cases h; done) | (rename_i e _; cases e; done) | skip
    | _ => simp only [isReadOp] at hr; cases hr

def isCallV : Op → Bool
  | .call ⟨.value _, _, _⟩ => true
  | _ => false

def okRead (G : Gl) (o : Oper) : Bool := !isSelect o.op && !isCallV o.op && o.op.operands.toList.all (okOp G)
def readA (P : Program) (G : Gl) (ts : List Value) (o : Oper) (σ : ASt) : Option Value :=
  Bool.casesOn (okRead G o) none
    (Bool.casesOn (isReadOp o.op) (flatOp P ts o) (match stepOp P G ts o σ with
      | some r => some r.1
      | none => none))

theorem readA_spec {P : Program} {G : Gl} {ts : List Value} {o : Oper} {σ : ASt} {v : Value} (h : readA P G ts o σ = some v) :
    okRead G o = true ∧ (flatOp P ts o = some v ∨ stepOp P G ts o σ = some (v, σ)) := by
  unfold readA at h
  cases hb : okRead G o with
  | false => rw [hb] at h; cases h
  | true =>
    rw [hb] at h
    refine ⟨rfl, ?_⟩
    cases hr : isReadOp o.op with
    | false => rw [hr] at h; exact .inl h
    | true =>
      rw [hr] at h
      simp only at h
      split at h
      · rename_i r hs
        simp only [Option.some.injEq] at h
        subst h
        obtain ⟨v, σ'⟩ := r
        obtain ⟨_, h1 | h1 | h1⟩ := stepOp_spec hs
        · exact .inl h1.1
        · right; rw [hs, memOp_read h1 hr]
        · right; rw [hs, h1.2]
      · cases h

/-- A new object, at a number of one's choice. -/
def allocA (P : Program) (G : Gl) (ts : List Value) (o : Oper) (b : Nat) : Option (Value × AObj) :=
  bif o.op.operands.toList.all (okOp G) then
    match o.op with
    | .alloc t => match zeroT P t with
      | some z => some (.pointer (some ⟨b, 0, none⟩), .cells z t z.length false .no false)
      | none => none
    | .box t x => bif solid (ev ts x) then some (.pointer (some ⟨b, 0, none⟩), .cells (ev ts x).cells.toList t (ev ts x).cells.toList.length false .no false) else none
    | .makeMap _ none => some (.map (some b), .map [] 0)
    | .buildSlice t len parts => match P.underlying t with
      | some (.slice elem) => match sizeT P elem, zeroT P elem with
        | some n, some z => bif Nat.ble (len * n) 16777216 then
            match fillL (fun i => some (i * n, n)) (zerosL z (len * n)) (parts.toList.map fun p => (p.1, ev ts p.2)) with
            | some r => some (.slice (some ⟨b, 0, none⟩) len len, .cells r elem n false .no false)
            | none => none
          else none
        | _, _ => none
      | _ => none
    | .makeSlice t l c => match natOf (ev ts l), natOf (ev ts c), P.underlying t with
      | some l, some c, some (.slice elem) => match sizeT P elem, zeroT P elem, bytesT P elem with
        | some n, some z, some by_ => bif Nat.beq l c && Nat.ble 1 c && Nat.ble c 16777216 && Nat.ble (by_ * c) 281474976710656 then
            some (.slice (some ⟨b, 0, none⟩) c c, .cells (zerosL z (c * n)) elem n false .no false)
          else none
        | _, _, _ => none
      | _, _, _ => none
    | _ => none
  else none

/-- An operation that may write, or calls. -/
def writerA (R : Rec) (x : Known) (P : Program) (G : Gl) (ts : List Value) (o : Oper) (σ : ASt) : Option (List (Value × ASt)) :=
  match o.op with
  | .call ⟨.value f, args, _⟩ => bif okOp G f && args.toList.all (okOp G) then callOp R x P ts o f args σ else none
  | .defer _ => none
  | _ => match stepOp P G ts o σ with
    | some r => some [r]
    | none => none

/-! ## The order -/

def bitA (i : Nat) : Nat := Nat.shiftLeft 1 i
def maskOf (rk : Nat → Nat) (ancs : List Nat) (i : Nat) (o : Oper) : Nat :=
  o.after.toList.foldl (fun m e => bif Region.binds .any e && Nat.blt (rk e.on) (rk i) then Nat.lor m (Nat.lor (bitA e.on) (ancs.getD e.on 0)) else m) 0
def ancsA : List Oper → Nat → List Nat → List Nat
  | [], _, l => l
  | o :: os, i, l => ancsA os (i + 1) (l ++ [maskOf (fun i => i) l i o])

def indexA' : List Oper → Nat → List (Nat × Oper)
  | [], _ => []
  | o :: os, i => (i, o) :: indexA' os (i + 1)

def looks (all : List Oper) (o : Oper) : List Nat :=
  (match o.guard with
   | some (j, _) => match all[j]? with
     | some o' => match o'.dst with
       | some d => [d]
       | none => []
     | none => []
   | none => []) ++ o.op.operands.toList.filterMap fun | .tmp t => some t | _ => none

/-- What is asked of the region's text. -/
def staticA (rk : Nat → Nat) (ancs : List Nat) (all : List Oper) : Bool :=
  let idx := indexA' all 0
  idx.all fun p =>
    Nat.beq (ancs.getD p.1 0) (maskOf rk ancs p.1 p.2) &&
    p.2.after.toList.all (fun e => !Region.binds .any e || (Nat.blt (rk e.on) (rk p.1) && Nat.blt e.on all.length)) &&
    (looks all p.2).all (fun d => idx.all fun q => !optEq q.2.dst (some d) || Nat.testBit (ancs.getD p.1 0) q.1) &&
    (match p.2.dst with
     | some d => idx.all fun q => Nat.beq p.1 q.1 || !optEq q.2.dst (some d)
     | none => true)

structure Stage where
  σ : ASt
  i : Nat
  o : Oper
  ts : List Value
  v : Value
  σ' : ASt

structure PSt where
  dn : Nat
  ts : List Value
  σ : ASt
  ids : List (Nat × Nat)

def predM (o : Oper) : Nat := o.after.toList.foldl (fun m e => bif Region.binds .any e then Nat.lor m (bitA e.on) else m) 0

def passA (P : Program) (G : Gl) (all : List Oper) : List (Nat × Oper) → PSt → PSt
  | [], s => s
  | (i, o) :: rest, s =>
    bif !Nat.testBit s.dn i && Nat.beq (Nat.land (predM o) s.dn) (predM o) then
      match wantedA all s.ts o with
      | some false => passA P G all rest ⟨Nat.lor s.dn (bitA i), putT s.ts o.dst undef, s.σ, s.ids⟩
      | some true => match readA P G s.ts o s.σ with
        | some v => passA P G all rest ⟨Nat.lor s.dn (bitA i), putT s.ts o.dst v, s.σ, s.ids⟩
        | none => match allocA P G s.ts o s.σ.next with
          | some r => passA P G all rest ⟨Nat.lor s.dn (bitA i), putT s.ts o.dst r.1, s.σ.new r.2, (i, s.σ.next) :: s.ids⟩
          | none => passA P G all rest s
      | none => passA P G all rest s
    else passA P G all rest s

def firstU (dn : Nat) : List (Nat × Oper) → Option (Nat × Oper)
  | [] => none
  | p :: rest => bif Nat.testBit dn p.1 then firstU dn rest else some p

/-- The order of the text: what can be done without writing, as soon as it can; then one that writes. -/
def stagesA (R : Rec) (x : Known) (P : Program) (G : Gl) (all : List Oper) (idx : List (Nat × Oper)) : Nat → PSt → Option (List Stage × PSt)
  | 0, _ => none
  | k + 1, s0 =>
    match passA P G all idx s0 with
    | s => match firstU s.dn idx with
      | none => some ([], s)
      | some p => match writerA R x P G s.ts p.2 s.σ with
        | some [r] => match stagesA R x P G all idx k ⟨Nat.lor s.dn (bitA p.1), putT s.ts p.2.dst r.1, r.2, s.ids⟩ with
          | some q => some (⟨s.σ, p.1, p.2, s.ts, r.1, r.2⟩ :: q.1, q.2)
          | none => none
        | _ => none

/-! ## What is asked of an order -/

structure Plan where
  all : List Oper
  idx : List (Nat × Oper)
  ancs : List Nat
  ts : List Value
  sts : List Stage
  fin : ASt
  ids : List (Nat × Nat)

def depth : Nat := 100

def dstIs (ts : List Value) (o : Oper) (v : Value) : Bool :=
  match o.dst with
  | some d => veq depth v (getF ts d)
  | none => true

def objEq : AObj → AObj → Bool
  | .cells vs e sz false .no false, .cells vs' e' sz' false .no false => veqL (veq depth) vs vs' && Nat.beq e e' && Nat.beq sz sz'
  | .map [] 0, .map [] 0 => true
  | _, _ => false

def idOf (ids : List (Nat × Nat)) (i : Nat) : Option Nat :=
  match ids with
  | [] => none
  | p :: r => bif Nat.beq p.1 i then some p.2 else idOf r i

def nonwA (P : Program) (G : Gl) (pl : Plan) (i : Nat) (o : Oper) (σ : ASt) : Bool :=
  match wantedA pl.all pl.ts o with
  | some false => dstIs pl.ts o undef
  | some true => match idOf pl.ids i with
    | some b => match allocA P G pl.ts o b, σ.get b with
      | some r, some obj => objEq r.2 obj && dstIs pl.ts o r.1
      | _, _ => false
    | none => match readA P G pl.ts o σ with
      | some v => dstIs pl.ts o v
      | none => false
  | none => false

def nonwAll (P : Program) (G : Gl) (pl : Plan) (past rem : List Stage) (σ : ASt) : Bool :=
  pl.idx.all fun p => pl.sts.any (fun s => Nat.beq s.i p.1) || past.any (fun s => Nat.testBit (pl.ancs.getD s.i 0) p.1) || rem.any (fun s => Nat.testBit (pl.ancs.getD p.1 0) s.i) || nonwA P G pl p.1 p.2 σ

def wrA (pl : Plan) (past : List Stage) (s : Stage) : Bool :=
  past.all (fun q => Nat.testBit (pl.ancs.getD s.i 0) q.i) &&
  s.o.op.operands.toList.all (fun x => veq depth (ev s.ts x) (ev pl.ts x)) &&
  (match wantedA pl.all pl.ts s.o with
   | some true => true
   | _ => false) &&
  dstIs pl.ts s.o s.v &&
  pl.ids.all (fun p => Nat.blt p.2 s.σ.next || Nat.ble s.σ'.next p.2)

def checkA (P : Program) (G : Gl) (pl : Plan) : List Stage → List Stage → Bool
  | past, [] => nonwAll P G pl past [] pl.fin
  | past, s :: r => nonwAll P G pl past (s :: r) s.σ && wrA pl past s && checkA P G pl (s :: past) r

def homesA (pl : Plan) (fr : Fr) : Bool :=
  pl.ids.all (fun p => Nat.ble fr.σ.next p.2 && pl.ids.all fun q => Nat.beq p.1 q.1 || !Nat.beq p.2 q.2) &&
  pl.all.all fun o => match o.dst with
    | some d => Nat.blt d fr.ts.length
    | none => true

def drawnR (x : Known) (P : Program) (G : Gl) (R : Rec) (rk : Nat → Nat) (ancs : List Nat) (all : List Oper) (fr : Fr) : Option (List Stage × PSt) :=
  bif staticA rk ancs all && P.follows .mixedOrders then
    match stagesA R x P G all (indexA' all 0) 100 ⟨0, fr.ts, fr.σ, []⟩ with
    | some r =>
      let pl : Plan := ⟨all, indexA' all 0, ancs, r.2.ts, r.1, r.2.σ, r.2.ids⟩
      bif checkA P G pl [] r.1 && homesA pl fr then some r else none
    | none => none
  else none

def drawnA (x : Known) (P : Program) (G : Gl) : Draws := fun R _ all fr =>
  match drawnR x P G R (fun i => i) (ancsA all 0 []) all fr with
  | some r => some [(.normal, ⟨r.2.ts, fr.ds, r.2.σ⟩)]
  | none => none
end Go.Cre
end
