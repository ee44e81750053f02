/-
The evaluator: what a call, a code, a round comes to; every outcome that the world may choose.
-/
import Derived.Test.YtmcccdgpmlacdaaGreatDoorCreOb
import Derived.RangeFuncLeaves
import Derived.RecoverIn
noncomputable section
namespace Go.Cre
open Go.RowKit (Below)

section outs
variable {α β : Type}
def goL (f : α → Option (List β)) : List α → Option (List β)
  | [] => some []
  | a :: as => match f a with
    | some r => match goL f as with
      | some rs => some (r ++ rs)
      | none => none
    | none => none

def bindL (x : Option (List α)) (f : α → Option (List β)) : Option (List β) :=
  match x with
  | none => none
  | some xs => match xs with
    | [a] => f a
    | _ => goL f xs

theorem goL_some {f : α → Option (List β)} : ∀ {xs : List α} {rs : List β}, goL f xs = some rs → ∀ a, a ∈ xs → ∃ r, f a = some r ∧ ∀ y, y ∈ r → y ∈ rs := by
  intro xs
  induction xs with
  | nil => intro rs _ a ha; cases ha
  | cons x xs ih =>
    intro rs h a ha
    simp only [goL] at h
    split at h
    · rename_i r hr
      split at h
      · rename_i rs' hrs
        simp only [Option.some.injEq] at h
        subst h
        rcases List.mem_cons.1 ha with rfl | ha
        · exact ⟨r, hr, fun y hy => List.mem_append_left _ hy⟩
        · obtain ⟨r', h1, h2⟩ := ih hrs a ha
          exact ⟨r', h1, fun y hy => List.mem_append_right _ (h2 y hy)⟩
      · cases h
    · cases h

theorem bindL_some {x : Option (List α)} {f : α → Option (List β)} {rs : List β} (h : bindL x f = some rs) :
    ∃ xs, x = some xs ∧ ∀ a, a ∈ xs → ∃ r, f a = some r ∧ ∀ y, y ∈ r → y ∈ rs := by
  unfold bindL at h
  split at h
  · cases h
  · rename_i xs
    refine ⟨xs, rfl, ?_⟩
    split at h
    · rename_i a
      intro b hb
      simp only [List.mem_singleton] at hb
      subst hb
      exact ⟨rs, h, fun _ h => h⟩
    · exact goL_some h
end outs

inductive AExit where
  | normal
  | exit (id : Nat)
  | ret

def AExit.to : AExit → Exit
  | .normal => .normal
  | .exit id => .exit id
  | .ret => .ret

structure Fr where
  ts : List Value
  ds : List Deferred
  σ : ASt

structure Rec where
  call : FuncId → List Value → ASt → Option (List (Value × ASt))
  dcall : FuncId → List Value → ASt → Option (List ASt)
  code : Option Nat → Code → Fr → Option (List (AExit × Fr))
  codeD : Code → Fr → Option (List (AExit × Fr))
  yield : Nat → List Value → ASt → Option (List (Value × ASt))

/-- What is known otherwise: functions without a body; calls; behind which functions outcomes are joined. -/
structure Known where
  fn : FuncId → List Value → ASt → Option (Value × ASt)
  call : FuncId → List Value → ASt → Option (Value × ASt)
  join : FuncId → Bool
  eqO : AObj → AObj → Bool
  eqV : Value → Value → Bool

def joinA (x : Known) (g : FuncId) (rs : Option (List (Value × ASt))) : Option (List (Value × ASt)) :=
  Bool.casesOn (x.join g) rs (match rs with
    | some (r :: rest) => some (joinL x.eqO x.eqV r rest)
    | r => r)

def knownCall (R : Rec) (x : Known) (g : FuncId) (vs : List Value) (σ : ASt) : Option (List (Value × ASt)) :=
  match x.call g vs σ with
  | some r => some [r]
  | none => joinA x g (R.call g vs σ)

/-- Regions that draw their order. -/
abbrev Draws := Rec → Option Nat → List Oper → Fr → Option (List (AExit × Fr))

def putT (ts : List Value) (d : Option Tmp) (v : Value) : List Value :=
  match d with
  | some d => setF ts d v
  | none => ts

def wantedA (all : List Oper) (ts : List Value) (o : Oper) : Option Bool :=
  match o.guard with
  | none => some true
  | some (j, want) => match all[j]? with
    | some o' => match o'.dst with
      | some d => match ts[d]? with
        | some (.bool b) => some (b == want)
        | some (.tuple _) => some false
        | _ => none
      | none => none
    | none => none

def hasBody (P : Program) (g : FuncId) : Bool :=
  match P.funcs[g]? with
  | some fn => fn.body.isSome
  | none => false

def callOp (R : Rec) (x : Known) (P : Program) (ts : List Value) (o : Oper) (f : Operand) (args : Array Operand) (σ : ASt) : Option (List (Value × ASt)) :=
  match ev ts f with
  | .func (.func g) first cap =>
    bif hasBody P g then knownCall R x g (first.toList ++ args.toList.map (ev ts) ++ cap.toList) σ else
    match flatOp P ts o with
    | some v => some [(v, σ)]
    | none => match x.fn g (first.toList ++ args.toList.map (ev ts) ++ cap.toList) σ with
      | some r => some [r]
      | none => none
  | .func (.yield l) first _ => R.yield l (first.toList ++ args.toList.map (ev ts)) σ
  | _ => none

def opA (R : Rec) (x : Known) (P : Program) (G : Gl) (rd : Option Nat) (ts : List Value) (ds : List Deferred) (o : Oper) (σ : ASt) : Option (List (Value × List Deferred × ASt)) :=
  match o.op with
  | .call ⟨.value f, args, _⟩ =>
    bif okOp G f && args.toList.all (okOp G) then bindL (callOp R x P ts o f args σ) fun r => some [(r.1, ds, r.2)] else none
  | .defer ⟨.value f, args, _⟩ =>
    bif okOp G f && args.toList.all (okOp G) then
      match rd, ev ts f with
      | none, .func (.func g) first cap => some [(undef, { target := .fn (.func g) cap, args := ⟨first.toList ++ args.toList.map (ev ts)⟩ } :: ds, σ)]
      | _, _ => none
    else none
  | .next y false => bif okOp G y then match nextsA σ (ev ts y) with
      | some rs => some (rs.map fun r => (r.1, ds, r.2))
      | none => none
    else none
  | _ => match stepOp P G ts o σ with
    | some r => some [(r.1, ds, r.2)]
    | none => none

def opsA (R : Rec) (x : Known) (P : Program) (G : Gl) (rd : Option Nat) (all : List Oper) : List Oper → Fr → Option (List (AExit × Fr))
  | [], fr => some [(.normal, fr)]
  | o :: rest, fr => match wantedA all fr.ts o with
    | some true => bindL (opA R x P G rd fr.ts fr.ds o fr.σ) fun r => opsA R x P G rd all rest ⟨putT fr.ts o.dst r.1, r.2.1, r.2.2⟩
    | some false => opsA R x P G rd all rest ⟨putT fr.ts o.dst undef, fr.ds, fr.σ⟩
    | none => none

def isRecover : Op → Bool
  | .call ⟨.builtin .recover, _, _⟩ => true
  | _ => false

def opsDA (P : Program) (G : Gl) (all : List Oper) : List Oper → Fr → Option (List (AExit × Fr))
  | [], fr => some [(.normal, fr)]
  | o :: rest, fr => match wantedA all fr.ts o with
    | some true => bif isRecover o.op then opsDA P G all rest ⟨putT fr.ts o.dst .nilIface, fr.ds, fr.σ⟩ else
      match stepOp P G fr.ts o fr.σ with
      | some r => opsDA P G all rest ⟨putT fr.ts o.dst r.1, fr.ds, r.2⟩
      | none => none
    | some false => opsDA P G all rest ⟨putT fr.ts o.dst undef, fr.ds, fr.σ⟩
    | none => none

def loopA (R : Rec) (rd : Option Nat) (b : Code) : Nat → Fr → Option (List (AExit × Fr))
  | 0, _ => none
  | k + 1, fr => bindL (R.code rd b fr) fun r => match r.1 with
    | .normal => loopA R rd b k r.2
    | e => some [(e, r.2)]

/-- The record of a range over a function; the marks. -/
def enterA (rd : Option Nat) (fr : Fr) (ps : Array Tmp) (assign body : Code) : Option (Nat × List Deferred × ASt) :=
  match rd with
  | none =>
    let σ1 := fr.σ.new (.deferred false)
    some (σ1.next, [{ target := .collected fr.σ.next, args := #[] }], σ1.new (.loop .ready none fr.ts ps assign body fr.σ.next))
  | some rl => match fr.σ.get rl with
    | some (.loop _ _ _ _ _ _ d) => some (fr.σ.next, [], fr.σ.new (.loop .ready none fr.ts ps assign body d))
    | _ => none

def rangeFuncA (R : Rec) (G : Gl) (rd : Option Nat) (f : Operand) (ps : Array Tmp) (assign body : Code) (fr : Fr) : Option (List (AExit × Fr)) :=
  bif okOp G f then
    match ev fr.ts f with
    | .func (.func g) first cap => match enterA rd fr ps assign body with
      | some (l, mark, σ2) => bindL (R.call g (first.toList ++ [.func (.yield l) #[] #[]] ++ cap.toList) σ2) fun r =>
        match r.2.get l with
        | some (.loop s p ts ps a b d) => match s with
          | .busy => none
          | _ => match p with
            | none => some [(.normal, ⟨fr.ts, mark ++ fr.ds, r.2.put l (.loop .exhausted p ts ps a b d)⟩)]
            | some c => R.code rd c ⟨fr.ts, mark ++ fr.ds, r.2.put l (.loop .exhausted p ts ps a b d)⟩
        | _ => none
      | none => none
    | _ => none
  else none

def codeA (R : Rec) (x : Known) (D : Draws) (P : Program) (G : Gl) (rd : Option Nat) (c : Code) (fr : Fr) : Option (List (AExit × Fr)) :=
  match c with
  | .skip => some [(.normal, fr)]
  | .label _ => some [(.normal, fr)]
  | .ret => some [(.ret, fr)]
  | .exit id => some [(.exit id, fr)]
  | .seq a b => bindL (R.code rd a fr) fun r => match r.1 with
    | .normal => R.code rd b r.2
    | e => some [(e, r.2)]
  | .cond c a b => bif okOp G c then match ev fr.ts c with
      | .bool t => R.code rd (bif t then a else b) fr
      | _ => none
    else none
  | .block id b => bindL (R.code rd b fr) fun r => match r.1 with
    | .exit i => some [(bif Nat.beq i id then .normal else .exit i, r.2)]
    | e => some [(e, r.2)]
  | .loop b => loopA R rd b 1000000 fr
  | .region _ ops false => opsA R x P G rd ops.toList ops.toList fr
  | .region _ ops true => D R rd ops.toList fr
  | .rangeFunc f ps assign body => rangeFuncA R G rd f ps assign body fr
  | _ => none

def codeDA (R : Rec) (P : Program) (G : Gl) (c : Code) (fr : Fr) : Option (List (AExit × Fr)) :=
  match c with
  | .seq a b => bindL (R.codeD a fr) fun r => match r.1 with
    | .normal => R.codeD b r.2
    | e => some [(e, r.2)]
  | .cond c a b => bif okOp G c then match ev fr.ts c with
      | .bool t => R.codeD (bif t then a else b) fr
      | _ => none
    else none
  | .region _ ops false => opsDA P G ops.toList ops.toList fr
  | c => R.code none c fr

def resultL (P : Program) (ts : List Value) (σ : ASt) : List ResultVar → Option (List Value)
  | [] => some []
  | r :: rs => match (match r with
      | .tmp t => some (ts.getD t undef)
      | .cell a t => loadV P σ t (ts.getD a undef)) with
    | some v => match resultL P ts σ rs with
      | some vs => some (v :: vs)
      | none => none
    | none => none

def resultsA (P : Program) (fn : Func) (ts : List Value) (σ : ASt) : Option Value :=
  match resultL P ts σ fn.results.toList with
  | some [v] => some v
  | some vs => some (.tuple ⟨vs⟩)
  | none => none

def leaveA (R : Rec) : List Deferred → ASt → Option (List ASt)
  | [], σ => some [σ]
  | d :: ds, σ => match d.target with
    | .collected b => match σ.get b with
      | some (.deferred false) => leaveA R ds (σ.put b (.deferred true))
      | _ => none
    | .fn (.func f) cap => bindL (R.dcall f (d.args.toList ++ cap.toList) σ) fun σ' => leaveA R ds σ'
    | _ => none

def callA (R : Rec) (P : Program) (f : FuncId) (args : List Value) (σ : ASt) : Option (List (Value × ASt)) :=
  match P.funcs[f]? with
  | some fn => match fn.body with
    | some c => bindL (R.code none c ⟨args ++ List.replicate (fn.ntmps - args.length) undef, [], σ⟩) fun r => match r.1 with
      | .exit _ => none
      | _ => bindL (leaveA R r.2.ds r.2.σ) fun σ' => match resultsA P fn r.2.ts σ' with
        | some v => some [(v, σ')]
        | none => none
    | none => none
  | none => none

def dcallA (R : Rec) (P : Program) (f : FuncId) (args : List Value) (σ : ASt) : Option (List ASt) :=
  match P.funcs[f]? with
  | some fn => match fn.body with
    | some c => bindL (R.codeD c ⟨args ++ List.replicate (fn.ntmps - args.length) undef, [], σ⟩) fun r => match r.1 with
      | .exit _ => none
      | _ => match r.2.ds with
        | [] => match resultsA P fn r.2.ts r.2.σ with
          | some _ => some [r.2.σ]
          | none => none
        | _ => none
    | none => none
  | none => none

def jumpA : AExit → Option Code
  | .normal => none
  | .ret => some .ret
  | .exit id => some (.exit id)

def yieldA (R : Rec) (l : Nat) (args : List Value) (σ : ASt) : Option (List (Value × ASt)) :=
  match σ.get l with
  | some (.loop _ _ ts ps assign body _) => bif Nat.beq args.length ps.size then
      bindL (R.code (some l) assign ⟨(ps.toList.zip args).foldl (fun ts p => ts.set p.1 p.2) ts, [], σ⟩) fun r => match r.1 with
        | .normal => match r.2.σ.get l with
          | some (.loop .ready p ts ps a b d) =>
            bindL (R.code (some l) body ⟨r.2.ts, r.2.ds, r.2.σ.put l (.loop .busy p ts ps a b d)⟩) fun r2 => match r2.2.σ.get l with
              | some (.loop _ _ ts ps a b d) =>
                some [(.bool (jumpA r2.1).isNone, r2.2.σ.put l (.loop (if (jumpA r2.1).isNone then .ready else .done) (jumpA r2.1) ts ps a b d))]
              | _ => none
          | _ => none
        | _ => none
    else none
  | _ => none

def stepRec (x : Known) (D : Draws) (P : Program) (G : Gl) (R : Rec) : Rec :=
  { call := callA R P, dcall := dcallA R P, code := codeA R x D P G, codeD := codeDA R P G, yield := yieldA R }

def noRec : Rec := ⟨fun _ _ _ => none, fun _ _ _ => none, fun _ _ _ => none, fun _ _ => none, fun _ _ _ => none⟩

def run (x : Known) (D : Draws) (P : Program) (G : Gl) : Nat → Rec
  | 0 => noRec
  | n + 1 => stepRec x D P G (run x D P G n)
end Go.Cre
end
