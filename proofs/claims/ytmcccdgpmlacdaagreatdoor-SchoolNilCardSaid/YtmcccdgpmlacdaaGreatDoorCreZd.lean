/-
Stages with deferred calls; a call that panics.
-/
import Derived.Test.YtmcccdgpmlacdaaGreatDoorCreZc
import Derived.Defers
noncomputable section
namespace Go.Cre
open Go.RowKit (Below)
section
variable {P : Program} {G : Gl} {B : Nat} {w0 : World} {R : Rec} {x : Known} {ρ : Ren} {w w' : World} {ops : Array Oper} {Q : Exit → Act → World → Prop}

def dfEq : List Deferred → List Deferred → Bool
  | [], [] => true
  | a :: r, b :: q => (match a.target, b.target with
    | .fn (.func f) cs, .fn (.func g) cs' => Nat.beq f g && (veqL (veq depth) cs.toList cs'.toList && veqL (veq depth) a.args.toList b.args.toList)
    | _, _ => false) && dfEq r q
  | _, _ => false
theorem dfEq_eq : ∀ {a b : List Deferred}, dfEq a b = true → a = b := by
  intro a
  induction a with
  | nil => intro b h; cases b with
    | nil => rfl
    | cons _ _ => cases h
  | cons y a ih => intro b h; cases b with
    | nil => cases h
    | cons z b =>
      simp only [dfEq, Bool.and_eq_true] at h
      rw [ih h.2]
      have h1 := h.1
      split at h1
      · rename_i f cs g cs' e1 e2
        simp only [Bool.and_eq_true] at h1
        have k1 := Nat.eq_of_beq_eq_true h1.1
        have k2 := veqL_eq (fun _ _ => veq_eq depth) h1.2.1
        have k3 := veqL_eq (fun _ _ => veq_eq depth) h1.2.2
        obtain ⟨ty, ay⟩ := y
        obtain ⟨tz, az⟩ := z
        simp only at e1 e2 k3
        subst e1 e2 k1
        obtain ⟨cs⟩ := cs
        obtain ⟨cs'⟩ := cs'
        obtain ⟨ay⟩ := ay
        obtain ⟨az⟩ := az
        simp only at k2 k3
        rw [k2, k3]
      · cases h1

def StD (n : Nat) (l : List (Nat × Value)) (ds : List Deferred) (os : List (Nat × AObj)) (m : Nat) : Fr := ⟨live n l, ds, ⟨putAll .leaf os, m⟩⟩

def endsD (n : Nat) (e : AExit) (l : List (Nat × Value)) (ds : List Deferred) (os : List (Nat × AObj)) (m : Nat) (r : AExit × Fr) : Bool :=
  exB e r.1 && (Nat.beq r.2.ts.length n && (dfEq r.2.ds ds && (Nat.beq r.2.σ.next m && (l.all (fun q => veq depth (getF r.2.ts q.1) q.2) && os.all fun q => match r.2.σ.get q.1 with
    | some o => aobjEq o q.2
    | none => false))))
def stepD (rs : Option (List (AExit × Fr))) (n : Nat) (e : AExit) (l : List (Nat × Value)) (ds : List Deferred) (os : List (Nat × AObj)) (m : Nat) : Bool :=
  match rs with
  | some rs => rs.all (endsD n e l ds os m)
  | none => false

theorem endsD_rel {n m : Nat} {e : AExit} {l : List (Nat × Value)} {ds : List Deferred} {os : List (Nat × AObj)} {r : AExit × Fr} (hr : endsD n e l ds os m r = true) {a : Act} (h : FrRel B w0 ρ r.2 a w) :
    r.1 = e ∧ FrRel B w0 ρ (StD n l ds os m) a w := by
  simp only [endsD, Bool.and_eq_true] at hr
  obtain ⟨h1, h2, h3, h4, h5, h6⟩ := hr
  have h2 := Nat.eq_of_beq_eq_true h2
  have h4 := Nat.eq_of_beq_eq_true h4
  refine ⟨(exB_eq h1).symm, ?_, ?_, ?_⟩
  · refine live_rel (by rw [h.ts.length, h2]) fun p hp => ?_
    have := veq_eq depth (List.all_eq_true.1 h5 p hp)
    rw [← this, getF_eq]
    exact h.ts.getD p.1
  · have := dfEq_eq h3
    have hd := h.ds
    rw [this] at hd
    exact hd
  · show WRel B w0 ρ ⟨putAll .leaf os, m⟩ w
    rw [← h4]
    refine h.w.only fun q hq => ?_
    have := List.all_eq_true.1 h6 q hq
    split at this
    · rename_i o ho; rw [ho, aobjEq_eq this]
    · cases this

theorem step_runD (hR : RecOk P G B w0 R) {c : Code} {n m m' : Nat} {l l' : List (Nat × Value)} {ds ds' : List Deferred} {os os' : List (Nat × AObj)} {e : AExit} (h : stepD (R.code none c (StD n l ds os m)) n e l' ds' os' m' = true) {a : Act} (hg : GOk P G ρ) (hf : FrRel B w0 ρ (StD n l ds os m) a w)
    (hq : ∀ ρ' a' w', Ext m ρ ρ' → FrRel B w0 ρ' (StD n l' ds' os' m') a' w' → Q e.to a' w') : c.wp P Q a w := by
  unfold stepD at h
  split at h
  · rename_i rs hrs
    refine wp_of_code hR hrs hg hf ?_
    rintro e' a' w' ⟨r, hr, ρ', rfl, h1, h2, h3⟩
    obtain ⟨k1, k2⟩ := endsD_rel (List.all_eq_true.1 h r hr) h3
    rw [k1]
    exact hq ρ' a' w' h1 k2
  · cases h

theorem step_listD (hp : POk P) (hR : RecOk P G B w0 R) (hx : KnownOk P G B w0 x) (pre rest : List Oper) {n m m' : Nat} {l l' : List (Nat × Value)} {ds ds' : List Deferred} {os os' : List (Nat × AObj)} (h : stepD (opsA R x P G none ops.toList pre (StD n l ds os m)) n .normal l' ds' os' m' = true) {a : Act} (hg : GOk P G ρ) (hf : FrRel B w0 ρ (StD n l ds os m) a w)
    (hq : ∀ ρ' a' w', Ext m ρ ρ' → FrRel B w0 ρ' (StD n l' ds' os' m') a' w' → wpListIn Fence.wide 0 P ops Q rest a' w') : wpListIn Fence.wide 0 P ops Q (pre ++ rest) a w := by
  unfold stepD at h
  split at h
  · rename_i rs hrs
    refine list_run hp hR hx pre rest hrs hg hf fun r hr ρ' a' w' h1 h2 h3 => ?_
    obtain ⟨k1, k2⟩ := endsD_rel (List.all_eq_true.1 h r hr) h3
    exact hq ρ' a' w' h1 k2
  · cases h

/-- A call that panics, in the midst of a region. -/
theorem mid_panic (hp : POk P) {o : Oper} {rest : List Oper} {g : FuncId} {args : Array Operand} {ats : Array TypeId} (hgd : o.guard = none) (ho : o.op = .call ⟨.value (.func g), args, ats⟩) (hb : hasBody P g = true) {fr : Fr} {a : Act} (hf : FrRel B w0 ρ fr a w)
    {vs : List Value} (hvs : args.toList.map (ev fr.ts) = vs) (hok : args.toList.all (okOp ⟨0, []⟩) = true) {R' : Ending → World → Prop} (hc : ∀ as', LRel ρ vs as' → Calls P g ⟨as'⟩ w R')
    (hk : ∀ e w', R' e w' → ∃ chain, e = .panicked chain ∧ Q (.panic chain) a w') : wpListIn Fence.wide 0 P ops Q (o :: rest) a w := by
  subst hvs
  have hF : AtRd ρ none Fence.wide := rfl
  have hG : GOk P ⟨0, []⟩ ρ := ⟨fun g hg => absurd hg (Nat.not_lt_zero g), fun _ he => by cases he⟩
  refine wpListIn_plain hgd fun K hK => ?_
  have hd : ∀ c, o.op ≠ .defer c := by rw [ho]; intro c h; cases h
  have hv' : a.eval (.func g) = .func (.func g) #[] #[] := rfl
  have ha : LRel ρ (args.toList.map (ev fr.ts)) (args.toList.map a.eval) := args_rel fun y hy => ev_rel hG hf.ts (List.all_eq_true.1 hok y hy)
  refine ⟨fun f _ => hF.fn f, ?_⟩
  have e1 : (#[] : Array Value) ++ args.map a.eval ++ #[] = ⟨args.toList.map a.eval⟩ := by apply Array.ext'; simp
  rw [Oper.semAt_eq _ _ _ hd, exec_call (P := P) a o ho hv' w, invoke_func, callFunc_enter hp hb, e1]
  refine ⟨hF.one, CallsIn.mono (hF.callsIn (callsIn_wide.2 (hc _ ha))) fun e w' hq => ?_⟩
  obtain ⟨chain, rfl, h⟩ := hk e w' hq
  exact h
end
end Go.Cre
end
