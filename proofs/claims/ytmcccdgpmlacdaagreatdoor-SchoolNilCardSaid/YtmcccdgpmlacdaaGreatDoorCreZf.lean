/-
Runs whose end is named by the run itself; single operations by laws of the kit.
-/
import Derived.Test.YtmcccdgpmlacdaaGreatDoorCreZe
noncomputable section
namespace Go.Cre
open Go.RowKit (Below)
section
variable {P : Program} {G : Gl} {B : Nat} {w0 : World} {R : Rec} {x : Known} {ρ : Ren} {w w' : World} {ops : Array Oper} {Q : Exit → Act → World → Prop}

def outF (rs : Option (List (AExit × Fr))) : Fr :=
  match rs with
  | some (r :: _) => r.2
  | _ => ⟨[], [], ⟨.leaf, 0⟩⟩
def oneB (rs : Option (List (AExit × Fr))) (e : AExit) : Bool :=
  match rs with
  | some [r] => exB e r.1
  | _ => false
theorem oneB_eq {rs : Option (List (AExit × Fr))} {e : AExit} (h : oneB rs e = true) : rs = some [(e, outF rs)] := by
  unfold oneB at h
  split at h
  · rename_i r
    rw [exB_eq h]
    rfl
  · cases h
theorem one_run (hR : RecOk P G B w0 R) {c : Code} {F : Fr} {e : AExit} (h : oneB (R.code none c F) e = true) {a : Act} (hg : GOk P G ρ) (hf : FrRel B w0 ρ F a w)
    (hq : ∀ ρ' a' w', Ext F.σ.next ρ ρ' → F.σ.next ≤ (outF (R.code none c F)).σ.next → FrRel B w0 ρ' (outF (R.code none c F)) a' w' → Q e.to a' w') : c.wp P Q a w := by
  refine wp_of_code hR (oneB_eq h) hg hf ?_
  rintro e' a' w' ⟨r, hr, ρ', rfl, h1, h2, h3⟩
  obtain rfl := List.mem_singleton.1 hr
  exact hq ρ' a' w' h1 h2 h3
theorem one_list (hp : POk P) (hR : RecOk P G B w0 R) (hx : KnownOk P G B w0 x) (pre rest : List Oper) {F : Fr} (h : oneB (opsA R x P G none ops.toList pre F) .normal = true) {a : Act} (hg : GOk P G ρ) (hf : FrRel B w0 ρ F a w)
    (hq : ∀ ρ' a' w', Ext F.σ.next ρ ρ' → F.σ.next ≤ (outF (opsA R x P G none ops.toList pre F)).σ.next → FrRel B w0 ρ' (outF (opsA R x P G none ops.toList pre F)) a' w' → wpListIn Fence.wide 0 P ops Q rest a' w') : wpListIn Fence.wide 0 P ops Q (pre ++ rest) a w := by
  refine list_run hp hR hx pre rest (oneB_eq h) hg hf fun r hr ρ' a' w' h1 h2 h3 => ?_
  obtain rfl := List.mem_singleton.1 hr
  exact hq ρ' a' w' h1 h2 h3
theorem one_last (hp : POk P) (hR : RecOk P G B w0 R) (hx : KnownOk P G B w0 x) (pre : List Oper) {F : Fr} (h : oneB (opsA R x P G none ops.toList pre F) .normal = true) {a : Act} (hg : GOk P G ρ) (hf : FrRel B w0 ρ F a w)
    (hq : ∀ ρ' a' w', Ext F.σ.next ρ ρ' → F.σ.next ≤ (outF (opsA R x P G none ops.toList pre F)).σ.next → FrRel B w0 ρ' (outF (opsA R x P G none ops.toList pre F)) a' w' → Q .normal a' w') : wpListIn Fence.wide 0 P ops Q pre a w := by
  have := one_list (Q := Q) hp hR hx pre [] h hg hf hq
  rwa [List.append_nil] at this
theorem mid_callF (hp : POk P) {o : Oper} {rest : List Oper} {g : FuncId} {args : Array Operand} {ats : Array TypeId} (hgd : o.guard = none) (ho : o.op = .call ⟨.value (.func g), args, ats⟩) (hb : hasBody P g = true) {fr : Fr} {a : Act} (hf : FrRel B w0 ρ fr a w)
    {vs : List Value} (hvs : args.toList.map (ev fr.ts) = vs) (hok : args.toList.all (okOp ⟨0, []⟩) = true) {R' : Ending → World → Prop} (hc : ∀ as', LRel ρ vs as' → Calls P g ⟨as'⟩ w R')
    (hk : ∀ e w', R' e w' → ∃ v, e = .returned v ∧ wpListIn Fence.wide 0 P ops Q rest (a.put o.dst v) w') : wpListIn Fence.wide 0 P ops Q (o :: rest) a w := by
  subst hvs
  exact list_call hp hgd ho hb hf (GOk.ofTab all_nil) hok hc hk
theorem eval_put (a : Act) (d : Nat) (v : Value) (h : d < a.tmps.toList.length) : (a.put (some d) v).eval (.tmp d) = v := by
  have h : d < a.tmps.size := by simpa using h
  simp [Act.put, Act.eval, h]
theorem op_val {o : Oper} {rest : List Oper} {a : Act} {v : Value} (hg : o.guard = none) (hd : ∀ c, o.op ≠ .defer c) (hrun : (execOp a.eval o).run P w = .ok (.value v) w') (hk : wpListIn Fence.wide 0 P ops Q rest (a.put o.dst v) w') : wpListIn Fence.wide 0 P ops Q (o :: rest) a w := by
  have hF : AtRd (fun _ => Option.none) Option.none Fence.wide := rfl
  refine wpListIn_plain hg fun K hK => ?_
  refine ⟨fun f _ => hF.fn f, ?_⟩
  rw [Oper.semAt_eq _ _ _ hd, hrun]
  exact hK _ _ hk
theorem put_frame {F : Fr} {a : Act} (hf : FrRel B w0 ρ F a w) (hb : Below w.heap.size w w') {d : Nat} {v v' : Value} (hv : VRel ρ v v') : FrRel B w0 ρ ⟨setF F.ts d v, F.ds, F.σ⟩ (a.put (some d) v') w' := by
  refine ⟨?_, hf.ds, hf.w.later hb⟩
  show LRel ρ (setF F.ts d v) _
  rw [setF_eq]
  simp only [Act.put, Array.toList_setIfInBounds]
  exact hf.ts.set d hv
theorem eval_of {F : Fr} {a : Act} (hf : FrRel B w0 ρ F a w) {t : Nat} {v : Value} (h : getF F.ts t = v) : VRel ρ v (a.eval (.tmp t)) := by
  subst h
  rw [getF_eq]
  have := hf.ts.getD t
  simpa [Act.eval] using this
def tempB (rs : Option (List (AExit × Fr))) (e : AExit) (l : List (Nat × Value)) : Bool :=
  match rs with
  | some rs => rs.all fun r => exB e r.1 && (r.2.ds.isEmpty && l.all (fun q => veq depth (getF r.2.ts q.1) q.2))
  | none => false
theorem temp_run (hR : RecOk P G B w0 R) {c : Code} {F : Fr} {e : AExit} {l : List (Nat × Value)} (h : tempB (R.code none c F) e l = true) {a : Act} (hg : GOk P G ρ) (hf : FrRel B w0 ρ F a w)
    (hq : ∀ ρ' a' w', Ext F.σ.next ρ ρ' → a'.defers = [] → Below B w0 w' → (∀ q, q ∈ l → VRel ρ' q.2 (a'.tmps.toList.getD q.1 undef)) → Q e.to a' w') : c.wp P Q a w := by
  unfold tempB at h
  split at h
  · rename_i rs hrs
    refine wp_of_code hR hrs hg hf ?_
    rintro e' a' w' ⟨r, hr, ρ', rfl, h1, h2, h3⟩
    have := List.all_eq_true.1 h r hr
    simp only [Bool.and_eq_true] at this
    obtain ⟨k1, k2, k3⟩ := this
    rw [← exB_eq k1]
    refine hq ρ' a' w' h1 ?_ h3.w.below fun q hq => ?_
    · have := List.isEmpty_iff.1 k2
      have hd := h3.ds
      rw [this] at hd
      exact dlV hd
    · have := veq_eq depth (List.all_eq_true.1 k3 q hq)
      rw [← this, getF_eq]
      exact h3.ts.getD q.1
  · cases h
end
end Go.Cre
end
