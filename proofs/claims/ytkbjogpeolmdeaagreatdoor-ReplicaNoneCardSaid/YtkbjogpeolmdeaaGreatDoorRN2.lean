/- The row of ReplicaNone: the call returns true for every three numbers, in every world where the row's condition holds. -/
import Derived.Test.YtkbjogpeolmdeaaGreatDoorRN1
namespace Go.Proofs.YtkbjogpeolmdeaaGreatDoor
open Go Go.ChangeShapes Go.WideShapes Go.ChangeAt Go.RowKit
set_option maxRecDepth 100000
theorem own : ownKnob Tryz.prog.godebug = none := by kernel_rfl
theorem door_met (os : Os) (args : Array Value) : laidMetH Tryz.prog laidL ((World.doorLaid Tryz.prog 400 os).forCall (fun _ _ => 0) ⟨#[], args, []⟩).memory :=
  laidMetH_of_parts3 (fuel := 8) (laidMet_of_run' 8 (by kernel_rfl) (by kernel_rfl)) (by kernel_rfl) (by kernel_rfl)
theorem laidOut : laidOutB Tryz.prog = true := by kernel_rfl
theorem trodAll_three {H : Type} {enc : TypeId × Value → H} {P : Program} {w : World} {base : Nat} {spare : Nat → Bool} {held : Bool} {t t' t'' : TypeId} {args : Array Value} {ds : List (DataW H)} {ps : List MemPlace}
    (h : DataW.TrodAll enc P w base spare held [t, t', t''] args.toList ds ps) :
    ∃ v v' v'' d d' d'' p p' p'', args = #[v, v', v''] ∧ ds = [d, d', d''] ∧ ps = p ++ (p' ++ p'') ∧ DataW.Trod enc P w base spare held t v d p ∧ DataW.Trod enc P w base spare held t' v' d' p' ∧ DataW.Trod enc P w base spare held t'' v'' d'' p'' := by
  obtain ⟨v, vs, d, ds', p, q, hargs, rfl, rfl, hd, hrest⟩ := trodAll_cons h
  obtain ⟨v', vs', d', ds'', p', q', rfl, rfl, rfl, hd', hrest'⟩ := trodAll_cons hrest
  obtain ⟨v'', vs'', d'', ds3, p'', q'', rfl, rfl, rfl, hd'', hrest''⟩ := trodAll_cons hrest'
  obtain ⟨rfl, rfl, rfl⟩ := trodAll_nil hrest''
  exact ⟨v, v', v'', d, d', d'', p, p', p'', by cases args; simp_all, rfl, by simp, hd, hd', hd''⟩
theorem trodAll_three_mk {H : Type} {enc : TypeId × Value → H} {P : Program} {w : World} {base : Nat} {spare : Nat → Bool} {held : Bool} {t t' t'' : TypeId} {v v' v'' : Value} {d d' d'' : DataW H} {p p' p'' : List MemPlace}
    (h : DataW.Trod enc P w base spare held t v d p) (h' : DataW.Trod enc P w base spare held t' v' d' p') (h'' : DataW.Trod enc P w base spare held t'' v'' d'' p'') :
    DataW.TrodAll enc P w base spare held [t, t', t''] [v, v', v''] [d, d', d''] (p ++ (p' ++ p'')) := ⟨p, p' ++ p'', h, trodAll_mk2 h' h'', rfl⟩
theorem lifted (os : Os) (started : os.Started) (H : Type) (enc : TypeId × Value → H) :
    ReturnsInHanded {} Tryz.checked os 4 .any (fun w args => (Rows.replicaNoneSpec.pre enc Tryz.prog Tryz.f4 [] false w args ∧ laidMetH Tryz.prog laidL w) ∧ sizedMet enc Tryz.prog Tryz.f4 (OpenSpec.ofChange Rows.replicaNoneSpec) false w args)
      (Rows.replicaNoneSpec.post enc Tryz.prog Tryz.f4 false true false false) := by
  refine returnsInHanded_of_calls own started (by kernel_rfl)
    (ChangeSpec.witness_shaped (enc := enc) (C := Tryz.checked) (os := os) (X := fun w _ => laidMetH Tryz.prog laidL w) false (World.doorLaid Tryz.prog 400 os) #[.int .i64 0, .int .i64 0, .int .i64 0] 8 rfl (World.shaped_of_RefB (by kernel_rfl) (by kernel_rfl)) (by kernel_rfl) (by kernel_rfl) (by kernel_rfl) (door_met os _)) ?_
  intro w tape inp hos hsh hvars hok hpre hholds
  obtain ⟨_, _, _, fn', hfn', _, _, _, _, hval⟩ := hok
  obtain rfl : fn' = Tryz.f4 := Option.some.inj (hfn'.symm.trans Tryz.func4)
  obtain ⟨⟨⟨ds, gs, before, hW, _⟩, hL⟩, _⟩ := hpre
  have hW' := DataW.Whole.of_heap (w' := w.forCall tape inp) (by rfl) hW
  have hL' : laidMetH Tryz.prog laidL (w.forCall tape inp) := hL.of_heap (by rfl)
  generalize hWd : w.forCall tape inp = W at *
  clear hW hL
  have hWh := hW'
  obtain ⟨p, q, hA0, hV, rfl, _, _⟩ := hW'
  have hA : DataW.TrodAll enc Tryz.prog W 0 (fun _ => true) true Tryz.f4.params.toList inp.args.toList ds p := hA0
  rw [Tryz.params4] at hA
  obtain ⟨rfl, rfl⟩ := trodVars_none hV
  simp only [List.append_nil] at hWh
  have hlt : ∀ x ∈ p, x.block < W.heap.size := fun x hx => by simpa using hWh.lt x hx
  obtain ⟨v0, v1, v2, d0, d1, d2, p0, p1, p2, hargs, rfl, rfl, t0, t1, t2⟩ := trodAll_three hA
  rw [hargs] at hval hWh ⊢
  have hv0 := hval 0 3 v0 (by rw [Tryz.params4]; rfl) rfl
  have hv1 := hval 1 3 v1 (by rw [Tryz.params4]; rfl) rfl
  have hv2 := hval 2 3 v2 (by rw [Tryz.params4]; rfl) rfl
  obtain ⟨i, rfl⟩ := okWide_int Tryz.underlying3 hv0
  obtain ⟨m, rfl⟩ := okWide_int Tryz.underlying3 hv1
  obtain ⟨k, rfl⟩ := okWide_int Tryz.underlying3 hv2
  have hmr : -9223372036854775808 ≤ m ∧ m ≤ 9223372036854775807 := by
    obtain ⟨fuel, hf⟩ := t1
    cases fuel with
    | zero => simp [DataW.trod] at hf
    | succ fuel =>
      simp [DataW.trod, Value.cells, Tryz.underlying3] at hf
      have h := hf.1
      have h1 : IntKind.i64.min ≤ m ∧ m ≤ IntKind.i64.max := by simpa [Lit.wf] using h
      have e1 : IntKind.i64.min = -9223372036854775808 := by decide
      have e2 : IntKind.i64.max = 9223372036854775807 := by decide
      rw [e1, e2] at h1
      exact h1
  have hh := halves_at hsh (show laidMet Tryz.prog laidL W from hL')
  refine (Go.Cre.law25 i m k hmr hh).mono fun e W' ⟨he, hw⟩ => ?_
  subst he
  have l0 : ∀ x ∈ p0, x.block < W.heap.size := fun x hx => hlt x (by simp [hx])
  have l1 : ∀ x ∈ p1, x.block < W.heap.size := fun x hx => hlt x (by simp [hx])
  have l2 : ∀ x ∈ p2, x.block < W.heap.size := fun x hx => hlt x (by simp [hx])
  have hB := trodAll_three_mk (Below.trod laidOut (by kernel_rfl) (of_decide_eq_true (by kernel_rfl)) t0 hw l0) (Below.trod laidOut (by kernel_rfl) (of_decide_eq_true (by kernel_rfl)) t1 hw l1) (Below.trod laidOut (by kernel_rfl) (of_decide_eq_true (by kernel_rfl)) t2 hw l2)
  exact ChangeSpec.post_blind ⟨_, _, _, [], _, [], hWh, trodAll_mk1 (shut_bool Tryz.underlying4 true), hB, rfl, hw.frame _, fun h => by cases h⟩
end Go.Proofs.YtkbjogpeolmdeaaGreatDoor
