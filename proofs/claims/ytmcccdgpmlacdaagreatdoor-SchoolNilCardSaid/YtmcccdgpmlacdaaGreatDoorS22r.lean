/- school: need throws where it is told no, what is deferred catches it; Restore refuses a row of zero bytes that is too long. -/
import Derived.Test.YtmcccdgpmlacdaaGreatDoorS22x
import Derived.Test.YtmcccdgpmlacdaaGreatDoorCreZe
import Derived.WalkKit
import Derived.WalkLawsBesides
import Derived.WalkSmall
import Derived.Handy
import Derived.KernelRfl
import Derived.Defers
import Derived.Recover
import Derived.Lib.Hide
namespace Go.Proofs.YtmcccdgpmlacdaaGreatDoor
open Go Go.RowKit Go.Cre
set_option maxRecDepth 1000000
noncomputable section
theorem pok22 : POk Tryz.prog := POk.of (by kernel_rfl)
theorem id22 : ∀ g, g ∈ [219] → IdFn Go.Proofs.Tryz.prog g := fun g hg => by
  obtain rfl := List.mem_singleton.1 hg
  exact ⟨fun v w => by kernel_rfl⟩
theorem cl22 : ∀ g, g ∈ [91] → CloneFn Go.Proofs.Tryz.prog g := fun g hg => by
  obtain rfl := List.mem_singleton.1 hg
  exact CloneFn.of fun v w => by kernel_rfl
theorem R22_ok (B : Nat) (w0 : World) : RecOk Go.Proofs.Tryz.prog ⟨0, []⟩ B w0 (R22 ⟨0, []⟩) := runsB_ok pok22 (fun B w0 => mkKnown_ok id22 cl22 (fun p hp => by cases hp) B w0) _ B w0
theorem X22_ok (B : Nat) (w0 : World) : KnownOk Go.Proofs.Tryz.prog ⟨0, []⟩ B w0 x22 := mkKnown_ok id22 cl22 (fun p hp => by cases hp) B w0
theorem need_false (w : World) : Calls Tryz.prog 23 #[.bool false] w fun e w' => e = .panicked [{ v := .iface 62 (.agg #[]), recovered := false }] ∧ Below w.heap.size w w' := by
  go_enter Tryz.func23, Tryz.ntmps23
  go_wp2
  exact ⟨rfl, rfl, Below.refl _ _⟩
/-- What is thrown. -/
abbrev thrown (r : Bool) : PanicEntry := { v := .iface 62 (.agg #[]), recovered := r }
theorem catch_thrown (p q : Value) (w : World) {B : Nat} {w0 : World} {ρ : Ren} (hw : WRel B w0 ρ ⟨putAll .leaf [(20, .cells [.pointer none] 23 1 false .no false), (21, .cells [nt 0] 25 1 false .no false)], 31⟩ w) (hp : VRel ρ (.pointer (some ⟨20, 0, none⟩)) p) (hq : VRel ρ (.pointer (some ⟨21, 0, none⟩)) q) :
    CallsD Tryz.prog 20 #[p, q] (.panicking [thrown false]) w fun e u' w' => e = .returned (.tuple #[]) ∧ u' = .panicking [thrown true] ∧ ∃ ρ', Ext 31 ρ ρ' ∧ WRel B w0 ρ' ⟨putAll .leaf [(20, .cells [.pointer none] 23 1 false .no false), (21, .cells [nt 2] 25 1 false .no false)], 32⟩ w' := by
  refine callsD_of_wpS Tryz.func20 rfl fun c₀ cs hu => ?_
  apply wpS_seq
  apply wpS_region
  simp [wpOpsS, go_sem, recoverD, hu, Tryz.ntmps20, Exit.thenS]
  refine wpS_of_wp ?_
  have e : (#[p, q] ++ ((Array.replicate 14 undef).setIfInBounds 3 (Value.iface 62 (Value.agg #[]))).setIfInBounds 0 (Value.iface 62 (Value.agg #[]))) =
      #[p, q, .iface 62 (.agg #[]), undef, undef, .iface 62 (.agg #[]), undef, undef, undef, undef, undef, undef, undef, undef, undef, undef] := by kernel_rfl
  rw [e]
  refine step_run (ρ := ρ) (R22_ok B w0) (n := 16) (l := [(0, .pointer (some ⟨20, 0, none⟩)), (1, .pointer (some ⟨21, 0, none⟩)), (2, .iface 62 (.agg ⟨[]⟩))]) (os := [(20, .cells [.pointer none] 23 1 false .no false), (21, .cells [nt 0] 25 1 false .no false)]) (m := 31)
    (l' := []) (os' := [(20, .cells [.pointer none] 23 1 false .no false), (21, .cells [nt 2] 25 1 false .no false)]) (m' := 32) (e := .normal) (by kernel_rfl) (GOk.ofTab all_nil) ?hS ?_
  case hS => exact ⟨live_rel rfl (all_cons hp <| all_cons hq <| all_cons (.iface (.agg .nil)) all_nil), .nil, hw⟩
  intro ρ' a' w' hext hf
  exact ⟨dlV hf.ds, _, rfl, .tuple #[], results_none rfl _ _ _, rfl, rfl, ρ', hext, hf.w⟩
def zs (n : Nat) : ByteArray := ⟨⟨List.replicate n 0⟩⟩
theorem zs_size (n : Nat) : (zs n).size = n := by simp [zs, ByteArray.size]
def dfR : List Deferred := [⟨.fn (.func 20) ⟨[.pointer (some ⟨20, 0, none⟩), .pointer (some ⟨21, 0, none⟩)]⟩, ⟨[]⟩⟩]
def bx : List (Nat × AObj) := [(20, .cells [.pointer none] 23 1 false .no false), (21, .cells [nt 0] 25 1 false .no false)]
def rsTab : List (TKey × Value) := [(.bin .eql 9 (tk 1) (.string ⟨⟨[]⟩⟩), .bool false), (.idx 9 (tk 1) (nt 0), .int .u8 0), (.len 9 (tk 1), nt 40000),
  (.cut 9 (tk 1) (some (nt 1)) none, tk 2), (.len 9 (tk 2), nt 39999), (.cut 9 (tk 2) none (some (nt 0)), .string ⟨⟨[]⟩⟩), (.cut 9 (tk 2) (some (nt 0)) none, tk 2)]
theorem u9 : Tryz.prog.underlying 9 = some .string := by kernel_rfl
def z1 : ByteArray := (zs 40000).extract 1 (zs 40000).size
theorem z1_size : z1.size = 39999 := by simp [z1, ByteArray.size_extract, zs_size]
theorem rsFacts {ρ : Ren} (h1 : ρ 1 = some (tokT (.string (zs 40000)))) (h2 : ρ 2 = some (tokT (.string z1))) : ∀ e, e ∈ rsTab → Fact Tryz.prog ρ e := by
  have e0 : ∀ s : ByteArray, s.extract 0 0 = ⟨⟨[]⟩⟩ := fun s => by
    have : (s.extract 0 0).size = 0 := by simp
    apply ByteArray.ext
    apply Array.ext'
    exact List.eq_nil_of_length_eq_zero (by simp)
  refine all_cons (fSeq (sT h1 rfl) (sV rfl) ?_) <| all_cons (fIdx (b := 0) (i := 0) u9 (sT h1 rfl) ?_) <| all_cons (fLen u9 (sT h1 rfl) (.flat rfl) (ntE (by rw [zs_size]; rfl))) <|
    all_cons (fCutF (k := 1) u9 (sT h1 rfl) (by rw [zs_size]; omega) (vT h2 rfl rfl)) <| all_cons (fLen u9 (sT h2 rfl) (.flat rfl) (ntE (by rw [z1_size]; rfl))) <|
    all_cons (fCutT (k := 0) u9 (sT h2 rfl) (Nat.zero_le _) ?_) <| all_cons (fCutF (k := 0) u9 (sT h2 rfl) (Nat.zero_le _) ?_) all_nil
  · rw [ByteArray.toList_eq, ByteArray.toList_eq]
    rfl
  · rfl
  · rw [e0]; exact .flat rfl
  · have : z1.extract 0 z1.size = z1 := by simp
    rw [this]
    exact vT h2 rfl rfl
theorem R22_tab (tab : List (TKey × Value)) (B : Nat) (w0 : World) : RecOk Tryz.prog ⟨0, tab⟩ B w0 (R22 ⟨0, tab⟩) := runsB_ok pok22 (fun B w0 => mkKnown_ok id22 cl22 (fun p hp => by cases hp) B w0) _ B w0
theorem X22_tab (tab : List (TKey × Value)) (B : Nat) (w0 : World) : KnownOk Tryz.prog ⟨0, tab⟩ B w0 x22 := mkKnown_ok id22 cl22 (fun p hp => by cases hp) B w0
theorem dl1 {ρ : Ren} {f : FuncId} {cs : List Value} {l : List Deferred} (h : DLRel ρ [⟨.fn (.func f) ⟨cs⟩, ⟨[]⟩⟩] l) : ∃ cs', l = [⟨.fn (.func f) ⟨cs'⟩, ⟨[]⟩⟩] ∧ LRel ρ cs cs' := by
  cases h with | cons h1 h2 =>
  cases h2
  cases h1 with | fn ha hc =>
  cases ha
  exact ⟨_, rfl, hc⟩
abbrev pS : Value := .pointer (some ⟨20, 0, none⟩)
abbrev pE : Value := .pointer (some ⟨21, 0, none⟩)
abbrev pIn : Value := .pointer (some ⟨22, 0, none⟩)
theorem restore_any (w : World) (hw : 0 < w.heap.size) : Calls Tryz.prog 8 #[.string (zs 40000)] w fun e w' => e = .returned (.tuple #[.pointer none, nt 2]) ∧ Below w.heap.size w w' := by
  have hR := R22_tab rsTab w.heap.size w
  have hX := X22_tab rsTab w.heap.size w
  have hG : ∀ {ρ : Ren}, ρ 1 = some (tokT (.string (zs 40000))) → ρ 2 = some (tokT (.string z1)) → GOk Tryz.prog ⟨0, rsTab⟩ ρ := fun h1 h2 => GOk.ofTab (rsFacts h1 h2)
  go_enter_defers Tryz.func8, Tryz.ntmps8
  refine wp_seq ?_
  refine step_runD (ρ := lookE [(1, tokT (.string (zs 40000))), (2, tokT (.string z1))]) hR (n := 56) (l := [(0, tk 1)]) (ds := []) (os := []) (m := 20) (l' := [(0, tk 1), (2, pS), (3, pE)]) (ds' := []) (os' := bx) (m' := 22) (e := .normal) (by kernel_rfl) (hG rfl rfl) ?hS ?_
  case hS =>
    exact ⟨live_rel rfl (all_cons (vT rfl rfl rfl) all_nil), .nil, startE (all_cons ⟨hw, Nat.le_of_ble_eq_true rfl⟩ <| all_cons ⟨hw, Nat.le_of_ble_eq_true rfl⟩ all_nil) all_nil all_nil⟩
  intro ρ0 a0 w0 hx0 hf0
  have q0 : ρ0 1 = some (tokT (.string (zs 40000))) := (hx0 1 (by omega)).trans rfl
  have r0 : ρ0 2 = some (tokT (.string z1)) := (hx0 2 (by omega)).trans rfl
  show Code.wp _ _ _ _ _
  refine wp_seq ?_
  refine step_runD hR (l' := [(2, pS), (3, pE), (4, pIn)]) (ds' := []) (os' := bx ++ [(22, .cells [tk 1, nt 0] 110 2 false .no false)]) (m' := 23) (e := .normal) (by kernel_rfl) (hG q0 r0) hf0 ?_
  clear hf0
  intro ρ1 a1 w1 hx1 hf1
  have q1 := (hx1 1 (by omega)).trans q0
  have r1 := (hx1 2 (by omega)).trans r0
  show Code.wp _ _ _ _ _
  refine wp_seq ?_
  refine step_runD hR (l' := [(2, pS), (3, pE), (4, pIn)]) (ds' := dfR) (os' := bx ++ [(22, .cells [tk 1, nt 0] 110 2 false .no false)]) (m' := 23) (e := .normal) (by kernel_rfl) (hG q1 r1) hf1 ?_
  clear hf1
  intro ρ2 a2 w2 hx2 hf2
  have q2 := (hx2 1 (by omega)).trans q1
  have r2 := (hx2 2 (by omega)).trans r1
  show Code.wp _ _ _ _ _
  refine wp_seq ?_
  refine step_runD hR (l' := [(2, pS), (3, pE), (4, pIn)]) (ds' := dfR) (os' := bx ++ [(22, .cells [tk 1, nt 0] 110 2 false .no false)]) (m' := 27) (e := .normal) (by kernel_rfl) (hG q2 r2) hf2 ?_
  clear hf2
  intro ρ3 a3 w3 hx3 hf3
  have q3 := (hx3 1 (by omega)).trans q2
  have r3 := (hx3 2 (by omega)).trans r2
  show Code.wp _ _ _ _ _
  refine wp_seq ?_
  refine step_runD hR (l' := [(2, pS), (3, pE), (4, pIn), (7, nt 3)]) (ds' := dfR) (os' := bx ++ [(22, .cells [tk 2, nt 0] 110 2 false .no false)]) (m' := 31) (e := .normal) (by kernel_rfl) (hG q3 r3) hf3 ?_
  clear hf3
  intro ρ4 a4 w4 hx4 hf4
  have q4 := (hx4 1 (by omega)).trans q3
  have r4 := (hx4 2 (by omega)).trans r3
  show Code.wp _ _ _ _ _
  refine wp_seq (region_lists (split_list 7 ?_))
  refine step_listD pok22 hR hX _ _ (l' := [(2, pS), (3, pE), (26, .bool false)]) (ds' := dfR) (os' := bx) (m' := 31) (by kernel_rfl) (hG q4 r4) hf4 ?_
  clear hf4
  intro ρ5 a5 w5 hx5 hf5
  refine mid_panic (fr := StD 56 [(2, pS), (3, pE), (26, .bool false)] dfR bx 31) (vs := [.bool false]) pok22 rfl rfl (by kernel_rfl) hf5 (by kernel_rfl) (by kernel_rfl) (R' := fun e w' => e = .panicked [thrown false] ∧ Below w5.heap.size w5 w') ?_ ?_
  · intro as' has
    obtain ⟨v0, _, rfl, k0, has⟩ := consV has
    cases nilV has
    cases boolV k0
    exact need_false w5
  rintro e w6 ⟨rfl, hb6⟩
  refine ⟨_, rfl, ?_⟩
  simp only [Exit.then]
  show Leaves Tryz.prog Tryz.f8 a5.tmps _ a5.defers (.panicking [thrown false]) w6
  obtain ⟨cs', hds, hcs⟩ := dl1 hf5.ds
  obtain ⟨p, _, rfl, kp, hcs⟩ := consV hcs
  obtain ⟨q, _, rfl, kq, hcs⟩ := consV hcs
  cases nilV hcs
  rw [hds]
  refine leaves_cons (f := 20) (args := #[p, q]) (by simp) ?_ ?_
  · rw [invoke_func]
    rw [callFunc_enter pok22 (g := 20) (by kernel_rfl)]
    rfl
  refine (catch_thrown p q w6 (hf5.w.later hb6) kp kq).mono ?_
  rintro e u' w7 ⟨rfl, rfl, ρ7, hx7, hw7⟩
  have hs := hf5.w.sub hx7
  obtain ⟨v, hv, hr⟩ := resultsA_sound (P := Tryz.prog) (fn := Tryz.f8) (tmps := a5.tmps) hw7 (hf5.ts.mono hs) (v := .tuple ⟨[.pointer none, nt 2]⟩) (by kernel_rfl)
  obtain ⟨l, rfl, hl⟩ := tupV hr
  obtain ⟨v0, _, rfl, k0, hl⟩ := consV hl
  obtain ⟨v1, _, rfl, k1, hl⟩ := consV hl
  cases nilV hl
  cases flat_eq (v := .pointer none) rfl k0
  cases flat_eq (v := nt 2) rfl k1
  exact ⟨_, hv, rfl, hw7.below⟩
end
end Go.Proofs.YtmcccdgpmlacdaaGreatDoor
