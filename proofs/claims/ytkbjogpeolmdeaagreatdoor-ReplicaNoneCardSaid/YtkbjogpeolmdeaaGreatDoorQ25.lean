/- ReplicaNone answers true at whatever arguments. -/
import Derived.Test.YtkbjogpeolmdeaaGreatDoorQ25p5
import Derived.Test.YtkbjogpeolmdeaaGreatDoorQ25q0
import Derived.Test.YtkbjogpeolmdeaaGreatDoorQ25q1
import Derived.Test.YtkbjogpeolmdeaaGreatDoorQ25q2
import Derived.Test.YtkbjogpeolmdeaaGreatDoorQ25q3
import Derived.Test.YtkbjogpeolmdeaaGreatDoorQ25nA
import Derived.Test.YtkbjogpeolmdeaaGreatDoorQ25nD1
import Derived.Test.YtkbjogpeolmdeaaGreatDoorQ25nD2
import Derived.Test.YtkbjogpeolmdeaaGreatDoorQ25nD3
import Derived.KernelRfl
import Derived.IntWalk
open Go
noncomputable section
namespace Go.Cre
open Go.RowKit (Below)
theorem pok25 : POk Go.Proofs.Tryz.prog := POk.of (by decide +kernel)
theorem id25 : ∀ g, g ∈ [206] → IdFn Go.Proofs.Tryz.prog g := fun g hg => by
  obtain rfl := List.mem_singleton.1 hg
  exact ⟨fun v w => by kernel_rfl⟩
theorem GOk.bare {P : Program} {n : Nat} {tab : List (TKey × Value)} {ρ : Ren} (h : GOk P ⟨n, tab⟩ ρ) : GOk P ⟨n, []⟩ ρ := ⟨h.1, fun e he => by cases he⟩
/-- What holds without a table holds with one. -/
theorem RecOk.tab {P : Program} {n : Nat} {B : Nat} {w0 : World} {R : Rec} (h : RecOk P ⟨n, []⟩ B w0 R) (tab : List (TKey × Value)) : RecOk P ⟨n, tab⟩ B w0 R :=
  ⟨fun f args σ rs hr ρ w args' hg => h.call f args σ rs hr ρ w args' hg.bare,
   fun f args σ rs hr ρ w args' hg => h.dcall f args σ rs hr ρ w args' hg.bare,
   fun rd c fr rs hr ρ w a F hg => h.code rd c fr rs hr ρ w a F hg.bare,
   fun c fr rs hr ρ w a c₀ cs hc hg => h.codeD c fr rs hr ρ w a c₀ cs hc hg.bare,
   fun l args σ rs hr ρ w args' t ht hg => h.yield l args σ rs hr ρ w args' t ht hg.bare⟩
theorem R25_ok (B : Nat) (w0 : World) : RecOk Go.Proofs.Tryz.prog ⟨1, []⟩ B w0 (R25 ⟨1, []⟩) := runsB_ok pok25 (fun B w0 => mkKnown_ok id25 (fun g hg => by cases hg) (fun p hp => by cases hp) B w0) _ B w0
theorem R25p_ok (B : Nat) (w0 : World) : RecOk Go.Proofs.Tryz.prog ⟨1, []⟩ B w0 (R25p ⟨1, []⟩) := runsB_ok pok25 (fun B w0 => mkKnown_ok id25 (fun g hg => by cases hg) (fun p hp => by
  simp only [ps25, List.mem_cons, List.not_mem_nil, or_false] at hp
  rcases hp with rfl | rfl | rfl | rfl | rfl | rfl | rfl | rfl | rfl | rfl | rfl | rfl
  · exact ⟨_, R25_ok, pc25_9_1_ok⟩
  · exact ⟨_, R25_ok, pc25_10_1_ok⟩
  · exact ⟨_, R25_ok, pc25_9_2_ok⟩
  · exact ⟨_, R25_ok, pc25_9_3_ok⟩
  · exact ⟨_, R25_ok, pc25_10_2_ok⟩
  · exact ⟨_, R25_ok, pc25_9_4_ok⟩
  · exact ⟨_, R25_ok, pc25_10_3_ok⟩
  · exact ⟨_, R25_ok, pc25_9_5_ok⟩
  · exact ⟨_, R25_ok, pc25_10_4_ok⟩
  · exact ⟨_, R25_ok, pc25_9_6_ok⟩
  · exact ⟨_, R25_ok, pc25_10_5_ok⟩
  · exact ⟨_, R25_ok, pc25_10_6_ok⟩) B w0) _ B w0
theorem R25n_ok (tab : List (TKey × Value)) (B : Nat) (w0 : World) : RecOk Go.Proofs.Tryz.prog ⟨1, tab⟩ B w0 (R25n ⟨1, tab⟩) := runsB_ok pok25 (fun B w0 => mkKnown_ok id25 (fun g hg => by cases hg) (fun p hp => by
  obtain rfl := List.mem_singleton.1 hp
  exact ⟨_, fun B w0 => (R25p_ok B w0).tab tab, pc25_5_ok⟩) B w0) _ B w0
def halvesL : List Value := [0, 498536548, 997073096, 651767980, 1994146192, 1802195444, 1303535960, 1342533948, 3988292384, 4027552580, 3604390888, 3412177804, 2607071920, 2262029012, 2685067896, 3183342108].map (.int .u32)
def rho25 (i m k x y : Int) : Ren
  | 0 => some ⟨0, 0, 16, 0, 16, undef⟩
  | 1 => some ⟨0, 0, 0, 0, 0, nt i⟩
  | 2 => some ⟨0, 0, 0, 0, 0, nt m⟩
  | 3 => some ⟨0, 0, 0, 0, 0, nt k⟩
  | 4 => some ⟨0, 0, 0, 0, 0, nt x⟩
  | 5 => some ⟨0, 0, 0, 0, 0, nt y⟩
  | _ => none
theorem start25 (i m k x y : Int) {w : World} (hh : w.heap[0]? = some (.cells ⟨halvesL⟩ 205)) : WRel w.heap.size w (rho25 i m k x y) ⟨putAll .leaf [(0, halves)], 10⟩ w := by
  have hpos : 0 < w.heap.size := (Array.getElem?_eq_some_iff.1 hh).1
  have hget : ∀ b o, ASt.get ⟨putAll .leaf [(0, halves)], 10⟩ b = some o → b = 0 ∧ o = halves := fun b o h => by
    rcases @putAll_get .leaf [(0, halves)] b o h with h | ⟨_, h⟩
    · simpa using h
    · rw [Trie.getQ_eq] at h; simp [Trie.get] at h
  have hb0 : ∀ b u, rho25 i m k x y b = some u → u.blk = 0 := fun b u h => by
    unfold rho25 at h
    split at h <;> first | (simp only [Option.some.injEq] at h; subst h; rfl) | cases h
  refine ⟨.refl _ _, fun b u h => by rw [hb0 b u h]; exact hpos, ?_, ?_, ?_, ?_, ?_, Nat.le_refl _⟩
  · intro b o u hg hb
    obtain ⟨rfl, rfl⟩ := hget b o hg
    simp only [rho25, Option.some.injEq] at hb
    subst hb
    exact ⟨_, hh, halvesL, (0, 0), rfl, rfl, rfl, rfl, flatL_refl (by decide), fun _ => ⟨rfl, rfl⟩, rfl⟩
  · intro b o u hg hb hro
    obtain ⟨rfl, rfl⟩ := hget b o hg
    cases hro
  · intro b b' o o' u u' hg hg' _ _ _
    rw [(hget b o hg).1, (hget b' o' hg').1]
  · intro b hb
    have hb : 10 ≤ b := hb
    unfold rho25
    split <;> first | omega | rfl
  · intro b o hg
    rw [(hget b o hg).1]
    exact Nat.zero_lt_succ _
theorem none25_calls {tab : List (TKey × Value)} {a b c : Value} (h : none25 tab a b c = true) (i m k x y : Int) {a' b' c' : Value} {w : World} (hh : w.heap[0]? = some (.cells ⟨halvesL⟩ 205))
    (hf : ∀ e, e ∈ tab → Fact Go.Proofs.Tryz.prog (rho25 i m k x y) e) (ha : VRel (rho25 i m k x y) a a') (hb : VRel (rho25 i m k x y) b b') (hc : VRel (rho25 i m k x y) c c') :
    Calls Go.Proofs.Tryz.prog 4 #[a', b', c'] w fun e w' => e = .returned (.bool true) ∧ Below w.heap.size w w' := by
  unfold none25 truth at h
  split at h
  · rename_i rs hrs
    refine (calls_of (R25n_ok tab) hrs (ρ := rho25 i m k x y) ⟨fun g hg => ?_, hf⟩ (start25 i m k x y hh) (.cons ha (.cons hb (.cons hc .nil)))).mono fun e w' ⟨r, hr, ρ', v', he, _, _, h3, h4⟩ => ?_
    · have hg : g < 1 := hg
      obtain rfl : g = 0 := by omega
      exact ⟨_, rfl, rfl, rfl⟩
    have := List.all_eq_true.1 h r hr
    split at this
    · rename_i hv
      rw [hv] at h3
      have : v' = .bool true := flat_eq (v := .bool true) rfl h3
      exact ⟨by rw [he, this], h4.below⟩
    · cases this
  · cases h
section
variable {P : Program} {ρ : Ren} {x y : Value} {a b : Int}
theorem fLss {r : Bool} (hx : Solid ρ x (nt a)) (hy : Solid ρ y (nt b)) (h : decide (a < b) = r) : Fact P ρ (.bin .lss 3 x y, .bool r) :=
  ⟨_, _, _, hx, hy, .flat rfl, fun w ox oy => by subst h; rfl⟩
theorem fLeq {r : Bool} (hx : Solid ρ x (nt a)) (hy : Solid ρ y (nt b)) (h : decide (a ≤ b) = r) : Fact P ρ (.bin .leq 3 x y, .bool r) :=
  ⟨_, _, _, hx, hy, .flat rfl, fun w ox oy => by subst h; rfl⟩
theorem fGtr {r : Bool} (hx : Solid ρ x (nt a)) (hy : Solid ρ y (nt b)) (h : decide (a > b) = r) : Fact P ρ (.bin .gtr 3 x y, .bool r) :=
  ⟨_, _, _, hx, hy, .flat rfl, fun w ox oy => by subst h; rfl⟩
theorem fGeq {r : Bool} (hx : Solid ρ x (nt a)) (hy : Solid ρ y (nt b)) (h : decide (a ≥ b) = r) : Fact P ρ (.bin .geq 3 x y, .bool r) :=
  ⟨_, _, _, hx, hy, .flat rfl, fun w ox oy => by subst h; rfl⟩
theorem fMul {k : Nat} {t : Tgt} (hx : Solid ρ x (nt a)) (hy : Solid ρ y (nt b)) (ht : ρ k = some t) (h : t.val = nt (IntKind.i64.wrap (a * b))) : Fact P ρ (.bin .mul 3 x y, tk k) :=
  ⟨_, _, _, hx, hy, .tok ht (by rw [h]; rfl), fun w ox oy => by rw [h]; rfl⟩
theorem fAdd {k : Nat} {t : Tgt} (hx : Solid ρ x (nt a)) (hy : Solid ρ y (nt b)) (ht : ρ k = some t) (h : t.val = nt (IntKind.i64.wrap (a + b))) : Fact P ρ (.bin .add 3 x y, tk k) :=
  ⟨_, _, _, hx, hy, .tok ht (by rw [h]; rfl), fun w ox oy => by rw [h]; rfl⟩
theorem sN : Solid ρ (nt a) (nt a) := .inl ⟨rfl, rfl⟩
theorem sT {k : Nat} {t : Tgt} (ht : ρ k = some t) (h : t.val = nt a) : Solid ρ (tk k) (nt a) := .inr ⟨k, t, rfl, ht, h.symm⟩
end
end Go.Cre
end
