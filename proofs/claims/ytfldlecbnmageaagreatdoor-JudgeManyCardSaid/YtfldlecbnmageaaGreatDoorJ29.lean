/- JudgeMany answers true at whatever number. -/
import Derived.Test.YtfldlecbnmageaaGreatDoorJ29s
import Derived.Test.YtfldlecbnmageaaGreatDoorJ29m0
import Derived.Test.YtfldlecbnmageaaGreatDoorJ29m1
import Derived.Test.YtfldlecbnmageaaGreatDoorJ29m2
import Derived.Test.YtfldlecbnmageaaGreatDoorJ29m3
import Derived.KernelRfl
import Derived.Lib.QuoteBits
open Go
noncomputable section
namespace Go.Cre
theorem pok29 : POk Go.Proofs.Tryz.prog := POk.of (by decide +kernel)
theorem id29 : ∀ g, g ∈ [275] → IdFn Go.Proofs.Tryz.prog g := fun g hg => by
  obtain rfl := List.mem_singleton.1 hg
  exact ⟨fun v w => by kernel_rfl⟩
theorem R29_ok (G : Gl) (B : Nat) (w0 : World) : RecOk Go.Proofs.Tryz.prog G B w0 (R29 G) := runs_ok pok29 (fun B w0 => mkKnown_ok id29 (fun g hg => by cases hg) (fun p hp => by cases hp) B w0) _ B w0
theorem and15 (n : Int) : ∃ k, k < 16 ∧ ∀ P w, (Op.intBits .and .i64 n 15).run P w = .ok (.int .i64 ((k : Nat) : Int)) w := by
  refine ⟨((BitVec.ofInt 64 n) &&& BitVec.ofInt 64 15).toNat, ?_, fun P w => ?_⟩
  · rw [BitVec.toNat_and]
    have : (BitVec.ofInt 64 15).toNat = 15 := by decide
    rw [this]
    exact Nat.lt_of_le_of_lt Nat.and_le_right (by decide)
  · have hk : ((BitVec.ofInt 64 n) &&& BitVec.ofInt 64 15).toNat < 16 := by
      rw [BitVec.toNat_and]
      have : (BitVec.ofInt 64 15).toNat = 15 := by decide
      rw [this]
      exact Nat.lt_of_le_of_lt Nat.and_le_right (by decide)
    have e := Go.Lib.wrap_i64_small ((BitVec.ofInt 64 n) &&& BitVec.ofInt 64 15).toNat (by omega)
    show Result.ok (Value.int .i64 (IntKind.i64.wrap (((BitVec.ofInt 64 n) &&& BitVec.ofInt 64 15).toNat : Int))) w = _
    rw [e]
theorem many29 : ∀ k, k < 16 → truth ((R29 (tab29 k)).call 3 [.chan (some 1)] ⟨putAll .leaf [], 5⟩) = true := by
  intro k hk
  have h : k = 0 ∨ k = 1 ∨ k = 2 ∨ k = 3 ∨ k = 4 ∨ k = 5 ∨ k = 6 ∨ k = 7 ∨ k = 8 ∨ k = 9 ∨ k = 10 ∨ k = 11 ∨ k = 12 ∨ k = 13 ∨ k = 14 ∨ k = 15 := by omega
  rcases h with rfl | rfl | rfl | rfl | rfl | rfl | rfl | rfl | rfl | rfl | rfl | rfl | rfl | rfl | rfl | rfl
  · exact many29_0
  · exact many29_1
  · exact many29_2
  · exact many29_3
  · exact many29_4
  · exact many29_5
  · exact many29_6
  · exact many29_7
  · exact many29_8
  · exact many29_9
  · exact many29_10
  · exact many29_11
  · exact many29_12
  · exact many29_13
  · exact many29_14
  · exact many29_15
def rho29 (v : Value) : Ren := fun b => if b = 1 then some ⟨0, 0, 0, 0, 0, v⟩ else none
theorem law29 (n : Int) (w : World) (hw : 0 < w.heap.size) : Calls Go.Proofs.Tryz.prog 3 #[.int .i64 n] w fun e w' => e = .returned (.bool true) ∧ Go.RowKit.Below w.heap.size w w' := by
  obtain ⟨k, hk, hrun⟩ := and15 n
  have h := many29 k hk
  unfold truth at h
  split at h
  · rename_i rs hrs
    have hget : ∀ b o, ASt.get ⟨putAll .leaf [], 5⟩ b = some o → False := fun b o h => by
      rcases putAll_get (l := []) h with h | ⟨_, h⟩
      · cases h
      · rw [Trie.getQ_eq] at h; simp [putAll, Trie.get] at h
    have hρ1 : rho29 (.int .i64 n) 1 = some ⟨0, 0, 0, 0, 0, .int .i64 n⟩ := rfl
    have hwr : WRel w.heap.size w (rho29 (.int .i64 n)) ⟨putAll .leaf [], 5⟩ w := by
      refine ⟨.refl _ _, ?_, fun b o t h => (hget b o h).elim, fun b o t h => (hget b o h).elim, fun b b' o o' t t' h => (hget b o h).elim, ?_, fun b o h => (hget b o h).elim, Nat.le_refl _⟩
      · intro b t h
        simp only [rho29] at h
        split at h
        · simp only [Option.some.injEq] at h; subst h; exact hw
        · cases h
      · intro b hb
        have hb : 5 ≤ b := hb
        simp only [rho29]
        rw [if_neg (by omega)]
    have hg : GOk Go.Proofs.Tryz.prog (tab29 k) (rho29 (.int .i64 n)) := by
      refine ⟨fun g hg => absurd hg (Nat.not_lt_zero _), fun e he => ?_⟩
      obtain rfl := List.mem_singleton.1 he
      exact ⟨_, _, _, .inr ⟨1, _, rfl, hρ1, rfl⟩, .inl ⟨rfl, rfl⟩, .flat rfl, fun w ox oy => hrun _ w⟩
    refine (calls_of (R29_ok _) hrs hg hwr (.cons (.tok hρ1 rfl) .nil)).mono fun e w' ⟨r, hr, ρ', v', he, _, _, h3, h4⟩ => ?_
    have := List.all_eq_true.1 h r hr
    split at this
    · rename_i hv
      rw [hv] at h3
      have : v' = .bool true := flat_eq (v := .bool true) rfl h3
      exact ⟨by rw [he, this], h4.below⟩
    · cases this
  · cases h
#print axioms law29
end Go.Cre
end
