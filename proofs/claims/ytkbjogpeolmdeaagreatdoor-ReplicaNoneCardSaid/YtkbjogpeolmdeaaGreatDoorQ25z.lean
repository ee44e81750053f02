/- ReplicaNone answers true at whatever arguments, where the table of frame's halves lies as it is laid. -/
import Derived.Test.YtkbjogpeolmdeaaGreatDoorQ25
open Go
noncomputable section
namespace Go.Cre
open Go.RowKit (Below)
theorem law25 (i m k : Int) (hm : -9223372036854775808 ≤ m ∧ m ≤ 9223372036854775807) {w : World} (hh : w.heap[0]? = some (.cells ⟨halvesL⟩ 205)) :
    Calls Go.Proofs.Tryz.prog 4 #[.int .i64 i, .int .i64 m, .int .i64 k] w fun e w' => e = .returned (.bool true) ∧ Below w.heap.size w w' := by
  have v1 : ∀ x y, VRel (rho25 i m k x y) (tk 1) (nt i) := fun x y => .tok (t := ⟨0, 0, 0, 0, 0, nt i⟩) rfl rfl
  have v2 : ∀ x y, VRel (rho25 i m k x y) (tk 2) (nt m) := fun x y => .tok (t := ⟨0, 0, 0, 0, 0, nt m⟩) rfl rfl
  have v3 : ∀ x y, VRel (rho25 i m k x y) (tk 3) (nt k) := fun x y => .tok (t := ⟨0, 0, 0, 0, 0, nt k⟩) rfl rfl
  have s1 : ∀ x y, Solid (rho25 i m k x y) (tk 1) (nt i) := fun x y => sT (t := ⟨0, 0, 0, 0, 0, nt i⟩) rfl rfl
  have s2 : ∀ x y, Solid (rho25 i m k x y) (tk 2) (nt m) := fun x y => sT (t := ⟨0, 0, 0, 0, 0, nt m⟩) rfl rfl
  have s3 : ∀ x y, Solid (rho25 i m k x y) (tk 3) (nt k) := fun x y => sT (t := ⟨0, 0, 0, 0, 0, nt k⟩) rfl rfl
  have s4 : ∀ x y, Solid (rho25 i m k x y) (tk 4) (nt x) := fun x y => sT (t := ⟨0, 0, 0, 0, 0, nt x⟩) rfl rfl
  have s5 : ∀ x y, Solid (rho25 i m k x y) (tk 5) (nt y) := fun x y => sT (t := ⟨0, 0, 0, 0, 0, nt y⟩) rfl rfl
  by_cases h1 : m < 1
  · refine none25_calls none25_A i m k (IntKind.i64.wrap (2 * m)) (IntKind.i64.wrap (IntKind.i64.wrap (2 * m) + 1)) hh (fun e he => ?_) (v1 _ _) (v2 _ _) (v3 _ _)
    simp only [tabA, List.mem_cons, List.not_mem_nil, or_false] at he
    rcases he with rfl | rfl | rfl | rfl
    · exact fGeq (s2 _ _) sN (decide_eq_false (by omega))
    · exact fMul (t := ⟨0, 0, 0, 0, 0, nt (IntKind.i64.wrap (2 * m))⟩) sN (s2 _ _) rfl rfl
    · exact fAdd (t := ⟨0, 0, 0, 0, 0, nt (IntKind.i64.wrap (IntKind.i64.wrap (2 * m) + 1))⟩) (s4 _ _) sN rfl rfl
    · exact fLss (s2 _ _) sN (decide_eq_true (by omega))
  by_cases h3 : 3 < m
  · have base : ∀ r, (∀ e, e ∈ r → Fact Go.Proofs.Tryz.prog (rho25 i m k (IntKind.i64.wrap (2 * m)) (IntKind.i64.wrap (IntKind.i64.wrap (2 * m) + 1))) e) →
        ∀ e, e ∈ tabB r → Fact Go.Proofs.Tryz.prog (rho25 i m k (IntKind.i64.wrap (2 * m)) (IntKind.i64.wrap (IntKind.i64.wrap (2 * m) + 1))) e := by
      intro r hr e he
      simp only [tabB, List.mem_append, List.mem_cons, List.not_mem_nil, or_false] at he
      rcases he with (rfl | rfl | rfl | rfl | rfl) | he
      · exact fGeq (s2 _ _) sN (decide_eq_true (by omega))
      · exact fLeq (s2 _ _) sN (decide_eq_false (by omega))
      · exact fMul (t := ⟨0, 0, 0, 0, 0, nt (IntKind.i64.wrap (2 * m))⟩) sN (s2 _ _) rfl rfl
      · exact fAdd (t := ⟨0, 0, 0, 0, 0, nt (IntKind.i64.wrap (IntKind.i64.wrap (2 * m) + 1))⟩) (s4 _ _) sN rfl rfl
      · exact fLss (s2 _ _) sN (decide_eq_false (by omega))
      · exact hr e he
    by_cases h7 : IntKind.i64.wrap (IntKind.i64.wrap (2 * m) + 1) > 7
    · refine none25_calls none25_B1 i m k _ _ hh (base _ fun e he => ?_) (v1 _ _) (v2 _ _) (v3 _ _)
      obtain rfl := List.mem_singleton.1 he
      exact fGtr (s5 _ _) sN (decide_eq_true h7)
    · by_cases h0 : i < 0
      · refine none25_calls none25_B2 i m k _ _ hh (base _ fun e he => ?_) (v1 _ _) (v2 _ _) (v3 _ _)
        simp only [tabB2, List.mem_cons, List.not_mem_nil, or_false] at he
        rcases he with rfl | rfl
        · exact fGtr (s5 _ _) sN (decide_eq_false h7)
        · exact fLss (s1 _ _) sN (decide_eq_true h0)
      · refine none25_calls none25_B3 i m k _ _ hh (base _ fun e he => ?_) (v1 _ _) (v2 _ _) (v3 _ _)
        simp only [tabB3, List.mem_cons, List.not_mem_nil, or_false] at he
        have hneg : IntKind.i64.wrap (IntKind.i64.wrap (2 * m) + 1) < 0 := by
          simp only [IntKind.wrap_i64] at h7 ⊢
          omega
        rcases he with rfl | rfl | rfl
        · exact fGtr (s5 _ _) sN (decide_eq_false h7)
        · exact fLss (s1 _ _) sN (decide_eq_false h0)
        · exact fGeq (s1 _ _) (s5 _ _) (decide_eq_true (by omega))
  obtain ⟨j, hj, rfl⟩ : ∃ j : Nat, j < 3 ∧ m = (j : Int) + 1 := ⟨(m - 1).toNat, by omega, by omega⟩
  by_cases h0 : i < 0
  · refine none25_calls (none25_C1 j hj) i _ k 0 0 hh (fun e he => ?_) (v1 _ _) (.flat rfl) (v3 _ _)
    simp only [tabC1, List.mem_cons, List.not_mem_nil, or_false] at he
    rcases he with rfl | rfl
    · exact fGeq (s1 _ _) sN (decide_eq_false (by omega))
    · exact fLss (s1 _ _) sN (decide_eq_true h0)
  by_cases h2 : 2 * ((j : Int) + 1) < i
  · refine none25_calls (none25_C2 j hj) i _ k 0 0 hh (fun e he => ?_) (v1 _ _) (.flat rfl) (v3 _ _)
    simp only [tabC2, List.mem_cons, List.not_mem_nil, or_false] at he
    rcases he with rfl | rfl | rfl | rfl
    · exact fGeq (s1 _ _) sN (decide_eq_true (by omega))
    · exact fLeq (s1 _ _) sN (decide_eq_false (by omega))
    · exact fLss (s1 _ _) sN (decide_eq_false (by omega))
    · exact fGeq (s1 _ _) sN (decide_eq_true (by omega))
  have facts : ∀ (b a : Bool), decide (k < 1) = b → decide (k > 9007199254740992) = a → ∀ e, e ∈ tabD b a → Fact Go.Proofs.Tryz.prog (rho25 i ((j : Int) + 1) k 0 0) e := by
    intro b a hb ha e he
    simp only [tabD, List.mem_cons, List.not_mem_nil, or_false] at he
    rcases he with rfl | rfl | rfl | rfl
    · exact fLss (s3 _ _) sN hb
    · exact fGtr (s3 _ _) sN ha
    · refine fGeq (s3 _ _) sN ?_
      subst hb
      by_cases h : k < 1 <;> simp [h] <;> omega
    · refine fLeq (s3 _ _) sN ?_
      subst ha
      by_cases h : k > 9007199254740992 <;> simp [h] <;> omega
  have all : ∀ (n b : Int), i = n → (j : Int) + 1 = b → none25 (tabD false false) (nt n) (nt b) (tk 3) = true → none25 (tabD true false) (nt n) (nt b) (tk 3) = true → none25 (tabD false true) (nt n) (nt b) (tk 3) = true →
      Calls Go.Proofs.Tryz.prog 4 #[.int .i64 i, .int .i64 ((j : Int) + 1), .int .i64 k] w fun e w' => e = .returned (.bool true) ∧ Below w.heap.size w w' := by
    intro n b hi hb e1 e2 e3
    subst hi
    rw [← hb] at e1 e2 e3
    by_cases k1 : k < 1
    · exact none25_calls e2 _ _ k 0 0 hh (facts _ _ (decide_eq_true k1) (decide_eq_false (by omega))) (.flat rfl) (.flat rfl) (v3 _ _)
    · by_cases k2 : k > 9007199254740992
      · exact none25_calls e3 _ _ k 0 0 hh (facts _ _ (decide_eq_false k1) (decide_eq_true k2)) (.flat rfl) (.flat rfl) (v3 _ _)
      · exact none25_calls e1 _ _ k 0 0 hh (facts _ _ (decide_eq_false k1) (decide_eq_false k2)) (.flat rfl) (.flat rfl) (v3 _ _)
  have hi : i = (i.toNat : Int) := by omega
  have hj3 : j = 0 ∨ j = 1 ∨ j = 2 := by omega
  rcases hj3 with rfl | rfl | rfl
  · exact all _ 1 hi rfl (none25_D1 _ (by omega)) (none25_D1b _ (by omega)) (none25_D1a _ (by omega))
  · exact all _ 2 hi rfl (none25_D2 _ (by omega)) (none25_D2b _ (by omega)) (none25_D2a _ (by omega))
  · exact all _ 3 hi rfl (none25_D3 _ (by omega)) (none25_D3b _ (by omega)) (none25_D3a _ (by omega))
#print axioms law25
end Go.Cre
end
