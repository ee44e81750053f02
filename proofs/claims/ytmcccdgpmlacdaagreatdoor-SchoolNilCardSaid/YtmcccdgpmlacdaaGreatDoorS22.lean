/- SchoolNil answers true, for every number and in every world. -/
import Derived.Test.YtmcccdgpmlacdaaGreatDoorS22wt
import Derived.Test.YtmcccdgpmlacdaaGreatDoorS22wf
import Derived.Test.YtmcccdgpmlacdaaGreatDoorS22p0
import Derived.Test.YtmcccdgpmlacdaaGreatDoorS22p1
import Derived.Test.YtmcccdgpmlacdaaGreatDoorS22p2
import Derived.Test.YtmcccdgpmlacdaaGreatDoorS22p3
import Derived.Test.YtmcccdgpmlacdaaGreatDoorS22p4
import Derived.Test.YtmcccdgpmlacdaaGreatDoorS22p5
import Derived.Test.YtmcccdgpmlacdaaGreatDoorS22p6
import Derived.Test.YtmcccdgpmlacdaaGreatDoorS22p7
namespace Go.Proofs.YtmcccdgpmlacdaaGreatDoor
open Go Go.RowKit Go.Cre
set_option maxRecDepth 1000000
noncomputable section
theorem puL : ([0, 1, 2, 3, 4, 5, 6, 7, 8, 9, 10, 11, 12, 13, 14, 15, 16, 17, 18, 19, 20, 21, 22, 23, 24, 25, 26, 27, 28, 29, 30, 31, 32, 33, 34, 35, 36, 37, 38, 39, 40, 41, 42, 43, 44, 45, 46, 47, 48, 49, 50, 51, 52, 53, 54, 55, 56, 57, 58, 59, 60, 61, 62, 63].all puOk) = true := by
  simp only [List.all_cons, List.all_nil, Bool.and_self, pu0, pu1, pu2, pu3, pu4, pu5, pu6, pu7, pu8, pu9, pu10, pu11, pu12, pu13, pu14, pu15, pu16, pu17, pu18, pu19, pu20, pu21, pu22, pu23, pu24, pu25, pu26, pu27, pu28, pu29, pu30, pu31, pu32, pu33, pu34, pu35, pu36, pu37, pu38, pu39, pu40, pu41, pu42, pu43, pu44, pu45, pu46, pu47, pu48, pu49, pu50, pu51, pu52, pu53, pu54, pu55, pu56, pu57, pu58, pu59, pu60, pu61, pu62, pu63]
theorem pu_all (k : Nat) (h : k < 64) : puOk k = true := List.all_eq_true.1 puL k (by simp only [List.mem_cons, List.not_mem_nil, or_false]; omega)
theorem zPut_size (n : Nat) : (zPut n).size = n + 15 := by simp [zPut, ByteArray.size]
theorem pinV {G : Gl} {ρ : Ren} {k : Nat} {v y : Value} (hg : GOk Tryz.prog G ρ) (hp : (.pin (tk k), v) ∈ G.tab) (hy : VRel ρ (tk k) y) : y = v := (hg.2 _ hp).1.eq hy
theorem pinR {G : Gl} {ρ : Ren} {k : Nat} {v : Value} (hg : GOk Tryz.prog G ρ) (hp : (.pin (tk k), v) ∈ G.tab) : VRel ρ (tk k) v := (hg.2 _ hp).2
theorem cmdV {ρ : Ren} {y : Value} {s : ByteArray} (h4 : ∀ z, VRel ρ (tk 4) z → z = .string s) (h : VRel ρ (cmd (tk 4)) y) : y = cmd (.string s) := by
  obtain ⟨l, rfl, hl⟩ := aggV h
  obtain ⟨v0, _, rfl, k0, hl⟩ := consV hl
  obtain ⟨v1, _, rfl, k1, hl⟩ := consV hl
  obtain ⟨v2, _, rfl, k2, hl⟩ := consV hl
  obtain ⟨v3, _, rfl, k3, hl⟩ := consV hl
  obtain ⟨v4, _, rfl, k4, hl⟩ := consV hl
  obtain ⟨v5, _, rfl, k5, hl⟩ := consV hl
  obtain ⟨v6, _, rfl, k6, hl⟩ := consV hl
  obtain ⟨v7, _, rfl, k7, hl⟩ := consV hl
  obtain ⟨v8, _, rfl, k8, hl⟩ := consV hl
  obtain ⟨v9, _, rfl, k9, hl⟩ := consV hl
  cases nilV hl
  rw [flat_eq (v := nt 9) rfl k0, flat_eq (v := .string sA) rfl k1, flat_eq (v := .string sE) rfl k2, flat_eq (v := .string sE) rfl k3, h4 _ k4, flat_eq (v := .slice none 0 0) rfl k5, flat_eq (v := nt 0) rfl k6, flat_eq (v := nt 0) rfl k7, flat_eq (v := nt 0) rfl k8, flat_eq (v := nt 0) rfl k9]
  rfl
theorem told_ok (k : Nat) (hk : k < 64) (r : Bool) (B : Nat) (w0 : World) : ∀ e, e ∈ toldN → ToldOk Tryz.prog ⟨0, tabN (8160 + k) r⟩ B w0 e := by
  refine all_cons ?_ <| all_cons ?_ all_nil
  · intro ρ w as' _ _ _ ha
    cases nilV ha
    exact (calls_of_truth R22_ok (Nat.zero_le 5) main22 w (Nat.zero_le _)).mono fun e w' h => ⟨⟨_, h.1, .flat rfl⟩, h.2⟩
  · intro ρ w as' hg _ _ ha
    obtain ⟨y, _, rfl, k1, ha⟩ := consV ha
    cases nilV ha
    have hp4 : (.pin (tk 4), .string (zs (8160 + k))) ∈ (⟨0, tabN (8160 + k) r⟩ : Gl).tab := by simp [tabN]
    have hp5 : (.pin (tk 5), .string (zPut (8160 + k))) ∈ (⟨0, tabN (8160 + k) r⟩ : Gl).tab := by simp [tabN]
    rw [cmdV (fun z hz => pinV hg hp4 hz) k1]
    refine (calls_chk (ρ := lookE []) (R22_ok w.heap.size w) (pu_all k hk) (GOk.ofTab all_nil) (startE all_nil all_nil all_nil)
      (.cons (.agg (.cons (.flat rfl) (.cons (.flat rfl) (.cons (.flat rfl) (.cons (.flat rfl) (.cons (.flat rfl) (.cons (.flat rfl) (.cons (.flat rfl) (.cons (.flat rfl) (.cons (.flat rfl) (.cons (.flat rfl) .nil))))))))))) .nil)).mono ?_
    rintro e w' ⟨x, hx, ρ', v', rfl, _, hv, hw'⟩
    rw [veq_eq depth hx] at hv
    have hv := flat_eq (v := .string (zPut (8160 + k))) rfl hv
    subst hv
    exact ⟨⟨_, rfl, pinR hg hp5⟩, hw'.below⟩
theorem and63 (n : Int) : ∃ k, k < 64 ∧ ∀ P w, (Op.intBits .and .i64 n 63).run P w = .ok (.int .i64 ((k : Nat) : Int)) w := by
  refine ⟨((BitVec.ofInt 64 n) &&& BitVec.ofInt 64 63).toNat, ?_, fun P w => ?_⟩
  · rw [BitVec.toNat_and]
    have : (BitVec.ofInt 64 63).toNat = 63 := by decide
    rw [this]
    exact Nat.lt_of_le_of_lt Nat.and_le_right (by decide)
  · have hk : ((BitVec.ofInt 64 n) &&& BitVec.ofInt 64 63).toNat < 64 := by
      rw [BitVec.toNat_and]
      have : (BitVec.ofInt 64 63).toNat = 63 := by decide
      rw [this]
      exact Nat.lt_of_le_of_lt Nat.and_le_right (by decide)
    show Result.ok (Value.int .i64 (IntKind.i64.wrap (((BitVec.ofInt 64 n) &&& BitVec.ofInt 64 63).toNat : Int))) w = _
    rw [IntWalk.i64_in _ (by omega)]
theorem facts_ok {N : Int} {k : Nat} (hk : k < 64) (hand : ∀ P w, (Op.intBits .and .i64 N 63).run P w = .ok (.int .i64 ((k : Nat) : Int)) w) {r : Bool} (hr : decide (8160 + k + 15 > 8192) = r) {ρ : Ren} (h : Tk N k (8160 + k) ρ) : GOk Tryz.prog ⟨0, tabN (8160 + k) r⟩ ρ := by
  have h1 := h 1 _ rfl
  have h2 := h 2 _ rfl
  have h3 := h 3 _ rfl
  have h4 := h 4 _ rfl
  have h5 := h 5 _ rfl
  have h6 := h 6 _ rfl
  refine GOk.ofTab (all_cons ⟨_, _, _, sT h1 rfl, sN, vT h2 rfl rfl, fun w ox oy => hand _ w⟩ <| all_cons (fAdd (a := 8160) (b := (k : Int)) sN (sT h2 rfl) (vT h3 rfl rfl) (ntE (by rw [IntWalk.i64_in _ (by omega)]; omega))) <|
    all_cons (fLen u9 (sT h4 rfl) (vT h3 rfl rfl) (ntE (by rw [zs_size]))) <| all_cons (fLen u9 (sT h5 rfl) (vT h6 rfl rfl) (ntE (by rw [zPut_size]))) <|
    all_cons (fGtr (a := ((8160 + k + 15 : Nat) : Int)) (b := 8192) (sT h6 rfl) sN ?_) <| all_cons (fGtr (a := ((8160 + k : Nat) : Int)) (b := 65536) (sT h3 rfl) sN (by simp only [decide_eq_false_iff_not]; omega)) <|
    all_cons (fLss (a := 0) (b := ((8160 + k : Nat) : Int)) sN (sT h3 rfl) (by simp only [decide_eq_true_eq]; omega)) <| all_cons (fIdx (i := 0) (b := 0) u9 (sT h4 rfl) ?_) <|
    all_cons (fPin h4 rfl rfl) <| all_cons (fPin h5 rfl rfl) all_nil)
  · rw [← hr]
    exact decide_eq_decide.2 (by omega)
  · rw [show 8160 + k = (8159 + k) + 1 by omega]
    rfl
theorem law22 (N : Int) (w : World) (hw : 0 < w.heap.size) : Calls Tryz.prog 3 #[.int .i64 N] w fun e w' => e = .returned (.bool true) ∧ Below w.heap.size w w' := by
  obtain ⟨k, hk, hand⟩ := and63 N
  have hB : ∀ (r : Bool) (B : Nat) (w0 : World), KnownOk Tryz.prog ⟨0, tabN (8160 + k) r⟩ B w0 xN := fun r B w0 => withTold_ok (X22_tab _ B w0) (told_ok k hk r B w0)
  by_cases h : 8160 + k + 15 > 8192
  · exact law_long w N k (8160 + k) hw (by omega) (hB true) fun ρ hT => facts_ok hk hand (decide_eq_true h) hT
  · exact law_short w N k (8160 + k) hw (by omega) (hB false) fun ρ hT => facts_ok hk hand (decide_eq_false h) hT
#print axioms law22
end
end Go.Proofs.YtmcccdgpmlacdaaGreatDoor
