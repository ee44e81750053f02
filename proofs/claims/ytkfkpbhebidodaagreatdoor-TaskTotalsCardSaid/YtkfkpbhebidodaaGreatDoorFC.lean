/- slices.IndexFunc and slices.ContainsFunc at []float64 under marks.Weigh's test: the place of the first bad weight; for rows of at most 1000000 numbers. -/
import Derived.Test.YtkfkpbhebidodaaGreatDoorFB
import Derived.Lib.Hide
import Derived.LoopTactic
namespace Go.Proofs.YtkfkpbhebidodaaGreatDoor
open Go Go.RowKit
set_option maxRecDepth 100000

theorem ret_int {k : IntKind} {a b : Int} (h : a = b) : Ending.returned (.int k a) = .returned (.int k b) := by rw [h]
/-- where the first bad one stands -/
def badAt (zs : List Nat) : Int := match zs.findIdx? badB with
  | some i => i
  | none => -1
theorem badAt_hit {zs : List Nat} {k : Nat} (hk : k < zs.length) (h : badB (zs.getD k 0) = true) (hb : ∀ j, j < k → badB (zs.getD j 0) = false) : badAt zs = k := by
  unfold badAt
  have : zs.findIdx? badB = some k := by
    rw [List.findIdx?_eq_some_iff_getElem]
    refine ⟨hk, by simpa [List.getD_eq_getElem?_getD, hk] using h, fun j hj => ?_⟩
    have := hb j hj
    simpa [List.getD_eq_getElem?_getD, show j < zs.length by omega] using this
  rw [this]
theorem badAt_none {zs : List Nat} (hb : ∀ j, j < zs.length → badB (zs.getD j 0) = false) : badAt zs = -1 := by
  unfold badAt
  have : zs.findIdx? badB = none := by
    rw [List.findIdx?_eq_none_iff]
    intro x hx
    obtain ⟨j, hj, rfl⟩ := List.getElem_of_mem hx
    have := hb j hj
    simpa [List.getD_eq_getElem?_getD, hj] using this
  rw [this]

theorem index_any (zs : List Nat) (ao : Option Addr) (cap : Nat) (w : World) (hm : zs.length ≤ 1000000)
    (hc : 0 < zs.length → ∃ b off, ao = some ⟨b, off, none⟩ ∧ ∀ j, j < zs.length → w.cell? ⟨b, off + j, none⟩ = some (.float .f64 (zs.getD j 0))) :
    Calls Tryz.prog 275 #[.slice ao zs.length cap, .func (.func 199) #[] #[]] w fun e w' => e = .returned (.int .i64 (badAt zs)) ∧ w = w' := by
  by_cases h0 : zs.length = 0
  · have hl : zs = [] := List.eq_nil_of_length_eq_zero h0
    subst hl
    go_enter Tryz.func275, Tryz.ntmps275
    go_wp2
    refine wp_loop_rounds 1 ?_; rw [rounds_succ]
    go_wp2
    go_ret
    exact ⟨rfl, rfl⟩
  · obtain ⟨b, off, rfl, hcell⟩ := hc (by omega)
    obtain ⟨n, hn⟩ : ∃ n, n = zs.length := ⟨_, rfl⟩
    have H := Lib.hid hcell; clear hcell hc
    rw [← hn] at hm h0 ⊢
    have Hn := Lib.hid hn; clear hn
    go_enter Tryz.func275, Tryz.ntmps275
    go_wp2
    go_loop [8] (fun i => ∃ k : Nat, k ≤ n ∧ i = .int .i64 k ∧ (∀ j, j < k → badB (zs.getD j 0) = false)) (fun i => n - (intOf i).toNat)
    case atStart => exact ⟨0, Nat.zero_le _, rfl, fun j hj => by omega⟩
    case round =>
      obtain ⟨k, hk, rfl, hb⟩ := hrel
      have HB := Lib.hid hb; clear hb
      by_cases hlt : k < n
      · have hcx := H.out k (by have := Hn.out; omega)
        obtain ⟨x, hx⟩ : ∃ x, x = zs.getD k 0 := ⟨_, rfl⟩
        rw [← hx] at hcx
        have HX := Lib.hid hx; clear hx
        by_cases hT : badB x = true
        · go_wp2_with (go_at_call 199; refine (bad_any _ _).mono ?_; rintro e w' ⟨rfl, rfl⟩)
          go_ret
          exact ⟨ret_int (badAt_hit (by have := Hn.out; omega) (HX.out ▸ hT) HB.out).symm, rfl⟩
        · have hT' : badB x = false := by simpa using hT
          clear hT
          go_wp2_with (go_at_call 199; refine (bad_any _ _).mono ?_; rintro e w' ⟨rfl, rfl⟩)
          go_round
          case rel => exact ⟨k + 1, by omega, by go_num, fun j hj => by
            by_cases e : j = k
            · subst e; rw [← HX.out]; exact hT'
            · exact HB.out j (by omega)⟩
          case measure => simp [intOf]; omega
      · have hkn : k = n := by omega
        subst hkn
        go_wp2
        go_ret
        exact ⟨ret_int (badAt_none (fun j hj => HB.out j (by have := Hn.out; omega))).symm, rfl⟩

theorem contains_any (zs : List Nat) (ao : Option Addr) (cap : Nat) (w : World) (hm : zs.length ≤ 1000000)
    (hc : 0 < zs.length → ∃ b off, ao = some ⟨b, off, none⟩ ∧ ∀ j, j < zs.length → w.cell? ⟨b, off + j, none⟩ = some (.float .f64 (zs.getD j 0))) :
    Calls Tryz.prog 198 #[.slice ao zs.length cap, .func (.func 199) #[] #[]] w fun e w' => e = .returned (.bool (decide (0 ≤ badAt zs))) ∧ w = w' := by
  have HC := Lib.hid hc; clear hc
  have HM := Lib.hid hm; clear hm
  go_enter Tryz.func198, Tryz.ntmps198
  go_wp2_with (go_at_call 275; refine (index_any _ _ _ _ HM.out HC.out).mono ?_; rintro e w' ⟨rfl, rfl⟩)
  go_ret
  exact ⟨rfl, rfl⟩
end Go.Proofs.YtkfkpbhebidodaaGreatDoor
