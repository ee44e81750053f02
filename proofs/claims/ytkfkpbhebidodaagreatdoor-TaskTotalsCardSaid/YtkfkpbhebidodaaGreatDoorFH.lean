/- primerref02.Weigh: the same function of the two rows; for rows of at most 1000000 words below 2^64. -/
import Derived.Test.YtkfkpbhebidodaaGreatDoorFG
namespace Go.Proofs.YtkfkpbhebidodaaGreatDoor
open Go Go.RowKit
set_option maxRecDepth 100000

theorem ret_f3 {a b : Nat} {c d : Int} (h : a = b) (h' : c = d) : Ending.returned (.tuple #[.float .f64 a, .int .i64 c]) = .returned (.tuple #[.float .f64 b, .int .i64 d]) := by rw [h, h']
theorem Weigh_ne (vs ws : List Nat) (av aw : Option Addr) (cv cw : Nat) (w : World) (hne : vs.length ≠ ws.length) :
    Calls Tryz.prog 35 #[.slice av vs.length cv, .slice aw ws.length cw] w fun e w' => e = .returned (.tuple #[.float .f64 0, .int .i64 1]) ∧ w = w' := by
  have h1 : ((vs.length : Int) != ws.length) = true := by simp; omega
  have h2 : ¬ (vs.length : Int) = ws.length := by omega
  clear hne
  go_enter Tryz.func35, Tryz.ntmps35
  go_wp2
  go_ret2
  exact ⟨rfl, rfl⟩
theorem Weigh_any (vs ws : List Nat) (av aw : Option Addr) (cv cw : Nat) (w : World) (he : vs.length = ws.length) (hv : RowAt w av vs) (hw : RowAt w aw ws) (fv : Fits vs) (fw : Fits ws) :
    Calls Tryz.prog 35 #[.slice av vs.length cv, .slice aw ws.length cw] w fun e w' => e = .returned (.tuple #[.float .f64 (if 0 ≤ badAt ws then 0 else fin (acc vs ws vs.length)), .int .i64 (if 0 ≤ badAt ws then 18 else 0)]) ∧ Below w.heap.size w w' := by
  by_cases h0 : vs.length = 0
  · obtain rfl : vs = [] := List.eq_nil_of_length_eq_zero h0
    obtain rfl : ws = [] := List.eq_nil_of_length_eq_zero (by simpa using he.symm)
    clear hv hw fv fw he h0
    go_enter Tryz.func35, Tryz.ntmps35
    go_wp2
    refine wp_loop_rounds 1 ?_; rw [rounds_succ]
    go_wp2
    refine wp_loop_rounds 1 ?_; rw [rounds_succ]
    have hz : (FloatKind.f64.format.order 0 0 == some .eq) = true := by decide
    go_wp2_with (go_at_call 105; refine (None_any _).mono ?_; rintro e w' ⟨rfl, rfl⟩)
    go_ret2
    exact ⟨rfl, Below.refl _ _⟩
  · obtain ⟨bv, ov, rfl, hbv, hcv⟩ := hv (by omega)
    obtain ⟨bw, ow, rfl, hbw, hcw⟩ := hw (by omega)
    obtain ⟨n, hn⟩ : ∃ n, n = vs.length := ⟨_, rfl⟩
    have HCV := Lib.hid hcv
    have HCW := Lib.hid hcw
    have HFV := Lib.hid fv
    have HFW := Lib.hid fw
    have hnm : n ≤ 1000000 := by rw [hn]; exact fv.1
    rw [← he] at hcw ⊢
    rw [← hn] at h0 ⊢
    have HN := Lib.hid hn
    have HE := Lib.hid he
    clear hn he fv fw hcv hcw hv hw
    obtain ⟨B, hB⟩ : ∃ B, B = w.heap.size := ⟨_, rfl⟩
    have HBB := Lib.hid hB
    rw [← hB] at hbv hbw ⊢
    clear hB
    obtain ⟨Post, hP⟩ : ∃ Post : Ending → World → Prop, Post = (fun e w' => e = .returned (.tuple #[.float .f64 (if 0 ≤ badAt ws then 0 else fin (acc vs ws n)), .int .i64 (if 0 ≤ badAt ws then 18 else 0)]) ∧ Below B w w') := ⟨_, rfl⟩
    rw [← hP]
    have HP := Lib.hid hP; clear hP
    go_enter Tryz.func35, Tryz.ntmps35
    go_wp2
    go_loop [6] (fun i => ∃ k : Nat, k ≤ n ∧ i = .int .i64 k ∧ (∀ j, j < k → badB (ws.getD j 0) = false)) (fun i => n - (intOf i).toNat)
    case atStart => exact ⟨0, Nat.zero_le _, rfl, fun j hj => by omega⟩
    case round =>
      obtain ⟨k, hk, rfl, hbs⟩ := hrel
      have HS := Lib.hid hbs; clear hbs
      by_cases hlt : k < n
      · obtain ⟨y, hy⟩ : ∃ y, y = ws.getD k 0 := ⟨_, rfl⟩
        have hcy : w.cell? ⟨bw, ow + k, none⟩ = some (.float .f64 y) := by rw [hy]; exact HCW.out k (by have := HN.out; have := HE.out; omega)
        have ry : y < 2 ^ 64 := HFW.out.2 y (by rw [hy, List.getD_eq_getElem?_getD, List.getElem?_eq_getElem (by have := HN.out; have := HE.out; omega)]; exact List.getElem_mem _)
        have HY := Lib.hid hy; clear hy
        have HR := Lib.hid ry; clear ry
        have fin0 : badB y = true → 0 ≤ badAt ws := fun hb => by
          rw [badAt_hit (by have := HN.out; have := HE.out; omega) (HY.out ▸ hb) HS.out]; omega
        have F1 := Lib.hid fin0; clear fin0
        go_wp2_with (go_at_call 104; refine (NaN_any _ HR.out _).mono ?_; rintro e w' ⟨rfl, rfl⟩)
        · rw [HP.out]
          have hp := F1.out (by unfold badB; simp [*])
          exact ⟨ret_f3 (by rw [if_pos hp]) (by rw [if_pos hp]), Below.refl _ _⟩
        · rw [HP.out]
          have hp := F1.out (by unfold badB; simp [negB, *])
          exact ⟨ret_f3 (by rw [if_pos hp]) (by rw [if_pos hp]), Below.refl _ _⟩
        · rw [HP.out]
          have hp := F1.out (by
            rename_i h
            unfold badB negB infB
            rcases h with h | h <;> simp [h])
          exact ⟨ret_f3 (by rw [if_pos hp]) (by rw [if_pos hp]), Below.refl _ _⟩
        · have hb : badB y = false := by
            rename_i h
            unfold badB negB infB
            rw [h.1, h.2]
            simp [*]
          go_round
          case rel => exact ⟨k + 1, by omega, by go_num, fun j hj => by
            by_cases e : j = k
            · subst e; rw [← HY.out]; exact hb
            · exact HS.out j (by omega)⟩
          case measure => simp [intOf]; omega
      · have hkn : k = n := by omega
        subst hkn
        have hng : ¬ 0 ≤ badAt ws := by rw [badAt_none (fun j hj => HS.out j (by have := HN.out; have := HE.out; omega))]; omega
        have HG := Lib.hid hng; clear hng
        go_wp2
        go_loopw [7, 8, 9] (fun s a i wr => ∃ j : Nat, j ≤ k ∧ i = .int .i64 j ∧ ∃ sb ab, s = .float .f64 sb ∧ a = .float .f64 ab ∧ Rep (acc vs ws j).1 sb ∧ Rep (acc vs ws j).2 ab ∧ Below B w wr) (fun _ _ i _ => k - (intOf i).toNat)
        case atStart => exact ⟨0, Nat.zero_le _, rfl, 0, 0, rfl, rfl, ⟨by decide, rfl⟩, ⟨by decide, rfl⟩, Below.refl _ _⟩
        case round =>
          obtain ⟨j, hj, rfl, sb, ab, rfl, rfl, hs, ha, hbel⟩ := hrel
          have HSS := Lib.hid hs
          have HA := Lib.hid ha
          have HBel := Lib.hid hbel
          clear hs ha hbel
          by_cases hlt : j < k
          · obtain ⟨x, hx⟩ : ∃ x, x = vs.getD j 0 := ⟨_, rfl⟩
            obtain ⟨y, hy⟩ : ∃ y, y = ws.getD j 0 := ⟨_, rfl⟩
            have hcx : wr.cell? ⟨bv, ov + j, none⟩ = some (.float .f64 x) := by rw [HBel.out.cell (p := ⟨bv, ov + j, none⟩) hbv, hx]; exact HCV.out j (by have := HN.out; omega)
            have hcy : wr.cell? ⟨bw, ow + j, none⟩ = some (.float .f64 y) := by rw [HBel.out.cell (p := ⟨bw, ow + j, none⟩) hbw, hy]; exact HCW.out j (by have := HN.out; have := HE.out; omega)
            have rx : Rep (some x) x := ⟨HFV.out.2 x (by rw [hx, List.getD_eq_getElem?_getD, List.getElem?_eq_getElem (by have := HN.out; omega)]; exact List.getElem_mem _), rfl⟩
            have ry : Rep (some y) y := ⟨HFW.out.2 y (by rw [hy, List.getD_eq_getElem?_getD, List.getElem?_eq_getElem (by have := HN.out; have := HE.out; omega)]; exact List.getElem_mem _), rfl⟩
            have hst : acc vs ws (j + 1) = step (acc vs ws j) x y := by rw [hx, hy]; rfl
            clear hx hy
            have HRX := Lib.hid rx; have HRY := Lib.hid ry; clear rx ry
            have HST := Lib.hid hst; clear hst
            by_cases hN : nanB x = true
            · have HNN := Lib.hid hN
              go_wp2_with (go_at_call 104; refine (NaN_any _ HRX.out.1 _).mono ?_; rintro e w' ⟨rfl, rfl⟩)
              go_roundw
              case rel => exact ⟨j + 1, by omega, by go_num, sb, ab, rfl, rfl, by rw [HST.out, step, if_pos HNN.out]; exact HSS.out, by rw [HST.out, step, if_pos HNN.out]; exact HA.out, HBel.out⟩
              case measure => simp [intOf]; omega
            · have HNN := Lib.hid hN
              have hN' : nanB x = false := by simpa using hN
              clear hN
              have hmul := fun t x y w => res_run (P := Tryz.prog) (op := .mul) rfl t x y w
              have hadd := fun t x y w => res_run (P := Tryz.prog) (op := .add) rfl t x y w
              have hcell := resW_cell
              go_wp2_with (go_at_call 104; refine (NaN_any _ HRX.out.1 _).mono ?_; rintro e w' ⟨rfl, rfl⟩)
              go_region
              all_goals go_wp2
              all_goals go_roundw
              case rel => exact ⟨j + 1, by omega, by go_num, _, _, rfl, rfl, by rw [HST.out, step, if_neg HNN.out]; exact rep_op rfl HSS.out (rep_op rfl HRX.out HRY.out _) _, by rw [HST.out, step, if_neg HNN.out]; exact rep_op rfl HA.out HRY.out _, resW_below (resW_below (resW_below HBel.out.drew))⟩
              case measure => simp [intOf]; omega
          · have hjk : j = k := by omega
            subst hjk
            have hz := zeroA_rep HA.out
            by_cases hZ : zeroB ab = true
            · have hZ' : (FloatKind.f64.format.order ab 0 == some .eq) = true := hZ
              have HZ := Lib.hid (hz ▸ hZ : zeroA (acc vs ws j).2 = true); clear hz hZ
              go_wp2_with (go_at_call 105; refine (None_any _).mono ?_; rintro e w' ⟨rfl, rfl⟩)
              rw [HP.out]
              exact ⟨ret_f3 (by rw [if_neg (Int.not_le.2 HG.out), fin, if_pos HZ.out]) (by rw [if_neg (Int.not_le.2 HG.out)]), HBel.out⟩
            · have hZ' : (FloatKind.f64.format.order ab 0 == some .eq) = false := by simpa [zeroB] using hZ
              have HZ := Lib.hid (hz ▸ hZ : ¬ zeroA (acc vs ws j).2 = true); clear hz hZ
              have hquo := fun t x y w => res_run (P := Tryz.prog) (op := .quo) rfl t x y w
              have HQ := Lib.hid (fun w => rep_op (op := .quo) rfl HSS.out HA.out w)
              go_wp2_with (go_at_call 106; refine (Canon_any _ (HQ.out _).1 _).mono ?_; rintro e w' ⟨rfl, rfl⟩)
              rw [HP.out]
              exact ⟨ret_f3 (by rw [if_neg (Int.not_le.2 HG.out), fin, if_neg HZ.out]; exact canon_rep (HQ.out _)) (by rw [if_neg (Int.not_le.2 HG.out)]), resW_below HBel.out⟩
end Go.Proofs.YtkfkpbhebidodaaGreatDoor
