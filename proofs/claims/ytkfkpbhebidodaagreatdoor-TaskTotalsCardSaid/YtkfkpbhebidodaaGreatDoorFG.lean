/- marks.Weigh: its result as a function of the two rows, whatever NaN the machine draws; for rows of at most 1000000 words below 2^64. -/
import Derived.Test.YtkfkpbhebidodaaGreatDoorFF
namespace Go.Proofs.YtkfkpbhebidodaaGreatDoor
open Go Go.RowKit
set_option maxRecDepth 100000

/-- a row of numbers, where it is read -/
def RowAt (w : World) (ao : Option Addr) (zs : List Nat) : Prop :=
  0 < zs.length → ∃ b off, ao = some ⟨b, off, none⟩ ∧ b < w.heap.size ∧ ∀ j, j < zs.length → w.cell? ⟨b, off + j, none⟩ = some (.float .f64 (zs.getD j 0))
theorem RowAt.below {w w' : World} {ao : Option Addr} {zs : List Nat} (h : RowAt w ao zs) (hb : Below w.heap.size w w') : RowAt w' ao zs := fun h0 => by
  obtain ⟨b, off, e, hlt, hc⟩ := h h0
  exact ⟨b, off, e, by have := hb.size; omega, fun j hj => by rw [hb.cell (p := ⟨b, off + j, none⟩) hlt]; exact hc j hj⟩
def Fits (zs : List Nat) : Prop := zs.length ≤ 1000000 ∧ ∀ x, x ∈ zs → x < 2 ^ 64

theorem ret_f2 {a b : Nat} {c : Int} (h : a = b) : Ending.returned (.tuple #[.float .f64 a, .int .i64 c]) = .returned (.tuple #[.float .f64 b, .int .i64 c]) := by rw [h]
theorem weigh_ne (vs ws : List Nat) (av aw : Option Addr) (cv cw : Nat) (w : World) (hne : vs.length ≠ ws.length) :
    Calls Tryz.prog 103 #[.slice av vs.length cv, .slice aw ws.length cw] w fun e w' => e = .returned (.tuple #[.float .f64 0, .int .i64 1]) ∧ w = w' := by
  have h1 : ((vs.length : Int) != ws.length) = true := by simp; omega
  have h2 : ¬ (vs.length : Int) = ws.length := by omega
  clear hne
  go_enter Tryz.func103, Tryz.ntmps103
  go_wp2
  go_ret2
  exact ⟨rfl, rfl⟩
theorem weigh_bad (vs ws : List Nat) (av aw : Option Addr) (cv cw : Nat) (w : World) (he : vs.length = ws.length) (hw : RowAt w aw ws) (hm : ws.length ≤ 1000000) (hb : 0 ≤ badAt ws) :
    Calls Tryz.prog 103 #[.slice av vs.length cv, .slice aw ws.length cw] w fun e w' => e = .returned (.tuple #[.float .f64 0, .int .i64 18]) ∧ w = w' := by
  rw [he]
  have HM := Lib.hid hm
  have HC := Lib.hid (show 0 < ws.length → ∃ b off, aw = some ⟨b, off, none⟩ ∧ ∀ j, j < ws.length → w.cell? ⟨b, off + j, none⟩ = some (.float .f64 (ws.getD j 0)) from fun h => let ⟨b, off, e, _, hc⟩ := hw h; ⟨b, off, e, hc⟩)
  clear hw hm he
  go_enter Tryz.func103, Tryz.ntmps103
  go_wp2_with (go_at_call 198; refine (contains_any _ _ _ _ HM.out HC.out).mono ?_; rintro e w' ⟨rfl, rfl⟩)
  go_ret2
  exact ⟨rfl, rfl⟩

theorem weigh_ok (vs ws : List Nat) (av aw : Option Addr) (cv cw : Nat) (w : World) (he : vs.length = ws.length) (hv : RowAt w av vs) (hw : RowAt w aw ws) (fv : Fits vs) (fw : Fits ws) (hb : ¬ 0 ≤ badAt ws) :
    Calls Tryz.prog 103 #[.slice av vs.length cv, .slice aw ws.length cw] w fun e w' => e = .returned (.tuple #[.float .f64 (fin (acc vs ws vs.length)), .int .i64 0]) ∧ Below w.heap.size w w' := by
  by_cases h0 : vs.length = 0
  · obtain rfl : vs = [] := List.eq_nil_of_length_eq_zero h0
    obtain rfl : ws = [] := List.eq_nil_of_length_eq_zero (by simpa using he.symm)
    have HC := Lib.hid hw
    clear hv hw fv fw he h0
    go_enter Tryz.func103, Tryz.ntmps103
    go_wp2_with (go_at_call 198; refine (contains_any [] _ _ _ (by decide) (fun h => by cases h)).mono ?_; rintro e w' ⟨rfl, rfl⟩)
    refine wp_loop_rounds 1 ?_; rw [rounds_succ]
    have hz : (FloatKind.f64.format.order 0 0 == some .eq) = true := by decide
    go_wp2_with (go_at_call 197; refine (none_any _).mono ?_; rintro e w' ⟨rfl, rfl⟩)
    go_ret2
    exact ⟨rfl, Below.refl _ _⟩
  · obtain ⟨bv, ov, rfl, hbv, hcv⟩ := hv (by omega)
    obtain ⟨bw, ow, rfl, hbw, hcw⟩ := hw (by omega)
    obtain ⟨n, hn⟩ : ∃ n, n = vs.length := ⟨_, rfl⟩
    have HCV := Lib.hid hcv
    have HCW := Lib.hid hcw
    have HFV := Lib.hid fv
    have HFW := Lib.hid fw
    have HCN := Lib.hid (contains_any ws (some ⟨bw, ow, none⟩) cw w fw.1 (fun _ => ⟨bw, ow, rfl, hcw⟩))
    have hnm : n ≤ 1000000 := by rw [hn]; exact fv.1
    have hbd : decide (0 ≤ badAt ws) = false := by simpa using hb
    rw [← he, ← hn] at HCN
    rw [← he] at hcw ⊢
    rw [← hn] at h0 ⊢
    have HB := Lib.hid hb
    have HN := Lib.hid hn
    have HE := Lib.hid he
    clear hb hn he fv fw hcv hcw hv hw
    obtain ⟨B, hB⟩ : ∃ B, B = w.heap.size := ⟨_, rfl⟩
    have HBB := Lib.hid hB
    rw [← hB] at hbv hbw ⊢
    clear hB
    go_enter Tryz.func103, Tryz.ntmps103
    go_wp2_with (go_at_call 198; refine HCN.out.mono ?_; rintro e w' ⟨rfl, rfl⟩)
    go_loopw [6, 7, 19] (fun s a i wr => ∃ k : Nat, k ≤ n ∧ i = .int .i64 k ∧ ∃ sb ab, s = .float .f64 sb ∧ a = .float .f64 ab ∧ Rep (acc vs ws k).1 sb ∧ Rep (acc vs ws k).2 ab ∧ Below B w wr) (fun _ _ i _ => n - (intOf i).toNat)
    case atStart => exact ⟨0, Nat.zero_le _, rfl, 0, 0, rfl, rfl, ⟨by decide, rfl⟩, ⟨by decide, rfl⟩, Below.refl _ _⟩
    case round =>
      obtain ⟨k, hk, rfl, sb, ab, rfl, rfl, hs, ha, hbel⟩ := hrel
      have HS := Lib.hid hs
      have HA := Lib.hid ha
      have HBel := Lib.hid hbel
      clear hs ha hbel
      by_cases hlt : k < n
      · obtain ⟨x, hx⟩ : ∃ x, x = vs.getD k 0 := ⟨_, rfl⟩
        obtain ⟨y, hy⟩ : ∃ y, y = ws.getD k 0 := ⟨_, rfl⟩
        have hcx : wr.cell? ⟨bv, ov + k, none⟩ = some (.float .f64 x) := by rw [HBel.out.cell (p := ⟨bv, ov + k, none⟩) hbv, hx]; exact HCV.out k (by have := HN.out; omega)
        have hcy : wr.cell? ⟨bw, ow + k, none⟩ = some (.float .f64 y) := by rw [HBel.out.cell (p := ⟨bw, ow + k, none⟩) hbw, hy]; exact HCW.out k (by have := HN.out; have := HE.out; omega)
        have rx : Rep (some x) x := ⟨HFV.out.2 x (by rw [hx, List.getD_eq_getElem?_getD, List.getElem?_eq_getElem (by have := HN.out; omega)]; exact List.getElem_mem _), rfl⟩
        have ry : Rep (some y) y := ⟨HFW.out.2 y (by rw [hy, List.getD_eq_getElem?_getD, List.getElem?_eq_getElem (by have := HN.out; have := HE.out; omega)]; exact List.getElem_mem _), rfl⟩
        have hst : acc vs ws (k + 1) = step (acc vs ws k) x y := by rw [hx, hy]; rfl
        have HX := Lib.hid (And.intro hx hy); clear hx hy
        have HRX := Lib.hid rx; have HRY := Lib.hid ry; clear rx ry
        have HST := Lib.hid hst; clear hst
        by_cases hN : nanB x = true
        · have hN' : (FloatKind.f64.format.order x x == some .eq) = false := by simpa [nanB] using hN
          have HNN := Lib.hid hN; clear hN
          go_wp2
          go_roundw
          case rel => exact ⟨k + 1, by omega, by go_num, sb, ab, rfl, rfl, by rw [HST.out, step, if_pos HNN.out]; exact HS.out, by rw [HST.out, step, if_pos HNN.out]; exact HA.out, HBel.out⟩
          case measure => simp [intOf]; omega
        · have hN' : (FloatKind.f64.format.order x x == some .eq) = true := by simpa [nanB] using hN
          have HNN := Lib.hid hN; clear hN
          have hmul := fun t x y w => res_run (P := Tryz.prog) (op := .mul) rfl t x y w
          have hadd := fun t x y w => res_run (P := Tryz.prog) (op := .add) rfl t x y w
          have hcell := resW_cell
          go_wp2
          go_roundw
          case rel => exact ⟨k + 1, by omega, by go_num, _, _, rfl, rfl, by rw [HST.out, step, if_neg HNN.out]; exact rep_op rfl HS.out (rep_op rfl HRX.out HRY.out _) _, by rw [HST.out, step, if_neg HNN.out]; exact rep_op rfl HA.out HRY.out _, resW_below (resW_below (resW_below HBel.out))⟩
          case measure => simp [intOf]; omega
      · have hkn : k = n := by omega
        subst hkn
        have hz := zeroA_rep HA.out
        by_cases hZ : zeroB ab = true
        · have hZ' : (FloatKind.f64.format.order ab 0 == some .eq) = true := hZ
          have HZ := Lib.hid (hz ▸ hZ : zeroA (acc vs ws k).2 = true); clear hz hZ
          go_wp2_with (go_at_call 197; refine (none_any _).mono ?_; rintro e w' ⟨rfl, rfl⟩)
          go_ret2
          exact ⟨ret_f2 (by rw [fin, if_pos HZ.out]), HBel.out⟩
        · have hZ' : (FloatKind.f64.format.order ab 0 == some .eq) = false := by simpa [zeroB] using hZ
          have HZ := Lib.hid (hz ▸ hZ : ¬ zeroA (acc vs ws k).2 = true); clear hz hZ
          have hquo := fun t x y w => res_run (P := Tryz.prog) (op := .quo) rfl t x y w
          go_wp2_with (go_at_call 193; refine (canon_any _ _).mono ?_; rintro e w' ⟨rfl, rfl⟩)
          go_ret2
          exact ⟨ret_f2 (by rw [fin, if_neg HZ.out]; exact canon_rep (rep_op (op := .quo) rfl HS.out HA.out _)), resW_below HBel.out⟩
end Go.Proofs.YtkfkpbhebidodaaGreatDoor
