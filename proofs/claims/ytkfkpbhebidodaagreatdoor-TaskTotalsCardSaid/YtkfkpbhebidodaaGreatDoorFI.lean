/- task.Total: the weights of the tasks collected and weighed; for rows of at most 1000000. -/
import Derived.Test.YtkfkpbhebidodaaGreatDoorFH
namespace Go.Proofs.YtkfkpbhebidodaaGreatDoor
open Go Go.RowKit
set_option maxRecDepth 100000

/-- the bits, and the error's number -/
def weighR (vs ws : List Nat) : Nat × Int := if vs.length ≠ ws.length then (0, 1) else if 0 ≤ badAt ws then (0, 18) else (fin (acc vs ws vs.length), 0)
def Weighed (vs ws : List Nat) (B : Nat) (w : World) (e : Ending) (w' : World) : Prop :=
  e = .returned (.tuple #[.float .f64 (weighR vs ws).1, .int .i64 (weighR vs ws).2]) ∧ Below B w w'
theorem weigh_any (vs ws : List Nat) (av aw : Option Addr) (cv cw : Nat) (w : World) (hv : RowAt w av vs) (hw : RowAt w aw ws) (fv : Fits vs) (fw : Fits ws) :
    Calls Tryz.prog 103 #[.slice av vs.length cv, .slice aw ws.length cw] w (Weighed vs ws w.heap.size w) := by
  by_cases he : vs.length = ws.length
  · by_cases hb : 0 ≤ badAt ws
    · refine (weigh_bad vs ws av aw cv cw w he hw fw.1 hb).mono fun e w' ⟨h1, h2⟩ => ?_
      subst h2
      exact ⟨by rw [h1, weighR, if_neg (fun h => h he), if_pos hb], Below.refl _ _⟩
    · refine (weigh_ok vs ws av aw cv cw w he hv hw fv fw hb).mono fun e w' ⟨h1, h2⟩ => ?_
      exact ⟨by rw [h1, weighR, if_neg (fun h => h he), if_neg hb], h2⟩
  · refine (weigh_ne vs ws av aw cv cw w he).mono fun e w' ⟨h1, h2⟩ => ?_
    subst h2
    exact ⟨by rw [h1, weighR, if_pos he], Below.refl _ _⟩
theorem Weigh_all (vs ws : List Nat) (av aw : Option Addr) (cv cw : Nat) (w : World) (hv : RowAt w av vs) (hw : RowAt w aw ws) (fv : Fits vs) (fw : Fits ws) :
    Calls Tryz.prog 35 #[.slice av vs.length cv, .slice aw ws.length cw] w (Weighed vs ws w.heap.size w) := by
  by_cases he : vs.length = ws.length
  · refine (Weigh_any vs ws av aw cv cw w he hv hw fv fw).mono fun e w' ⟨h1, h2⟩ => ?_
    refine ⟨?_, h2⟩
    rw [h1]
    by_cases hb : 0 ≤ badAt ws
    · simp [weighR, he, hb]
    · simp [weighR, he, hb]
  · refine (Weigh_ne vs ws av aw cv cw w he).mono fun e w' ⟨h1, h2⟩ => ?_
    subst h2
    exact ⟨by rw [h1, weighR, if_pos he], Below.refl _ _⟩

/-- a row of tasks of which the weights alone are told -/
def TasksAt (w : World) (ao : Option Addr) (zs : List Nat) : Prop :=
  0 < zs.length → ∃ b off, ao = some ⟨b, off, none⟩ ∧ b < w.heap.size ∧ ∀ j, j < zs.length →
    w.cell? ⟨b, off + j * 5, none⟩ = some (.string .empty) ∧ w.cell? ⟨b, off + j * 5 + 1, none⟩ = some (.slice none 0 0) ∧ w.cell? ⟨b, off + j * 5 + 2, none⟩ = some (.slice none 0 0) ∧
    w.cell? ⟨b, off + j * 5 + 3, none⟩ = some (.bool false) ∧ w.cell? ⟨b, off + j * 5 + 4, none⟩ = some (.float .f64 (zs.getD j 0))

theorem info82 : (Tryz.prog.info? 82).map (fun i => (i.zero, i.size, i.bytes)) = some (some (.float .f64 0), 1, 8) := by kernel_rfl
theorem take_next (ws : List Nat) (k : Nat) (h : k < ws.length) (x : Nat) (hx : x = ws.getD k 0) : (ws.take (k + 1)).map (Value.float .f64) = (ws.take k).map (Value.float .f64) ++ [.float .f64 x] := by
  have : ws[k]? = some x := by rw [hx, List.getD_eq_getElem?_getD, List.getElem?_eq_getElem h]; rfl
  rw [List.take_add_one, this]; simp
theorem owned_row {w : World} {B n : Nat} {v : Value} {zs : List Nat} (h : w.ownsRow B 82 1 v n (zs.map (Value.float .f64))) (hn : n = zs.length) : ∃ ao cap, v = .slice ao n cap ∧ RowAt w ao zs := by
  obtain ⟨hl, ⟨rfl, h0⟩ | ⟨g, cap, cur, rfl, hg, hh, h1, h2, h3, h4⟩⟩ := h
  · exact ⟨none, 0, by rw [h0], fun hz => by omega⟩
  · refine ⟨_, cap, rfl, fun hz => ⟨g, 0, rfl, ?_, fun j hj => ?_⟩⟩
    · exact Decidable.byContradiction fun hc => by
        rw [Array.getElem?_eq_none (by omega)] at hh; cases hh
    · unfold World.cell?
      simp only [hh, Nat.zero_add]
      have : (zs.map (Value.float .f64))[j]? = some (.float .f64 (zs.getD j 0)) := by
        rw [List.getElem?_map, List.getD_eq_getElem?_getD, List.getElem?_eq_getElem hj]; rfl
      rw [← h4] at this
      rw [List.getElem?_take] at this
      split at this
      · simpa using this
      · cases this
theorem total_any (vs ws : List Nat) (av aw : Option Addr) (cv cw : Nat) (w : World) (hv : RowAt w av vs) (hw : TasksAt w aw ws) (fv : Fits vs) (fw : Fits ws) :
    Calls Tryz.prog 34 #[.slice aw ws.length cw, .slice av vs.length cv] w (Weighed vs ws w.heap.size w) := by
  by_cases h0 : ws.length = 0
  · obtain rfl : ws = [] := List.eq_nil_of_length_eq_zero h0
    have HW := Lib.hid (weigh_any vs [] av none cv 0 w hv (fun h => absurd h (by decide)) fv ⟨by decide, fun x hx => by cases hx⟩)
    clear hv hw fv fw h0
    go_enter Tryz.func34, Tryz.ntmps34
    go_wp2
    refine wp_loop_rounds 1 ?_; rw [rounds_succ]
    go_wp2_with (go_at_call 103; refine HW.out.mono ?_; rintro e w' ⟨rfl, hb2⟩)
    go_ret2
    exact ⟨rfl, hb2⟩
  · obtain ⟨b, off, rfl, hlt, hcell⟩ := hw (by omega)
    obtain ⟨n, hn⟩ : ∃ n, n = ws.length := ⟨_, rfl⟩
    rw [← hn] at h0 ⊢
    have hnm : n ≤ 1000000 := by rw [hn]; exact fw.1
    have HC := Lib.hid hcell
    have HN := Lib.hid hn
    have HV := Lib.hid hv
    have HFV := Lib.hid fv
    have HFW := Lib.hid fw
    clear hcell hn hv fv fw hw
    obtain ⟨B, hB⟩ : ∃ B, B = w.heap.size := ⟨_, rfl⟩
    have HBB := Lib.hid hB
    rw [← hB] at hlt ⊢
    clear hB
    obtain ⟨i0, hi, hz0, hz1, hz2⟩ := info_parts info82
    go_enter Tryz.func34, Tryz.ntmps34
    go_wp2
    go_loopw [6, 11] (fun v i wr => ∃ k : Nat, k ≤ n ∧ i = .int .i64 k ∧ wr.ownsRow B 82 1 v k ((ws.take k).map (Value.float .f64)) ∧ Below B w wr) (fun _ i _ => n - (intOf i).toNat)
    case atStart => exact ⟨0, Nat.zero_le _, rfl, World.ownsRow_nil _ _ _ _, Below.refl _ _⟩
    case round =>
      obtain ⟨k, hk, rfl, hown, hbel⟩ := hrel
      by_cases hlk : k < n
      · obtain ⟨x, hx⟩ : ∃ x, x = ws.getD k 0 := ⟨_, rfl⟩
        obtain ⟨hc0, hc1, hc2, hc3, hc4⟩ := HC.out k (by have := HN.out; omega)
        rw [← hx] at hc4
        have e := fun o => hbel.cell (p := ⟨b, o, none⟩) hlt
        have d0 := (e _).trans hc0
        have d1 := (e _).trans hc1
        have d2 := (e _).trans hc2
        have d3 := (e _).trans hc3
        have d4 := (e _).trans hc4
        have HX := Lib.hid hx
        have HO := Lib.hid hown
        have HBel := Lib.hid hbel
        clear e hc0 hc1 hc2 hc3 hc4 hx hown hbel
        have hsf := fun a b m w => run_store Tryz.prog w a (.float .f64 b) m rfl
        go_wp2_with (at_builtin; refine wpList_append_own _ rfl _ _ 93 rfl B 82 i0 (.float .f64 0) 1 8 Tryz.underlying93 hi hz0 hz1 hz2 rfl (by decide) _ _ _ rfl ((HO.out.alloc _).alloc _) ⟨wr.heap.size + 1, 0, none⟩ 1 1 [.float .f64 x] rfl rfl ?c1 ?c2 ?c3 ?c4 ?c5 ?_)
        case c1 =>
          intro j u hj
          match j, hj with
          | 0, hj => simp at hj; subst hj; simp [Addr.add]
        case c2 => intro u hu; simp at hu; subst hu; rfl
        case c3 => unfold maxLen; omega
        case c4 => omega
        case c5 => have := HBel.out.size; have := HBB.out; simp; omega
        intro v' w1 hown' hgrow _
        have hown2 : w1.ownsRow B 82 1 v' (k + 1) ((ws.take (k + 1)).map (Value.float .f64)) := by rw [take_next ws k (by have := HN.out; omega) x HX.out, List.map_take]; exact hown'
        have hbel2 : Below B w w1 := ((HBel.out.alloc (by have := HBel.out.size; have := HBB.out; omega) _).alloc (by have := HBel.out.size; have := HBB.out; simp; omega) _).grown hgrow (by have := HBel.out.size; have := HBB.out; simp; omega) (fun j hj => (HO.out.lt j hj).1)
        have HO2 := Lib.hid hown2
        have HB2 := Lib.hid hbel2
        clear hown2 hbel2 hown' hgrow
        go_wp2
        go_roundw
        case rel => exact ⟨k + 1, by omega, by go_num, HO2.out, HB2.out⟩
        case measure => simp [intOf]; omega
      · have hkn : k = n := by omega
        subst hkn
        rw [List.take_of_length_le (by have := HN.out; omega)] at hown
        obtain ⟨ao, cap, rfl, hra⟩ := owned_row hown HN.out
        have hvr : RowAt wr av vs := fun h => by
          obtain ⟨b', o', e, hlt', hc⟩ := HV.out h
          have := HBB.out
          exact ⟨b', o', e, by have := hbel.size; omega, fun j hj => by rw [hbel.cell (p := ⟨b', o' + j, none⟩) (by show b' < B; omega)]; exact hc j hj⟩
        have HW := Lib.hid (weigh_any vs ws av ao cv cap wr hvr hra HFV.out HFW.out)
        rw [← HN.out] at HW
        have HBel := Lib.hid hbel
        clear hown hbel hvr hra
        go_wp2_with (go_at_call 103; refine HW.out.mono ?_; rintro e w' ⟨rfl, hb2⟩)
        go_ret2
        exact ⟨rfl, HBel.out.trans (hb2.mono (by have := HBel.out.size; have := HBB.out; omega))⟩
end Go.Proofs.YtkfkpbhebidodaaGreatDoor
