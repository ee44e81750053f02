/- SchoolNil's walk where the command isn't too long. -/
import Derived.Test.YtmcccdgpmlacdaaGreatDoorS22v
namespace Go.Proofs.YtmcccdgpmlacdaaGreatDoor
open Go Go.RowKit Go.Cre
set_option maxRecDepth 1000000
noncomputable section
theorem law_short (w : World) (N : Int) (k n : Nat) (hw : 0 < w.heap.size) (hk : n ≤ 100000) (hB : ∀ (B : Nat) (w0 : World), KnownOk Tryz.prog ⟨0, tabN n false⟩ B w0 xN) (hG : ∀ ρ : Ren, Tk N k n ρ → GOk Tryz.prog ⟨0, tabN n false⟩ ρ) :
    Calls Tryz.prog 3 #[nt N] w fun e w' => e = .returned (.bool true) ∧ Below w.heap.size w w' := by
  have hR : RecOk Tryz.prog ⟨0, tabN n false⟩ w.heap.size w (RN n false) := runsB_at pok22 (hB _ _) _
  have hX := hB w.heap.size w
  go_enter Tryz.func3, Tryz.ntmps3
  refine wp_seq ?_
  refine one_run (ρ := lookE (envN N k n)) hR (F := St 62 [(0, tk 1)] [] 30) (e := .normal) (by kernel_rfl) (hG _ fun _ _ h => h) ?hS ?_
  case hS =>
    refine ⟨live_rel rfl (all_cons (vT rfl rfl rfl) all_nil), .nil, startE ?_ all_nil all_nil⟩
    exact all_cons ⟨hw, Nat.le_of_ble_eq_true rfl⟩ <| all_cons ⟨hw, Nat.le_of_ble_eq_true rfl⟩ <| all_cons ⟨hw, Nat.le_of_ble_eq_true rfl⟩ <| all_cons ⟨hw, Nat.le_of_ble_eq_true rfl⟩ <| all_cons ⟨hw, Nat.le_of_ble_eq_true rfl⟩ <| all_cons ⟨hw, Nat.le_of_ble_eq_true rfl⟩ <| all_cons ⟨hw, Nat.le_of_ble_eq_true rfl⟩ all_nil
  intro ρ0 a0 w0 hx0 hn0 hf0
  have hT0 : Tk N k n ρ0 := tk_ext (fun _ _ h => h) hx0 (Nat.le_refl 30)
  have hm0 := Nat.le_trans (Nat.le_refl 30) hn0
  show Code.wp _ _ _ _ _
  refine wp_seq ?_
  refine one_run hR (e := .normal) (by kernel_rfl) (hG _ hT0) hf0 ?_
  intro ρ1 a1 w1 hx1 hn1 hf1
  have hT1 := tk_ext hT0 hx1 hm0
  have hm1 := Nat.le_trans hm0 hn1
  clear hf0 hx1 hn1
  show Code.wp _ _ _ _ _
  refine wp_seq ?_
  refine one_run hR (e := .normal) (by kernel_rfl) (hG _ hT1) hf1 ?_
  intro ρ2 a2 w2 hx2 hn2 hf2
  have hT2 := tk_ext hT1 hx2 hm1
  have hm2 := Nat.le_trans hm1 hn2
  clear hf1 hx2 hn2
  show Code.wp _ _ _ _ _
  refine wp_seq ?_
  refine one_run hR (e := .normal) (by kernel_rfl) (hG _ hT2) hf2 ?_
  intro ρ3 a3 w3 hx3 hn3 hf3
  have hT3 := tk_ext hT2 hx3 hm2
  have hm3 := Nat.le_trans hm2 hn3
  clear hf2 hx3 hn3
  show Code.wp _ _ _ _ _
  refine wp_seq ?_
  refine one_run hR (e := .normal) (by kernel_rfl) (hG _ hT3) hf3 ?_
  intro ρ4 a4 w4 hx4 hn4 hf4
  have hT4 := tk_ext hT3 hx4 hm3
  have hm4 := Nat.le_trans hm3 hn4
  clear hf3 hx4 hn4
  show Code.wp _ _ _ _ _
  refine wp_seq ?_
  refine one_run hR (e := .normal) (by kernel_rfl) (hG _ hT4) hf4 ?_
  intro ρ5 a5 w5 hx5 hn5 hf5
  have hT5 := tk_ext hT4 hx5 hm4
  have hm5 := Nat.le_trans hm4 hn5
  clear hf4 hx5 hn5
  show Code.wp _ _ _ _ _
  refine wp_seq (region_lists (split_list 1 ?_))
  refine one_list pok22 hR hX _ _ (by kernel_rfl) (hG _ hT5) hf5 ?_
  intro ρ6 a6 w6 hx6 hn6 hf6
  have hT6 := tk_ext hT5 hx6 hm5
  have hm6 := Nat.le_trans hm5 hn6
  clear hf5 hx6 hn6
  refine split_list 1 ?_
  have e20 : a6.eval (.tmp 20) = nt ((n : Nat) : Int) := tokV (hT6 3 _ rfl) (eval_of hf6 (t := 20) (by kernel_rfl))
  refine op_val rfl (fun c h => by cases h) (make_op rfl e20 e20 (by omega)) ?_
  have hb7 := (Below.refl w6.heap.size w6).alloc (Nat.le_refl _) (.cells (madeCells (nt8 0).cells n) 5)
  have hf7 := put_frame (d := 21) (v := hole) (v' := .slice (some ⟨w6.heap.size, 0, none⟩) n n) hf6 hb7 .hole
  refine op_val rfl (fun c h => by cases h) (conv_op rfl (eval_put _ _ _ (by rw [hf6.ts.length]; exact Nat.le_of_ble_eq_true (by kernel_rfl)))) ?_
  have hf8 := put_frame (d := 22) (v := tk 4) hf7 (Below.refl _ _) (vT (hT6 4 _ rfl) rfl rfl)
  have hT8 : Tk N k n ρ6 := hT6
  clear hf6 hf7
  refine one_last pok22 hR hX _ (by kernel_rfl) (hG _ hT8) hf8 ?_
  intro ρ9 a9 w9 hx9 hn9 hf9
  have hT9 := tk_ext hT8 hx9 (le_put (le_put hm6))
  have hm9 := Nat.le_trans (le_put (le_put hm6)) hn9
  clear hf8 hx9 hn9
  show Code.wp _ _ _ _ _
  refine wp_seq ?_
  refine one_run hR (e := .normal) (by kernel_rfl) (hG _ hT9) hf9 ?_
  intro ρ10 a10 w10 hx10 hn10 hf10
  have hT10 := tk_ext hT9 hx10 hm9
  have hm10 := Nat.le_trans hm9 hn10
  clear hf9 hx10 hn10
  show Code.wp _ _ _ _ _
  refine wp_seq ?_
  refine one_run hR (e := .normal) (by kernel_rfl) (hG _ hT10) hf10 ?_
  intro ρ11 a11 w11 hx11 hn11 hf11
  have hT11 := tk_ext hT10 hx11 hm10
  have hm11 := Nat.le_trans hm10 hn11
  clear hf10 hx11 hn11
  show Code.wp _ _ _ _ _
  refine wp_seq ?_
  refine one_run hR (e := .normal) (by kernel_rfl) (hG _ hT11) hf11 ?_
  intro ρ12 a12 w12 hx12 hn12 hf12
  have hT12 := tk_ext hT11 hx12 hm11
  have hm12 := Nat.le_trans hm11 hn12
  clear hf11 hx12 hn12
  show Code.wp _ _ _ _ _
  refine wp_seq (region_lists ?_)
  refine op_val rfl (fun c h => by cases h) (make_op (n := 40000) rfl rfl rfl (by omega)) ?_
  have hb13 := (Below.refl w12.heap.size w12).alloc (Nat.le_refl _) (.cells (madeCells (nt8 0).cells 40000) 5)
  have hf13 := put_frame (d := 32) (v := hole) (v' := .slice (some ⟨w12.heap.size, 0, none⟩) 40000 40000) hf12 hb13 .hole
  refine op_val rfl (fun c h => by cases h) (conv_op rfl (eval_put _ _ _ (by rw [hf12.ts.length]; exact Nat.le_of_ble_eq_true (by kernel_rfl)))) ?_
  have hf14 := put_frame (d := 33) (v := tk 7) hf13 (Below.refl _ _) (vT (hT12 7 _ rfl) rfl rfl)
  have hw14 : 0 < (w12.alloc (.cells (madeCells (nt8 0).cells 40000) 5)).heap.size := by simp
  refine mid_callF (vs := [tk 7]) (R' := fun e w' => e = .returned (.tuple #[.pointer none, nt 2]) ∧ Below (w12.alloc (.cells (madeCells (nt8 0).cells 40000) 5)).heap.size (w12.alloc (.cells (madeCells (nt8 0).cells 40000) 5)) w') pok22 rfl rfl (by kernel_rfl) hf14 (by kernel_rfl) (by kernel_rfl) ?_ ?_
  · intro as' has
    obtain ⟨v0, _, rfl, k0, has⟩ := consV has
    cases nilV has
    cases tokV (hT12 7 _ rfl) k0
    exact restore_any _ hw14
  rintro e w15 ⟨rfl, hb15⟩
  refine ⟨_, rfl, ?_⟩
  have hf15 := put_frame (d := 34) (v := .tuple ⟨[.pointer none, nt 2]⟩) hf14 hb15 (.tuple (.cons (.flat rfl) (.cons (.flat rfl) .nil)))
  have hT15 : Tk N k n ρ12 := hT12
  clear hf12 hf13 hf14
  refine one_last pok22 hR hX _ (by kernel_rfl) (hG _ hT15) hf15 ?_
  intro ρ16 a16 w16 hx16 hn16 hf16
  have hT16 := tk_ext hT15 hx16 (le_put (le_put (le_put hm12)))
  have hm16 := Nat.le_trans (le_put (le_put (le_put hm12))) hn16
  clear hf15 hx16 hn16
  show Code.wp _ _ _ _ _
  refine temp_run hR (e := .ret) (l := [(2, .bool true)]) (by kernel_rfl) (hG _ hT16) hf16 ?_
  intro ρ' a' w' _ hd hb hl
  refine bodyPost_ret (results_tmp rfl _ _ _) hd ⟨?_, hb⟩
  rw [getD_tl, boolV (hl _ List.mem_cons_self)]
end
end Go.Proofs.YtmcccdgpmlacdaaGreatDoor
