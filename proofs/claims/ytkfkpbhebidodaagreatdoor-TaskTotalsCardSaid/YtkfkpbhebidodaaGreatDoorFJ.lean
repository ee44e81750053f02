/- primerlaw20.TaskTotals returns true for every two rows of 64-bit words, given that its first call, speaks(), returns true. -/
import Derived.Test.YtkfkpbhebidodaaGreatDoorFI
namespace Go.Proofs.YtkfkpbhebidodaaGreatDoor
open Go Go.RowKit
set_option maxRecDepth 100000

/-- an argument: a row of 64-bit words -/
def WordsAt (w : World) (v : Value) (zs : List Nat) : Prop :=
  ∃ ao cap, v = .slice ao zs.length cap ∧ zs.length ≤ 9223372036854775807 ∧ (∀ x, x ∈ zs → x < 2 ^ 64) ∧
    (0 < zs.length → ∃ b off, ao = some ⟨b, off, none⟩ ∧ b < w.heap.size ∧ ∀ j, j < zs.length → w.cell? ⟨b, off + j, none⟩ = some (.int .u64 (zs.getD j 0 : Nat)))
def taskCells (x : Nat) : List Value := [.string .empty, .slice none 0 0, .slice none 0 0, .bool false, .float .f64 x]
theorem info84 : (Tryz.prog.info? 84).map (fun i => (i.zero, i.size, i.bytes)) = some (some (.agg #[.string .empty, .slice none 0 0, .slice none 0 0, .bool false, .float .f64 0]), 5, 80) := by kernel_rfl

theorem blocks_ne {w : World} {B n m : Nat} {v u : Value} {xs ys : List Value} {s t : Nat} (h : w.ownsRow B 84 s v n xs) (k : w.ownsRow B 82 t u m ys) : u.ownBlock = none ∨ u.ownBlock ≠ v.ownBlock := by
  obtain ⟨_, ⟨rfl, _⟩ | ⟨g, cap, cur, rfl, _, hh, _⟩⟩ := k
  · exact .inl rfl
  · right
    obtain ⟨_, ⟨rfl, _⟩ | ⟨g', cap', cur', rfl, _, hh', _⟩⟩ := h
    · simp [Value.ownBlock]
    · simp only [Value.ownBlock, ne_eq, Option.some.injEq]
      intro e
      subst e
      rw [hh] at hh'
      cases hh'
theorem tasks_next (ws : List Nat) (k : Nat) (h : k < ws.length) (x : Nat) (hx : x = ws.getD k 0) : (ws.take (k + 1)).flatMap taskCells = (ws.take k).flatMap taskCells ++ taskCells x := by
  have : ws[k]? = some x := by rw [hx, List.getD_eq_getElem?_getD, List.getElem?_eq_getElem h]; rfl
  rw [List.take_add_one, this]; simp
theorem flat_get : ∀ (zs : List Nat) (j i : Nat), j < zs.length → i < 5 → (zs.flatMap taskCells)[j * 5 + i]? = (taskCells (zs.getD j 0))[i]? := by
  intro zs
  induction zs with
  | nil => intro j i h; cases h
  | cons z zs ih =>
    intro j i h hi
    rw [List.flatMap_cons]
    cases j with
    | zero => rw [List.getElem?_append_left (by simp [taskCells]; omega)]; simp
    | succ j =>
      rw [List.getElem?_append_right (by simp [taskCells]; omega), show (j + 1) * 5 + i - (taskCells z).length = j * 5 + i by simp [taskCells]; omega, ih j i (by simpa using h) hi]
      simp
theorem owned_tasks {w : World} {B n : Nat} {v : Value} {zs : List Nat} (h : w.ownsRow B 84 5 v n (zs.flatMap taskCells)) (hn : n = zs.length) : ∃ ao cap, v = .slice ao n cap ∧ TasksAt w ao zs := by
  obtain ⟨hl, ⟨rfl, h0⟩ | ⟨g, cap, cur, rfl, hg, hh, h1, h2, h3, h4⟩⟩ := h
  · exact ⟨none, 0, by rw [h0], fun hz => by omega⟩
  · refine ⟨_, cap, rfl, fun hz => ⟨g, 0, rfl, ?_, fun j hj => ?_⟩⟩
    · exact Decidable.byContradiction fun hc => by
        rw [Array.getElem?_eq_none (by omega)] at hh; cases hh
    · have key : ∀ i u, i < 5 → (taskCells (zs.getD j 0))[i]? = some u → w.cell? ⟨g, 0 + j * 5 + i, none⟩ = some u := by
        intro i u hi hu
        unfold World.cell?
        simp only [hh, Nat.zero_add]
        have := flat_get zs j i hj hi
        rw [hu, ← h4, List.getElem?_take] at this
        split at this
        · simpa using this
        · cases this
      exact ⟨key 0 _ (by omega) rfl, key 1 _ (by omega) rfl, key 2 _ (by omega) rfl, key 3 _ (by omega) rfl, key 4 _ (by omega) rfl⟩

theorem totals_any (hsp : ∀ w : World, True → Calls Tryz.prog 29 #[] w fun e w' => e = .returned (.bool true) ∧ Below w.heap.size w w')
    (zs ys : List Nat) (v0 v1 : Value) (w : World) (h0 : WordsAt w v0 zs) (h1 : WordsAt w v1 ys) :
    Calls Tryz.prog 9 #[v0, v1] w fun e w' => e = .returned (.bool true) ∧ Below w.heap.size w w' := by
  obtain ⟨a0, c0, rfl, hm0, hf0, hr0⟩ := h0
  obtain ⟨a1, c1, rfl, hm1, hf1, hr1⟩ := h1
  obtain ⟨n, hn⟩ : ∃ n, n = zs.length := ⟨_, rfl⟩
  obtain ⟨m, hm⟩ : ∃ m, m = ys.length := ⟨_, rfl⟩
  rw [← hn] at hm0 ⊢
  rw [← hm] at hm1 ⊢
  have HN := Lib.hid hn
  have HM := Lib.hid hm
  have HF0 := Lib.hid hf0
  have HF1 := Lib.hid hf1
  have HR0 := Lib.hid hr0
  have HR1 := Lib.hid hr1
  have HSP := Lib.hid (hsp w trivial)
  clear hn hm hf0 hf1 hr0 hr1 hsp
  obtain ⟨B, hB⟩ : ∃ B, B = w.heap.size := ⟨_, rfl⟩
  have HBB := Lib.hid hB
  rw [← hB]
  clear hB
  have hfb := frombits_run
  have hbr := bits_run
  obtain ⟨i0, hi, hz0, hz1, hz2⟩ := info_parts info82
  obtain ⟨j0, ki, kz0, kz1, kz2⟩ := info_parts info84
  go_enter Tryz.func9, Tryz.ntmps9
  go_wp2_with (go_at_call 29; refine HSP.out.mono ?_; rintro e ws ⟨rfl, hbs⟩)
  have HBS := Lib.hid hbs
  clear hbs
  go_loopw [5, 6, 8] (fun t v i wr => ∃ k : Nat, k ≤ n ∧ k ≤ 20 ∧ i = .int .i64 k ∧ wr.ownsRow B 84 5 t k ((zs.take k).flatMap taskCells) ∧ wr.ownsRow B 82 1 v k ((zs.take k).map (Value.float .f64)) ∧ Below B w wr) (fun _ _ i _ => 20 - (intOf i).toNat)
  case atStart => exact ⟨0, Nat.zero_le _, by omega, rfl, World.ownsRow_nil _ _ _ _, World.ownsRow_nil _ _ _ _, HBB.out ▸ HBS.out⟩
  case round =>
    obtain ⟨k, hk, hk20, rfl, hot, hov, hbel⟩ := hrel
    have HT := Lib.hid hot
    have HV := Lib.hid hov
    have HBel := Lib.hid hbel
    clear hot hov hbel
    by_cases hlt0 : k < n ∧ k < 20
    · obtain ⟨hlt, hlt2⟩ := hlt0
      obtain ⟨x, hx⟩ : ∃ x, x = zs.getD k 0 := ⟨_, rfl⟩
      obtain ⟨b, off, rfl, hlb, hc⟩ := HR0.out (by have := HN.out; omega)
      have hcx : wr.cell? ⟨b, off + k, none⟩ = some (.int .u64 (x : Nat)) := by rw [HBel.out.cell (p := ⟨b, off + k, none⟩) (by have := HBB.out; show b < B; omega), hx]; exact hc k (by have := HN.out; omega)
      have HX := Lib.hid hx
      have HC := Lib.hid hc
      clear hx hc
      go_wp2_with (at_builtin; refine wpList_append_own _ rfl (.tmp 32) (.tmp 35) 92 rfl B 84 j0 (.agg #[.string .empty, .slice none 0 0, .slice none 0 0, .bool false, .float .f64 0]) 5 80 Tryz.underlying92 ki kz0 kz1 kz2 rfl (by decide) _ _ _ rfl (HT.out.alloc _) ⟨wr.heap.size, 0, none⟩ 1 1 (taskCells x) rfl rfl ?c1 ?c2 ?c3 ?c4 ?c5 ?_)
      case c1 =>
        intro j u hj
        match j, hj with
        | 0, hj => simp [taskCells] at hj; subst hj; simp [Addr.add]; rfl
        | 1, hj => simp [taskCells] at hj; subst hj; simp [Addr.add]
        | 2, hj => simp [taskCells] at hj; subst hj; simp [Addr.add]
        | 3, hj => simp [taskCells] at hj; subst hj; simp [Addr.add]
        | 4, hj => simp [taskCells] at hj; subst hj; simp [Addr.add]
        | j + 5, hj => simp [taskCells] at hj
      case c2 => intro u hu; simp [taskCells] at hu; rcases hu with rfl | rfl | rfl | rfl <;> rfl
      case c3 => unfold maxLen; omega
      case c4 => omega
      case c5 => have := HBel.out.size; have := HBB.out; simp; omega
      intro v1 w1 hot1 hgrow1 _
      have hov1 : w1.ownsRow B 82 1 u6 k ((zs.take k).map (Value.float .f64)) := (HV.out.alloc _).kept hgrow1 (blocks_ne HT.out HV.out)
      have hbel1 : Below B w w1 := (HBel.out.alloc (by have := HBel.out.size; have := HBB.out; omega) _).grown hgrow1 (by have := HBel.out.size; have := HBB.out; simp; omega) (fun j hj => (HT.out.lt j hj).1)
      have HT1 := Lib.hid hot1
      have HV1 := Lib.hid hov1
      have HBel1 := Lib.hid hbel1
      clear hot1 hov1 hbel1 hgrow1
      go_wp2_with (at_builtin; refine wpList_append_own _ rfl (.tmp 37) (.tmp 39) 93 rfl B 82 i0 (.float .f64 0) 1 8 Tryz.underlying93 hi hz0 hz1 hz2 rfl (by decide) _ _ _ rfl (HV1.out.alloc _) ⟨w1.heap.size, 0, none⟩ 1 1 [.float .f64 x] rfl rfl ?d1 ?d2 ?d3 ?d4 ?d5 ?_)
      case d1 =>
        intro j u hj
        match j, hj with
        | 0, hj => simp at hj; subst hj; simp [Addr.add]
      case d2 => intro u hu; simp at hu; subst hu; rfl
      case d3 => unfold maxLen; omega
      case d4 => omega
      case d5 => have := HBel1.out.size; have := HBB.out; simp; omega
      intro v2 w2 hov2 hgrow2 _
      have hot2 : w2.ownsRow B 84 5 v1 (k + 1) ((zs.take (k + 1)).flatMap taskCells) := by
        rw [tasks_next zs k (by have := HN.out; omega) x HX.out]
        have hn := blocks_ne HT1.out HV1.out
        refine (HT1.out.alloc _).kept hgrow2 ?_
        rcases hn with e | e
        · cases hb1 : v1.ownBlock with
          | none => exact .inl rfl
          | some g => right; rw [e]; simp
        · exact .inr (Ne.symm e)
      have hov3 : w2.ownsRow B 82 1 v2 (k + 1) ((zs.take (k + 1)).map (Value.float .f64)) := by rw [take_next zs k (by have := HN.out; omega) x HX.out, List.map_take]; exact hov2
      have hbel2 : Below B w w2 := (HBel1.out.alloc (by have := HBel1.out.size; have := HBB.out; omega) _).grown hgrow2 (by have := HBel1.out.size; have := HBB.out; simp; omega) (fun j hj => (HV1.out.lt j hj).1)
      have HT2 := Lib.hid hot2
      have HV2 := Lib.hid hov3
      have HBel2 := Lib.hid hbel2
      clear hot2 hov2 hov3 hbel2 hgrow2
      go_wp2
      go_roundw
      case rel => exact ⟨k + 1, by omega, by omega, by go_num, HT2.out, HV2.out, HBel2.out⟩
      case measure => simp [intOf]; omega
    · have HK := Lib.hid (show k = min n 20 by omega)
      have hcase : (k < n ∧ ¬ k < 20) ∨ ¬ k < n := by omega
      clear hlt0
      obtain ⟨wo, rfl⟩ : ∃ wo : World, wo = wr := ⟨_, rfl⟩
      obtain ⟨B2, hB2⟩ : ∃ B2, B2 = wo.heap.size := ⟨_, rfl⟩
      have HB2 := Lib.hid hB2
      clear hB2
      rcases hcase with ⟨hlt, hlt2⟩ | hlt
      all_goals go_wp2
      all_goals
        go_loopw [7, 10] (fun v i wq => ∃ j : Nat, j ≤ m ∧ j ≤ 20 ∧ i = .int .i64 j ∧ wq.ownsRow B2 82 1 v j ((ys.take j).map (Value.float .f64)) ∧ Below B2 wo wq) (fun _ i _ => 20 - (intOf i).toNat)
        case atStart => exact ⟨0, Nat.zero_le _, by omega, rfl, World.ownsRow_nil _ _ _ _, HB2.out ▸ Below.refl _ _⟩
        case round =>
          obtain ⟨j, hj, hj20, rfl, hom, hbelq⟩ := hrel
          have HM2 := Lib.hid hom
          have HBq := Lib.hid hbelq
          clear hom hbelq
          by_cases hlu0 : j < m ∧ j < 20
          · obtain ⟨hlu, hlu2⟩ := hlu0
            obtain ⟨x, hx⟩ : ∃ x, x = ys.getD j 0 := ⟨_, rfl⟩
            obtain ⟨b, off, rfl, hlb, hc⟩ := HR1.out (by have := HM.out; omega)
            have hcx : wr.cell? ⟨b, off + j, none⟩ = some (.int .u64 (x : Nat)) := by
              rw [HBq.out.cell (p := ⟨b, off + j, none⟩) (by have := HBB.out; have := HB2.out; have := HBel.out.size; show b < B2; omega), HBel.out.cell (p := ⟨b, off + j, none⟩) (by have := HBB.out; show b < B; omega), hx]; exact hc j (by have := HM.out; omega)
            have HX := Lib.hid hx
            clear hx hc
            go_wp2_with (at_builtin; refine wpList_append_own _ rfl (.tmp 51) (.tmp 57) 93 rfl B2 82 i0 (.float .f64 0) 1 8 Tryz.underlying93 hi hz0 hz1 hz2 rfl (by decide) _ _ _ rfl (HM2.out.alloc _) ⟨wr.heap.size, 0, none⟩ 1 1 [.float .f64 x] rfl rfl (by intro j u hj; match j, hj with | 0, hj => simp at hj; subst hj; simp [Addr.add]) (by intro u hu; simp at hu; subst hu; rfl) (by unfold maxLen; omega) (by omega) (by have := HBq.out.size; have := HB2.out; simp; omega) ?_)
            intro v2 w2 hom2 hgrow2 _
            have hom3 : w2.ownsRow B2 82 1 v2 (j + 1) ((ys.take (j + 1)).map (Value.float .f64)) := by rw [take_next ys j (by have := HM.out; omega) x HX.out, List.map_take]; exact hom2
            have hbel2 : Below B2 wo w2 := (HBq.out.alloc (by have := HBq.out.size; have := HB2.out; omega) _).grown hgrow2 (by have := HBq.out.size; have := HB2.out; simp; omega) (fun j hj => (HM2.out.lt j hj).1)
            have HMM := Lib.hid hom3
            have HBB2 := Lib.hid hbel2
            clear hom2 hom3 hbel2 hgrow2
            go_wp2
            go_roundw
            case rel => exact ⟨j + 1, by omega, by omega, by go_num, HMM.out, HBB2.out⟩
            case measure => simp [intOf]; omega
          · have HJ := Lib.hid (show j = min m 20 by omega)
            have hcase : (j < m ∧ ¬ j < 20) ∨ ¬ j < m := by omega
            clear hlu0
            have hl0 : k = (zs.take k).length := by rw [List.length_take]; have := HN.out; have := HK.out; omega
            have hl1 : j = (ys.take j).length := by rw [List.length_take]; have := HM.out; have := HJ.out; omega
            obtain ⟨at_, ct, rfl, htask⟩ := owned_tasks HT.out hl0
            obtain ⟨aw, cw, rfl, hwrow⟩ := owned_row HV.out hl0
            obtain ⟨am, cm, rfl, hmrow⟩ := owned_row HM2.out hl1
            obtain ⟨W0, hW0⟩ : ∃ W0, W0 = zs.take k := ⟨_, rfl⟩
            obtain ⟨M0, hM0⟩ : ∃ M0, M0 = ys.take j := ⟨_, rfl⟩
            rw [← hW0] at htask hwrow hl0
            rw [← hM0] at hmrow hl1
            have fw : Fits W0 := ⟨by omega, fun x hx => HF0.out x (by rw [hW0] at hx; exact List.mem_of_mem_take hx)⟩
            have fm : Fits M0 := ⟨by omega, fun x hx => HF1.out x (by rw [hM0] at hx; exact List.mem_of_mem_take hx)⟩
            have htask2 : TasksAt wr at_ W0 := fun h => by
              obtain ⟨b', o', e, hlt', hc⟩ := htask h
              have := HB2.out
              have e2 : ∀ o, wr.cell? ⟨b', o, none⟩ = wo.cell? ⟨b', o, none⟩ := fun o => HBq.out.cell (p := ⟨b', o, none⟩) (by show b' < B2; omega)
              refine ⟨b', o', e, by have := HBq.out.size; omega, fun i hi => ?_⟩
              rw [e2, e2, e2, e2, e2]
              exact hc i hi
            have hwrow2 : RowAt wr aw W0 := hwrow.below (HB2.out ▸ HBq.out)
            have HTOT := Lib.hid (total_any M0 W0 am at_ cm ct wr hmrow htask2 fm fw)
            have HWEI := Lib.hid (fun (w' : World) (h : Below wr.heap.size wr w') => Weigh_all M0 W0 am aw cm cw w' (hmrow.below h) (hwrow2.below h) fm fw)
            rw [← hl0, ← hl1] at HTOT
            rw [← hl0, ← hl1] at HWEI
            obtain ⟨r, hr⟩ : ∃ r, r = weighR M0 W0 := ⟨_, rfl⟩
            have HTT : Hid (Calls Tryz.prog 34 #[.slice at_ k ct, .slice am j cm] wr fun e w' => e = .returned (.tuple #[.float .f64 r.1, .int .i64 r.2]) ∧ Below wr.heap.size wr w') := Lib.hid (HTOT.out.mono fun e w' h => by rw [hr]; exact h)
            have HWW : Hid (∀ w', Below wr.heap.size wr w' → Calls Tryz.prog 35 #[.slice am j cm, .slice aw k cw] w' fun e w'' => e = .returned (.tuple #[.float .f64 r.1, .int .i64 r.2]) ∧ Below w'.heap.size w' w'') := Lib.hid (fun w' hw' => (HWEI.out w' hw').mono fun e w'' h => by rw [hr]; exact h)
            obtain ⟨rb, rc⟩ := r
            clear hr hW0 hM0 hl0 hl1 fw fm htask htask2 hwrow hwrow2 hmrow HTOT HWEI
            rcases hcase with ⟨hlu, hlu2⟩ | hlu
            all_goals go_wp2_with (first | (go_at_call 34; refine HTT.out.mono ?_; rintro e wt ⟨rfl, hbt⟩; have HBT := Lib.hid hbt; clear hbt) | (go_at_call 35; refine (HWW.out _ HBT.out).mono ?_; rintro e wu ⟨rfl, hbu⟩; have HBU := Lib.hid hbu; clear hbu))
            all_goals go_ret
            all_goals exact ⟨rfl, HBel.out.trans ((HBq.out.mono (by have := HBel.out.size; have := HB2.out; have := HBB.out; omega)).trans ((HBT.out.mono (by have := HBel.out.size; have := HBq.out.size; have := HB2.out; have := HBB.out; omega)).trans (HBU.out.mono (by have := HBel.out.size; have := HBq.out.size; have := HBT.out.size; have := HB2.out; have := HBB.out; omega))))⟩
end Go.Proofs.YtkfkpbhebidodaaGreatDoor
