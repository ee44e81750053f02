/- OplogAgrees answers true, for all lists of entries and every number. -/
import Derived.Test.YtljejfiecaihfaaGreatDoorOL
import Derived.Test.YtljejfiecaihfaaGreatDoorON
import Derived.Test.YtljejfiecaihfaaGreatDoorOPa
import Derived.Test.YtljejfiecaihfaaGreatDoorOS
namespace Go.Proofs.YtljejfiecaihfaaGreatDoor
open Go Go.RowKit Go.Cre
set_option maxRecDepth 1000000
noncomputable section
theorem xT_ok {G : Gl} {B : Nat} {w0 : World} {ts : List Cre.Told} (h : ∀ e, e ∈ ts → ToldOk Tryz.prog G B w0 e) : KnownOk Tryz.prog G B w0 (xT ts) :=
  withTold_ok (mkKnown_ok (fun g hg => by cases hg) (fun g hg => by cases hg) (fun p hp => by cases hp) B w0) h
theorem law_any (w : World) (l1 l2 : Option Addr) (n1 n2 c1 c2 : Nat) (es1 es2 : List Ent) (op : Int) (hw : 0 < w.heap.size) (hn1 : n1 = es1.length) (hn2 : n2 = es2.length) (r1 : RowAt w l1 es1) (r2 : RowAt w l2 es2) :
    Calls Tryz.prog 3 #[.slice l1 n1 c1, .slice l2 n2 c2, nt op] w fun e w' => e = .returned (.bool true) ∧ Below w.heap.size w w' := by
  go_enter Tryz.func3, Tryz.ntmps3
  have hR0 : RecOk Tryz.prog ⟨0, []⟩ w.heap.size w (RT ⟨0, []⟩ [⟨4, [], .bool true⟩]) := RT_ok (all_cons (by
    intro ρ w1 as' _ _ _ ha
    cases nilV ha
    exact (speaks24 w1).mono fun e w' h => ⟨⟨_, h.1, .flat rfl⟩, h.2⟩) all_nil)
  have hR : ∀ v : World, RecOk Tryz.prog ⟨0, []⟩ v.heap.size v (RT ⟨0, []⟩ []) := fun v => RT_ok all_nil
  have hX : ∀ v : World, KnownOk Tryz.prog ⟨0, []⟩ v.heap.size v (xT []) := fun v => xT_ok all_nil
  have hG : ∀ ρ, GOk Tryz.prog ⟨0, []⟩ ρ := fun ρ => GOk.ofTab all_nil
  refine wp_seq ?_
  refine step_run (ρ := lookE [(1, tokT (.slice l1 n1 c1)), (2, tokT (.slice l2 n2 c2)), (3, tokT (nt op))]) (hR w) (n := 85) (l := [(0, tk 1), (1, tk 2), (2, tk 3)]) (os := []) (m := 10) (l' := [(0, tk 1), (1, tk 2), (2, tk 3)]) (os' := []) (m' := 10) (e := .normal) (by kernel_rfl) (hG _) ?hS ?_
  case hS =>
    refine ⟨live_rel rfl (all_cons (vT rfl rfl rfl) <| all_cons (vT rfl rfl rfl) <| all_cons (vT rfl rfl rfl) all_nil), .nil, startE ?_ all_nil all_nil⟩
    exact all_cons ⟨hw, Nat.le_of_ble_eq_true rfl⟩ <| all_cons ⟨hw, Nat.le_of_ble_eq_true rfl⟩ <| all_cons ⟨hw, Nat.le_of_ble_eq_true rfl⟩ all_nil
  intro ρa aa wa hxa hfa
  show Code.wp _ _ _ _ _
  refine wp_seq ?_
  refine step_run hR0 (l' := [(0, tk 1), (1, tk 2), (2, tk 3)]) (os' := []) (m' := 10) (e := .normal) (by kernel_rfl) (hG _) hfa ?_
  intro ρ2 a2 w2 hx2 hf2
  have t12 : ρ2 1 = some (tokT (.slice l1 n1 c1)) := ((hx2 1 (by omega)).trans (hxa 1 (by omega))).trans rfl
  have t22 : ρ2 2 = some (tokT (.slice l2 n2 c2)) := ((hx2 2 (by omega)).trans (hxa 2 (by omega))).trans rfl
  have t32 : ρ2 3 = some (tokT (nt op)) := ((hx2 3 (by omega)).trans (hxa 3 (by omega))).trans rfl
  have hb2 : Below w.heap.size w w2 := hf2.w.below
  clear hfa hxa hx2
  show Code.wp _ _ _ _ _
  have hbv2 : Below w.heap.size w w := Below.refl _ _
  -- region 3
  refine wp_seq (region_lists (split_list 1 ?_))
  refine step_list pokT (hR w) (hX w) _ _ (l' := [(0, tk 1), (1, tk 2), (2, tk 3), (18, tk 1)]) (os' := []) (m' := 10) (by kernel_rfl) (hG _) hf2 ?_
  intro ρp3 ap3 wp3 hxp3 hfp3
  have hbp3 : Below w.heap.size w wp3 := hbv2.trans (hfp3.w.below.mono hbv2.size)
  have tp1_3 := (hxp3 1 (by omega)).trans t12
  have tp2_3 := (hxp3 2 (by omega)).trans t22
  have tp3_3 := (hxp3 3 (by omega)).trans t32
  refine mid_call (vs := [nt 3, .string sS, tk 1]) pokT rfl rfl (by kernel_rfl) hfp3 (by kernel_rfl) (by kernel_rfl) (R' := fun r w' => (∃ ao cap x y z, r = .returned (.tuple #[lg 3 sS ao (es1.take 30).length cap, .agg ⟨[x, y, z]⟩]) ∧ single x = true ∧ single y = true ∧ single z = true ∧ LogS w' ao cap (es1.take 30)) ∧ Below wp3.heap.size wp3 w') ?_ ?_
  · intro as' has
    obtain ⟨x0, _, rfl, k0, has⟩ := consV has
    obtain ⟨x1, _, rfl, k1, has⟩ := consV has
    obtain ⟨x2, _, rfl, k2, has⟩ := consV has
    cases nilV has
    cases flat_eq (v := nt 3) rfl k0
    cases flat_eq (v := .string sS) rfl k1
    cases tokV tp1_3 k2
    exact logs_any wp3 l1 n1 c1 es1 (Nat.lt_of_lt_of_le hw hbp3.size) hn1 (r1.below hbp3)
  rintro e v3 ⟨⟨aA, cA, x, y, z, rfl, sx, sy, sz, hAc⟩, hb3⟩
  refine ⟨_, rfl, ?_⟩
  have hbv3 : Below w.heap.size w v3 := hbp3.trans (hb3.mono hbp3.size)
  have hw3 : 0 < v3.heap.size := Nat.lt_of_lt_of_le hw hbv3.size
  have hfc3 := call_rel (m2 := 14) hfp3 hb3 (env := [(10, tokT (.slice aA (es1.take 30).length cA)), (11, tokT (x)), (12, tokT (y)), (13, tokT (z))]) (all_cons ⟨Nat.le_of_ble_eq_true rfl, hw3⟩ <| all_cons ⟨Nat.le_of_ble_eq_true rfl, hw3⟩ <| all_cons ⟨Nat.le_of_ble_eq_true rfl, hw3⟩ <| all_cons ⟨Nat.le_of_ble_eq_true rfl, hw3⟩ <| all_nil) (by omega) (d := 19)
    (v := .tuple ⟨[.agg ⟨[nt 3, .string sS, tk 10]⟩, .agg ⟨[tk 11, tk 12, tk 13]⟩]⟩) (v' := .tuple #[lg 3 sS aA (es1.take 30).length cA, .agg ⟨[x, y, z]⟩])
    (.tuple (.cons (.agg (.cons (.flat rfl) (.cons (.flat rfl) (.cons (vT rfl rfl rfl) .nil)))) (.cons (.agg (.cons (vT rfl rfl sx) (.cons (vT rfl rfl sy) (.cons (vT rfl rfl sz) .nil)))) .nil)))
  have hfb3 := hfc3.based (os' := []) (all_nil)
  have tc1_3 := (extR_ext (m := 10) (ρ := ρp3) (env := [(10, tokT (.slice aA (es1.take 30).length cA)), (11, tokT (x)), (12, tokT (y)), (13, tokT (z))]) 1 (by omega)).trans tp1_3
  have tc2_3 := (extR_ext (m := 10) (ρ := ρp3) (env := [(10, tokT (.slice aA (es1.take 30).length cA)), (11, tokT (x)), (12, tokT (y)), (13, tokT (z))]) 2 (by omega)).trans tp2_3
  have tc3_3 := (extR_ext (m := 10) (ρ := ρp3) (env := [(10, tokT (.slice aA (es1.take 30).length cA)), (11, tokT (x)), (12, tokT (y)), (13, tokT (z))]) 3 (by omega)).trans tp3_3
  have tc10_3 : extR 10 ρp3 [(10, tokT (.slice aA (es1.take 30).length cA)), (11, tokT (x)), (12, tokT (y)), (13, tokT (z))] 10 = some (tokT (.slice aA (es1.take 30).length cA)) := rfl
  have tc11_3 : extR 10 ρp3 [(10, tokT (.slice aA (es1.take 30).length cA)), (11, tokT (x)), (12, tokT (y)), (13, tokT (z))] 11 = some (tokT (x)) := rfl
  have tc12_3 : extR 10 ρp3 [(10, tokT (.slice aA (es1.take 30).length cA)), (11, tokT (x)), (12, tokT (y)), (13, tokT (z))] 12 = some (tokT (y)) := rfl
  have tc13_3 : extR 10 ρp3 [(10, tokT (.slice aA (es1.take 30).length cA)), (11, tokT (x)), (12, tokT (y)), (13, tokT (z))] 13 = some (tokT (z)) := rfl
  refine step_last pokT (hR v3) (hX v3) _ (l' := [(0, tk 1), (1, tk 2), (2, tk 3), (7, .pointer (some ⟨14, 0, none⟩))]) (os' := [(14, .cells [nt 3, .string sS, tk 10] 26 3 false .no false)]) (m' := 16) (by kernel_rfl) (hG _) hfb3 ?_
  clear hfp3 hfc3 hfb3 hf2
  intro ρ3 a3 w3 hx3 hf3
  have t13 := (hx3 1 (by omega)).trans tc1_3
  have t23 := (hx3 2 (by omega)).trans tc2_3
  have t33 := (hx3 3 (by omega)).trans tc3_3
  have t103 := (hx3 10 (by omega)).trans tc10_3
  have hA3 := hAc
  -- region 4
  refine wp_seq (region_lists (split_list 1 ?_))
  refine step_list pokT (hR v3) (hX v3) _ _ (l' := [(0, tk 1), (1, tk 2), (2, tk 3), (7, .pointer (some ⟨14, 0, none⟩)), (23, tk 2)]) (os' := [(14, .cells [nt 3, .string sS, tk 10] 26 3 false .no false)]) (m' := 16) (by kernel_rfl) (hG _) hf3 ?_
  intro ρp4 ap4 wp4 hxp4 hfp4
  have hbp4 : Below w.heap.size w wp4 := hbv3.trans (hfp4.w.below.mono hbv3.size)
  have tp1_4 := (hxp4 1 (by omega)).trans t13
  have tp2_4 := (hxp4 2 (by omega)).trans t23
  have tp3_4 := (hxp4 3 (by omega)).trans t33
  have tp10_4 := (hxp4 10 (by omega)).trans t103
  have hAp4 := hA3.below hfp4.w.below
  refine mid_call (vs := [nt 3, .string sS, tk 2]) pokT rfl rfl (by kernel_rfl) hfp4 (by kernel_rfl) (by kernel_rfl) (R' := fun r w' => (∃ ao cap x y z, r = .returned (.tuple #[lg 3 sS ao (es2.take 30).length cap, .agg ⟨[x, y, z]⟩]) ∧ single x = true ∧ single y = true ∧ single z = true ∧ LogS w' ao cap (es2.take 30)) ∧ Below wp4.heap.size wp4 w') ?_ ?_
  · intro as' has
    obtain ⟨x0, _, rfl, k0, has⟩ := consV has
    obtain ⟨x1, _, rfl, k1, has⟩ := consV has
    obtain ⟨x2, _, rfl, k2, has⟩ := consV has
    cases nilV has
    cases flat_eq (v := nt 3) rfl k0
    cases flat_eq (v := .string sS) rfl k1
    cases tokV tp2_4 k2
    exact logs_any wp4 l2 n2 c2 es2 (Nat.lt_of_lt_of_le hw hbp4.size) hn2 (r2.below hbp4)
  rintro e v4 ⟨⟨aB, cB, x, y, z, rfl, sx, sy, sz, hBc⟩, hb4⟩
  refine ⟨_, rfl, ?_⟩
  have hbv4 : Below w.heap.size w v4 := hbp4.trans (hb4.mono hbp4.size)
  have hw4 : 0 < v4.heap.size := Nat.lt_of_lt_of_le hw hbv4.size
  have hfc4 := call_rel (m2 := 20) hfp4 hb4 (env := [(16, tokT (.slice aB (es2.take 30).length cB)), (17, tokT (x)), (18, tokT (y)), (19, tokT (z))]) (all_cons ⟨Nat.le_of_ble_eq_true rfl, hw4⟩ <| all_cons ⟨Nat.le_of_ble_eq_true rfl, hw4⟩ <| all_cons ⟨Nat.le_of_ble_eq_true rfl, hw4⟩ <| all_cons ⟨Nat.le_of_ble_eq_true rfl, hw4⟩ <| all_nil) (by omega) (d := 24)
    (v := .tuple ⟨[.agg ⟨[nt 3, .string sS, tk 16]⟩, .agg ⟨[tk 17, tk 18, tk 19]⟩]⟩) (v' := .tuple #[lg 3 sS aB (es2.take 30).length cB, .agg ⟨[x, y, z]⟩])
    (.tuple (.cons (.agg (.cons (.flat rfl) (.cons (.flat rfl) (.cons (vT rfl rfl rfl) .nil)))) (.cons (.agg (.cons (vT rfl rfl sx) (.cons (vT rfl rfl sy) (.cons (vT rfl rfl sz) .nil)))) .nil)))
  have hfb4 := hfc4.based (os' := [(14, .cells [nt 3, .string sS, tk 10] 26 3 false .no true)]) (all_cons ⟨rfl, _, rfl, rfl⟩ <| all_nil)
  have tc1_4 := (extR_ext (m := 16) (ρ := ρp4) (env := [(16, tokT (.slice aB (es2.take 30).length cB)), (17, tokT (x)), (18, tokT (y)), (19, tokT (z))]) 1 (by omega)).trans tp1_4
  have tc2_4 := (extR_ext (m := 16) (ρ := ρp4) (env := [(16, tokT (.slice aB (es2.take 30).length cB)), (17, tokT (x)), (18, tokT (y)), (19, tokT (z))]) 2 (by omega)).trans tp2_4
  have tc3_4 := (extR_ext (m := 16) (ρ := ρp4) (env := [(16, tokT (.slice aB (es2.take 30).length cB)), (17, tokT (x)), (18, tokT (y)), (19, tokT (z))]) 3 (by omega)).trans tp3_4
  have tc10_4 := (extR_ext (m := 16) (ρ := ρp4) (env := [(16, tokT (.slice aB (es2.take 30).length cB)), (17, tokT (x)), (18, tokT (y)), (19, tokT (z))]) 10 (by omega)).trans tp10_4
  have tc16_4 : extR 16 ρp4 [(16, tokT (.slice aB (es2.take 30).length cB)), (17, tokT (x)), (18, tokT (y)), (19, tokT (z))] 16 = some (tokT (.slice aB (es2.take 30).length cB)) := rfl
  have tc17_4 : extR 16 ρp4 [(16, tokT (.slice aB (es2.take 30).length cB)), (17, tokT (x)), (18, tokT (y)), (19, tokT (z))] 17 = some (tokT (x)) := rfl
  have tc18_4 : extR 16 ρp4 [(16, tokT (.slice aB (es2.take 30).length cB)), (17, tokT (x)), (18, tokT (y)), (19, tokT (z))] 18 = some (tokT (y)) := rfl
  have tc19_4 : extR 16 ρp4 [(16, tokT (.slice aB (es2.take 30).length cB)), (17, tokT (x)), (18, tokT (y)), (19, tokT (z))] 19 = some (tokT (z)) := rfl
  refine step_last pokT (hR v4) (hX v4) _ (l' := [(0, tk 1), (1, tk 2), (2, tk 3), (7, .pointer (some ⟨14, 0, none⟩)), (9, .pointer (some ⟨20, 0, none⟩))]) (os' := [(14, .cells [nt 3, .string sS, tk 10] 26 3 false .no true), (20, .cells [nt 3, .string sS, tk 16] 26 3 false .no false)]) (m' := 22) (by kernel_rfl) (hG _) hfb4 ?_
  clear hfp4 hfc4 hfb4 hf3
  intro ρ4 a4 w4 hx4 hf4
  have t14 := (hx4 1 (by omega)).trans tc1_4
  have t24 := (hx4 2 (by omega)).trans tc2_4
  have t34 := (hx4 3 (by omega)).trans tc3_4
  have t104 := (hx4 10 (by omega)).trans tc10_4
  have t164 := (hx4 16 (by omega)).trans tc16_4
  have hA4 := hAp4.below hb4
  have hB4 := hBc
  -- region 5
  refine wp_seq (region_lists (split_list 2 ?_))
  refine step_list pokT (hR v4) (hX v4) _ _ (l' := [(0, tk 1), (1, tk 2), (2, tk 3), (7, .pointer (some ⟨14, 0, none⟩)), (9, .pointer (some ⟨20, 0, none⟩)), (27, .agg ⟨[nt 3, .string sS, tk 10]⟩), (28, .agg ⟨[nt 1, nt 1, .string sX]⟩)]) (os' := [(14, .cells [nt 3, .string sS, tk 10] 26 3 false .no true), (20, .cells [nt 3, .string sS, tk 16] 26 3 false .no false)]) (m' := 22) (by kernel_rfl) (hG _) hf4 ?_
  intro ρp5 ap5 wp5 hxp5 hfp5
  have hbp5 : Below w.heap.size w wp5 := hbv4.trans (hfp5.w.below.mono hbv4.size)
  have tp1_5 := (hxp5 1 (by omega)).trans t14
  have tp2_5 := (hxp5 2 (by omega)).trans t24
  have tp3_5 := (hxp5 3 (by omega)).trans t34
  have tp10_5 := (hxp5 10 (by omega)).trans t104
  have tp16_5 := (hxp5 16 (by omega)).trans t164
  have hAp5 := hA4.below hfp5.w.below
  have hBp5 := hB4.below hfp5.w.below
  refine mid_call (vs := [.agg ⟨[nt 3, .string sS, tk 10]⟩, .agg ⟨[nt 1, nt 1, .string sX]⟩]) pokT rfl rfl (by kernel_rfl) hfp5 (by kernel_rfl) (by kernel_rfl) (R' := fun r w' => (∃ ao' cap', r = .returned (lg 3 sS ao' ((es1.take 30).length + 1) cap') ∧ LogS w' ao' cap' (es1.take 30 ++ [newE])) ∧ Below wp5.heap.size wp5 w') ?_ ?_
  · intro as' has
    obtain ⟨x0, _, rfl, k0, has⟩ := consV has
    obtain ⟨x1, _, rfl, k1, has⟩ := consV has
    cases nilV has
    cases lg3V tp10_5 k0
    cases newV k1
    exact add_any wp5 aA cA (es1.take 30) (Nat.lt_of_lt_of_le hw hbp5.size) hAp5 (List.length_take_le 30 es1)
  rintro e v5 ⟨⟨aC, cC, rfl, hCc⟩, hb5⟩
  refine ⟨_, rfl, ?_⟩
  have hbv5 : Below w.heap.size w v5 := hbp5.trans (hb5.mono hbp5.size)
  have hw5 : 0 < v5.heap.size := Nat.lt_of_lt_of_le hw hbv5.size
  have hfc5 := call_rel (m2 := 23) hfp5 hb5 (env := [(22, tokT (.slice aC ((es1.take 30).length + 1) cC))]) (all_cons ⟨Nat.le_of_ble_eq_true rfl, hw5⟩ <| all_nil) (by omega) (d := 29)
    (v := .agg ⟨[nt 3, .string sS, tk 22]⟩) (v' := lg 3 sS aC ((es1.take 30).length + 1) cC)
    (.agg (.cons (.flat rfl) (.cons (.flat rfl) (.cons (vT rfl rfl rfl) .nil))))
  have hfb5 := hfc5.based (os' := [(14, .cells [nt 3, .string sS, tk 10] 26 3 false .no true), (20, .cells [nt 3, .string sS, tk 16] 26 3 false .no true)]) (all_cons ⟨rfl, _, rfl, rfl⟩ <| all_cons ⟨rfl, _, rfl, rfl⟩ <| all_nil)
  have tc1_5 := (extR_ext (m := 22) (ρ := ρp5) (env := [(22, tokT (.slice aC ((es1.take 30).length + 1) cC))]) 1 (by omega)).trans tp1_5
  have tc2_5 := (extR_ext (m := 22) (ρ := ρp5) (env := [(22, tokT (.slice aC ((es1.take 30).length + 1) cC))]) 2 (by omega)).trans tp2_5
  have tc3_5 := (extR_ext (m := 22) (ρ := ρp5) (env := [(22, tokT (.slice aC ((es1.take 30).length + 1) cC))]) 3 (by omega)).trans tp3_5
  have tc10_5 := (extR_ext (m := 22) (ρ := ρp5) (env := [(22, tokT (.slice aC ((es1.take 30).length + 1) cC))]) 10 (by omega)).trans tp10_5
  have tc16_5 := (extR_ext (m := 22) (ρ := ρp5) (env := [(22, tokT (.slice aC ((es1.take 30).length + 1) cC))]) 16 (by omega)).trans tp16_5
  have tc22_5 : extR 22 ρp5 [(22, tokT (.slice aC ((es1.take 30).length + 1) cC))] 22 = some (tokT (.slice aC ((es1.take 30).length + 1) cC)) := rfl
  refine step_last pokT (hR v5) (hX v5) _ (l' := [(0, tk 1), (1, tk 2), (2, tk 3), (7, .pointer (some ⟨14, 0, none⟩)), (9, .pointer (some ⟨20, 0, none⟩)), (11, .pointer (some ⟨23, 0, none⟩))]) (os' := [(14, .cells [nt 3, .string sS, tk 10] 26 3 false .no true), (20, .cells [nt 3, .string sS, tk 16] 26 3 false .no true), (23, .cells [nt 3, .string sS, tk 22] 26 3 false .no false)]) (m' := 24) (by kernel_rfl) (hG _) hfb5 ?_
  clear hfp5 hfc5 hfb5 hf4
  intro ρ5 a5 w5 hx5 hf5
  have t15 := (hx5 1 (by omega)).trans tc1_5
  have t25 := (hx5 2 (by omega)).trans tc2_5
  have t35 := (hx5 3 (by omega)).trans tc3_5
  have t105 := (hx5 10 (by omega)).trans tc10_5
  have t165 := (hx5 16 (by omega)).trans tc16_5
  have t225 := (hx5 22 (by omega)).trans tc22_5
  have hA5 := hAp5.below hb5
  have hB5 := hBp5.below hb5
  have hC5 := hCc
  have hCl : (es1.take 30 ++ [newE]).length = (es1.take 30).length + 1 := by simp
  -- region 6
  refine wp_seq (region_lists (split_list 2 ?_))
  refine step_list pokT (hR v5) (hX v5) _ _ (l' := [(0, tk 1), (1, tk 2), (2, tk 3), (7, .pointer (some ⟨14, 0, none⟩)), (9, .pointer (some ⟨20, 0, none⟩)), (11, .pointer (some ⟨23, 0, none⟩)), (31, .agg ⟨[nt 3, .string sS, tk 22]⟩), (32, tk 3)]) (os' := [(14, .cells [nt 3, .string sS, tk 10] 26 3 false .no true), (20, .cells [nt 3, .string sS, tk 16] 26 3 false .no true), (23, .cells [nt 3, .string sS, tk 22] 26 3 false .no false)]) (m' := 24) (by kernel_rfl) (hG _) hf5 ?_
  intro ρp6 ap6 wp6 hxp6 hfp6
  have hbp6 : Below w.heap.size w wp6 := hbv5.trans (hfp6.w.below.mono hbv5.size)
  have tp1_6 := (hxp6 1 (by omega)).trans t15
  have tp2_6 := (hxp6 2 (by omega)).trans t25
  have tp3_6 := (hxp6 3 (by omega)).trans t35
  have tp10_6 := (hxp6 10 (by omega)).trans t105
  have tp16_6 := (hxp6 16 (by omega)).trans t165
  have tp22_6 := (hxp6 22 (by omega)).trans t225
  have hAp6 := hA5.below hfp6.w.below
  have hBp6 := hB5.below hfp6.w.below
  have hCp6 := hC5.below hfp6.w.below
  refine mid_call (vs := [.agg ⟨[nt 3, .string sS, tk 22]⟩, tk 3, .string sT1]) pokT rfl rfl (by kernel_rfl) hfp6 (by kernel_rfl) (by kernel_rfl) (R' := fun r w' => (∃ b s ao' cap' es' v, r = .returned (.tuple #[lg b s ao' es'.length cap', v]) ∧ LogAt w' ao' cap' es' ∧ 3 ≤ b ∧ b + es'.length = 3 + ((es1.take 30).length + 1) ∧ es' = (es1.take 30 ++ [newE]).drop (b - 3)) ∧ Below wp6.heap.size wp6 w') ?_ ?_
  · intro as' has
    obtain ⟨x0, _, rfl, k0, has⟩ := consV has
    obtain ⟨x1, _, rfl, k1, has⟩ := consV has
    obtain ⟨x2, _, rfl, k2, has⟩ := consV has
    cases nilV has
    cases lg3V tp22_6 k0
    cases tokV tp3_6 k1
    cases flat_eq (v := .string sT1) rfl k2
    have := cut_any wp6 aC cC (es1.take 30 ++ [newE]) op (Nat.lt_of_lt_of_le hw hbp6.size) hCp6 (by simp) (by simp; omega)
    rw [hCl] at this
    exact this
  rintro e v6 ⟨⟨b, s, aD, cD, esD, v, rfl, hDc, hb3le, hlenD, hesD⟩, hb6⟩
  refine ⟨_, rfl, ?_⟩
  have hbv6 : Below w.heap.size w v6 := hbp6.trans (hb6.mono hbp6.size)
  have hw6 : 0 < v6.heap.size := Nat.lt_of_lt_of_le hw hbv6.size
  have hfc6 := call_rel (m2 := 28) hfp6 hb6 (env := [(24, tokT (nt b)), (25, tokT (.string s)), (26, tokT (.slice aD esD.length cD)), (27, tokT (nt ((3 + ((es1.take 30).length + 1) : Nat) : Int)))]) (all_cons ⟨Nat.le_of_ble_eq_true rfl, hw6⟩ <| all_cons ⟨Nat.le_of_ble_eq_true rfl, hw6⟩ <| all_cons ⟨Nat.le_of_ble_eq_true rfl, hw6⟩ <| all_cons ⟨Nat.le_of_ble_eq_true rfl, hw6⟩ <| all_nil) (by omega) (d := 33)
    (v := .tuple ⟨[.agg ⟨[tk 24, tk 25, tk 26]⟩, hole]⟩) (v' := .tuple #[lg b s aD esD.length cD, v])
    (.tuple (.cons (.agg (.cons (vT rfl rfl rfl) (.cons (vT rfl rfl rfl) (.cons (vT rfl rfl rfl) .nil)))) (.cons .hole .nil)))
  have hfb6 := hfc6.based (os' := [(14, .cells [nt 3, .string sS, tk 10] 26 3 false .no true), (20, .cells [nt 3, .string sS, tk 16] 26 3 false .no true), (23, .cells [nt 3, .string sS, tk 22] 26 3 false .no true)]) (all_cons ⟨rfl, _, rfl, rfl⟩ <| all_cons ⟨rfl, _, rfl, rfl⟩ <| all_cons ⟨rfl, _, rfl, rfl⟩ <| all_nil)
  have tc1_6 := (extR_ext (m := 24) (ρ := ρp6) (env := [(24, tokT (nt b)), (25, tokT (.string s)), (26, tokT (.slice aD esD.length cD)), (27, tokT (nt ((3 + ((es1.take 30).length + 1) : Nat) : Int)))]) 1 (by omega)).trans tp1_6
  have tc2_6 := (extR_ext (m := 24) (ρ := ρp6) (env := [(24, tokT (nt b)), (25, tokT (.string s)), (26, tokT (.slice aD esD.length cD)), (27, tokT (nt ((3 + ((es1.take 30).length + 1) : Nat) : Int)))]) 2 (by omega)).trans tp2_6
  have tc3_6 := (extR_ext (m := 24) (ρ := ρp6) (env := [(24, tokT (nt b)), (25, tokT (.string s)), (26, tokT (.slice aD esD.length cD)), (27, tokT (nt ((3 + ((es1.take 30).length + 1) : Nat) : Int)))]) 3 (by omega)).trans tp3_6
  have tc10_6 := (extR_ext (m := 24) (ρ := ρp6) (env := [(24, tokT (nt b)), (25, tokT (.string s)), (26, tokT (.slice aD esD.length cD)), (27, tokT (nt ((3 + ((es1.take 30).length + 1) : Nat) : Int)))]) 10 (by omega)).trans tp10_6
  have tc16_6 := (extR_ext (m := 24) (ρ := ρp6) (env := [(24, tokT (nt b)), (25, tokT (.string s)), (26, tokT (.slice aD esD.length cD)), (27, tokT (nt ((3 + ((es1.take 30).length + 1) : Nat) : Int)))]) 16 (by omega)).trans tp16_6
  have tc22_6 := (extR_ext (m := 24) (ρ := ρp6) (env := [(24, tokT (nt b)), (25, tokT (.string s)), (26, tokT (.slice aD esD.length cD)), (27, tokT (nt ((3 + ((es1.take 30).length + 1) : Nat) : Int)))]) 22 (by omega)).trans tp22_6
  have tc24_6 : extR 24 ρp6 [(24, tokT (nt b)), (25, tokT (.string s)), (26, tokT (.slice aD esD.length cD)), (27, tokT (nt ((3 + ((es1.take 30).length + 1) : Nat) : Int)))] 24 = some (tokT (nt b)) := rfl
  have tc25_6 : extR 24 ρp6 [(24, tokT (nt b)), (25, tokT (.string s)), (26, tokT (.slice aD esD.length cD)), (27, tokT (nt ((3 + ((es1.take 30).length + 1) : Nat) : Int)))] 25 = some (tokT (.string s)) := rfl
  have tc26_6 : extR 24 ρp6 [(24, tokT (nt b)), (25, tokT (.string s)), (26, tokT (.slice aD esD.length cD)), (27, tokT (nt ((3 + ((es1.take 30).length + 1) : Nat) : Int)))] 26 = some (tokT (.slice aD esD.length cD)) := rfl
  have tc27_6 : extR 24 ρp6 [(24, tokT (nt b)), (25, tokT (.string s)), (26, tokT (.slice aD esD.length cD)), (27, tokT (nt ((3 + ((es1.take 30).length + 1) : Nat) : Int)))] 27 = some (tokT (nt ((3 + ((es1.take 30).length + 1) : Nat) : Int))) := rfl
  refine step_last pokT (hR v6) (hX v6) _ (l' := [(0, tk 1), (1, tk 2), (2, tk 3), (7, .pointer (some ⟨14, 0, none⟩)), (9, .pointer (some ⟨20, 0, none⟩)), (11, .pointer (some ⟨23, 0, none⟩)), (12, .pointer (some ⟨28, 0, none⟩))]) (os' := [(14, .cells [nt 3, .string sS, tk 10] 26 3 false .no true), (20, .cells [nt 3, .string sS, tk 16] 26 3 false .no true), (23, .cells [nt 3, .string sS, tk 22] 26 3 false .no true), (28, .cells [tk 24, tk 25, tk 26] 26 3 false .no false)]) (m' := 29) (by kernel_rfl) (hG _) hfb6 ?_
  clear hfp6 hfc6 hfb6 hf5
  intro ρ6 a6 w6 hx6 hf6
  have t16 := (hx6 1 (by omega)).trans tc1_6
  have t26 := (hx6 2 (by omega)).trans tc2_6
  have t36 := (hx6 3 (by omega)).trans tc3_6
  have t106 := (hx6 10 (by omega)).trans tc10_6
  have t166 := (hx6 16 (by omega)).trans tc16_6
  have t226 := (hx6 22 (by omega)).trans tc22_6
  have t246 := (hx6 24 (by omega)).trans tc24_6
  have t256 := (hx6 25 (by omega)).trans tc25_6
  have t266 := (hx6 26 (by omega)).trans tc26_6
  have t276 := (hx6 27 (by omega)).trans tc27_6
  have hA6 := hAp6.below hb6
  have hB6 := hBp6.below hb6
  have hC6 := hCp6.below hb6
  have hD6 := hDc
  -- region 7
  refine wp_seq (region_lists (split_list 2 ?_))
  refine step_list pokT (hR v6) (hX v6) _ _ (l' := [(0, tk 1), (1, tk 2), (2, tk 3), (7, .pointer (some ⟨14, 0, none⟩)), (9, .pointer (some ⟨20, 0, none⟩)), (11, .pointer (some ⟨23, 0, none⟩)), (12, .pointer (some ⟨28, 0, none⟩)), (36, .agg ⟨[nt 3, .string sS, tk 10]⟩), (37, .agg ⟨[tk 24, tk 25, tk 26]⟩)]) (os' := [(14, .cells [nt 3, .string sS, tk 10] 26 3 false .no true), (20, .cells [nt 3, .string sS, tk 16] 26 3 false .no true), (23, .cells [nt 3, .string sS, tk 22] 26 3 false .no true), (28, .cells [tk 24, tk 25, tk 26] 26 3 false .no false)]) (m' := 29) (by kernel_rfl) (hG _) hf6 ?_
  intro ρp7 ap7 wp7 hxp7 hfp7
  have hbp7 : Below w.heap.size w wp7 := hbv6.trans (hfp7.w.below.mono hbv6.size)
  have tp1_7 := (hxp7 1 (by omega)).trans t16
  have tp2_7 := (hxp7 2 (by omega)).trans t26
  have tp3_7 := (hxp7 3 (by omega)).trans t36
  have tp10_7 := (hxp7 10 (by omega)).trans t106
  have tp16_7 := (hxp7 16 (by omega)).trans t166
  have tp22_7 := (hxp7 22 (by omega)).trans t226
  have tp24_7 := (hxp7 24 (by omega)).trans t246
  have tp25_7 := (hxp7 25 (by omega)).trans t256
  have tp26_7 := (hxp7 26 (by omega)).trans t266
  have tp27_7 := (hxp7 27 (by omega)).trans t276
  have hAp7 := hA6.below hfp7.w.below
  have hBp7 := hB6.below hfp7.w.below
  have hCp7 := hC6.below hfp7.w.below
  have hDp7 := hD6.below hfp7.w.below
  refine mid_call (vs := [.agg ⟨[nt 3, .string sS, tk 10]⟩, .agg ⟨[tk 24, tk 25, tk 26]⟩]) pokT rfl rfl (by kernel_rfl) hfp7 (by kernel_rfl) (by kernel_rfl) (R' := fun r w' => r = .returned (lg b s aD esD.length cD) ∧ Below wp7.heap.size wp7 w') ?_ ?_
  · intro as' has
    obtain ⟨x0, _, rfl, k0, has⟩ := consV has
    obtain ⟨x1, _, rfl, k1, has⟩ := consV has
    cases nilV has
    cases lg3V tp10_7 k0
    cases lgDV tp24_7 tp25_7 tp26_7 k1
    exact merge_any wp7 sS s aA aD _ cA b _ cD (Nat.lt_of_lt_of_le hw hbp7.size) hb3le
  rintro e v7 ⟨rfl, hb7⟩
  refine ⟨_, rfl, ?_⟩
  have hbv7 : Below w.heap.size w v7 := hbp7.trans (hb7.mono hbp7.size)
  have hw7 : 0 < v7.heap.size := Nat.lt_of_lt_of_le hw hbv7.size
  have hfc7 := call_rel (m2 := 29) hfp7 hb7 (env := []) (all_nil) (by omega) (d := 38)
    (v := .agg ⟨[tk 24, tk 25, tk 26]⟩) (v' := lg b s aD esD.length cD)
    (.agg (.cons (vT ((extR_ext (m := 29) (ρ := ρp7) (env := []) 24 (by omega)).trans tp24_7) rfl rfl) (.cons (vT ((extR_ext (m := 29) (ρ := ρp7) (env := []) 25 (by omega)).trans tp25_7) rfl rfl) (.cons (vT ((extR_ext (m := 29) (ρ := ρp7) (env := []) 26 (by omega)).trans tp26_7) rfl rfl) .nil))))
  have hfb7 := hfc7.based (os' := [(14, .cells [nt 3, .string sS, tk 10] 26 3 false .no true), (20, .cells [nt 3, .string sS, tk 16] 26 3 false .no true), (23, .cells [nt 3, .string sS, tk 22] 26 3 false .no true), (28, .cells [tk 24, tk 25, tk 26] 26 3 false .no true)]) (all_cons ⟨rfl, _, rfl, rfl⟩ <| all_cons ⟨rfl, _, rfl, rfl⟩ <| all_cons ⟨rfl, _, rfl, rfl⟩ <| all_cons ⟨rfl, _, rfl, rfl⟩ <| all_nil)
  have tc1_7 := (extR_ext (m := 29) (ρ := ρp7) (env := []) 1 (by omega)).trans tp1_7
  have tc2_7 := (extR_ext (m := 29) (ρ := ρp7) (env := []) 2 (by omega)).trans tp2_7
  have tc3_7 := (extR_ext (m := 29) (ρ := ρp7) (env := []) 3 (by omega)).trans tp3_7
  have tc10_7 := (extR_ext (m := 29) (ρ := ρp7) (env := []) 10 (by omega)).trans tp10_7
  have tc16_7 := (extR_ext (m := 29) (ρ := ρp7) (env := []) 16 (by omega)).trans tp16_7
  have tc22_7 := (extR_ext (m := 29) (ρ := ρp7) (env := []) 22 (by omega)).trans tp22_7
  have tc24_7 := (extR_ext (m := 29) (ρ := ρp7) (env := []) 24 (by omega)).trans tp24_7
  have tc25_7 := (extR_ext (m := 29) (ρ := ρp7) (env := []) 25 (by omega)).trans tp25_7
  have tc26_7 := (extR_ext (m := 29) (ρ := ρp7) (env := []) 26 (by omega)).trans tp26_7
  have tc27_7 := (extR_ext (m := 29) (ρ := ρp7) (env := []) 27 (by omega)).trans tp27_7
  refine step_last pokT (hR v7) (hX v7) _ (l' := [(7, .pointer (some ⟨14, 0, none⟩)), (9, .pointer (some ⟨20, 0, none⟩)), (11, .pointer (some ⟨23, 0, none⟩)), (12, .pointer (some ⟨28, 0, none⟩)), (14, .pointer (some ⟨29, 0, none⟩))]) (os' := [(14, .cells [nt 3, .string sS, tk 10] 26 3 false .no true), (20, .cells [nt 3, .string sS, tk 16] 26 3 false .no true), (23, .cells [nt 3, .string sS, tk 22] 26 3 false .no true), (28, .cells [tk 24, tk 25, tk 26] 26 3 false .no true), (29, .cells [tk 24, tk 25, tk 26] 26 3 false .no false)]) (m' := 30) (by kernel_rfl) (hG _) hfb7 ?_
  clear hfp7 hfc7 hfb7 hf6
  intro ρ7 a7 w7 hx7 hf7
  have t17 := (hx7 1 (by omega)).trans tc1_7
  have t27 := (hx7 2 (by omega)).trans tc2_7
  have t37 := (hx7 3 (by omega)).trans tc3_7
  have t107 := (hx7 10 (by omega)).trans tc10_7
  have t167 := (hx7 16 (by omega)).trans tc16_7
  have t227 := (hx7 22 (by omega)).trans tc22_7
  have t247 := (hx7 24 (by omega)).trans tc24_7
  have t257 := (hx7 25 (by omega)).trans tc25_7
  have t267 := (hx7 26 (by omega)).trans tc26_7
  have t277 := (hx7 27 (by omega)).trans tc27_7
  have hA7 := hAp7.below hb7
  have hB7 := hBp7.below hb7
  have hC7 := hCp7.below hb7
  have hD7 := hDp7.below hb7
  have hb7w : Below w.heap.size w w7 := hbv7.trans (hf7.w.below.mono hbv7.size)
  have hw7w : 0 < w7.heap.size := Nat.lt_of_lt_of_le hw hb7w.size
  have rA := (hA7.below hf7.w.below).at.row
  have rB := (hB7.below hf7.w.below).at.row
  have rC := (hC7.below hf7.w.below).at.row
  have rD := (hD7.below hf7.w.below).row
  have hf8 := hf7.based (os' := [(14, .cells [nt 3, .string sS, tk 10] 26 3 false .no true), (20, .cells [nt 3, .string sS, tk 16] 26 3 false .no true), (23, .cells [nt 3, .string sS, tk 22] 26 3 false .no true), (28, .cells [tk 24, tk 25, tk 26] 26 3 false .no true), (29, .cells [tk 24, tk 25, tk 26] 26 3 false .no true)]) (all_cons ⟨rfl, _, rfl, rfl⟩ <| all_cons ⟨rfl, _, rfl, rfl⟩ <| all_cons ⟨rfl, _, rfl, rfl⟩ <| all_cons ⟨rfl, _, rfl, rfl⟩ <| all_cons ⟨rfl, _, rfl, rfl⟩ <| all_nil)
  obtain ⟨A, hAe⟩ : ∃ A, A = es1.take 30 := ⟨_, rfl⟩
  obtain ⟨B, hBe⟩ : ∃ B, B = es2.take 30 := ⟨_, rfl⟩
  have hAl : A.length ≤ 30 := by rw [hAe]; exact List.length_take_le 30 es1
  have hBl : B.length ≤ 30 := by rw [hBe]; exact List.length_take_le 30 es2
  rw [← hAe] at rA rC hesD hlenD t107 t227 t277 hCl
  rw [← hBe] at rB t167
  subst hesD
  obtain ⟨r, hr⟩ : ∃ r : Bool, r = true ↔ Same 3 A 3 B (max 3 3) (min (3 + A.length) (3 + B.length)) := by
    by_cases h : Same 3 A 3 B (max 3 3) (min (3 + A.length) (3 + B.length))
    · exact ⟨true, ⟨fun _ => h, fun _ => rfl⟩⟩
    · exact ⟨false, ⟨fun e => (by cases e), fun e => absurd e h⟩⟩
  have hr2 : r = true ↔ Same 3 B 3 A (max 3 3) (min (3 + B.length) (3 + A.length)) := by
    rw [hr, Nat.min_comm]
    exact ⟨Same.comm, Same.comm⟩
  have hG8 : GOk Tryz.prog ⟨0, [(.pin (tk 10), .slice aA A.length cA), (.pin (tk 16), .slice aB B.length cB), (.pin (tk 22), .slice aC (A.length + 1) cC), (.pin (tk 24), nt b), (.pin (tk 25), .string s), (.pin (tk 26), .slice aD ((A ++ [newE]).drop (b - 3)).length cD), (.pin (tk 27), nt ((3 + (A.length + 1) : Nat) : Int)), (.bin .eql 3 (tk 27) (tk 27), .bool true)]⟩ ρ7 := GOk.ofTab <| all_cons (fPin t107 rfl rfl) <| all_cons (fPin t167 rfl rfl) <| all_cons (fPin t227 rfl rfl) <| all_cons (fPin t247 rfl rfl) <| all_cons (fPin t257 rfl rfl) <| all_cons (fPin t267 rfl rfl) <| all_cons (fPin t277 rfl rfl) <|
    all_cons (fEq (sT t277 rfl) (sT t277 rfl) (by simp)) all_nil
  have iA : Is ⟨0, [(.pin (tk 10), .slice aA A.length cA), (.pin (tk 16), .slice aB B.length cB), (.pin (tk 22), .slice aC (A.length + 1) cC), (.pin (tk 24), nt b), (.pin (tk 25), .string s), (.pin (tk 26), .slice aD ((A ++ [newE]).drop (b - 3)).length cD), (.pin (tk 27), nt ((3 + (A.length + 1) : Nat) : Int)), (.bin .eql 3 (tk 27) (tk 27), .bool true)]⟩ (.agg ⟨[nt 3, .string sS, tk 10]⟩) (lg 3 sS aA A.length cA) := is3 (by simp)
  have iB : Is ⟨0, [(.pin (tk 10), .slice aA A.length cA), (.pin (tk 16), .slice aB B.length cB), (.pin (tk 22), .slice aC (A.length + 1) cC), (.pin (tk 24), nt b), (.pin (tk 25), .string s), (.pin (tk 26), .slice aD ((A ++ [newE]).drop (b - 3)).length cD), (.pin (tk 27), nt ((3 + (A.length + 1) : Nat) : Int)), (.bin .eql 3 (tk 27) (tk 27), .bool true)]⟩ (.agg ⟨[nt 3, .string sS, tk 16]⟩) (lg 3 sS aB B.length cB) := is3 (by simp)
  have iC : Is ⟨0, [(.pin (tk 10), .slice aA A.length cA), (.pin (tk 16), .slice aB B.length cB), (.pin (tk 22), .slice aC (A.length + 1) cC), (.pin (tk 24), nt b), (.pin (tk 25), .string s), (.pin (tk 26), .slice aD ((A ++ [newE]).drop (b - 3)).length cD), (.pin (tk 27), nt ((3 + (A.length + 1) : Nat) : Int)), (.bin .eql 3 (tk 27) (tk 27), .bool true)]⟩ (.agg ⟨[nt 3, .string sS, tk 22]⟩) (lg 3 sS aC (A.length + 1) cC) := is3 (by simp)
  have iD : Is ⟨0, [(.pin (tk 10), .slice aA A.length cA), (.pin (tk 16), .slice aB B.length cB), (.pin (tk 22), .slice aC (A.length + 1) cC), (.pin (tk 24), nt b), (.pin (tk 25), .string s), (.pin (tk 26), .slice aD ((A ++ [newE]).drop (b - 3)).length cD), (.pin (tk 27), nt ((3 + (A.length + 1) : Nat) : Int)), (.bin .eql 3 (tk 27) (tk 27), .bool true)]⟩ (.agg ⟨[tk 24, tk 25, tk 26]⟩) (lg b s aD ((A ++ [newE]).drop (b - 3)).length cD) := isD (by simp) (by simp) (by simp)
  have hT : ∀ e, e ∈ ([⟨9, [.agg ⟨[nt 3, .string sS, tk 10]⟩, .agg ⟨[nt 3, .string sS, tk 16]⟩], .bool r⟩, ⟨9, [.agg ⟨[nt 3, .string sS, tk 16]⟩, .agg ⟨[nt 3, .string sS, tk 10]⟩], .bool r⟩, ⟨9, [.agg ⟨[nt 3, .string sS, tk 10]⟩, .agg ⟨[nt 3, .string sS, tk 10]⟩], .bool true⟩, ⟨9, [.agg ⟨[nt 3, .string sS, tk 10]⟩, .agg ⟨[nt 3, .string sS, tk 22]⟩], .bool true⟩, ⟨9, [.agg ⟨[nt 3, .string sS, tk 22]⟩, .agg ⟨[tk 24, tk 25, tk 26]⟩], .bool true⟩, ⟨9, [.agg ⟨[nt 3, .string sS, tk 10]⟩, .agg ⟨[tk 24, tk 25, tk 26]⟩], .bool true⟩, ⟨9, [.agg ⟨[tk 24, tk 25, tk 26]⟩, .agg ⟨[nt 3, .string sS, tk 22]⟩], .bool true⟩, ⟨10, [.agg ⟨[nt 3, .string sS, tk 22]⟩], tk 27⟩, ⟨10, [.agg ⟨[tk 24, tk 25, tk 26]⟩], tk 27⟩] : List Cre.Told) → ToldOk Tryz.prog ⟨0, [(.pin (tk 10), .slice aA A.length cA), (.pin (tk 16), .slice aB B.length cB), (.pin (tk 22), .slice aC (A.length + 1) cC), (.pin (tk 24), nt b), (.pin (tk 25), .string s), (.pin (tk 26), .slice aD ((A ++ [newE]).drop (b - 3)).length cD), (.pin (tk 27), nt ((3 + (A.length + 1) : Nat) : Int)), (.bin .eql 3 (tk 27) (tk 27), .bool true)]⟩ w7.heap.size w7 e := by
    refine all_cons ?_ <| all_cons ?_ <| all_cons ?_ <| all_cons ?_ <| all_cons ?_ <| all_cons ?_ <| all_cons ?_ <| all_cons ?_ <| all_cons ?_ all_nil
    · exact toldAgree rfl hw7w iA iB rfl rfl (by omega) (by omega) rA rB hr
    · exact toldAgree rfl hw7w iB iA rfl rfl (by omega) (by omega) rB rA hr2
    · exact toldAgree rfl hw7w iA iA rfl rfl (by omega) (by omega) rA rA ⟨fun _ => same_refl _ _ _ _, fun _ => rfl⟩
    · refine toldAgree rfl hw7w iA iC rfl hCl.symm (by omega) (by omega) rA rC ⟨fun _ => ?_, fun _ => rfl⟩
      exact same_add A newE _ (by omega)
    · refine toldAgree rfl hw7w iC iD hCl.symm rfl (by omega) (by omega) rC rD ⟨fun _ => ?_, fun _ => rfl⟩
      rw [Nat.max_eq_right hb3le]
      exact same_cut _ b _ hb3le
    · refine toldAgree rfl hw7w iA iD rfl rfl (by omega) (by omega) rA rD ⟨fun _ => ?_, fun _ => rfl⟩
      rw [Nat.max_eq_right hb3le]
      exact same_addcut A newE b _ hb3le (by omega)
    · refine toldAgree rfl hw7w iD iC rfl hCl.symm (by omega) (by omega) rD rC ⟨fun _ => ?_, fun _ => rfl⟩
      rw [Nat.max_eq_left hb3le]
      exact (same_cut _ b _ hb3le).comm
    · exact toldOp2 iC (by omega) rfl (by simp)
    · exact toldOp2 iD (by omega) (by rw [hlenD]) (by simp)
  have fin : ∀ (ρ' : Ren) (a' : Act) (w' : World), FrRel w7.heap.size w7 ρ' (St 85 [(6, .bool true)] [] 30) a' w' → bodyPost Tryz.prog Tryz.f3 (fun e w' => e = .returned (.bool true) ∧ Below w.heap.size w w') .ret a' w' := by
    intro ρ' a' w' hf
    refine bodyPost_ret (results_tmp rfl _ _ _) (dlV hf.ds) ⟨?_, hb7w.trans (hf.w.below.mono hb7w.size)⟩
    rw [getD_tl, boolV (hf.ts.live (i := 6) rfl)]
  cases r with
  | true => exact step_run (RT_ok hT) (n := 85) (l' := [(6, .bool true)]) (os' := []) (m' := 30) (e := .ret) (by kernel_rfl) hG8 hf8 fun ρ' a' w' _ hf => fin ρ' a' w' hf
  | false => exact step_run (RT_ok hT) (n := 85) (l' := [(6, .bool true)]) (os' := []) (m' := 30) (e := .ret) (by kernel_rfl) hG8 hf8 fun ρ' a' w' _ hf => fin ρ' a' w' hf
end
end Go.Proofs.YtljejfiecaihfaaGreatDoor
