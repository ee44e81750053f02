/- oplog: do two logs agree; for all logs, in whatever world. -/
import Derived.Test.YtljejfiecaihfaaGreatDoorOG
namespace Go.Proofs.YtljejfiecaihfaaGreatDoor
open Go Go.RowKit Go.Cre
set_option maxRecDepth 1000000
noncomputable section
def Same (b1 : Nat) (es1 : List Ent) (b2 : Nat) (es2 : List Ent) (lo hi : Nat) : Prop := ∀ i, lo ≤ i → i < hi → es1[i - b1]? = es2[i - b2]?
theorem pokT : POk Tryz.prog := POk.of (by kernel_rfl)
def xT (ts : List Cre.Told) : Known := withTold (mkKnown [] [] [] []) ts
def RT (G : Gl) (ts : List Cre.Told) : Rec := run (xT ts) (drawnB (xT ts) Tryz.prog G) Tryz.prog G 200
theorem RT_ok {G : Gl} {B : Nat} {w0 : World} {ts : List Cre.Told} (h : ∀ e, e ∈ ts → ToldOk Tryz.prog G B w0 e) : RecOk Tryz.prog G B w0 (RT G ts) :=
  runsB_at pokT (withTold_ok (mkKnown_ok (fun g hg => by cases hg) (fun g hg => by cases hg) (fun p hp => by cases hp) B w0) h) 200

/-- The loop's state. -/
def AgI (w : World) (b1 : Nat) (s1 : ByteArray) (a1 : Option Addr) (n1 c1 : Nat) (b2 : Nat) (s2 : ByteArray) (a2 : Option Addr) (n2 c2 : Nat) (k : Nat) (a : Act) (wr : World) : Prop :=
  ∃ ta tb : Tgt, ta.sz = 3 ∧ tb.sz = 3 ∧ ta.blk ≠ tb.blk ∧ RowIn wr ta [nt b1, .string s1, .slice a1 n1 c1] 26 ∧ RowIn wr tb [nt b2, .string s2, .slice a2 n2 c2] 26 ∧
    Below w.heap.size w wr ∧ a.tmps.toList.length = 40 ∧ a.defers = [] ∧ a.tmps.toList.getD 2 undef = .pointer (some ⟨ta.blk, ta.off, none⟩) ∧
    a.tmps.toList.getD 3 undef = .pointer (some ⟨tb.blk, tb.off, none⟩) ∧ a.tmps.toList.getD 5 undef = nt ((k + 1 : Nat) : Int)

def agEnv (ta tb : Tgt) (b1 : Nat) (s1 : ByteArray) (a1 : Option Addr) (n1 c1 : Nat) (b2 : Nat) (s2 : ByteArray) (a2 : Option Addr) (n2 c2 k : Nat) : List (Nat × Tgt) :=
  [(0, ta), (1, tb), (17, tokT (nt b1)), (2, tokT (.string s1)), (3, tokT (.slice a1 n1 c1)), (18, tokT (nt b2)), (4, tokT (.string s2)), (5, tokT (.slice a2 n2 c2)),
   (6, tokT (nt ((k + 1 : Nat) : Int))), (7, tokT (nt ((b1 + n1 : Nat) : Int))), (8, tokT (nt ((b2 + n2 : Nat) : Int))), (9, tokT (nt ((min (b1 + n1) (b2 + n2) : Nat) : Int)))]
def agTab (b1 : Nat) (s1 : ByteArray) (a1 : Option Addr) (n1 c1 : Nat) (b2 : Nat) (s2 : ByteArray) (a2 : Option Addr) (n2 c2 k : Nat) (r : Bool) : List (TKey × Value) :=
  [(.pin (tk 17), nt b1), (.pin (tk 2), .string s1), (.pin (tk 3), .slice a1 n1 c1), (.pin (tk 18), nt b2), (.pin (tk 4), .string s2), (.pin (tk 5), .slice a2 n2 c2),
   (.pin (tk 6), nt ((k + 1 : Nat) : Int)), (.pin (tk 7), nt ((b1 + n1 : Nat) : Int)), (.pin (tk 8), nt ((b2 + n2 : Nat) : Int)),
   (.two .min 3 (tk 7) (tk 8), tk 9), (.bin .leq 3 (tk 6) (tk 9), .bool r)]
def agTold : List Cre.Told := [⟨10, [.agg ⟨[tk 17, tk 2, tk 3]⟩], tk 7⟩, ⟨10, [.agg ⟨[tk 18, tk 4, tk 5]⟩], tk 8⟩]
def agObjs : List (Nat × AObj) := [(0, .cells [tk 17, tk 2, tk 3] 26 3 true .any true), (1, .cells [tk 18, tk 4, tk 5] 26 3 true .any true)]
def agExt (x1 x2 : Ent) (k : Nat) : List (Nat × Tgt) := [(10, tokT (nt x1.c)), (11, tokT (nt x1.k)), (12, tokT (.string x1.t)), (13, tokT (nt x2.c)), (14, tokT (nt x2.k)), (15, tokT (.string x2.t)), (16, tokT (nt ((k + 2 : Nat) : Int)))]
def agTab2 (x1 x2 : Ent) (r : Bool) : List (TKey × Value) :=
  [(.pin (tk 10), nt x1.c), (.pin (tk 11), nt x1.k), (.pin (tk 12), .string x1.t), (.pin (tk 13), nt x2.c), (.pin (tk 14), nt x2.k), (.pin (tk 15), .string x2.t),
   (.bin .neq 34 (.agg ⟨[tk 10, tk 11, tk 12]⟩) (.agg ⟨[tk 13, tk 14, tk 15]⟩), .bool r), (.bin .add 3 (tk 6) (nt 1), tk 16)]
def agTold2 : List Cre.Told := [⟨16, [.agg ⟨[tk 17, tk 2, tk 3]⟩, tk 6], .tuple ⟨[.agg ⟨[tk 10, tk 11, tk 12]⟩, .bool true]⟩⟩, ⟨16, [.agg ⟨[tk 18, tk 4, tk 5]⟩, tk 6], .tuple ⟨[.agg ⟨[tk 13, tk 14, tk 15]⟩, .bool true]⟩⟩]
section
variable {w wr : World} {ta tb : Tgt} {b1 : Nat} {s1 : ByteArray} {a1 : Option Addr} {n1 c1 : Nat} {b2 : Nat} {s2 : ByteArray} {a2 : Option Addr} {n2 c2 k : Nat}
theorem agFacts {ext : List (Nat × Tgt)} {r : Bool} (_ : b1 + n1 ≤ 9223372036854775806) (_ : b2 + n2 ≤ 9223372036854775806) (hr : decide (k + 1 ≤ min (b1 + n1) (b2 + n2)) = r)
    (he : ∀ j, j < 10 ∨ j = 17 ∨ j = 18 → lookE (ext ++ agEnv ta tb b1 s1 a1 n1 c1 b2 s2 a2 n2 c2 k) j = lookE (agEnv ta tb b1 s1 a1 n1 c1 b2 s2 a2 n2 c2 k) j) :
    ∀ e, e ∈ agTab b1 s1 a1 n1 c1 b2 s2 a2 n2 c2 k r → Fact Tryz.prog (lookE (ext ++ agEnv ta tb b1 s1 a1 n1 c1 b2 s2 a2 n2 c2 k)) e := by
  have q6 := (he 6 (by omega)).trans rfl
  have q7 := (he 7 (by omega)).trans rfl
  have q8 := (he 8 (by omega)).trans rfl
  have q9 := (he 9 (by omega)).trans rfl
  refine all_cons (fPin ((he 17 (by omega)).trans rfl) rfl rfl) <| all_cons (fPin ((he 2 (by omega)).trans rfl) rfl rfl) <| all_cons (fPin ((he 3 (by omega)).trans rfl) rfl rfl) <|
    all_cons (fPin ((he 18 (by omega)).trans rfl) rfl rfl) <| all_cons (fPin ((he 4 (by omega)).trans rfl) rfl rfl) <| all_cons (fPin ((he 5 (by omega)).trans rfl) rfl rfl) <|
    all_cons (fPin q6 rfl rfl) <| all_cons (fPin q7 rfl rfl) <| all_cons (fPin q8 rfl rfl) <|
    all_cons (fMin (sT q7 rfl) (sT q8 rfl) (vT q9 rfl rfl) (ntE (by omega))) <| all_cons (fLeq (sT q6 rfl) (sT q9 rfl) ?_) all_nil
  rw [← hr]
  exact decide_eq_decide.2 (by omega)
theorem agFr {ext : List (Nat × Tgt)} {a : Act} (he : ∀ j, j < 10 ∨ j = 17 ∨ j = 18 → lookE (ext ++ agEnv ta tb b1 s1 a1 n1 c1 b2 s2 a2 n2 c2 k) j = lookE (agEnv ta tb b1 s1 a1 n1 c1 b2 s2 a2 n2 c2 k) j) (hx : ∀ p, p ∈ ext → p.2.blk = 0 ∧ p.1 < 30)
    (sa : ta.sz = 3) (sb : tb.sz = 3) (hne : ta.blk ≠ tb.blk) (ra : RowIn wr ta [nt b1, .string s1, .slice a1 n1 c1] 26) (rb : RowIn wr tb [nt b2, .string s2, .slice a2 n2 c2] 26)
    (hlen : a.tmps.toList.length = 40) (hdef : a.defers = []) (e2 : a.tmps.toList.getD 2 undef = .pointer (some ⟨ta.blk, ta.off, none⟩)) (e3 : a.tmps.toList.getD 3 undef = .pointer (some ⟨tb.blk, tb.off, none⟩)) (e5 : a.tmps.toList.getD 5 undef = nt ((k + 1 : Nat) : Int)) :
    FrRel wr.heap.size wr (lookE (ext ++ agEnv ta tb b1 s1 a1 n1 c1 b2 s2 a2 n2 c2 k)) (St 40 [(2, .pointer (some ⟨0, 0, none⟩)), (3, .pointer (some ⟨1, 0, none⟩)), (5, tk 6)] agObjs 30) a wr := by
  have q0 := (he 0 (by omega)).trans rfl
  have q1 := (he 1 (by omega)).trans rfl
  refine ⟨live_rel hlen (all_cons ?_ <| all_cons ?_ <| all_cons ?_ all_nil), by rw [hdef]; exact .nil, startE ?_ (all_cons ⟨Nat.le_of_ble_eq_true rfl, rfl, ?_⟩ <| all_cons ⟨Nat.le_of_ble_eq_true rfl, rfl, ?_⟩ all_nil) ?_⟩
  · show VRel _ _ (a.tmps.toList.getD 2 undef)
    rw [e2]; exact .ptr (o := 0) q0
  · show VRel _ _ (a.tmps.toList.getD 3 undef)
    rw [e3]; exact .ptr (o := 0) q1
  · show VRel _ _ (a.tmps.toList.getD 5 undef)
    rw [e5]; exact vT ((he 6 (by omega)).trans rfl) rfl rfl
  · intro p hp
    rcases List.mem_append.1 hp with hp | hp
    · have := hx p hp
      have h0 := ra.1
      exact ⟨by omega, this.2⟩
    · have h0 := ra.1
      simp only [agEnv, List.mem_cons, List.not_mem_nil, or_false] at hp
      rcases hp with rfl | rfl | hp
      · exact ⟨h0, Nat.le_of_ble_eq_true rfl⟩
      · exact ⟨rb.1, Nat.le_of_ble_eq_true rfl⟩
      · have h00 : 0 < wr.heap.size := by omega
        rcases hp with rfl | rfl | rfl | rfl | rfl | rfl | rfl | rfl | rfl | rfl <;> exact ⟨h00, Nat.le_of_ble_eq_true rfl⟩
  · intro t ht
    have ht : lookE (ext ++ agEnv ta tb b1 s1 a1 n1 c1 b2 s2 a2 n2 c2 k) 0 = some t := ht
    rw [q0] at ht
    cases ht
    have := ra.orel (ρ := lookE (ext ++ agEnv ta tb b1 s1 a1 n1 c1 b2 s2 a2 n2 c2 k)) (.cons (vT ((he 17 (by omega)).trans rfl) rfl rfl) (.cons (vT ((he 2 (by omega)).trans rfl) rfl rfl) (.cons (vT ((he 3 (by omega)).trans rfl) rfl rfl) .nil)))
    rw [sa] at this
    exact this
  · intro t ht
    have ht : lookE (ext ++ agEnv ta tb b1 s1 a1 n1 c1 b2 s2 a2 n2 c2 k) 1 = some t := ht
    rw [q1] at ht
    cases ht
    have := rb.orel (ρ := lookE (ext ++ agEnv ta tb b1 s1 a1 n1 c1 b2 s2 a2 n2 c2 k)) (.cons (vT ((he 18 (by omega)).trans rfl) rfl rfl) (.cons (vT ((he 4 (by omega)).trans rfl) rfl rfl) (.cons (vT ((he 5 (by omega)).trans rfl) rfl rfl) .nil)))
    rw [sb] at this
    exact this
  · intro p hp q hq t u ht hu htu
    simp only [agObjs, List.mem_cons, List.not_mem_nil, or_false] at hp hq
    rcases hp with rfl | rfl <;> rcases hq with rfl | rfl
    · rfl
    · have ht := q0.symm.trans ht; have hu := q1.symm.trans hu
      cases ht; cases hu
      exact absurd htu hne
    · have ht := q1.symm.trans ht; have hu := q0.symm.trans hu
      cases ht; cases hu
      exact absurd htu.symm hne
    · rfl
end
theorem agree_any (w : World) (b1 b2 : Nat) (s1 s2 : ByteArray) (a1 a2 : Option Addr) (es1 es2 : List Ent) (c1 c2 : Nat) (hw : 0 < w.heap.size) (h1 : b1 + es1.length ≤ 9223372036854775806) (h2 : b2 + es2.length ≤ 9223372036854775806)
    (r1 : RowAt w a1 es1) (r2 : RowAt w a2 es2) :
    Calls Tryz.prog 9 #[lg b1 s1 a1 es1.length c1, lg b2 s2 a2 es2.length c2] w fun e w' =>
      (∃ r, e = .returned (.bool r) ∧ (r = true ↔ Same b1 es1 b2 es2 (max b1 b2) (min (b1 + es1.length) (b2 + es2.length)))) ∧ Below w.heap.size w w' := by
  go_enter Tryz.func9, Tryz.ntmps9
  refine wp_seq ?_
  let env : List (Nat × Tgt) := [(17, tokT (nt b1)), (2, tokT (.string s1)), (3, tokT (.slice a1 es1.length c1)), (18, tokT (nt b2)), (4, tokT (.string s2)), (5, tokT (.slice a2 es2.length c2)), (19, tokT (nt ((max b1 b2 : Nat) : Int))), (6, tokT (nt ((max b1 b2 + 1 : Nat) : Int)))]
  let G : Gl := ⟨0, [(.two .max 3 (tk 17) (tk 18), tk 19), (.bin .add 3 (tk 19) (nt 1), tk 6)]⟩
  have hR : RecOk Tryz.prog G w.heap.size w (RT G []) := RT_ok all_nil
  have hG : GOk Tryz.prog G (lookE env) := GOk.ofTab <|
    all_cons (fMax (a := b1) (b := b2) (sT rfl rfl) (sT rfl rfl) (vT (t := tokT (nt ((max b1 b2 : Nat) : Int))) rfl rfl rfl) (ntE (by omega))) <|
    all_cons (fAdd (a := ((max b1 b2 : Nat) : Int)) (b := 1) (sT rfl rfl) sN (vT (t := tokT (nt ((max b1 b2 + 1 : Nat) : Int))) rfl rfl rfl) (ntE (by rw [IntWalk.i64_in _ (by omega)]; omega))) all_nil
  refine step_run hR (n := 40) (l := [(0, .agg ⟨[tk 17, tk 2, tk 3]⟩), (1, .agg ⟨[tk 18, tk 4, tk 5]⟩)]) (os := []) (m := 30) (l' := [(2, .pointer (some ⟨30, 0, none⟩)), (3, .pointer (some ⟨31, 0, none⟩))]) (os' := [(30, .cells [tk 17, tk 2, tk 3] 26 3 false .no false), (31, .cells [tk 18, tk 4, tk 5] 26 3 false .no false)]) (m' := 32) (e := .normal) (by kernel_rfl) hG ?hS ?_
  case hS =>
    refine ⟨live_rel rfl (all_cons ?_ (all_cons ?_ all_nil)), .nil, startE ?_ all_nil all_nil⟩
    · exact .agg (.cons (vT rfl rfl rfl) (.cons (vT rfl rfl rfl) (.cons (vT rfl rfl rfl) .nil)))
    · exact .agg (.cons (vT rfl rfl rfl) (.cons (vT rfl rfl rfl) (.cons (vT rfl rfl rfl) .nil)))
    · intro p hp
      simp only [env, List.mem_cons, List.not_mem_nil, or_false] at hp
      rcases hp with rfl | rfl | rfl | rfl | rfl | rfl | rfl | rfl <;> exact ⟨hw, Nat.le_of_ble_eq_true rfl⟩
  intro ρ1 a1' w1 hx1 hf1
  show Code.wp _ _ _ _ _
  refine wp_seq (wp_seq ?_)
  have hG1 : GOk Tryz.prog G ρ1 := hG.mono fun b t hb => by
    have := (lookE_mem hb)
    rw [hx1 b ?_]
    · exact hb
    · simp only [env, List.mem_cons, Prod.mk.injEq, List.not_mem_nil, or_false] at this
      omega
  refine step_run hR (l' := [(2, .pointer (some ⟨30, 0, none⟩)), (3, .pointer (some ⟨31, 0, none⟩)), (5, tk 6)]) (os' := [(30, .cells [tk 17, tk 2, tk 3] 26 3 false .no false), (31, .cells [tk 18, tk 4, tk 5] 26 3 false .no false)]) (m' := 32) (e := .normal) (by kernel_rfl) hG1 hf1 ?_
  clear hf1
  intro ρ2 a2' w2 hx2 hf2
  show Code.wp _ _ _ _ _
  have hI : AgI w b1 s1 a1 es1.length c1 b2 s2 a2 es2.length c2 (max b1 b2) a2' w2 := by
    have hv : ∀ k t, lookE env k = some t → ρ2 k = some t := fun k t hb => by
      have := (lookE_mem hb)
      have hk : k < 30 := by
        simp only [env, List.mem_cons, Prod.mk.injEq, List.not_mem_nil, or_false] at this
        omega
      rw [hx2 k (by omega), hx1 k hk]
      exact hb
    obtain ⟨ta, hta, ea⟩ := ptrV (hf2.ts.live (i := 2) rfl)
    obtain ⟨tb, htb, eb⟩ := ptrV (hf2.ts.live (i := 3) rfl)
    obtain ⟨va, la, ra, sa⟩ := hf2.w.rowIn (b := 30) (by rfl) hta
    obtain ⟨vb, lb, rb, sb⟩ := hf2.w.rowIn (b := 31) (by rfl) htb
    obtain ⟨v0, _, rfl, x0, la⟩ := consV la
    obtain ⟨v1, _, rfl, x1, la⟩ := consV la
    obtain ⟨v2, _, rfl, x2, la⟩ := consV la
    cases nilV la
    obtain ⟨u0, _, rfl, y0, lb⟩ := consV lb
    obtain ⟨u1, _, rfl, y1, lb⟩ := consV lb
    obtain ⟨u2, _, rfl, y2, lb⟩ := consV lb
    cases nilV lb
    cases tokV (hv 17 _ rfl) x0
    cases tokV (hv 2 _ rfl) x1
    cases tokV (hv 3 _ rfl) x2
    cases tokV (hv 18 _ rfl) y0
    cases tokV (hv 4 _ rfl) y1
    cases tokV (hv 5 _ rfl) y2
    refine ⟨ta, tb, sa, sb, fun e => ?_, ra, rb, hf2.w.below, ?_, ?_, ea, eb, ?_⟩
    · exact absurd (hf2.w.inj 30 31 _ _ ta tb (by rfl) (by rfl) hta htb e) (by decide)
    · have := hf2.ts.length
      rw [this]
      rfl
    · exact dlV hf2.ds
    · exact tokV (hv 6 _ rfl) (hf2.ts.live (i := 5) rfl)
  clear hf2 hx2 hx1 hG1 hG hR
  clear_value env G
  refine wp_block ?_
  refine wp_loop (fun a' w' => ∃ k, max b1 b2 ≤ k ∧ (k ≤ min (b1 + es1.length) (b2 + es2.length) ∨ k = max b1 b2) ∧ Same b1 es1 b2 es2 (max b1 b2) k ∧ AgI w b1 s1 a1 es1.length c1 b2 s2 a2 es2.length c2 k a' w')
    (fun a' _ => min (b1 + es1.length) (b2 + es2.length) + 1 - (intOf (a'.tmps.toList.getD 5 undef)).toNat) ⟨_, Nat.le_refl _, .inr rfl, fun i h h' => by omega, hI⟩ ?_
  clear hI
  rintro a w1 ⟨k, hk1, hk2, hs, ta, tb, sa, sb, hne, ra, rb, hbel, hlen, hdef, e2, e3, e5⟩
  by_cases hlt : k < min (b1 + es1.length) (b2 + es2.length)
  · obtain ⟨x1, hx1⟩ : ∃ x1, es1[k - b1]? = some x1 := ⟨_, List.getElem?_eq_getElem (by omega)⟩
    obtain ⟨x2, hx2⟩ : ∃ x2, es2[k - b2]? = some x2 := ⟨_, List.getElem?_eq_getElem (by omega)⟩
    have hxe : ∀ j, j < 10 ∨ j = 17 ∨ j = 18 → lookE (agExt x1 x2 k ++ agEnv ta tb b1 s1 a1 es1.length c1 b2 s2 a2 es2.length c2 k) j = lookE (agEnv ta tb b1 s1 a1 es1.length c1 b2 s2 a2 es2.length c2 k) j := by
      intro j hj
      simp only [agExt, List.cons_append, List.nil_append, lookE]
      rw [if_neg (by omega), if_neg (by omega), if_neg (by omega), if_neg (by omega), if_neg (by omega), if_neg (by omega), if_neg (by omega)]
    have hS := agFr (ext := agExt x1 x2 k) hxe (fun p hp => by
      simp only [agExt, List.mem_cons, List.not_mem_nil, or_false] at hp
      rcases hp with rfl | rfl | rfl | rfl | rfl | rfl | rfl <;> exact ⟨rfl, Nat.le_of_ble_eq_true rfl⟩) sa sb hne ra rb hlen hdef e2 e3 e5
    have hF := agFacts (ext := agExt x1 x2 k) (ta := ta) (tb := tb) (s1 := s1) (a1 := a1) (c1 := c1) (s2 := s2) (a2 := a2) (c2 := c2) h1 h2 (r := true) (by simp only [decide_eq_true_eq]; omega) hxe
    have hF2 : ∀ r : Bool, (r = true ↔ ¬ x1 = x2) → ∀ e, e ∈ agTab2 x1 x2 r ++ agTab b1 s1 a1 es1.length c1 b2 s2 a2 es2.length c2 k true → Fact Tryz.prog (lookE (agExt x1 x2 k ++ agEnv ta tb b1 s1 a1 es1.length c1 b2 s2 a2 es2.length c2 k)) e := by
      intro r hr e he
      rcases List.mem_append.1 he with he | he
      · have h0 : ∀ e, e ∈ agTab2 x1 x2 r → Fact Tryz.prog (lookE (agExt x1 x2 k ++ agEnv ta tb b1 s1 a1 es1.length c1 b2 s2 a2 es2.length c2 k)) e :=
          all_cons (fPin rfl rfl rfl) <| all_cons (fPin rfl rfl rfl) <| all_cons (fPin rfl rfl rfl) <| all_cons (fPin rfl rfl rfl) <| all_cons (fPin rfl rfl rfl) <| all_cons (fPin rfl rfl rfl) <|
          all_cons (neqE (e1 := x1) (e2 := x2) (sA3 (sT0 rfl rfl) (sT0 rfl rfl) (sT0 rfl rfl)) (sA3 (sT0 rfl rfl) (sT0 rfl rfl) (sT0 rfl rfl)) hr) <|
          all_cons (fAdd (a := ((k + 1 : Nat) : Int)) (b := 1) (sT rfl rfl) sN (vT (t := tokT (nt ((k + 2 : Nat) : Int))) rfl rfl rfl) (ntE (by rw [IntWalk.i64_in _ (by omega)]; omega))) all_nil
        exact h0 e he
      · exact hF e he
    have hT : ∀ r : Bool, ∀ e, e ∈ agTold2 ++ agTold → ToldOk Tryz.prog ⟨0, agTab2 x1 x2 r ++ agTab b1 s1 a1 es1.length c1 b2 s2 a2 es2.length c2 k true⟩ w1.heap.size w1 e := by
      intro r
      refine all_cons ?_ <| all_cons ?_ <| all_cons ?_ <| all_cons ?_ all_nil
      · exact toldAt (b := b1) (s := s1) (ao := a1) (es := es1) (n := es1.length) (cap := c1) (j := k - b1) (z := ((k + 1 : Nat) : Int)) (e := x1) rfl rfl (by omega) (by omega) (r1.below hbel) hx1 (by simp [agTab]) (by simp [agTab]) (by simp [agTab]) (by simp [agTab]) (by simp [agTab2]) (by simp [agTab2]) (by simp [agTab2])
      · exact toldAt (b := b2) (s := s2) (ao := a2) (es := es2) (n := es2.length) (cap := c2) (j := k - b2) (z := ((k + 1 : Nat) : Int)) (e := x2) rfl rfl (by omega) (by omega) (r2.below hbel) hx2 (by simp [agTab]) (by simp [agTab]) (by simp [agTab]) (by simp [agTab]) (by simp [agTab2]) (by simp [agTab2]) (by simp [agTab2])
      · exact toldOp (b := b1) (s := s1) (ao := a1) (n := es1.length) (cap := c1) (by omega) (by simp [agTab]) (by simp [agTab]) (by simp [agTab]) (by simp [agTab])
      · exact toldOp (b := b2) (s := s2) (ao := a2) (n := es2.length) (cap := c2) (by omega) (by simp [agTab]) (by simp [agTab]) (by simp [agTab]) (by simp [agTab])
    by_cases hx : x1 = x2
    · refine step_run (G := ⟨0, agTab2 x1 x2 false ++ agTab b1 s1 a1 es1.length c1 b2 s2 a2 es2.length c2 k true⟩) (RT_ok (ts := agTold2 ++ agTold) (hT false)) (n := 40) (l' := [(2, .pointer (some ⟨0, 0, none⟩)), (3, .pointer (some ⟨1, 0, none⟩)), (5, tk 16)]) (os' := []) (m' := 32) (e := .normal) (by kernel_rfl) (GOk.ofTab (hF2 false (by simp [hx]))) hS ?_
      intro ρ' a' w' hext hf
      have hb' := hf.w.below
      have hv : ∀ j t, lookE (agExt x1 x2 k ++ agEnv ta tb b1 s1 a1 es1.length c1 b2 s2 a2 es2.length c2 k) j = some t → j < 30 → ρ' j = some t := fun j t h hj => (hext j hj).trans h
      have e5' := tokV (hv 16 _ rfl (by omega)) (hf.ts.live (i := 5) rfl)
      refine ⟨⟨k + 1, by omega, .inl (by omega), fun i hi1 hi2 => ?_, ta, tb, sa, sb, hne, ra.below hb', rb.below hb', hbel.trans (hb'.mono hbel.size), ?_, dlV hf.ds, ?_, ?_, e5'⟩, ?_⟩
      · by_cases e : i < k
        · exact hs i hi1 e
        · have : i = k := by omega
          subst this
          rw [hx1, hx2, hx]
      · have := hf.ts.length
        rw [this]
        rfl
      · obtain ⟨t, ht, he⟩ := ptrV (hf.ts.live (i := 2) rfl)
        rw [hv 0 ta rfl (by omega)] at ht
        cases ht
        exact he
      · obtain ⟨t, ht, he⟩ := ptrV (hf.ts.live (i := 3) rfl)
        rw [hv 1 tb rfl (by omega)] at ht
        cases ht
        exact he
      · rw [e5', e5]
        simp only [tokT, intOf]
        omega
    · refine step_run (G := ⟨0, agTab2 x1 x2 true ++ agTab b1 s1 a1 es1.length c1 b2 s2 a2 es2.length c2 k true⟩) (RT_ok (ts := agTold2 ++ agTold) (hT true)) (n := 40) (l' := [(4, .bool false)]) (os' := []) (m' := 32) (e := .ret) (by kernel_rfl) (GOk.ofTab (hF2 true (by simp [hx]))) hS ?_
      intro ρ' a' w' hext hf
      have hb' := hf.w.below
      simp only [AExit.to, Exit.then, Exit.inBlock]
      refine bodyPost_ret (results_tmp rfl _ _ _) (dlV hf.ds) ⟨⟨false, ?_, ?_⟩, hbel.trans (hb'.mono hbel.size)⟩
      · rw [getD_tl, boolV (hf.ts.live (i := 4) rfl)]
      · refine ⟨fun h => (by cases h), fun h => ?_⟩
        have := h k hk1 hlt
        rw [hx1, hx2] at this
        exact absurd (Option.some.inj this) hx
  · have hxe : ∀ j, j < 10 ∨ j = 17 ∨ j = 18 → lookE ([] ++ agEnv ta tb b1 s1 a1 es1.length c1 b2 s2 a2 es2.length c2 k) j = lookE (agEnv ta tb b1 s1 a1 es1.length c1 b2 s2 a2 es2.length c2 k) j := fun j _ => rfl
    have hS := agFr hxe (fun p hp => by cases hp) sa sb hne ra rb hlen hdef e2 e3 e5
    have hF := agFacts (ta := ta) (tb := tb) (s1 := s1) (a1 := a1) (c1 := c1) (s2 := s2) (a2 := a2) (c2 := c2) h1 h2 (r := false) (by simp only [decide_eq_false_iff_not]; omega) hxe
    refine step_run (G := ⟨0, agTab b1 s1 a1 es1.length c1 b2 s2 a2 es2.length c2 k false⟩) (RT_ok (ts := agTold) (all_cons ?_ (all_cons ?_ all_nil))) (n := 40) (l' := []) (os' := []) (m' := 30) (e := .exit 0) (by kernel_rfl) (GOk.ofTab hF) hS ?_
    · exact toldOp (b := b1) (s := s1) (ao := a1) (n := es1.length) (cap := c1) (by omega) (by simp [agTab]) (by simp [agTab]) (by simp [agTab]) (by simp [agTab])
    · exact toldOp (b := b2) (s := s2) (ao := a2) (n := es2.length) (cap := c2) (by omega) (by simp [agTab]) (by simp [agTab]) (by simp [agTab]) (by simp [agTab])
    intro ρ' a' w' _ hf
    simp only [AExit.to, Exit.then, Exit.inBlock, if_true]
    have hb' := hbel.trans (hf.w.below.mono hbel.size)
    refine step_run (G := ⟨0, []⟩) (RT_ok (ts := []) all_nil) (n := 40) (l := []) (os := []) (m := 30) (l' := [(4, .bool true)]) (os' := []) (m' := 30) (e := .ret) (by kernel_rfl) (GOk.ofTab all_nil) hf ?_
    intro ρ2 a2 w2 _ hf2
    refine bodyPost_ret (results_tmp rfl _ _ _) (dlV hf2.ds) ⟨⟨true, ?_, ?_⟩, hbel.trans (hf2.w.below.mono hbel.size)⟩
    · rw [getD_tl, boolV (hf2.ts.live (i := 4) rfl)]
    · refine ⟨fun _ i hi1 hi2 => hs i hi1 (by omega), fun _ => rfl⟩
end
end Go.Proofs.YtljejfiecaihfaaGreatDoor
