/-
Regions that draw their order: the law, whole.
-/
import Derived.Test.YtmcccdgpmlacdaaGreatDoorCreV
noncomputable section
namespace Go.Cre
open Go.RowKit (Below)

section
variable {P : Program} {G : Gl} {B : Nat} {w0 : World} {R : Rec} {x : Known}

/-- Where the order of the text stands. -/
def Cur (R : Rec) (x : Known) (P : Program) (G : Gl) (B : Nat) (w0 : World) (pl : Plan) (cur : ASt) : List Stage → Prop
  | [] => cur = pl.fin
  | s :: r => cur = s.σ ∧ pl.all[s.i]? = some s.o ∧ writerA R x P G s.ts s.o s.σ = some [(s.v, s.σ')] ∧ Chain R x P G B w0 pl.all pl.fin s.σ' r

theorem Chain.cur {pl : Plan} {σ : ASt} {sts : List Stage} (h : Chain R x P G B w0 pl.all pl.fin σ sts) : ∃ cur, Grow B w0 σ cur ∧ Cur R x P G B w0 pl cur sts := by
  cases sts with
  | nil => exact ⟨pl.fin, h, rfl⟩
  | cons s r => exact ⟨s.σ, h.1, rfl, h.2.1, h.2.2.1, h.2.2.2⟩

structure DInv (R : Rec) (x : Known) (P : Program) (G : Gl) (B : Nat) (w0 : World) (pl : Plan) (n0 : Nat) (ρ0 : Ren) (ds : List Deferred) (listed : Array Bool) (past rem : List Stage) (cur : ASt) (a : Act) (w : World) (ρ : Ren) (tf : List Value) : Prop where
  fr : FrRel B w0 ρ ⟨tf, ds, cur⟩ a w
  len : tf.length = pl.ts.length
  tmp : ∀ d, (∀ (i : Nat) (o : Oper), pl.all[i]? = some o → o.dst = some d → listed.getD i true = true) → tf.getD d undef = pl.ts.getD d undef
  lsz : listed.size = pl.all.length
  down : ∀ (i : Nat) (o : Oper), pl.all[i]? = some o → listed.getD i true = true → ∀ e, e ∈ o.after → Region.binds .any e = true → listed.getD e.on true = true
  hrem : ∀ s, s ∈ rem → listed.getD s.i true = false
  hpast : ∀ s, s ∈ past → listed.getD s.i true = true ∧ ∃ o, pl.all[s.i]? = some o
  hsts : ∀ s, s ∈ pl.sts → s ∈ past ∨ s ∈ rem
  hsub : ∀ s, s ∈ rem → s ∈ pl.sts
  hids : ∀ p, p ∈ pl.ids → listed.getD p.1 true = false → ρ p.2 = none
  chk : checkA P G pl past rem = true
  hcur : Cur R x P G B w0 pl cur rem
  ext : Ext n0 ρ0 ρ
  nx : n0 ≤ cur.next

structure PlanOk (rk : Nat → Nat) (pl : Plan) (n0 : Nat) : Prop where
  st : Static rk pl.all pl.ancs
  idx : pl.idx = indexA' pl.all 0
  idn : ∀ p, p ∈ pl.ids → n0 ≤ p.2
  idd : ∀ p, p ∈ pl.ids → ∀ q, q ∈ pl.ids → p.2 = q.2 → p.1 = q.1
  dst : ∀ (i : Nat) (o : Oper), pl.all[i]? = some o → ∀ d, o.dst = some d → d < pl.ts.length

theorem getD_tf {listed : Array Bool} {i : Nat} (h : i < listed.size) : listed.getD i true = listed.getD i false := by
  simp [Array.getD, h]

theorem getD_set_self {listed : Array Bool} {i : Nat} : (listed.setIfInBounds i true).getD i true = true := by
  by_cases h : i < listed.size
  · simp [Array.getD, h]
  · simp [Array.getD, h]

theorem getD_set_of {listed : Array Bool} {i j : Nat} (h : listed.getD j true = true) : (listed.setIfInBounds i true).getD j true = true := by
  by_cases e : i = j
  · subst e; exact getD_set_self
  · rw [getD_set_ne true e]; exact h

theorem getD_set_back {listed : Array Bool} {i j : Nat} (h : (listed.setIfInBounds i true).getD j true = true) : listed.getD j true = true ∨ j = i := by
  by_cases e : i = j
  · exact .inr e.symm
  · rw [getD_set_ne true e] at h; exact .inl h

theorem anc_listed {rk : Nat → Nat} {pl : Plan} {n0 : Nat} (hp : PlanOk rk pl n0) {listed : Array Bool} (hdown : ∀ (i : Nat) (o : Oper), pl.all[i]? = some o → listed.getD i true = true → ∀ e, e ∈ o.after → Region.binds .any e = true → listed.getD e.on true = true) :
    ∀ (i : Nat) (o : Oper), pl.all[i]? = some o → (∀ e, e ∈ o.after → Region.binds .any e = true → listed.getD e.on true = true) → ∀ j, Nat.testBit (pl.ancs.getD i 0) j = true → listed.getD j true = true := by
  suffices hs : ∀ (r i : Nat), rk i = r → ∀ (o : Oper), pl.all[i]? = some o → (∀ e, e ∈ o.after → Region.binds .any e = true → listed.getD e.on true = true) → ∀ j, Nat.testBit (pl.ancs.getD i 0) j = true → listed.getD j true = true from fun i => hs (rk i) i rfl
  intro r
  induction r using Nat.strongRecOn with
  | _ r ih =>
    intro i hr o ho hpre j hj
    subst hr
    obtain ⟨e, h1, h2, h3, h4⟩ := hp.st.anc i o ho j hj
    rcases h4 with rfl | h4
    · exact hpre e h1 h2
    · have he : e.on < pl.all.length := (hp.st.edge i o ho e h1 h2).2
      exact ih (rk e.on) h3 e.on rfl pl.all[e.on] (List.getElem?_eq_getElem he) (hdown e.on _ (List.getElem?_eq_getElem he) (hpre e h1 h2)) j h4

theorem check_here {pl : Plan} {past rem : List Stage} {cur : ASt} (hc : checkA P G pl past rem = true) (hcur : Cur R x P G B w0 pl cur rem) : nonwAll P G pl past rem cur = true := by
  cases rem with
  | nil => have : cur = pl.fin := hcur; subst this; exact hc
  | cons s r =>
    have := hcur.1
    subst this
    simp only [checkA, Bool.and_eq_true] at hc
    exact hc.1.1

theorem check_wr {pl : Plan} : ∀ {rem past : List Stage}, checkA P G pl past rem = true → ∀ s, s ∈ rem → ∃ past', (∀ q, q ∈ past → q ∈ past') ∧ wrA pl past' s = true ∧ (∀ q r, rem = q :: r → s ∈ r → q ∈ past') := by
  intro rem
  induction rem with
  | nil => intro past _ s hs; cases hs
  | cons q r ih =>
    intro past hc s hs
    simp only [checkA, Bool.and_eq_true] at hc
    by_cases hsr : s ∈ r
    · obtain ⟨past', h1, h2, _⟩ := ih hc.2 s hsr
      refine ⟨past', fun y hy => h1 y (List.mem_cons_of_mem _ hy), h2, ?_⟩
      intro q' r' he _
      simp only [List.cons.injEq] at he
      rw [← he.1]
      exact h1 q List.mem_cons_self
    · rcases List.mem_cons.1 hs with rfl | hs
      · refine ⟨past, fun _ h => h, hc.1.2, ?_⟩
        intro q' r' he hs'
        simp only [List.cons.injEq] at he
        rw [← he.2] at hs'
        exact (hsr hs').elim
      · exact (hsr hs).elim

theorem countP_lt {p q : Nat → Bool} : ∀ {l : List Nat}, (∀ y, q y = true → p y = true) → ∀ {i}, i ∈ l → p i = true → q i = false → l.countP q < l.countP p := by
  intro l
  induction l with
  | nil => intro _ i hi; cases hi
  | cons y l ih =>
    intro hpq i hi hp hq
    have hmono : l.countP q ≤ l.countP p := List.countP_mono_left fun z _ => hpq z
    simp only [List.countP_cons]
    rcases List.mem_cons.1 hi with rfl | hi
    · rw [hp, hq]; simp; omega
    · have := ih hpq hi hp hq
      cases hqy : q y with
      | false => simp; omega
      | true => rw [hpq y hqy]; simp; omega

def unl (listed : Array Bool) (n : Nat) : Nat := (List.range n).countP fun i => !listed.getD i true

theorem unl_set {listed : Array Bool} {n i : Nat} (hi : i < n) (hu : listed.getD i true = false) : unl (listed.setIfInBounds i true) n < unl listed n := by
  refine countP_lt (fun y hy => ?_) (List.mem_range.2 hi) (by simp only [hu, Bool.not_false]) (by rw [getD_set_self]; rfl)
  cases h : listed.getD y true with
  | false => rfl
  | true => rw [getD_set_of h] at hy; exact hy

theorem unl_zero {listed : Array Bool} {n : Nat} (h : unl listed n = 0) : ∀ i, i < n → listed.getD i true = true := by
  intro i hi
  cases hl : listed.getD i true with
  | true => rfl
  | false =>
    have : 0 < unl listed n := List.countP_pos_iff.2 ⟨i, List.mem_range.2 hi, by rw [hl]; rfl⟩
    omega

theorem all_listed {rk : Nat → Nat} {pl : Plan} {n0 : Nat} (hp : PlanOk rk pl n0) {ops : Array Oper} (hops : ops.toList = pl.all) {listed : Array Bool} (hsz : listed.size = pl.all.length) (hr : Region.ready .any ops listed = []) :
    ∀ i, i < pl.all.length → listed.getD i true = true := by
  suffices hs : ∀ (r i : Nat), rk i = r → i < pl.all.length → listed.getD i true = true from fun i => hs (rk i) i rfl
  intro r
  induction r using Nat.strongRecOn with
  | _ r ih =>
    intro i hrk hi
    subst hrk
    cases hl : listed.getD i true with
    | true => rfl
    | false =>
      have ho : ops[i]? = some pl.all[i] := by
        have : ops.toList[i]? = some pl.all[i] := by rw [hops]; exact List.getElem?_eq_getElem hi
        simpa using this
      have : i ∈ Region.ready .any ops listed := mem_ready.2 ⟨hl, _, ho, fun e he hb => by
        have hlt := hp.st.edge i _ (List.getElem?_eq_getElem hi) e he hb
        rw [← getD_tf (by omega)]
        exact ih (rk e.on) hlt.1 e.on rfl hlt.2⟩
      rw [hr] at this
      cases this

theorem getD_put_ne {ts : List Value} {d d' : Nat} (h : d ≠ d') (v : Value) : (ts.set d v).getD d' undef = ts.getD d' undef := by
  simp only [List.getD_eq_getElem?_getD, List.getElem?_set_ne h]

theorem DInv.advance {rk : Nat → Nat} {pl : Plan} {n0 : Nat} {ρ0 : Ren} {ds : List Deferred} (hp : PlanOk rk pl n0) {listed : Array Bool} {past rem : List Stage} {cur : ASt} {a : Act} {w : World} {ρ : Ren} {tf : List Value}
    (h : DInv R x P G B w0 pl n0 ρ0 ds listed past rem cur a w ρ tf) {i : Nat} {o : Oper} (ho : pl.all[i]? = some o) (hpre : ∀ e, e ∈ o.after → Region.binds .any e = true → listed.getD e.on true = true)
    {v : Value} (hv : ∀ d, o.dst = some d → v = pl.ts.getD d undef) {past' rem' : List Stage} {cur' : ASt} {a' : Act} {w' : World} {ρ' : Ren}
    (hfr : FrRel B w0 ρ' ⟨putT tf o.dst v, ds, cur'⟩ a' w') (hrem : ∀ s, s ∈ rem' → listed.getD s.i true = false ∧ s.i ≠ i ∧ s ∈ pl.sts) (hpast : ∀ s, s ∈ past' → s ∈ past ∨ s.i = i)
    (hsts : ∀ s, s ∈ pl.sts → s ∈ past' ∨ s ∈ rem') (hids : ∀ p, p ∈ pl.ids → p.1 ≠ i → listed.getD p.1 true = false → ρ' p.2 = none) (hchk : checkA P G pl past' rem' = true)
    (hcur : Cur R x P G B w0 pl cur' rem') (hext : Ext n0 ρ0 ρ') (hnx : n0 ≤ cur'.next) :
    DInv R x P G B w0 pl n0 ρ0 ds (listed.setIfInBounds i true) past' rem' cur' a' w' ρ' (putT tf o.dst v) := by
  refine ⟨hfr, ?_, ?_, by simpa using h.lsz, ?_, ?_, ?_, hsts, fun s hs => (hrem s hs).2.2, ?_, hchk, hcur, hext, hnx⟩
  · rw [← h.len]; cases o.dst <;> simp [putT, setF_eq]
  · intro d hd
    have back : o.dst ≠ some d → tf.getD d undef = pl.ts.getD d undef := fun hne => h.tmp d fun j o' ho' hd' => by
      rcases getD_set_back (hd j o' ho' hd') with h1 | h1
      · exact h1
      · rw [h1, ho] at ho'
        simp only [Option.some.injEq] at ho'
        rw [← ho'] at hd'
        exact (hne hd').elim
    cases hdst : o.dst with
    | none =>
      simp only [putT]
      exact back (by rw [hdst]; simp)
    | some d0 =>
      simp only [putT, setF_eq]
      by_cases e : d0 = d
      · subst e
        have hlt := hp.dst i o ho d0 hdst
        have hlt' : d0 < tf.length := h.len ▸ hlt
        rw [← hv d0 hdst]
        simp only [List.getD_eq_getElem?_getD, List.getElem?_set_self hlt', Option.getD_some]
      · rw [getD_put_ne e]
        exact back (by rw [hdst]; simpa using e)
  · intro j o' ho' hl e he hb
    refine getD_set_of ?_
    rcases getD_set_back hl with h1 | h1
    · exact h.down j o' ho' h1 e he hb
    · rw [h1, ho] at ho'
      simp only [Option.some.injEq] at ho'
      rw [← ho'] at he
      exact hpre e he hb
  · intro s hs
    obtain ⟨h1, h2, _⟩ := hrem s hs
    rw [getD_set_ne true (Ne.symm h2)]; exact h1
  · intro s hs
    rcases hpast s hs with h1 | h1
    · exact ⟨getD_set_of (h.hpast s h1).1, (h.hpast s h1).2⟩
    · rw [h1]; exact ⟨getD_set_self, o, ho⟩
  · intro p hp' hl
    by_cases e : p.1 = i
    · rw [e, getD_set_self] at hl; cases hl
    · rw [getD_set_ne true (Ne.symm e)] at hl
      exact hids p hp' e hl

theorem not_defer_run {w w' : World} {a : Act} {o : Oper} {v' : Value} (h : (execOp a.eval o).run P w = .ok (.value v') w') (c : Call) : o.op ≠ .defer c := by
  intro he
  obtain ⟨dst, op, type, pos, after, guard⟩ := o
  simp only at he
  subst he
  simp only [execOp, Sem.run_bind, Sem.run_pure] at h
  cases hr : (resolve a.eval c type).run P w with
  | ok d w1 =>
    rw [hr] at h
    simp only [Result.andThen_ok, Result.ok.injEq] at h
    cases h.1
  | halt q w1 => rw [hr] at h; simp at h

theorem drawn_main (hp : POk P) (hR : RecOk P G B w0 R) (hx : KnownOk P G B w0 x) {rk : Nat → Nat} {pl : Plan} {n0 : Nat} {ρ0 : Ren} {ds : List Deferred} (hpl : PlanOk rk pl n0) {ops : Array Oper} (hops : ops.toList = pl.all) {rd : Option Nat} {F : Fence}
    (hg0 : GOk P G ρ0) (hF0 : AtRd ρ0 rd F) (hs0 : ∀ ρ, Ext n0 ρ0 ρ → Sub ρ0 ρ) {Q : Exit → Act → World → Prop}
    (hQ : ∀ ρ a w, Ext n0 ρ0 ρ → FrRel B w0 ρ ⟨pl.ts, ds, pl.fin⟩ a w → n0 ≤ pl.fin.next → Q .normal a w) :
    ∀ (fuel : Nat) (listed : Array Bool) (past rem : List Stage) (cur : ASt) (a : Act) (w : World) (ρ : Ren) (tf : List Value), DInv R x P G B w0 pl n0 ρ0 ds listed past rem cur a w ρ tf → unl listed pl.all.length ≤ fuel →
      wpAnyIn F 0 P .any ops Q fuel listed a w := by
  have fin : ∀ (listed : Array Bool) (past rem : List Stage) (cur : ASt) (a : Act) (w : World) (ρ : Ren) (tf : List Value), DInv R x P G B w0 pl n0 ρ0 ds listed past rem cur a w ρ tf → (∀ i, i < pl.all.length → listed.getD i true = true) → Q .normal a w := by
    intro listed past rem cur a w ρ tf h hall
    have hrem : rem = [] := by
      cases rem with
      | nil => rfl
      | cons s r =>
        have h1 := h.hrem s List.mem_cons_self
        have h2 := h.hcur.2.1
        have h3 := hall s.i (List.getElem?_eq_some_iff.1 h2).1
        rw [h3] at h1
        cases h1
    subst hrem
    have hc : cur = pl.fin := h.hcur
    subst hc
    have htf : tf = pl.ts := by
      refine List.ext_getElem h.len fun d h1 h2 => ?_
      have := h.tmp d fun i o ho _ => hall i (List.getElem?_eq_some_iff.1 ho).1
      simpa [List.getD_eq_getElem?_getD, h1, h2] using this
    subst htf
    exact hQ ρ a w h.ext h.fr h.nx
  intro fuel
  induction fuel with
  | zero =>
    intro listed past rem cur a w ρ tf h hu
    have hall := unl_zero (Nat.le_zero.1 hu)
    refine ⟨?_, fin _ _ _ _ _ _ _ _ h hall⟩
    cases hr : Region.ready .any ops listed with
    | nil => rfl
    | cons i is =>
      have : i ∈ Region.ready .any ops listed := by rw [hr]; exact List.mem_cons_self
      obtain ⟨h1, o, h2, _⟩ := mem_ready.1 this
      have h2 : pl.all[i]? = some o := by rw [← hops]; simpa using h2
      rw [hall i (List.getElem?_eq_some_iff.1 h2).1] at h1
      cases h1
  | succ fuel ih =>
    intro listed past rem cur a w ρ tf h hu
    refine ⟨fun hr => fin _ _ _ _ _ _ _ _ h (all_listed hpl hops h.lsz hr), fun i hi => ?_⟩
    obtain ⟨hun, o, hoi, hpre0⟩ := mem_ready.1 hi
    have ho : pl.all[i]? = some o := by rw [← hops]; simpa using hoi
    have hlt : i < pl.all.length := (List.getElem?_eq_some_iff.1 ho).1
    have hpre : ∀ e, e ∈ o.after → Region.binds .any e = true → listed.getD e.on true = true := fun e he hb => by
      have h1 := hpre0 e he hb
      have h2 := hpl.st.edge i o ho e he hb
      rw [getD_tf (by have := h.lsz; omega)]; exact h1
    have hanc := anc_listed hpl h.down i o ho hpre
    have hfuel : unl (listed.setIfInBounds i true) pl.all.length ≤ fuel := by have := unl_set hlt hun; omega
    have hlook : ∀ d, d ∈ looks pl.all o → tf.getD d undef = pl.ts.getD d undef := fun d hd => h.tmp d fun j o' ho' hd' => hanc j (hpl.st.look i o ho d hd j o' ho' hd')
    have hwl : wantedA pl.all tf o = wantedA pl.all pl.ts o := wanted_looks h.len hlook
    have hs : Sub ρ0 ρ := hs0 ρ h.ext
    have hg : GOk P G ρ := hg0.mono hs
    have hF : AtRd ρ rd F := hF0.mono hs
    have hev : ∀ y, y ∈ o.op.operands.toList → okOp G y = true → VRel ρ (ev pl.ts y) (a.eval y) := fun y hy hok => by
      rw [← ev_looks hlook hy]; exact ev_rel hg h.fr.ts hok
    have hw : ∀ b, wantedA pl.all pl.ts o = some b → Region.wanted o (yielded ops a.tmps) = b := fun b hb => wanted_rel hops.symm h.fr.ts (hwl.trans hb)
    unfold wpOpIn
    rw [hoi]
    simp only
    cases hiw : pl.sts.any (fun s => Nat.beq s.i i) with
    | false =>
      have hnot : ∀ s, s ∈ pl.sts → s.i ≠ i := fun s hs' e => by
        have := List.any_eq_false.1 hiw s hs'
        rw [e] at this
        simp at this
      have hnw : nonwA P G pl i o cur = true := by
        have h1 := List.all_eq_true.1 (check_here h.chk h.hcur) (i, o) (by rw [hpl.idx]; exact mem_index0.2 ho)
        simp only [hiw, Bool.false_or, Bool.or_eq_true] at h1
        rcases h1 with (h1 | h1) | h1
        · obtain ⟨s, hs1, hs2⟩ := List.any_eq_true.1 h1
          obtain ⟨hl, o', ho'⟩ := h.hpast s hs1
          have := anc_listed hpl h.down s.i o' ho' (h.down s.i o' ho' hl) i hs2
          rw [hun] at this
          cases this
        · obtain ⟨s, hs1, hs2⟩ := List.any_eq_true.1 h1
          have := hanc s.i hs2
          rw [h.hrem s hs1] at this
          cases this
        · exact h1
      have hrem' : ∀ s, s ∈ rem → listed.getD s.i true = false ∧ s.i ≠ i ∧ s ∈ pl.sts := fun s hs' => ⟨h.hrem s hs', hnot s (h.hsub s hs'), h.hsub s hs'⟩
      have hpast' : ∀ s, s ∈ past → s ∈ past ∨ s.i = i := fun s hs' => .inl hs'
      unfold nonwA at hnw
      split at hnw
      · rename_i hwf
        rw [hw false hwf]
        simp only [Bool.false_eq_true, if_false]
        refine ⟨about_wide hF o w a, ?_⟩
        refine ih _ past rem cur _ w ρ _ (h.advance hpl ho hpre (fun d hd => dstIs_eq hnw hd) ⟨put_rel h.fr.ts _ LRel.undef, by rw [put_defers]; exact h.fr.ds, h.fr.w⟩ hrem' hpast' h.hsts (fun p hp' _ hl => h.hids p hp' hl) h.chk h.hcur h.ext h.nx) hfuel
      · rename_i hwt
        rw [hw true hwt]
        simp only [if_true]
        split at hnw
        · rename_i b hb
          split at hnw
          · rename_i r obj hal hget
            simp only [Bool.and_eq_true] at hnw
            have hobj := objEq_eq hnw.1
            have hmem := idOf_mem hb
            have hnone : ρ b = none := h.hids (i, b) hmem hun
            obtain ⟨r1, r2⟩ := r
            simp only at hobj
            subst hobj
            obtain ⟨t, v', w', k1, k2, k3⟩ := allocA_sound (P := P) (a := a) h.fr.w hal hget hnone hev
            have hsu : Sub ρ (upd ρ b t) := upd_sub hnone
            refine ⟨fun f _ => hF.fn f, ?_⟩
            rw [Oper.semAt_eq _ _ _ (not_defer_run k1), k1]
            refine ih _ past rem cur _ w' (upd ρ b t) _ (h.advance hpl ho hpre (v := r1) (fun d hd => dstIs_eq hnw.2 hd) ⟨put_rel (h.fr.ts.mono hsu) _ k2, by rw [put_defers]; exact h.fr.ds.mono hsu, k3⟩ hrem' hpast' h.hsts (fun p hp' hne hl => ?_) h.chk h.hcur ?_ h.nx) hfuel
            · rw [upd_ne fun e => hne (hpl.idd p hp' (i, b) hmem e)]
              exact h.hids p hp' hl
            · intro c hc
              have := hpl.idn (i, b) hmem
              have hne : c ≠ b := fun e => by rw [e] at hc; exact Nat.lt_irrefl _ (Nat.lt_of_lt_of_le hc this)
              rw [upd_ne hne]
              exact h.ext c hc
          · cases hnw
        · split at hnw
          · rename_i v hv
            refine of_step (readA_sound hg h.fr.w hv hev) h.fr hF fun ρ' a' w' h1 h2 h3 => ?_
            refine ih _ past rem cur _ w' ρ' _ (h.advance hpl ho hpre (fun d hd => dstIs_eq hnw hd) h3 hrem' hpast' h.hsts (fun p hp' _ hl => ?_) h.chk h.hcur (h.ext.trans h1 h.nx) h.nx) hfuel
            by_cases hlt2 : p.2 < cur.next
            · rw [h1 _ hlt2]; exact h.hids p hp' hl
            · exact h3.w.fresh _ (Nat.le_of_not_lt hlt2)
          · cases hnw
      · cases hnw
    | true =>
      obtain ⟨s, hs1, hs2⟩ := List.any_eq_true.1 hiw
      have hs2 : s.i = i := Nat.eq_of_beq_eq_true hs2
      have hsr : s ∈ rem := by
        rcases h.hsts s hs1 with h1 | h1
        · have := (h.hpast s h1).1
          rw [hs2, hun] at this
          cases this
        · exact h1
      cases rem with
      | nil => cases hsr
      | cons q r =>
        have hlater : ∀ s', s' ∈ r → Nat.testBit (pl.ancs.getD s'.i 0) q.i = true := by
          intro s' hs'
          obtain ⟨past', _, h2, h3⟩ := check_wr h.chk s' (List.mem_cons_of_mem _ hs')
          simp only [wrA, Bool.and_eq_true] at h2
          exact List.all_eq_true.1 h2.1.1.1.1 q (h3 q r rfl hs')
        have hqi : q.i = i := by
          rcases List.mem_cons.1 hsr with h1 | h1
          · rw [← h1]; exact hs2
          · have h2 := hlater s h1
            rw [hs2] at h2
            have h3 := hanc q.i h2
            rw [h.hrem q List.mem_cons_self] at h3
            cases h3
        obtain ⟨hc1, hc2, hc3, hc4⟩ := h.hcur
        have hqo : q.o = o := by rw [hqi, ho] at hc2; exact (Option.some.inj hc2).symm
        have hchk := h.chk
        simp only [checkA, Bool.and_eq_true] at hchk
        have hwr := hchk.1.2
        simp only [wrA, Bool.and_eq_true] at hwr
        obtain ⟨⟨⟨⟨_, hwr2⟩, hwr3⟩, hwr4⟩, hwr5⟩ := hwr
        rw [hqo] at hwr2 hwr3 hwr4 hc3
        have hwt : wantedA pl.all pl.ts o = some true := by
          split at hwr3
          · assumption
          · cases hwr3
        rw [hw true hwt]
        simp only [if_true]
        obtain ⟨cur', hgrow, hcur'⟩ := hc4.cur
        have hfr := h.fr
        rw [hc1] at hfr
        refine writerA_sound hp hR hx hc3 hg hF hfr (fun y hy hok => by rw [veq_eq depth (List.all_eq_true.1 hwr2 y hy)]; exact hev y hy hok) fun r' hr' ρ' a' w' h1 h2 h3 => ?_
        simp only [List.mem_singleton] at hr'
        subst hr'
        simp only at h2 h3
        have hn1 : n0 ≤ q.σ.next := hc1 ▸ h.nx
        refine ih _ (q :: past) r cur' _ w' ρ' _ (h.advance hpl ho hpre (fun d hd => dstIs_eq hwr4 hd) ⟨h3.ts, h3.ds, hgrow.2 _ _ h3.w⟩ ?_ ?_ ?_ ?_ hchk.2 hcur' (h.ext.trans (hc1 ▸ h1) h.nx) (Nat.le_trans hn1 (Nat.le_trans h2 hgrow.1))) hfuel
        · intro s' hs'
          refine ⟨h.hrem s' (List.mem_cons_of_mem _ hs'), fun e => ?_, h.hsub s' (List.mem_cons_of_mem _ hs')⟩
          have h4 := hlater s' hs'
          rw [e] at h4
          have h5 := hanc q.i h4
          rw [h.hrem q List.mem_cons_self] at h5
          cases h5
        · intro s' hs'
          rcases List.mem_cons.1 hs' with h4 | h4
          · rw [h4]; exact .inr hqi
          · exact .inl h4
        · intro s' hs'
          rcases h.hsts s' hs' with h4 | h4
          · exact .inl (List.mem_cons_of_mem _ h4)
          · rcases List.mem_cons.1 h4 with h4 | h4
            · rw [h4]; exact .inl List.mem_cons_self
            · exact .inr h4
        · intro p hp' _ hl
          have h4 := List.all_eq_true.1 hwr5 p hp'
          simp only [Bool.or_eq_true, Nat.blt_eq, Nat.ble_eq] at h4
          rcases h4 with h4 | h4
          · rw [h1 _ h4]; exact h.hids p hp' hl
          · exact h3.w.fresh _ h4

theorem drawnR_any (hp : POk P) (hx : KnownOk P G B w0 x) (hR : RecOk P G B w0 R) {rk : Nat → Nat} {ancs : List Nat} {all : List Oper} {fr : Fr} {r : List Stage × PSt} (h : drawnR x P G R rk ancs all fr = some r) {rd : Option Nat} {arr : Array Oper} (harr : arr.toList = all) {ρ : Ren} {w : World} {a : Act} {F : Fence} (hg : GOk P G ρ) (hF : AtRd ρ rd F) (hfr : FrRel B w0 ρ fr a w) :
    P.follows .mixedOrders = true ∧ wpAnyIn F 0 P .any arr (QPost B w0 ρ fr.σ.next [(.normal, ⟨r.2.ts, fr.ds, r.2.σ⟩)]) arr.size (Array.replicate arr.size false) a { w with drawn := w.drawn + 1 } := by
  unfold drawnR at h
  cases hst : (staticA rk ancs all && P.follows .mixedOrders) with
  | false => rw [hst] at h; cases h
  | true =>
    rw [hst] at h
    simp only [cond_true] at h
    simp only [Bool.and_eq_true] at hst
    refine ⟨hst.2, ?_⟩
    split at h
    · rename_i r0 hr
      obtain ⟨sts, s⟩ := r0
      simp only at h
      obtain ⟨hchain, hkeep⟩ := stagesA_spec (B := B) (w0 := w0) _ _ hr
      revert h
      generalize hpl : (⟨all, indexA' all 0, ancs, s.ts, sts, s.σ, s.ids⟩ : Plan) = pl
      intro h
      cases hc : (checkA P G pl [] sts && homesA pl fr) with
      | false => rw [hc] at h; cases h
      | true =>
        rw [hc] at h
        simp only [cond_true, Option.some.injEq] at h
        simp only [Bool.and_eq_true, homesA] at hc
        obtain ⟨hchk, hids, hdst⟩ := hc
        have hplok : PlanOk rk pl fr.σ.next := by
          subst hpl
          refine ⟨staticA_spec hst.1, rfl, fun p hp' => ?_, fun p hp' q hq e => ?_, fun i o ho d hd => ?_⟩
          · have h1 := List.all_eq_true.1 hids p hp'
            simp only [Bool.and_eq_true, Nat.ble_eq] at h1
            exact h1.1
          · have h1 := List.all_eq_true.1 hids p hp'
            simp only [Bool.and_eq_true] at h1
            have h2 := List.all_eq_true.1 h1.2 q hq
            simp only [e, Nat.beq_refl, Bool.not_true, Bool.or_false] at h2
            exact Nat.eq_of_beq_eq_true h2
          · have h1 := List.all_eq_true.1 hdst o (List.mem_of_getElem? ho)
            rw [hd] at h1
            simp only [Nat.blt_eq] at h1
            have := hkeep.1
            show d < s.ts.length
            rw [this]; exact h1
        have hall : pl.all = all := by rw [← hpl]
        have hplts : pl.ts = s.ts := by rw [← hpl]
        have hplsts : pl.sts = sts := by rw [← hpl]
        have hplfin : pl.fin = s.σ := by rw [← hpl]
        have hs0 : ∀ ρ', Ext fr.σ.next ρ ρ' → Sub ρ ρ' := fun ρ' he => hfr.w.sub he
        obtain ⟨cur, hgrow, hcur⟩ := Chain.cur (pl := pl) (by rw [hall, hplfin]; exact hchain)
        refine drawn_main hp hR hx hplok (by rw [harr, hall]) hg hF hs0 (ds := fr.ds) ?_ _ _ [] sts cur a _ ρ fr.ts ?_ ?_
        · intro ρ' a' w' h1 h2 h3
          subst h
          refine ⟨_, List.mem_singleton.2 rfl, ρ', rfl, h1, by show fr.σ.next ≤ s.σ.next; rw [← hplfin]; exact h3, ?_⟩
          rw [hplts, hplfin] at h2
          exact h2
        · have hun : ∀ i, i < all.length → (Array.replicate arr.size false).getD i true = false := fun i hi => by
            have : i < arr.size := by rw [← Array.length_toList, harr]; exact hi
            simp [Array.getD, this]
          have hno : ∀ (i : Nat) (o : Oper), pl.all[i]? = some o → (Array.replicate arr.size false).getD i true = false := fun i o ho => hun i (by rw [hall] at ho; exact (List.getElem?_eq_some_iff.1 ho).1)
          refine ⟨⟨hfr.ts, hfr.ds, hgrow.2 _ _ hfr.w.drew⟩, by rw [hplts]; exact hkeep.1.symm, ?_, by rw [hall, ← harr]; simp, ?_, ?_, (fun s hs => by cases hs), ?_, fun s hs => hplsts ▸ hs, ?_, hchk, hcur, Ext.refl _ _, hgrow.1⟩
          · intro d hd
            rw [hplts]
            refine (hkeep.2 d fun o ho e => ?_).symm
            obtain ⟨i, hi⟩ := List.mem_iff_getElem?.1 ho
            have h1 := hd i o (by rw [hall]; exact hi) e
            rw [hno i o (by rw [hall]; exact hi)] at h1
            cases h1
          · intro i o ho hl
            rw [hno i o ho] at hl
            cases hl
          · intro s' hs'
            have : ∃ o, pl.all[s'.i]? = some o := by
              have : ∀ (l : List Stage) (σ : ASt), Chain R x P G B w0 all s.σ σ l → ∀ s', s' ∈ l → all[s'.i]? = some s'.o := by
                intro l
                induction l with
                | nil => intro _ _ s' hs'; cases hs'
                | cons q l ihl =>
                  intro σ hch s' hs'
                  rcases List.mem_cons.1 hs' with e | e
                  · rw [e]; exact hch.2.1
                  · exact ihl _ hch.2.2.2 s' e
              exact ⟨_, by rw [hall]; exact this _ _ hchain s' hs'⟩
            obtain ⟨o, ho⟩ := this
            exact hno s'.i o ho
          · intro s' hs'
            exact .inr (hplsts ▸ hs')
          · intro p hp' _
            exact hfr.w.fresh _ (hplok.idn p hp')
        · unfold unl
          refine Nat.le_trans (List.countP_le_length) ?_
          rw [List.length_range, hall, ← harr]
          simp
    · cases h

theorem drawnA_ok (hp : POk P) (hx : KnownOk P G B w0 x) : DrawsOk P G B w0 (drawnA x P G) := by
  intro R hR rd all fr rs h id arr harr ρ w a F hg hF hfr
  unfold drawnA at h
  split at h
  · rename_i r hr
    simp only [Option.some.injEq] at h
    subst h
    obtain ⟨h1, h2⟩ := drawnR_any hp hx hR hr harr hg hF hfr
    exact wpIn_region_any h1 h2
  · cases h
end
end Go.Cre
end
