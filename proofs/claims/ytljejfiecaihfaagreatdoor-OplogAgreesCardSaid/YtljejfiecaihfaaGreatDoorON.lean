/- oplog: Add, Cut and Merge: what is handed back. -/
import Derived.Test.YtljejfiecaihfaaGreatDoorOM
namespace Go.Proofs.YtljejfiecaihfaaGreatDoor
open Go Go.RowKit Go.Cre
set_option maxRecDepth 1000000
noncomputable section
theorem arg_log {w : World} {ao : Option Addr} {cap : Nat} {es : List Ent} (op : Int) (hw : 0 < w.heap.size) (hS : LogS w ao cap es) (hl : es.length ≤ 31) :
    ∃ ρ : Ren, WRel w.heap.size w ρ ⟨putAll .leaf (obN es.length), 500⟩ w ∧ VRel ρ (lgN es.length) (lg 3 sS ao es.length cap) ∧ (∀ j v, (cellsOf es)[j]? = some v → ρ (100 + j) = some (tokT v)) ∧ ρ 1 = some (tokT (nt op)) := by
  have hcl := cellsOf_length es
  rcases hS with ⟨rfl, rfl, rfl⟩ | ⟨t, hne, h1, h2, rfl, rfl⟩
  · refine ⟨lookE [(1, tokT (nt op))], startE ?_ all_nil all_nil, .agg (.cons (.flat rfl) (.cons (.flat rfl) (.cons (.flat rfl) .nil))), fun j v h => by simp [cellsOf] at h, rfl⟩
    exact all_cons ⟨hw, Nat.le_of_ble_eq_true rfl⟩ all_nil
  · have hpos : 0 < es.length := List.length_pos_iff.2 hne
    have e0 : Nat.beq es.length 0 = false := by cases h : es.length with
      | zero => omega
      | succ n => rfl
    have h1' : ∀ b, b < 100 → lookE (envC 100 (cellsOf es) ++ [(1, tokT (nt op)), (0, t)]) b = lookE [(1, tokT (nt op)), (0, t)] b := fun b hb => envC_lt _ _ _ _ hb
    have q0 : lookE (envC 100 (cellsOf es) ++ [(1, tokT (nt op)), (0, t)]) 0 = some t := (h1' 0 (by omega)).trans rfl
    have q1 : lookE (envC 100 (cellsOf es) ++ [(1, tokT (nt op)), (0, t)]) 1 = some (tokT (nt op)) := (h1' 1 (by omega)).trans rfl
    have hcell : ∀ j v, (cellsOf es)[j]? = some v → lookE (envC 100 (cellsOf es) ++ [(1, tokT (nt op)), (0, t)]) (100 + j) = some (tokT v) := fun j v hv => envC_at _ _ _ _ _ hv
    have hrel := toks_rel (ρ := lookE (envC 100 (cellsOf es) ++ [(1, tokT (nt op)), (0, t)])) (cellsOf es) 100 hcell (cellsOf_single _)
    rw [hcl] at hrel
    have eo : obN es.length = [(0, .cells (toks (3 * es.length)) 34 3 true .any true)] := by unfold obN; rw [e0]
    have el : slN es.length = .slice (some ⟨0, 0, none⟩) es.length es.length := by unfold slN; rw [e0]
    refine ⟨_, ?_, ?_, hcell, q1⟩
    · rw [eo]
      refine startE ?_ (all_cons ⟨Nat.le_of_ble_eq_true rfl, rfl, ?_⟩ all_nil) ?_
      · intro p hp
        rcases List.mem_append.1 hp with hp | hp
        · have := envC_mem _ _ p hp
          omega
        · simp only [List.mem_cons, List.not_mem_nil, or_false] at hp
          rcases hp with rfl | rfl
          · exact ⟨hw, Nat.le_of_ble_eq_true rfl⟩
          · exact ⟨h1.1, Nat.le_of_ble_eq_true rfl⟩
      · intro u hu
        have hu := q0.symm.trans hu
        cases hu
        have := h1.orel hrel
        rw [h2] at this
        exact this
      · intro p hp q hq _ _ _ _ _
        simp only [List.mem_cons, List.not_mem_nil, or_false] at hp hq
        rw [hp, hq]
    · unfold lgN
      rw [el]
      refine .agg (.cons (.flat rfl) (.cons (.flat rfl) (.cons ?_ .nil)))
      have := VRel.slice (o := 0) (len := es.length) (cap := es.length) q0 (by omega)
      have hh := h1.2.1
      rw [if_pos (by rw [h2, hh, hcl]; omega)] at this
      exact this
theorem add_any (w : World) (ao : Option Addr) (cap : Nat) (es : List Ent) (hw : 0 < w.heap.size) (hS : LogS w ao cap es) (hl : es.length ≤ 30) :
    Calls Tryz.prog 6 #[lg 3 sS ao es.length cap, newE.val] w fun r w' => (∃ ao' cap', r = .returned (lg 3 sS ao' (es.length + 1) cap') ∧ LogS w' ao' cap' (es ++ [newE])) ∧ Below w.heap.size w w' := by
  obtain ⟨ρ, hW, hA, hc, _⟩ := arg_log 0 hw hS (by omega)
  have hk : adOk es.length = true := List.all_eq_true.1 ad0 _ (List.mem_range.2 (by omega))
  refine (calls_chk (RT_ok (ts := []) all_nil) hk (GOk.ofTab all_nil) hW (.cons hA (.cons (.agg (.cons (.flat rfl) (.cons (.flat rfl) (.cons (.flat rfl) .nil)))) .nil))).mono ?_
  rintro r w' ⟨x, hx, ρ', v', rfl, hext, hv, hw'⟩
  refine ⟨?_, hw'.below⟩
  obtain ⟨ao', cap', rfl, hA'⟩ := isLogS_rel (es := es ++ [newE]) hx hv hw' (by simp) (fun y hy => by
    obtain ⟨y1, y2, rfl, g1, g2⟩ : ∃ y1 y2, y = y1 ++ y2 ∧ LRel ρ' (toks (3 * es.length)) y1 ∧ LRel ρ' [nt 1, nt 1, .string sX] y2 := by
      have hl1 := (hy.length).trans (List.length_append)
      have hlt : (toks (3 * es.length)).length = 3 * es.length := by
        have : ∀ m i, (toksF i m).length = m := fun m => by
          induction m with
          | zero => intro i; rfl
          | succ m ih => intro i; simp [toksF, ih]
        exact this _ _
      refine ⟨y.take (3 * es.length), y.drop (3 * es.length), (List.take_append_drop _ _).symm, ?_, ?_⟩
      · have := hy.take (3 * es.length)
        rwa [List.take_left' hlt] at this
      · have := hy.drop (3 * es.length)
        rwa [List.drop_left' hlt] at this
    have k1 := toks_inv (cellsOf es) 100 (fun j v hj => by
      have hj2 := (List.getElem?_eq_some_iff.1 hj).1
      rw [cellsOf_length] at hj2
      exact (hext (100 + j) (by show 100 + j < 500; omega)).trans (hc j v hj)) (by rw [cellsOf_length]; exact g1)
    obtain ⟨z1, _, rfl, m1, g2⟩ := consV g2
    obtain ⟨z2, _, rfl, m2, g2⟩ := consV g2
    obtain ⟨z3, _, rfl, m3, g2⟩ := consV g2
    cases nilV g2
    rw [k1, flat_eq (v := nt 1) rfl m1, flat_eq (v := nt 1) rfl m2, flat_eq (v := .string sX) rfl m3, cellsOf_append]
    rfl)
  exact ⟨ao', cap', rfl, hA'⟩
theorem cut_all {n k : Nat} (h1 : n < 31) (h2 : k ≤ n) : cuOk (n + 1) (k + 1) = true := by
  have key : ∀ {l : List Nat}, (l.all fun n => (List.range (n + 1)).all fun k => cuOk (n + 1) (k + 1)) = true → n ∈ l → cuOk (n + 1) (k + 1) = true := fun h hc =>
    List.all_eq_true.1 (List.all_eq_true.1 h n hc) k (List.mem_range.2 (by omega))
  by_cases h : n < 20
  · exact key cu0 (List.mem_range.2 h)
  by_cases h : n < 24
  · exact key cu1 (by simp only [List.mem_cons, List.not_mem_nil, or_false]; omega)
  by_cases h : n < 28
  · exact key cu2 (by simp only [List.mem_cons, List.not_mem_nil, or_false]; omega)
  · exact key cu3 (by simp only [List.mem_cons, List.not_mem_nil, or_false]; omega)
theorem cut_any (w : World) (ao : Option Addr) (cap : Nat) (es : List Ent) (op : Int) (hw : 0 < w.heap.size) (hS : LogS w ao cap es) (h1 : 1 ≤ es.length) (hl : es.length ≤ 31) :
    Calls Tryz.prog 7 #[lg 3 sS ao es.length cap, nt op, .string sT1] w fun r w' =>
      (∃ b s ao' cap' es' v, r = .returned (.tuple #[lg b s ao' es'.length cap', v]) ∧ LogAt w' ao' cap' es' ∧ 3 ≤ b ∧ b + es'.length = 3 + es.length ∧ es' = es.drop (b - 3)) ∧ Below w.heap.size w w' := by
  obtain ⟨ρ, hW, hA, hc, hq⟩ := arg_log op hw hS hl
  have inv : ∀ {ρ' : Ren}, Ext 500 ρ ρ' → ∀ j v, (cellsOf es)[j]? = some v → ρ' (100 + j) = some (tokT v) := by
    intro ρ' hext j v hj
    have hj2 := (List.getElem?_eq_some_iff.1 hj).1
    rw [cellsOf_length] at hj2
    exact (hext (100 + j) (by omega)).trans (hc j v hj)
  by_cases hin : 3 < op ∧ op ≤ 3 + es.length
  · obtain ⟨k, hk⟩ : ∃ k : Nat, op = ((3 + (k + 1) : Nat) : Int) := ⟨(op - 4).toNat, by omega⟩
    subst hk
    have hkl : k + 1 ≤ es.length := by omega
    have hk : cuOk es.length (k + 1) = true := by
      have := cut_all (n := es.length - 1) (k := k) (by omega) (by omega)
      rwa [show es.length - 1 + 1 = es.length by omega] at this
    refine (calls_chk (RT_ok (ts := []) all_nil) hk (GOk.ofTab all_nil) hW (.cons hA (.cons (.flat rfl) (.cons (.flat rfl) .nil)))).mono ?_
    rintro r w' ⟨x, hx, ρ', v', rfl, hext, hv, hw'⟩
    refine ⟨?_, hw'.below⟩
    split at hx
    · rename_i v u hxe
      rw [hxe] at hv
      obtain ⟨l, rfl, hl⟩ := tupV hv
      obtain ⟨v1, _, rfl, k1, hl⟩ := consV hl
      obtain ⟨v2, _, rfl, k2, hl⟩ := consV hl
      cases nilV hl
      obtain ⟨ao', cap', rfl, hA'⟩ := isLog_rel (es := es.drop (k + 1)) hx k1 hw' (by rw [List.length_drop]) (fun y hy => by
        have htk : ∀ (m i d : Nat), (toksF i m).drop d = toksF (i + d) (m - d) := by
          intro m
          induction m with
          | zero => intro i d; simp [toksF]
          | succ m ih =>
            intro i d
            cases d with
            | zero => rfl
            | succ d => simp only [toksF, List.drop_succ_cons]; rw [ih]; congr 1 <;> omega
        have hy : LRel ρ' ((toksF 100 (3 * es.length)).drop (3 * (k + 1))) y := hy
        rw [htk] at hy
        refine toks_inv (cellsOf (es.drop (k + 1))) (100 + 3 * (k + 1)) (fun j v hj => ?_) (by
          rw [cellsOf_length, List.length_drop]
          rwa [show 3 * es.length - 3 * (k + 1) = 3 * (es.length - (k + 1)) by omega] at hy)
        rw [cellsOf_drop, List.getElem?_drop] at hj
        have := inv hext _ v hj
        rwa [show 100 + 3 * (k + 1) + j = 100 + (3 * (k + 1) + j) by omega])
      have hd : (es.drop (k + 1)).length = es.length - (k + 1) := List.length_drop
      refine ⟨3 + (k + 1), sT1, ao', cap', es.drop (k + 1), v2, by rw [hd], hA', by omega, by omega, by rw [show 3 + (k + 1) - 3 = k + 1 by omega]⟩
    · cases hx
  · have hno : ∃ r : Bool, decide (op ≤ 3) = r ∧ cuNo es.length r = true := by
      have := List.all_eq_true.1 cn0 (es.length - 1) (List.mem_range.2 (by omega))
      simp only [Bool.and_eq_true] at this
      rw [show es.length - 1 + 1 = es.length by omega] at this
      by_cases h : op ≤ 3
      · exact ⟨true, decide_eq_true h, this.1⟩
      · exact ⟨false, decide_eq_false h, this.2⟩
    obtain ⟨r, hr, hk⟩ := hno
    have hG : GOk Tryz.prog ⟨0, cuTab es.length r⟩ ρ := by
      cases r with
      | true => exact GOk.ofTab (all_cons (fLeq (sT hq rfl) sN hr) all_nil)
      | false =>
        have h3 := of_decide_eq_false hr
        exact GOk.ofTab (all_cons (fLeq (sT hq rfl) sN hr) <| all_cons (fGtr (sT hq rfl) sN (by simp only [decide_eq_true_eq]; omega)) all_nil)
    refine (calls_chk (RT_ok (ts := []) all_nil) hk hG hW (.cons hA (.cons (vT hq rfl rfl) (.cons (.flat rfl) .nil)))).mono ?_
    rintro r w' ⟨x, hx, ρ', v', rfl, hext, hv, hw'⟩
    refine ⟨?_, hw'.below⟩
    split at hx
    · rename_i v u hxe
      rw [hxe] at hv
      obtain ⟨l, rfl, hl⟩ := tupV hv
      obtain ⟨v1, _, rfl, k1, hl⟩ := consV hl
      obtain ⟨v2, _, rfl, k2, hl⟩ := consV hl
      cases nilV hl
      obtain ⟨ao', cap', rfl, hA'⟩ := isLog_rel (es := es) hx k1 hw' rfl (fun y hy => toks_inv (cellsOf es) 100 (inv hext) (by rw [cellsOf_length]; exact hy))
      exact ⟨3, sS, ao', cap', es, v2, rfl, hA', by omega, rfl, rfl⟩
    · cases hx
def mgTab : List (TKey × Value) := [(.bin .geq 3 (tk 3) (nt 3), .bool true)]
def mgOk : Bool := chk ((RT ⟨0, mgTab⟩ []).call 8 [.agg ⟨[nt 3, tk 1, tk 2]⟩, .agg ⟨[tk 3, tk 4, tk 5]⟩] ⟨putAll .leaf [], 500⟩) fun x => veq depth x.1 (.agg ⟨[tk 3, tk 4, tk 5]⟩)
theorem mg0 : mgOk = true := by kernel_rfl
theorem merge_any (w : World) (s s' : ByteArray) (ao ao' : Option Addr) (n cap b n' cap' : Nat) (hw : 0 < w.heap.size) (hb : 3 ≤ b) :
    Calls Tryz.prog 8 #[lg 3 s ao n cap, lg b s' ao' n' cap'] w fun r w' => r = .returned (lg b s' ao' n' cap') ∧ Below w.heap.size w w' := by
  refine (calls_chk (ρ := lookE [(1, tokT (.string s)), (2, tokT (.slice ao n cap)), (3, tokT (nt b)), (4, tokT (.string s')), (5, tokT (.slice ao' n' cap'))]) (RT_ok (ts := []) all_nil) mg0
    (GOk.ofTab (all_cons (fGeq (sT rfl rfl) sN (by simp only [decide_eq_true_eq]; omega)) all_nil))
    (startE (all_cons ⟨hw, Nat.le_of_ble_eq_true rfl⟩ <| all_cons ⟨hw, Nat.le_of_ble_eq_true rfl⟩ <| all_cons ⟨hw, Nat.le_of_ble_eq_true rfl⟩ <| all_cons ⟨hw, Nat.le_of_ble_eq_true rfl⟩ <| all_cons ⟨hw, Nat.le_of_ble_eq_true rfl⟩ all_nil) all_nil all_nil)
    (.cons (.agg (.cons (.flat rfl) (.cons (vT rfl rfl rfl) (.cons (vT rfl rfl rfl) .nil)))) (.cons (.agg (.cons (vT rfl rfl rfl) (.cons (vT rfl rfl rfl) (.cons (vT rfl rfl rfl) .nil)))) .nil))).mono ?_
  rintro r w' ⟨x, hx, ρ', v', rfl, hext, hv, hw'⟩
  refine ⟨?_, hw'.below⟩
  rw [veq_eq depth hx] at hv
  obtain ⟨l, rfl, hl⟩ := aggV hv
  obtain ⟨v1, _, rfl, k1, hl⟩ := consV hl
  obtain ⟨v2, _, rfl, k2, hl⟩ := consV hl
  obtain ⟨v3, _, rfl, k3, hl⟩ := consV hl
  cases nilV hl
  rw [tokV ((hext 3 (Nat.le_of_ble_eq_true rfl)).trans rfl) k1, tokV ((hext 4 (Nat.le_of_ble_eq_true rfl)).trans rfl) k2, tokV ((hext 5 (Nat.le_of_ble_eq_true rfl)).trans rfl) k3]
  rfl
end
end Go.Proofs.YtljejfiecaihfaaGreatDoor
