/- oplog: two logs of plain entries: what is handed back, for all entries. -/
import Derived.Test.YtljejfiecaihfaaGreatDoorOI2
import Derived.Test.YtljejfiecaihfaaGreatDoorOK
namespace Go.Proofs.YtljejfiecaihfaaGreatDoor
open Go Go.RowKit Go.Cre
set_option maxRecDepth 1000000
noncomputable section
abbrev lgBase (al : Option Addr) (n capl : Nat) (z : List (Nat × Tgt)) : List (Nat × Tgt) := [(1, tokT (.slice al n capl)), (2, tokT (nt n))] ++ z
theorem logs_at (w : World) (al : Option Addr) (n capl e : Nat) (es : List Ent) (z : List (Nat × Tgt)) (hw : 0 < w.heap.size) (hn : n = es.length) 
    (hz : (es = [] ∧ z = []) ∨ ∃ t, z = [(0, t)] ∧ RowIn w t (cellsOf (es.take 30)) e ∧ t.sz = 1 ∧ al = some ⟨t.blk, t.off, none⟩)
    (hk : lgOk (es.take 30).length (decide (30 < n)) e = true) :
    Calls Tryz.prog 5 #[nt 3, .string sS, .slice al n capl] w fun r w' => (∃ ao cap x y z, r = .returned (.tuple #[lg 3 sS ao (es.take 30).length cap, .agg ⟨[x, y, z]⟩]) ∧ single x = true ∧ single y = true ∧ single z = true ∧ LogS w' ao cap (es.take 30)) ∧ Below w.heap.size w w' := by
  have hc : (es.take 30).length ≤ 30 := List.length_take_le 30 es
  have hcn : (es.take 30).length = min 30 n := by rw [List.length_take, hn]
  have hcl := cellsOf_length (es.take 30)
  have h1 : ∀ e2 b, b < 100 → lookE (envC 100 (cellsOf (es.take 30)) ++ e2) b = lookE e2 b := fun e2 b hb => envC_lt _ _ _ _ hb
  have q1 : lookE (envC 100 (cellsOf (es.take 30)) ++ lgBase al n capl z) 1 = some (tokT (.slice al n capl)) := (h1 _ 1 (by omega)).trans rfl
  have q2 : lookE (envC 100 (cellsOf (es.take 30)) ++ lgBase al n capl z) 2 = some (tokT (nt n)) := (h1 _ 2 (by omega)).trans rfl
  have q0 : lookE (envC 100 (cellsOf (es.take 30)) ++ lgBase al n capl z) 0 = lookE z 0 := (h1 _ 0 (by omega)).trans rfl
  have hcell : ∀ j v, (cellsOf (es.take 30))[j]? = some v → lookE (envC 100 (cellsOf (es.take 30)) ++ lgBase al n capl z) (100 + j) = some (tokT v) := fun j v hv => envC_at _ _ _ _ _ hv
  have hrel : LRel (lookE (envC 100 (cellsOf (es.take 30)) ++ lgBase al n capl z)) (toks (3 * (es.take 30).length)) (cellsOf (es.take 30)) := by
    have := toks_rel (ρ := lookE (envC 100 (cellsOf (es.take 30)) ++ lgBase al n capl z)) (cellsOf (es.take 30)) 100 hcell (cellsOf_single _)
    rw [hcl] at this
    exact this
  have hG : GOk Tryz.prog ⟨0, lgTab (es.take 30).length (decide (30 < n))⟩ (lookE (envC 100 (cellsOf (es.take 30)) ++ lgBase al n capl z)) := by
    refine GOk.ofTab (all_cons ⟨_, _, sT q1 rfl, vT q2 rfl rfl, fun w ats ty cs h => lenE ats ty cs h⟩ <| all_cons (fLss sN (sT q2 rfl) ?_) ?_)
    · exact decide_eq_decide.2 (by omega)
    · intro e he
      rcases List.mem_append.1 he with he | he
      · obtain ⟨i, hi, rfl⟩ := List.mem_map.1 he
        have hi := List.mem_range.1 hi
        exact fLss sN (sT q2 rfl) (by simp only [decide_eq_true_eq]; omega)
      · obtain ⟨i, hi, rfl⟩ := List.mem_map.1 he
        have hi := List.mem_range.1 hi
        rcases hz with ⟨rfl, rfl⟩ | ⟨t, rfl, h3, h4, rfl⟩
        · simp at hi
        · exact ⟨_, _, _, sT q1 rfl, sN, .ptr (o := 3 * i) (q0.trans rfl), fun w => idxE (by omega)⟩
  have hW : WRel w.heap.size w (lookE (envC 100 (cellsOf (es.take 30)) ++ lgBase al n capl z)) ⟨putAll .leaf [(0, .cells (toks (3 * (es.take 30).length)) e 1 true .any true)], 500⟩ w := by
    refine startE ?_ (all_cons ⟨Nat.le_of_ble_eq_true rfl, rfl, ?_⟩ all_nil) ?_
    · intro p hp
      rcases List.mem_append.1 hp with hp | hp
      · have := envC_mem _ _ p hp
        omega
      · have hp3 : p = (1, tokT (.slice al n capl)) ∨ p = (2, tokT (nt n)) ∨ p ∈ z := by simpa [lgBase] using hp
        clear hp
        rcases hp3 with rfl | rfl | hp3
        · exact ⟨hw, Nat.le_of_ble_eq_true rfl⟩
        · exact ⟨hw, Nat.le_of_ble_eq_true rfl⟩
        · rcases hz with ⟨rfl, rfl⟩ | ⟨t, rfl, h3, h4, rfl⟩
          · cases hp3
          · obtain rfl := List.mem_singleton.1 hp3
            exact ⟨h3.1, Nat.le_of_ble_eq_true rfl⟩
    · intro t ht
      have ht2 := q0.symm.trans ht
      clear ht
      rcases hz with ⟨rfl, rfl⟩ | ⟨t', rfl, h3, h4, rfl⟩
      · cases ht2
      · cases ht2
        have := h3.orel hrel
        rw [h4] at this
        exact this
    · intro p hp q hq _ _ _ _ _
      simp only [List.mem_cons, List.not_mem_nil, or_false] at hp hq
      rw [hp, hq]
  refine (calls_chk (RT_ok (ts := []) all_nil) hk hG hW (.cons (.flat rfl) (.cons (.flat rfl) (.cons (vT q1 rfl rfl) .nil)))).mono ?_
  rintro r w' ⟨x, hx, ρ', v', rfl, hext, hv, hw'⟩
  refine ⟨?_, hw'.below⟩
  split at hx
  · rename_i v u hxe
    rw [hxe] at hv
    obtain ⟨l, rfl, hl⟩ := tupV hv
    obtain ⟨v1, _, rfl, k1, hl⟩ := consV hl
    obtain ⟨v2, _, rfl, k2, hl⟩ := consV hl
    cases nilV hl
    simp only [Bool.and_eq_true] at hx
    obtain ⟨xx, yy, zz, rfl, s1, s2, s3⟩ := isAgg3_rel hx.2 k2
    obtain ⟨ao, cap, rfl, hA⟩ := isLogS_rel hx.1 k1 hw' rfl (fun y hy => by
      refine toks_inv (cellsOf (es.take 30)) 100 (fun j v hj => ?_) (by rw [hcl]; exact hy)
      have hj2 : j < 90 := by have := (List.getElem?_eq_some_iff.1 hj).1; omega
      exact (hext (100 + j) (by show 100 + j < 500; omega)).trans (hcell j v hj))
    exact ⟨ao, cap, xx, yy, zz, rfl, s1, s2, s3, hA⟩
  · cases hx
theorem logs_any (w : World) (al : Option Addr) (n capl : Nat) (es : List Ent) (hw : 0 < w.heap.size) (hn : n = es.length) (hr : RowAt w al es) :
    Calls Tryz.prog 5 #[nt 3, .string sS, .slice al n capl] w fun r w' => (∃ ao cap x y z, r = .returned (.tuple #[lg 3 sS ao (es.take 30).length cap, .agg ⟨[x, y, z]⟩]) ∧ single x = true ∧ single y = true ∧ single z = true ∧ LogS w' ao cap (es.take 30)) ∧ Below w.heap.size w w' := by
  have hk : ∀ e, lgOk (es.take 30).length (decide (30 < n)) e = true := by
    intro e
    have hcn : (es.take 30).length = min 30 n := by rw [List.length_take, hn]
    by_cases h : 30 < n
    · rw [show (es.take 30).length = 30 by omega, decide_eq_true h]
      exact lgMore e
    · rw [decide_eq_false h]
      exact lg_all e _ (by omega)
  by_cases hne : es = []
  · subst hne
    exact logs_at w al n capl 0 [] [] hw hn (.inl ⟨rfl, rfl⟩) (hk 0)
  · obtain ⟨g, off, ys, e, f, rfl, hg, hh, hy⟩ := rowCells hr hne
    have hcl := cellsOf_length es
    have hcl2 := cellsOf_length (es.take 30)
    have hpos : 0 < es.length := List.length_pos_iff.2 hne
    have hct : cellsOf (es.take 30) = (cellsOf es).take 90 := cellsOf_take 30 es
    have hlen : off + 3 * (es.take 30).length ≤ ys.length := by
      have h30 : (es.take 30).length = min 30 es.length := List.length_take ..
      obtain ⟨v, hv⟩ : ∃ v, (cellsOf es)[3 * (es.take 30).length - 1]? = some v := ⟨_, List.getElem?_eq_getElem (by omega)⟩
      have := (List.getElem?_eq_some_iff.1 (hy _ v hv)).1
      omega
    refine logs_at w _ n capl e es [(0, ⟨g, off, 3 * (es.take 30).length, ys.length - (off + 3 * (es.take 30).length), 1, undef⟩)] hw hn (.inr ⟨_, rfl, ⟨hg, by rw [hcl2], ys, f, hh, by rw [hcl2]; simp only [Nat.mul_one]; omega, ?_⟩, rfl, rfl⟩) (hk e)
    apply List.ext_getElem?
    intro i
    rw [List.getElem?_take]
    split
    · rename_i hi
      rw [List.getElem?_drop]
      obtain ⟨v, hv⟩ : ∃ v, (cellsOf (es.take 30))[i]? = some v := ⟨_, List.getElem?_eq_getElem hi⟩
      rw [hv]
      rw [hct, List.getElem?_take] at hv
      split at hv
      · exact hy i v hv
      · cases hv
    · rename_i hi
      rw [List.getElem?_eq_none (by omega)]
end
end Go.Proofs.YtljejfiecaihfaaGreatDoor
