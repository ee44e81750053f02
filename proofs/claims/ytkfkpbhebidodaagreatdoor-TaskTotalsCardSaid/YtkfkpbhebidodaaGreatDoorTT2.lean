/- The row of TaskTotals: the call returns true for every two rows of words, in every world where the row's condition holds. -/
import Derived.Test.YtkfkpbhebidodaaGreatDoorRows
import Derived.Test.YtkfkpbhebidodaaGreatDoorTie
import Derived.Test.YtkfkpbhebidodaaGreatDoorCards
import Derived.ProofKit
import Derived.LaidMore
import Derived.OpenShut
import Derived.Carry
import Derived.Stop.Joined
import Derived.SevenTiedAt
import Derived.Test.YtkfkpbhebidodaaGreatDoorFJ
import Derived.Test.YtkfkpbhebidodaaGreatDoorS20
namespace Go.Proofs.YtkfkpbhebidodaaGreatDoor
open Go Go.ChangeShapes Go.WideShapes Go.ChangeAt Go.RowKit
set_option maxRecDepth 100000
theorem own : ownKnob Tryz.prog.godebug = none := by kernel_rfl
abbrev laidL : List (String × DataW Unit) := [("math/bits.deBruijn32tab", Rows.laid_math_bits_deBruijn32tab), ("math/bits.deBruijn64tab", Rows.laid_math_bits_deBruijn64tab), ("internal/strconv.uint64pow10", Rows.laid_internal_strconv_uint64pow10)]
theorem door_met (os : Os) (args : Array Value) : laidMetH Tryz.prog laidL ((World.doorLaid Tryz.prog 400 os).forCall (fun _ _ => 0) ⟨#[], args, []⟩).memory :=
  laidMetH_of_parts3 (fuel := 8) (laidMet_of_run' 8 (by kernel_rfl) (by kernel_rfl)) (by kernel_rfl) (by kernel_rfl)
theorem laidOut : laidOutB Tryz.prog = true := by kernel_rfl
theorem cells95 : Tryz.prog.cellsOf 95 = 1 := by kernel_rfl
theorem words_of {H : Type} {enc : TypeId × Value → H} {W : World} {base : Nat} {v : Value} {d : DataW H} {p : List MemPlace} (hv : Value.okWide Tryz.prog W Reach.any base 91 v)
    (h : DataW.Trod enc Tryz.prog W 0 (fun _ => true) true 91 v d p) (hlt : ∀ x ∈ p, x.block < W.heap.size) : ∃ zs, WordsAt W v zs := by
  obtain ⟨a0, len, cap, rfl⟩ := okWide_slice Tryz.underlying91 hv
  obtain ⟨fuel, hf⟩ := h
  rcases open_ints Tryz.underlying91 Tryz.underlying95 cells95 hf with ⟨hcs, hx⟩ | ⟨a, len', cap', zs, hcs, _, hl, hm, hz, hx, hcell, hwz⟩
  · simp [Value.cells] at hcs
    obtain ⟨rfl, rfl, rfl⟩ := hcs
    exact ⟨[], none, 0, rfl, by decide, fun x hx => by (cases hx), fun h => by cases h⟩
  · simp [Value.cells] at hcs
    obtain ⟨rfl, rfl, rfl⟩ := hcs
    simp only [Prod.mk.injEq] at hx
    obtain ⟨rfl, rfl⟩ := hx
    simp only [if_true] at hz
    have hb : ∀ n ∈ zs, 0 ≤ n ∧ n < 2 ^ 64 := fun n hn => by
      have h1 : IntKind.u64.min ≤ n ∧ n ≤ IntKind.u64.max := by simpa [Lit.wf] using hwz n hn
      have e1 : IntKind.u64.min = 0 := by decide
      have e2 : IntKind.u64.max = 18446744073709551615 := by decide
      rw [e1, e2] at h1
      omega
    have hlen : ((zs.take len).map Int.toNat).length = len := by simp; omega
    refine ⟨(zs.take len).map Int.toNat, some a, cap, by rw [hlen], by rw [hlen]; unfold maxLen at hm; omega, fun x hx => ?_, fun h0 => ?_⟩
    · obtain ⟨n, hn, rfl⟩ := List.mem_map.1 hx
      have := hb n (List.mem_of_mem_take hn)
      omega
    · rw [hlen] at h0 ⊢
      obtain ⟨b, off, spot⟩ := a
      have hspot : spot = none := by simpa [Addr.add] using World.cell?_spot (hcell 0 (by omega))
      subst hspot
      refine ⟨b, off, rfl, hlt (.cell b off) (MemPlace.mem_row.2 ⟨0, by omega, by simp⟩), fun j hj => ?_⟩
      have hc := hcell j (by omega)
      have e : (zs.getD j 0) = (((zs.take len).map Int.toNat).getD j 0 : Nat) := by
        have hj2 : j < zs.length := by omega
        have := hb (zs[j]) (List.getElem_mem _)
        simp [List.getD_eq_getElem?_getD, hj2, hj]
        omega
      rw [e, Go.Cre.Addr.add_mk] at hc
      exact hc
theorem lifted (os : Os) (started : os.Started) (H : Type) (enc : TypeId × Value → H) :
    ReturnsInHanded {} Tryz.checked os 9 .any (fun w args => (Rows.taskTotalsSpec.pre enc Tryz.prog Tryz.f9 [] false w args ∧ laidMetH Tryz.prog laidL w) ∧ sizedMet enc Tryz.prog Tryz.f9 (OpenSpec.ofChange Rows.taskTotalsSpec) false w args)
      (Rows.taskTotalsSpec.post enc Tryz.prog Tryz.f9 false true false false) := by
  refine returnsInHanded_of_change_and (C := Tryz.checked) (X := fun w _ => laidMetH Tryz.prog laidL w) (fun _ _ _ hh h => h.of_heap hh) own started (by kernel_rfl) Tryz.func9
    (ChangeSpec.witness_shaped (enc := enc) (C := Tryz.checked) (os := os) (X := fun w _ => laidMetH Tryz.prog laidL w) false (World.doorLaid Tryz.prog 400 os) #[.slice none 0 0, .slice none 0 0] 8 rfl (World.shaped_of_RefB (by kernel_rfl) (by kernel_rfl)) (by kernel_rfl) (by kernel_rfl) (by kernel_rfl) (door_met os _)) ?_
  intro W base args ds gs before hval0 hW _ _ hL _
  have hW' := hW
  obtain ⟨p, q, hA0, hV, rfl, _, _⟩ := hW
  have hA : DataW.TrodAll enc Tryz.prog W 0 (fun _ => true) true Tryz.f9.params.toList args.toList ds p := hA0
  rw [Tryz.params9] at hA
  obtain ⟨rfl, rfl⟩ := trodVars_none hV
  simp only [List.append_nil] at hW'
  have hlt : ∀ x ∈ p, x.block < W.heap.size := fun x hx => by simpa using hW'.lt x hx
  obtain ⟨v0, v1, d0, d1, p0, p1, rfl, rfl, rfl, h0, h1⟩ := trodAll_two hA
  have hl0 : ∀ x ∈ p0, x.block < W.heap.size := fun x hx => hlt x (by simp [hx])
  have hl1 : ∀ x ∈ p1, x.block < W.heap.size := fun x hx => hlt x (by simp [hx])
  have hv0 : Value.okWide Tryz.prog W Reach.any base 91 v0 := hval0 0 91 v0 (by rw [Tryz.params9]; rfl) rfl
  have hv1 : Value.okWide Tryz.prog W Reach.any base 91 v1 := hval0 1 91 v1 (by rw [Tryz.params9]; rfl) rfl
  obtain ⟨zs, hz0⟩ := words_of hv0 h0 hl0
  obtain ⟨ys, hz1⟩ := words_of hv1 h1 hl1
  refine (totals_any (fun w _ => Go.Cre.speaks20 w (Nat.zero_le _)) zs ys v0 v1 W hz0 hz1).mono fun e W' ⟨he, hw⟩ => ?_
  subst he
  exact ⟨_, rfl, ⟨_, _, _, [], _, [], hW', trodAll_mk1 (shut_bool Tryz.underlying4 true),
    trodAll_mk2 (Below.trod laidOut (by kernel_rfl) (of_decide_eq_true (by kernel_rfl)) h0 hw hl0) (Below.trod laidOut (by kernel_rfl) (of_decide_eq_true (by kernel_rfl)) h1 hw hl1), rfl, hw.frame _, fun h => by cases h⟩⟩
end Go.Proofs.YtkfkpbhebidodaaGreatDoor
