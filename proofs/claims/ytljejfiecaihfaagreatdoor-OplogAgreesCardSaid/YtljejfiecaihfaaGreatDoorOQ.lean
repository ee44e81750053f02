/- The row of OplogAgrees: the call returns true for all lists of entries and every number, in every world where the row's condition holds. -/
import Derived.Test.YtljejfiecaihfaaGreatDoorRows
import Derived.Test.YtljejfiecaihfaaGreatDoorTie
import Derived.Test.YtljejfiecaihfaaGreatDoorCards
import Derived.ProofKit
import Derived.LaidMore
import Derived.OpenShut
import Derived.Carry
import Derived.Stop.Joined
import Derived.SevenTiedAt
import Derived.Test.YtljejfiecaihfaaGreatDoorOP
namespace Go.Proofs.YtljejfiecaihfaaGreatDoor
open Go Go.ChangeShapes Go.WideShapes Go.ChangeAt Go.RowKit
set_option maxRecDepth 100000
theorem own : ownKnob Tryz.prog.godebug = none := by kernel_rfl
abbrev laidL : List (String × DataW Unit) := [("math/bits.deBruijn32tab", Rows.laid_math_bits_deBruijn32tab), ("math/bits.deBruijn64tab", Rows.laid_math_bits_deBruijn64tab), ("internal/strconv.uint64pow10", Rows.laid_internal_strconv_uint64pow10)]
theorem door_met (os : Os) (args : Array Value) : laidMetH Tryz.prog laidL ((World.doorLaid Tryz.prog 400 os).forCall (fun _ _ => 0) ⟨#[], args, []⟩).memory :=
  laidMetH_of_parts3 (fuel := 8) (laidMet_of_run' 8 (by kernel_rfl) (by kernel_rfl)) (by kernel_rfl) (by kernel_rfl)
theorem laidOut : laidOutB Tryz.prog = true := by kernel_rfl
/-- Where a package-level variable reads, the memory is not empty. -/
theorem pos_of_laid {P : Program} {W : World} {n : String} {d : DataW Unit} {r : List (String × DataW Unit)} (h : laidMet P ((n, d) :: r) W) : 0 < W.heap.size := by
  obtain ⟨ps, ⟨g, t, cs, fuel, p, q, hg, ht, hvar, hd, _, _⟩, _⟩ := h
  unfold World.var? at hvar
  rw [hg] at hvar
  simp only [Option.bind_some] at hvar
  split at hvar
  · rename_i hh
    obtain ⟨h1, _⟩ := Array.getElem?_eq_some_iff.1 hh
    omega
  · cases hvar
theorem u22 : Tryz.prog.underlying 22 = some (.slice 55) := by kernel_rfl
theorem u55 : Tryz.prog.underlying 55 = some (.struct (Tryz.prog.fieldsOf 55)) := by kernel_rfl
theorem u3 : Tryz.prog.underlying 3 = some (.int .i64) := by kernel_rfl
theorem u4 : Tryz.prog.underlying 4 = some .bool := by kernel_rfl
theorem u9 : Tryz.prog.underlying 9 = some .string := by kernel_rfl
theorem c55 : Tryz.prog.cellsOf 55 = 3 := by kernel_rfl
theorem c3 : Tryz.prog.cellsOf 3 = 1 := by kernel_rfl
theorem c9 : Tryz.prog.cellsOf 9 = 1 := by kernel_rfl
theorem f55 : (Tryz.prog.fieldsOf 55).toList.map (fun f => (decide (f.name = "_"), f.type, f.offset)) = [(false, 3, 0), (false, 3, 1), (false, 9, 2)] := by kernel_rfl
section
variable {H : Type} {enc : TypeId × Value → H} {W : World} {base : Nat} {spare : Nat → Bool} {held : Bool}
theorem entry_of {fuel : Nat} {cs : List Value} {x : DataW H × List MemPlace} (h : DataW.trod enc Tryz.prog W base spare held fuel 55 cs = some x) : ∃ e : Ent, cs = [.int .i64 e.c, .int .i64 e.k, .string e.t] := by
  obtain ⟨xs, n, _, _, hl, hxs, hf⟩ := DataW.trod_struct u55 h
  obtain ⟨f, g, k, hfs, _, _, _, tf, tg, tk, of, og, ok⟩ := fields3 f55
  have hfs : Tryz.prog.fieldsOf 55 = #[f, g, k] := by apply Array.ext'; simpa using hfs
  rw [hfs] at hf hxs
  rw [c55] at hl
  have hxl : xs.length = 3 := hxs
  match cs, hl with
  | [v0, v1, v2], _ =>
    have h0 := hf 0 f rfl
    have h1 := hf 1 g rfl
    have h2 := hf 2 k rfl
    rw [tf, of, c3] at h0
    rw [tg, og, c3] at h1
    rw [tk, ok, c9] at h2
    rw [List.getElem?_eq_getElem (by omega)] at h0 h1 h2
    obtain ⟨n0, e0, _⟩ := DataW.trod_int u3 h0
    obtain ⟨n1, e1, _⟩ := DataW.trod_int u3 h1
    obtain ⟨s2, e2, _⟩ := DataW.trod_string u9 h2
    simp at e0 e1 e2
    exact ⟨⟨n0, n1, s2⟩, by rw [e0, e1, e2]⟩
theorem entries_of {b0 : Nat} {v : Value} {d : DataW H} {p : List MemPlace} (hv : Value.okWide Tryz.prog W Reach.any b0 22 v) (h : DataW.Trod enc Tryz.prog W 0 (fun _ => true) true 22 v d p) (_ : ∀ x ∈ p, x.block < W.heap.size) :
    ∃ ao cap es, v = .slice ao es.length cap ∧ RowAt W ao es := by
  obtain ⟨a0, len, cap, rfl⟩ := okWide_slice u22 hv
  obtain ⟨fuel, hf⟩ := h
  rcases DataW.trod_slice u22 hf with ⟨hcs, _⟩ | ⟨a, len', cap', elems, rest, n, _, hcs, hx, _, hl, hm, hlen, hel, _⟩
  · simp [Value.cells] at hcs
    obtain ⟨rfl, rfl, rfl⟩ := hcs
    exact ⟨none, 0, [], rfl, fun j e hj => by simp at hj⟩
  · simp [Value.cells] at hcs
    obtain ⟨rfl, rfl, rfl⟩ := hcs
    have each : ∀ i, i < len → ∃ e : Ent, W.cell? (a.add (i * 3)) = some (.int .i64 e.c) ∧ W.cell? ((a.add (i * 3)).add 1) = some (.int .i64 e.k) ∧ W.cell? ((a.add (i * 3)).add 2) = some (.string e.t) := by
      intro i hi
      have h1 := hel i hi
      rw [List.getElem?_eq_getElem (by omega), c55, Option.bind_eq_some_iff] at h1
      obtain ⟨cs, hcs, hy⟩ := h1
      obtain ⟨e, rfl⟩ := entry_of hy
      obtain ⟨_, _, hc⟩ := World.cells?_some hcs
      have k0 := hc 0 (by omega)
      have k1 := hc 1 (by omega)
      have k2 := hc 2 (by omega)
      refine ⟨e, ?_, k1, k2⟩
      simpa [Addr.add] using k0
    obtain ⟨es, hes, hget⟩ : ∃ es : List Ent, es.length = len ∧ ∀ i e, es[i]? = some e → W.cell? (a.add (i * 3)) = some (.int .i64 e.c) ∧ W.cell? ((a.add (i * 3)).add 1) = some (.int .i64 e.k) ∧ W.cell? ((a.add (i * 3)).add 2) = some (.string e.t) := by
      have key : ∀ m, m ≤ len → ∃ es : List Ent, es.length = m ∧ ∀ i e, es[i]? = some e → W.cell? (a.add (i * 3)) = some (.int .i64 e.c) ∧ W.cell? ((a.add (i * 3)).add 1) = some (.int .i64 e.k) ∧ W.cell? ((a.add (i * 3)).add 2) = some (.string e.t) := by
        intro m
        induction m with
        | zero => intro _; exact ⟨[], rfl, fun i e he => by simp at he⟩
        | succ m ih =>
          intro hm
          obtain ⟨es, h1, h2⟩ := ih (by omega)
          obtain ⟨e, he⟩ := each m (by omega)
          refine ⟨es ++ [e], by simp [h1], fun i x hx => ?_⟩
          by_cases hi : i < es.length
          · rw [List.getElem?_append_left hi] at hx
            exact h2 i x hx
          · have hil := (List.getElem?_eq_some_iff.1 hx).1
            simp at hil
            have : i = m := by omega
            subst this
            rw [List.getElem?_append_right (by omega), h1, Nat.sub_self] at hx
            simp at hx
            subst hx
            exact he
      exact key len (Nat.le_refl _)
    refine ⟨some a, cap, es, by rw [hes], fun j e hj => ?_⟩
    have hjl := (List.getElem?_eq_some_iff.1 hj).1
    obtain ⟨k0, k1, k2⟩ := hget j e hj
    obtain ⟨b, off, spot⟩ := a
    have hspot : spot = none := by
      obtain ⟨z, hz⟩ : ∃ z, es[0]? = some z := ⟨_, List.getElem?_eq_getElem (by omega)⟩
      have := World.cell?_spot (hget 0 z hz).1
      simpa [Addr.add] using this
    subst hspot
    have ea : ∀ (o i : Nat), (⟨b, o, none⟩ : Addr).add i = ⟨b, o + i, none⟩ := fun o i => add_plain b o i
    rw [ea] at k0 k1 k2
    rw [ea] at k1 k2
    have hb : b < W.heap.size := by
      unfold World.cell? at k0
      split at k0
      · rename_i hh
        exact (Array.getElem?_eq_some_iff.1 hh).1
      · cases k0
    exact ⟨b, off, rfl, hb, k0, k1, k2⟩
end
theorem lifted (os : Os) (started : os.Started) (H : Type) (enc : TypeId × Value → H) :
    ReturnsInHanded {} Tryz.checked os 3 .any (fun w args => (Rows.oplogAgreesSpec.pre enc Tryz.prog Tryz.f3 [] false w args ∧ laidMetH Tryz.prog laidL w) ∧ sizedMet enc Tryz.prog Tryz.f3 (OpenSpec.ofChange Rows.oplogAgreesSpec) false w args)
      (Rows.oplogAgreesSpec.post enc Tryz.prog Tryz.f3 false true false false) := by
  refine returnsInHanded_of_change_and (C := Tryz.checked) (X := fun w _ => laidMetH Tryz.prog laidL w) (fun _ _ _ hh h => h.of_heap hh) own started (by kernel_rfl) Tryz.func3
    (ChangeSpec.witness_shaped (enc := enc) (C := Tryz.checked) (os := os) (X := fun w _ => laidMetH Tryz.prog laidL w) false (World.doorLaid Tryz.prog 400 os) #[.slice none 0 0, .slice none 0 0, .int .i64 0] 8 rfl (World.shaped_of_RefB (by kernel_rfl) (by kernel_rfl)) (by kernel_rfl) (by kernel_rfl) (by kernel_rfl) (door_met os _)) ?_
  intro W base args ds gs before hval0 hW _ _ hL _
  have hW' := hW
  obtain ⟨p, q, hA0, hV, rfl, _, _⟩ := hW
  have hA : DataW.TrodAll enc Tryz.prog W 0 (fun _ => true) true Tryz.f3.params.toList args.toList ds p := hA0
  rw [Tryz.params3] at hA
  obtain ⟨rfl, rfl⟩ := trodVars_none hV
  simp only [List.append_nil] at hW'
  have hlt : ∀ x ∈ p, x.block < W.heap.size := fun x hx => by simpa using hW'.lt x hx
  obtain ⟨v0, v1, v2, d0, d1, d2, p0, p1, p2, rfl, rfl, rfl, h0, h1, h2⟩ := trodAll_three hA
  have hl0 : ∀ x ∈ p0, x.block < W.heap.size := fun x hx => hlt x (by simp [hx])
  have hl1 : ∀ x ∈ p1, x.block < W.heap.size := fun x hx => hlt x (by simp [hx])
  have hl2 : ∀ x ∈ p2, x.block < W.heap.size := fun x hx => hlt x (by simp [hx])
  have hv0 : Value.okWide Tryz.prog W Reach.any base 22 v0 := hval0 0 22 v0 (by rw [Tryz.params3]; rfl) rfl
  have hv1 : Value.okWide Tryz.prog W Reach.any base 22 v1 := hval0 1 22 v1 (by rw [Tryz.params3]; rfl) rfl
  have hv2 : Value.okWide Tryz.prog W Reach.any base 3 v2 := hval0 2 3 v2 (by rw [Tryz.params3]; rfl) rfl
  obtain ⟨a0, c0, es0, rfl, r0⟩ := entries_of hv0 h0 hl0
  obtain ⟨a1, c1, es1, rfl, r1⟩ := entries_of hv1 h1 hl1
  obtain ⟨op, rfl⟩ := okWide_int u3 hv2
  have hsize : 0 < W.heap.size := by
    have h : laidMet Tryz.prog laidL W := hL
    exact pos_of_laid h
  refine (law_any W a0 a1 es0.length es1.length c0 c1 es0 es1 op hsize rfl rfl r0 r1).mono fun e W' ⟨he, hw⟩ => ?_
  subst he
  exact ⟨_, rfl, ⟨_, _, _, [], _, [], hW', trodAll_mk1 (shut_bool u4 true),
    trodAll_mk3 (Below.trod laidOut (by kernel_rfl) (of_decide_eq_true (by kernel_rfl)) h0 hw hl0) (Below.trod laidOut (by kernel_rfl) (of_decide_eq_true (by kernel_rfl)) h1 hw hl1) (Below.trod laidOut (by kernel_rfl) (of_decide_eq_true (by kernel_rfl)) h2 hw hl2), rfl, hw.frame _, fun h => by cases h⟩⟩
end Go.Proofs.YtljejfiecaihfaaGreatDoor
