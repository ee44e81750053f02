/- oplog: two logs of plain entries: what is handed back, for all entries. -/
import Derived.Test.YtljejfiecaihfaaGreatDoorOJ
namespace Go.Proofs.YtljejfiecaihfaaGreatDoor
open Go Go.RowKit Go.Cre
set_option maxRecDepth 1000000
noncomputable section
theorem lenE {w : World} {ao : Option Addr} {n cap : Nat} (ats : Array TypeId) (ty : TypeId) (cs : Array Bool) (h : ats[0]? = some 22) : (builtin .len ats ty cs #[.slice ao n cap]).run Tryz.prog w = .ok (.value (nt n)) w := by
  have hu : Tryz.prog.underlying 22 = some (.slice 55) := by kernel_rfl
  simp [builtin, Builtin.len_, h, run_underlying hu, goInt]
theorem idxE {w : World} {g off n cap i : Nat} (hi : i < n) : (Instr.indexAt 22 (.slice (some ⟨g, off, none⟩) n cap) (nt i)).run Tryz.prog w = .ok (.pointer (some ⟨g, off + 3 * i, none⟩)) w := by
  have hu : Tryz.prog.underlying 22 = some (.slice 55) := by kernel_rfl
  have hc : Tryz.prog.cellsOf 55 = 3 := by kernel_rfl
  have hi2 : (Tryz.prog.info? 55).isSome = true := by kernel_rfl
  obtain ⟨t, ht⟩ := Option.isSome_iff_exists.1 hi2
  have hs : (sizeOf 55).run Tryz.prog w = .ok 3 w := by rw [run_sizeOf w ht, hc]
  have h2 : (i : Int) < n := by omega
  have e : ∀ k, (if k = 0 then (⟨g, off, none⟩ : Addr) else ⟨g, off + k, none⟩) = ⟨g, off + k, none⟩ := fun k => by
    split
    · rename_i h; subst h; rfl
    · rfl
  simp [Instr.indexAt, asIntOf, run_underlying hu, hi, Addr.add, Nat.mul_comm, e]
theorem rowCells {w : World} {al : Option Addr} {es : List Ent} (hr : RowAt w al es) (hne : es ≠ []) : ∃ g off ys e f, al = some ⟨g, off, none⟩ ∧ g < w.heap.size ∧ w.heap[g]? = some (.cells ⟨ys⟩ e f) ∧ ∀ i v, (cellsOf es)[i]? = some v → ys[off + i]? = some v := by
  obtain ⟨e0, he0⟩ : ∃ e0, es[0]? = some e0 := by
    cases es with
    | nil => exact absurd rfl hne
    | cons a r => exact ⟨a, rfl⟩
  obtain ⟨g, off, rfl, hg, c0, _, _⟩ := hr 0 e0 he0
  obtain ⟨ys, e, f, hh⟩ : ∃ ys e f, w.heap[g]? = some (.cells ⟨ys⟩ e f) := by
    simp only [World.cell?] at c0
    split at c0
    · rename_i cs e f h
      exact ⟨cs.toList, e, f, by simpa using h⟩
    · cases c0
  refine ⟨g, off, ys, e, f, rfl, hg, hh, ?_⟩
  have cl : ∀ o v, w.cell? ⟨g, o, none⟩ = some v → ys[o]? = some v := fun o v h => by simpa [World.cell?, hh] using h
  intro i v hv
  have hi : i < 3 * es.length := by rw [← cellsOf_length]; exact (List.getElem?_eq_some_iff.1 hv).1
  obtain ⟨x, hx⟩ : ∃ x, es[i / 3]? = some x := ⟨_, List.getElem?_eq_getElem (by omega)⟩
  obtain ⟨g', off', e', _, d0, d1, d2⟩ := hr (i / 3) x hx
  cases e'
  obtain ⟨k0, k1, k2⟩ := cellsOf_get es (i / 3) x hx
  have hd := Nat.div_add_mod i 3
  have hm := Nat.mod_lt i (show 0 < 3 by omega)
  rcases (show i % 3 = 0 ∨ i % 3 = 1 ∨ i % 3 = 2 by omega) with h | h | h
  · rw [show i = 3 * (i / 3) by omega] at hv ⊢
    rw [k0] at hv
    cases hv
    have := cl _ _ d0
    rwa [Nat.mul_comm] at this
  · rw [show i = 3 * (i / 3) + 1 by omega] at hv ⊢
    rw [k1] at hv
    cases hv
    have := cl _ _ d1
    rwa [Nat.mul_comm, Nat.add_assoc] at this
  · rw [show i = 3 * (i / 3) + 2 by omega] at hv ⊢
    rw [k2] at hv
    cases hv
    have := cl _ _ d2
    rwa [Nat.mul_comm, Nat.add_assoc] at this
end
end Go.Proofs.YtljejfiecaihfaaGreatDoor
