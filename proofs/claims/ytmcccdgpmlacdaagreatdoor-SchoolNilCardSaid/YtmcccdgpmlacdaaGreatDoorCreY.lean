/-
From the evaluator's answer to a contract of the call, in whatever world.
-/
import Derived.Test.YtmcccdgpmlacdaaGreatDoorCreX
noncomputable section
namespace Go.Cre
open Go.RowKit (Below)

def truth (r : Option (List (Value × ASt))) : Bool :=
  match r with
  | some l => l.all fun r => match r.1 with
    | .bool true => true
    | _ => false
  | none => false

def namesOk (P : Program) : Bool := P.funcs.toList.all fun fn => !(fn.name == "runtime.NumGoroutine")

theorem POk.of {P : Program} (h : namesOk P = true) : POk P := ⟨fun g fn hf e => by
  have := List.all_eq_true.1 h fn (List.mem_of_getElem? (by simpa using hf))
  rw [e] at this
  simp at this⟩

/-- The package-level variables, and nothing else. -/
def ren0 (G : Nat) : Ren := fun b => if b < G then some ⟨b, 0, 0, 0, 0, undef⟩ else none

theorem ren0_ok (P : Program) (n : Nat) : GOk P ⟨n, []⟩ (ren0 n) := ⟨fun _ hg => ⟨_, if_pos hg, rfl, rfl⟩, fun e he => by cases he⟩

theorem start (G n0 : Nat) (w : World) (hG : G ≤ w.heap.size) (hn : G ≤ n0) : WRel w.heap.size w (ren0 G) ⟨putAll .leaf [], n0⟩ w := by
  have hget : ∀ b o, ASt.get ⟨putAll .leaf [], n0⟩ b = some o → False := fun b o h => by
    rcases putAll_get (l := []) h with h | ⟨_, h⟩
    · cases h
    · rw [Trie.getQ_eq] at h; simp [putAll, Trie.get] at h
  refine ⟨.refl _ _, ?_, fun b o t h => (hget b o h).elim, fun b o t h => (hget b o h).elim, fun b b' o o' t t' h => (hget b o h).elim, ?_, fun b o h => (hget b o h).elim, Nat.le_refl _⟩
  · intro b t h
    simp only [ren0] at h
    split at h
    · simp only [Option.some.injEq] at h; subst h; show b < _; omega
    · cases h
  · intro b hb
    have hb : n0 ≤ b := hb
    simp only [ren0]
    rw [if_neg (by omega)]

theorem runs_ok {P : Program} {G : Gl} {x : Known} (hp : POk P) (hx : ∀ B w0, KnownOk P G B w0 x) (n : Nat) (B : Nat) (w0 : World) : RecOk P G B w0 (run x (drawnA x P G) P G n) :=
  (run_ok hp (hx B w0) (drawnA_ok hp (hx B w0)) n).1

/-- A closed run that answers true in every outcome: so is the call, in whatever world. -/
theorem calls_of_truth {P : Program} {G n0 : Nat} {R : Rec} (hR : ∀ B w0, RecOk P ⟨G, []⟩ B w0 R) (hn : G ≤ n0) {f : FuncId} (h : truth (R.call f [] ⟨putAll .leaf [], n0⟩) = true) (w : World) (hG : G ≤ w.heap.size) :
    Calls P f #[] w fun e w' => e = .returned (.bool true) ∧ Below w.heap.size w w' := by
  unfold truth at h
  split at h
  · rename_i rs hrs
    refine callsIn_wide.1 (CallsIn.mono ((hR _ _).call _ _ _ _ hrs (ren0 G) w [] (ren0_ok P G) (start G n0 w hG hn) .nil) fun e w' ⟨r, hr, ρ', v', he, _, _, h3, h4⟩ => ?_)
    have := List.all_eq_true.1 h r hr
    split at this
    · rename_i hv
      rw [hv] at h3
      have : v' = .bool true := flat_eq (v := .bool true) rfl h3
      exact ⟨by rw [he, this], h4.below⟩
    · cases this
  · cases h

/-- A run from whatever start. -/
theorem calls_of {P : Program} {G : Gl} {R : Rec} (hR : ∀ B w0, RecOk P G B w0 R) {f : FuncId} {args args' : List Value} {σ : ASt} {rs : List (Value × ASt)} (h : R.call f args σ = some rs) {ρ : Ren} {w : World}
    (hg : GOk P G ρ) (hw : WRel w.heap.size w ρ σ w) (ha : LRel ρ args args') : Calls P f ⟨args'⟩ w (CPost w.heap.size w ρ σ.next rs) :=
  callsIn_wide.1 ((hR _ _).call _ _ _ _ h ρ w args' hg hw ha)

/-- One row that was there before, and names for values. -/
theorem start1 {w : World} {ρ : Ren} {n0 id : Nat} {t : Tgt} {vs : List Value} {elem : TypeId} {sz : Nat} {ys : List Value} {f : Nat × Nat} (hid : id < n0) (hρ : ρ id = some t) (hlt : ∀ b u, ρ b = some u → u.blk < w.heap.size) (hfr : ∀ b, n0 ≤ b → ρ b = none)
    (hh : w.heap[t.blk]? = some (.cells ⟨ys⟩ elem f)) (hsz : t.sz = sz) (hl : t.len = vs.length) (hy : ys.length = t.off + vs.length + t.extra * sz) (hr : LRel ρ vs ((ys.drop t.off).take vs.length)) :
    WRel w.heap.size w ρ ⟨putAll .leaf [(id, .cells vs elem sz true .any true)], n0⟩ w := by
  have hget : ∀ b o, ASt.get ⟨putAll .leaf [(id, .cells vs elem sz true .any true)], n0⟩ b = some o → b = id ∧ o = .cells vs elem sz true .any true := fun b o h => by
    rcases @putAll_get .leaf [(id, .cells vs elem sz true .any true)] b o h with h | ⟨_, h⟩
    · simpa using h
    · rw [Trie.getQ_eq] at h; simp [Trie.get] at h
  refine ⟨.refl _ _, hlt, ?_, ?_, ?_, hfr, ?_, Nat.le_refl _⟩
  · intro b o u hg hb
    obtain ⟨rfl, rfl⟩ := hget b o hg
    rw [hρ] at hb
    cases hb
    exact ⟨_, hh, ys, f, rfl, hsz, hl, hy, hr, (fun h => by cases h), trivial⟩
  · intro b o u hg hb hro
    obtain ⟨rfl, rfl⟩ := hget b o hg
    cases hro
  · intro b b' o o' u u' hg hg' _ _ _
    rw [(hget b o hg).1, (hget b' o' hg').1]
  · intro b o hg
    obtain ⟨rfl, _⟩ := hget b o hg
    exact hid
end Go.Cre
end
