/-
Regions that draw their order: what writes may come in either order, the outcomes told under the same numbers.
-/
import Derived.Test.YtmcccdgpmlacdaaGreatDoorCreWb
import Derived.Test.YtmcccdgpmlacdaaGreatDoorCreX
noncomputable section
namespace Go.Cre
open Go.RowKit (Below)

/-! ## An order of the operations, and who comes before whom -/

def unfit (ds : List Nat) (o : Oper) : Bool := o.after.toList.all fun e => !Region.binds .any e || ds.contains e.on
def ordA (idx : List (Nat × Oper)) : Nat → List Nat → List Nat
  | 0, ds => ds
  | k + 1, ds => match idx.find? (fun p => !ds.contains p.1 && unfit ds p.2) with
    | some p => ordA idx k (ds ++ [p.1])
    | none => ds
def posN : List Nat → Nat → Nat → Nat
  | [], _, n => n
  | a :: r, b, n => bif Nat.beq a b then n else posN r b (Nat.succ n)
def ancsO (rk : Nat → Nat) (all : List Oper) : List Nat → List Nat → List Nat
  | [], l => l
  | i :: r, l => match all[i]? with
    | some o => ancsO rk all r (l.set i (maskOf rk l i o))
    | none => ancsO rk all r l

/-- What may not stand beside another such one. -/
def isWr (o : Oper) : Bool :=
  match o.op with
  | .call ⟨.value _, _, _⟩ | .call ⟨.builtin .append, _, _⟩ | .call ⟨.builtin .copy, _, _⟩ | .call ⟨.builtin .delete, _, _⟩ => true
  | .store .. | .mapUpdate .. | .insert .. | .makeSlice .. | .convert .. | .makeMap _ (some _) => true
  | _ => false
def pairA (idx : List (Nat × Oper)) (ancs : List Nat) : Option (Nat × Nat) :=
  match idx.find? (fun p => isWr p.2 && idx.any fun q => Nat.blt p.1 q.1 && isWr q.2 && !Nat.testBit (ancs.getD q.1 0) p.1 && !Nat.testBit (ancs.getD p.1 0) q.1) with
  | some p => match idx.find? (fun q => Nat.blt p.1 q.1 && isWr q.2 && !Nat.testBit (ancs.getD q.1 0) p.1 && !Nat.testBit (ancs.getD p.1 0) q.1) with
    | some q => some (p.1, q.1)
    | none => none
  | none => none

def rangeN : Nat → Nat → List Nat
  | _, 0 => []
  | a, k + 1 => a :: rangeN (Nat.succ a) k
def numA (m : Nat) : List Nat → List (Nat × Nat)
  | [] => []
  | b :: r => (b, m) :: numA (Nat.succ m) r
/-- The numbers that an operation gave. -/
def givenA (r : List Stage × PSt) (i : Nat) : List Nat :=
  (r.1.flatMap fun s => bif Nat.beq s.i i then rangeN s.σ.next (s.σ'.next - s.σ.next) else []) ++ (r.2.ids.filterMap fun p => bif Nat.beq p.1 i then some p.2 else none)
def renFr (al : List (Nat × Nat)) (n' : Nat) (fr : Fr) : Fr := bif okAl fr.σ.next n' al then ⟨fr.ts.map (renV al depth), fr.ds, renS al n' fr.σ⟩ else fr
def evenA (idx : List (Nat × Oper)) (r : List Stage × PSt) (ds : List Deferred) : Fr :=
  let bs := idx.flatMap fun p => givenA r p.1
  renFr (numA r.2.σ.next bs) (r.2.σ.next + bs.length) ⟨r.2.ts, ds, r.2.σ⟩

def drawnS (x : Known) (P : Program) (G : Gl) (R : Rec) (fr : Fr) : Nat → List Oper → Option (List Fr)
  | 0, _ => none
  | k + 1, all =>
    let idx := indexA' all 0
    let ord := ordA idx all.length []
    let rk := fun i => posN ord i 0
    let ancs := ancsO rk all ord (List.replicate all.length 0)
    match drawnR x P G R rk ancs all fr with
    | some r => some [evenA idx r fr.ds]
    | none => match pairA idx ancs with
      | some (i, j) => bif Nat.beq i j then none else match drawnS x P G R fr k (addL i j all) with
        | some l => match drawnS x P G R fr k (addL j i all) with
          | some m => some (l ++ m)
          | none => none
        | none => none
      | none => none

def joinFs (f : Fr) : List Fr → Option Fr
  | [] => some f
  | g :: r => bif Nat.beq f.σ.next g.σ.next && veqL (veq depth) f.ts g.ts then joinFs ⟨f.ts, f.ds, ⟨meetF aobjEq f.σ.heap g.σ.heap, f.σ.next⟩⟩ r else none

def drawnB (x : Known) (P : Program) (G : Gl) : Draws := fun R rd all fr =>
  match drawnA x P G R rd all fr with
  | some r => some r
  | none => match drawnS x P G R fr 5 all with
    | some (f :: fs) => match joinFs f fs with
      | some g => some [(.normal, g)]
      | none => some ((f :: fs).map fun f => (.normal, f))
    | _ => none

section
variable {P : Program} {G : Gl} {B : Nat} {w0 : World} {R : Rec} {x : Known}

theorem renFr_post {ρ : Ren} {n : Nat} {al : List (Nat × Nat)} {n' : Nat} {fr : Fr} {e : Exit} {a : Act} {w : World} (h : QPost B w0 ρ n [(.normal, fr)] e a w) : QPost B w0 ρ n [(.normal, renFr al n' fr)] e a w := by
  obtain ⟨r, hr, ρ', h1, h2, h3, h4⟩ := h
  rw [List.mem_singleton] at hr
  subst hr
  unfold renFr
  cases ho : okAl fr.σ.next n' al with
  | false => exact ⟨_, List.mem_singleton.2 rfl, ρ', h1, h2, h3, h4⟩
  | true =>
    obtain ⟨k1, k2⟩ := renR_ok h4.w ho
    refine ⟨_, List.mem_singleton.2 rfl, renR al ρ', h1, h2.trans k2 h3, Nat.le_trans h3 (okAl_spec ho).1, ⟨renL_rel k1 h4.ts depth, h4.ds.mono k1.sub, renS_rel h4.w ho⟩⟩

theorem drawnS_ok (hp : POk P) (hx : KnownOk P G B w0 x) (hR : RecOk P G B w0 R) {fr : Fr} {rd : Option Nat} {ρ : Ren} {w : World} {a : Act} {F : Fence} (hg : GOk P G ρ) (hF : AtRd ρ rd F) (hfr : FrRel B w0 ρ fr a w) :
    ∀ (k : Nat) (all : List Oper) (l : List Fr), drawnS x P G R fr k all = some l → (∀ f, f ∈ l → f.ds = fr.ds) ∧ P.follows .mixedOrders = true ∧ ∀ arr : Array Oper, arr.toList = all → AllOk F 0 P arr (QPost B w0 ρ fr.σ.next (l.map fun f => (.normal, f))) a { w with drawn := w.drawn + 1 } := by
  intro k
  induction k with
  | zero => intro all l h; cases h
  | succ k ih =>
    intro all l h
    simp only [drawnS] at h
    split at h
    · rename_i r hr
      simp only [Option.some.injEq] at h
      subst h
      refine ⟨fun f hf => ?_, ?_, fun arr harr => ?_⟩
      · rw [List.mem_singleton] at hf
        subst hf
        unfold evenA renFr
        dsimp only
        cases okAl r.2.σ.next (r.2.σ.next + ((indexA' all 0).flatMap fun p => givenA r p.1).length) (numA r.2.σ.next ((indexA' all 0).flatMap fun p => givenA r p.1)) <;> rfl
      · exact (drawnR_any hp hx hR hr (arr := ⟨all⟩) rfl hg hF hfr).1
      · exact (AllOk.of_any (drawnR_any hp hx hR hr harr hg hF hfr).2).mono fun e a w h => renFr_post h
    · split at h
      · rename_i i j _
        cases hij : Nat.beq i j with
        | true => rw [hij] at h; cases h
        | false =>
          rw [hij] at h
          simp only [cond_false] at h
          split at h
          · rename_i l1 h1
            split at h
            · rename_i l2 h2
              simp only [Option.some.injEq] at h
              subst h
              obtain ⟨d1, m1, k1⟩ := ih _ _ h1
              obtain ⟨d2, m2, k2⟩ := ih _ _ h2
              refine ⟨fun f hf => ?_, m1, fun arr harr => ?_⟩
              · rcases List.mem_append.1 hf with hf | hf
                · exact d1 f hf
                · exact d2 f hf
              · have hne : i ≠ j := fun e => by rw [e, Nat.beq_refl] at hij; cases hij
                refine AllOk.split (ops1 := ⟨addL i j all⟩) (ops2 := ⟨addL j i all⟩) hne harr rfl rfl ((k1 ⟨addL i j all⟩ rfl).mono fun e a w h => ?_) ((k2 ⟨addL j i all⟩ rfl).mono fun e a w h => ?_)
                · obtain ⟨r, hr, q⟩ := h
                  exact ⟨r, by rw [List.map_append]; exact List.mem_append_left _ hr, q⟩
                · obtain ⟨r, hr, q⟩ := h
                  exact ⟨r, by rw [List.map_append]; exact List.mem_append_right _ hr, q⟩
            · cases h
          · cases h
      · cases h

theorem joinFs_tells : ∀ (l : List Fr) (f g : Fr), joinFs f l = some g → g.ds = f.ds ∧ ∀ f', (f' = f ∨ f' ∈ l) → g.ts = f'.ts ∧ g.σ.next = f'.σ.next ∧ ∀ b o, g.σ.get b = some o → f'.σ.get b = some o := by
  intro l
  induction l with
  | nil =>
    intro f g h
    simp only [joinFs, Option.some.injEq] at h
    subst h
    refine ⟨rfl, fun f' hf => ?_⟩
    rcases hf with rfl | hf
    · exact ⟨rfl, rfl, fun b o h => h⟩
    · cases hf
  | cons q r ih =>
    intro f g h
    simp only [joinFs] at h
    cases hb : (Nat.beq f.σ.next q.σ.next && veqL (veq depth) f.ts q.ts) with
    | false => rw [hb] at h; cases h
    | true =>
      rw [hb] at h
      simp only [cond_true] at h
      simp only [Bool.and_eq_true] at hb
      have hn := Nat.eq_of_beq_eq_true hb.1
      have ht := veqL_eq (fun _ _ => veq_eq depth) hb.2
      obtain ⟨h1, h2⟩ := ih _ _ h
      have hget : ∀ b o, ASt.get ⟨meetF aobjEq f.σ.heap q.σ.heap, f.σ.next⟩ b = some o → f.σ.get b = some o ∧ q.σ.get b = some o := by
        intro b o hg
        simp only [ASt.get, Trie.getQ_eq] at hg ⊢
        exact meetF_get (fun _ _ => aobjEq_eq) _ _ _ _ hg
      obtain ⟨k1, k2, k3⟩ := h2 _ (.inl rfl)
      refine ⟨h1, fun f' hf => ?_⟩
      rcases hf with rfl | hf
      · exact ⟨k1, k2, fun b o hg => (hget b o (k3 b o hg)).1⟩
      · rcases List.mem_cons.1 hf with rfl | hf
        · exact ⟨k1.trans ht, k2.trans hn, fun b o hg => (hget b o (k3 b o hg)).2⟩
        · exact h2 f' (.inr hf)

theorem drawnB_ok (hp : POk P) (hx : KnownOk P G B w0 x) : DrawsOk P G B w0 (drawnB x P G) := by
  intro R hR rd all fr rs h id arr harr ρ w a F hg hF hfr
  unfold drawnB at h
  split at h
  · rename_i r hr
    simp only [Option.some.injEq] at h
    subst h
    exact drawnA_ok hp hx R hR rd all fr _ hr id arr harr ρ w a F hg hF hfr
  · split at h
    · rename_i f fs hs
      obtain ⟨hd, hm, hall⟩ := drawnS_ok hp hx hR hg hF hfr _ _ _ hs
      split at h
      · rename_i g hj
        simp only [Option.some.injEq] at h
        subst h
        obtain ⟨h1, h2⟩ := joinFs_tells _ _ _ hj
        refine AllOk.region hm ((hall arr harr).mono fun e a w h => ?_)
        obtain ⟨r, hr, ρ', k1, k2, k3, k4⟩ := h
        obtain ⟨f', hf', rfl⟩ := List.mem_map.1 hr
        obtain ⟨j1, j2, j3⟩ := h2 f' (by simpa using hf')
        refine ⟨_, List.mem_singleton.2 rfl, ρ', k1, k2, by show _ ≤ g.σ.next; rw [j2]; exact k3, ⟨by show LRel ρ' g.ts _; rw [j1]; exact k4.ts, ?_, k4.w.weaken j2 j3⟩⟩
        show DLRel ρ' g.ds _
        rw [h1, hd f List.mem_cons_self, ← hd f' hf']
        exact k4.ds
      · simp only [Option.some.injEq] at h
        subst h
        exact AllOk.region hm (hall arr harr)
    · cases h

theorem runsB_ok (hp : POk P) (hx : ∀ B w0, KnownOk P G B w0 x) (n : Nat) (B : Nat) (w0 : World) : RecOk P G B w0 (run x (drawnB x P G) P G n) :=
  (run_ok hp (hx B w0) (drawnB_ok hp (hx B w0)) n).1
end
end Go.Cre
end
