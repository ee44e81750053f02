/-
A region that draws its order, parted: two operations come up in the one order or in the other.
-/
import Derived.Test.YtmcccdgpmlacdaaGreatDoorCreW
noncomputable section
namespace Go.Cre
open Go.RowKit (Below)

/-- The operation, but for what it waits for. -/
def stripO (o : Oper) : Oper := { o with after := #[] }

def Alike (ops ops' : Array Oper) : Prop := ∀ k : Nat, (ops'[k]?).map stripO = (ops[k]?).map stripO

section
variable {F : Fence} {n : Nat} {P : Program} {Q : Exit → Act → World → Prop}

theorem strip_wp (o : Oper) (a : Act) (w : World) (K : Act → World → Prop) : (stripO o).wpIn F n P a w K Q = o.wpIn F n P a w K Q := by
  obtain ⟨dst, op, type, pos, after, guard⟩ := o; rfl
theorem strip_about (o : Oper) (w : World) (f : Operand → Value) : (stripO o).about P w f = o.about P w f := by
  obtain ⟨dst, op, type, pos, after, guard⟩ := o; rfl
theorem alike_yielded {ops ops' : Array Oper} (h : Alike ops ops') (ts : Array Value) : yielded ops' ts = yielded ops ts := by
  funext j
  unfold yielded
  have hj := h j
  have : (ops'[j]?).bind (·.dst) = (ops[j]?).bind (·.dst) := by
    cases h1 : ops'[j]? <;> cases h2 : ops[j]? <;> rw [h1, h2] at hj <;> simp at hj ⊢
    · have := congrArg Oper.dst hj; simpa [stripO] using this
  rw [this]
theorem alike_ops {ops ops' : Array Oper} (h : Alike ops ops') : ∀ (L : List Nat) (a : Act) (w : World), wpOpsIn F n P ops' Q L a w → wpOpsIn F n P ops Q L a w := by
  intro L
  induction L with
  | nil => intro a w h; exact h
  | cons i L ih =>
    intro a w hw
    have hi := h i
    rw [wpOpsIn_cons] at hw ⊢
    unfold wpOpIn at hw ⊢
    rw [alike_yielded h] at hw
    cases h1 : ops'[i]? with
    | none =>
      rw [h1] at hi hw
      cases h2 : ops[i]? with
      | none => exact ih a w hw
      | some o => rw [h2] at hi; cases hi
    | some o' =>
      rw [h1] at hi hw
      cases h2 : ops[i]? with
      | none => rw [h2] at hi; cases hi
      | some o =>
        rw [h2] at hi
        simp only [Option.map_some, Option.some.injEq] at hi
        simp only at hw ⊢
        have hg : o'.guard = o.guard := by have := congrArg Oper.guard hi; simpa [stripO] using this
        have hd : o'.dst = o.dst := by have := congrArg Oper.dst hi; simpa [stripO] using this
        have hwant : ∀ y, Region.wanted o' y = Region.wanted o y := fun y => by unfold Region.wanted; rw [hg]
        rw [hwant] at hw
        cases hb : Region.wanted o (yielded ops a.tmps) with
        | true =>
          rw [hb] at hw
          simp only [if_true] at hw ⊢
          rw [← strip_wp, hi, strip_wp] at hw
          exact Oper.wpIn_mono (fun a w => ih a w) hw
        | false =>
          rw [hb] at hw
          simp only [Bool.false_eq_true, if_false] at hw ⊢
          refine ⟨fun f hf => hw.1 f ?_, hd ▸ ih _ _ hw.2⟩
          rw [← strip_about, hi, strip_about]
          exact hf

/-- A way to take a region's operations. -/
def Lists (ops : Array Oper) : Array Bool → List Nat → Prop
  | listed, [] => Region.ready .any ops listed = []
  | listed, i :: L => i ∈ Region.ready .any ops listed ∧ Lists ops (listed.setIfInBounds i true) L

theorem any_lists {ops : Array Oper} : ∀ (L : List Nat) (fuel : Nat) (listed : Array Bool) (a : Act) (w : World), wpAnyIn F n P .any ops Q fuel listed a w → Lists ops listed L → wpOpsIn F n P ops Q L a w := by
  intro L
  induction L with
  | nil =>
    intro fuel listed a w h hl
    cases fuel with
    | zero => exact h.2
    | succ fuel => exact h.1 hl
  | cons i L ih =>
    intro fuel listed a w h hl
    cases fuel with
    | zero => have h1 := hl.1; rw [h.1] at h1; cases h1
    | succ fuel =>
      rw [wpOpsIn_cons]
      exact wpOpIn_mono (fun a w hw => ih fuel _ a w hw hl.2) (h.2 i hl.1)

/-- What a draw gives is such a way. -/
theorem go_lists {ops : Array Oper} : ∀ (fuel t : Nat) (listed : Array Bool), listed.size = ops.size → unl listed ops.size ≤ fuel → Lists ops listed (Region.linearise.go .any ops fuel t listed []) := by
  intro fuel
  induction fuel with
  | zero =>
    intro t listed hsz hu
    have hall := unl_zero (Nat.le_zero.1 hu)
    show Region.ready .any ops listed = []
    refine List.eq_nil_iff_forall_not_mem.2 fun i hi => ?_
    obtain ⟨h1, o, h2, _⟩ := mem_ready.1 hi
    rw [hall i (Array.getElem?_eq_some_iff.1 h2).1] at h1
    cases h1
  | succ fuel ih =>
    intro t listed hsz hu
    simp only [Region.linearise.go]
    change Lists ops listed (match (Region.ready .any ops listed)[t % (Region.ready .any ops listed).length]? with
      | some i => Region.linearise.go .any ops fuel (t / (Region.ready .any ops listed).length) (listed.setIfInBounds i true) [i]
      | none => [].reverse)
    cases hi : (Region.ready .any ops listed)[t % (Region.ready .any ops listed).length]? with
    | none =>
      show Region.ready .any ops listed = []
      cases hr : Region.ready .any ops listed with
      | nil => rfl
      | cons x xs =>
        rw [hr] at hi
        have hlt : t % (x :: xs).length < (x :: xs).length := Nat.mod_lt _ (by simp)
        simp at hi
        simp at hlt
        omega
    | some i =>
      have hm := List.mem_of_getElem? hi
      simp only []
      rw [linearise_go_acc, List.reverse_singleton, List.singleton_append]
      obtain ⟨h1, o, h2, _⟩ := mem_ready.1 hm
      have hlt := (Array.getElem?_eq_some_iff.1 h2).1
      exact ⟨hm, ih _ _ (by simp [hsz]) (by have := unl_set (n := ops.size) hlt h1; omega)⟩

/-- An edge more: operation j waits for operation i. -/
def addL (i : Nat) : Nat → List Oper → List Oper
  | _, [] => []
  | 0, o :: r => { o with after := o.after.push { on := i, ground := .data } } :: r
  | j + 1, o :: r => o :: addL i j r

theorem addL_get (i : Nat) : ∀ (all : List Oper) (j k : Nat), (addL i j all)[k]? = if k = j then (all[k]?).map fun o => { o with after := o.after.push { on := i, ground := .data } } else all[k]? := by
  intro all
  induction all with
  | nil => intro j k; cases j <;> simp [addL]
  | cons o r ih =>
    intro j k
    cases j with
    | zero => cases k <;> simp [addL]
    | succ j => cases k with
      | zero => simp [addL]
      | succ k => simp [addL, ih]

theorem addL_alike {all : List Oper} {i j : Nat} {ops ops' : Array Oper} (h : ops.toList = all) (h' : ops'.toList = addL i j all) : Alike ops ops' := by
  intro k
  have e : ops[k]? = all[k]? := by rw [← h]; simp
  have e' : ops'[k]? = (addL i j all)[k]? := by rw [← h']; simp
  rw [e, e', addL_get]
  split
  · cases all[k]? <;> simp [stripO]
  · rfl

def Waits (i j : Nat) : Array Bool → List Nat → Prop
  | _, [] => True
  | listed, k :: L => (k = j → listed.getD i false = true) ∧ Waits i j (listed.setIfInBounds k true) L

theorem waits_done {i j : Nat} : ∀ (L : List Nat) (listed : Array Bool), listed.getD i false = true → Waits i j listed L := by
  intro L
  induction L with
  | nil => intro _ _; trivial
  | cons k L ih =>
    intro listed h
    have hb : i < listed.size := Decidable.byContradiction fun hc => by simp [Array.getD, hc] at h
    exact ⟨fun _ => h, ih _ (by rw [← getD_tf (by simpa using hb)]; exact getD_set_of (by rw [getD_tf hb]; exact h))⟩

theorem waits_or {i j : Nat} (hij : i ≠ j) : ∀ (L : List Nat) (listed : Array Bool), (∀ k ∈ L, k < listed.size) → Waits i j listed L ∨ Waits j i listed L := by
  intro L
  induction L with
  | nil => intro _ _; exact .inl trivial
  | cons k L ih =>
    intro listed hlt
    have hk := hlt k List.mem_cons_self
    have hset : (listed.setIfInBounds k true).getD k false = true := by rw [← getD_tf (by simpa using hk)]; exact getD_set_self
    by_cases h1 : k = i
    · subst h1
      exact .inl ⟨fun e => absurd e hij, waits_done _ _ hset⟩
    · by_cases h2 : k = j
      · subst h2
        exact .inr ⟨fun e => absurd e h1, waits_done _ _ hset⟩
      · rcases ih (listed.setIfInBounds k true) (fun q hq => by simpa using hlt q (List.mem_cons_of_mem _ hq)) with h | h
        · exact .inl ⟨fun e => absurd e h2, h⟩
        · exact .inr ⟨fun e => absurd e h1, h⟩

theorem lists_lt {ops : Array Oper} : ∀ (L : List Nat) (listed : Array Bool), Lists ops listed L → ∀ k ∈ L, k < ops.size := by
  intro L
  induction L with
  | nil => intro _ _ k hk; cases hk
  | cons i L ih =>
    intro listed h k hk
    rcases List.mem_cons.1 hk with rfl | hk
    · obtain ⟨_, o, h2, _⟩ := mem_ready.1 h.1
      exact (Array.getElem?_eq_some_iff.1 h2).1
    · exact ih _ h.2 k hk

theorem lists_add {all : List Oper} {i j : Nat} {ops ops' : Array Oper} (h : ops.toList = all) (h' : ops'.toList = addL i j all) : ∀ (L : List Nat) (listed : Array Bool), Lists ops listed L → Waits i j listed L → Lists ops' listed L := by
  have get' : ∀ k, ops'[k]? = if k = j then (ops[k]?).map fun o => { o with after := o.after.push { on := i, ground := .data } } else ops[k]? := fun k => by
    have e : ops[k]? = all[k]? := by rw [← h]; simp
    have e' : ops'[k]? = (addL i j all)[k]? := by rw [← h']; simp
    rw [e, e', addL_get]
  have sub : ∀ listed k, k ∈ Region.ready .any ops' listed → k ∈ Region.ready .any ops listed := fun listed k hk => by
    obtain ⟨h1, o, h2, h3⟩ := mem_ready.1 hk
    rw [get'] at h2
    split at h2
    · cases ho : ops[k]? with
      | none => rw [ho] at h2; cases h2
      | some o0 =>
        rw [ho] at h2
        simp only [Option.map_some, Option.some.injEq] at h2
        subst h2
        exact mem_ready.2 ⟨h1, o0, ho, fun e he hb => h3 e (by simp [he]) hb⟩
    · exact mem_ready.2 ⟨h1, o, h2, h3⟩
  intro L
  induction L with
  | nil =>
    intro listed hl _
    refine List.eq_nil_iff_forall_not_mem.2 fun k hk => ?_
    have := sub listed k hk
    rw [show Region.ready .any ops listed = [] from hl] at this
    cases this
  | cons k L ih =>
    intro listed hl hw
    refine ⟨?_, ih _ hl.2 hw.2⟩
    obtain ⟨h1, o, h2, h3⟩ := mem_ready.1 hl.1
    refine mem_ready.2 ⟨h1, ?_⟩
    rw [get']
    by_cases hkj : k = j
    · rw [if_pos hkj, h2]
      refine ⟨_, rfl, fun e he hb => ?_⟩
      simp only [Array.mem_push] at he
      rcases he with he | rfl
      · exact h3 e he hb
      · exact hw.1 hkj
    · rw [if_neg hkj]; exact ⟨o, h2, h3⟩

/-- Every way to take the operations comes to what is told. -/
def AllOk (F : Fence) (n : Nat) (P : Program) (ops : Array Oper) (Q : Exit → Act → World → Prop) (a : Act) (w : World) : Prop :=
  ∀ L, Lists ops (Array.replicate ops.size false) L → wpOpsIn F n P ops Q L a w

theorem AllOk.of_any {ops : Array Oper} {a : Act} {w : World} {fuel : Nat} (h : wpAnyIn F n P .any ops Q fuel (Array.replicate ops.size false) a w) : AllOk F n P ops Q a w :=
  fun L hl => any_lists L _ _ a w h hl

theorem AllOk.split {all : List Oper} {i j : Nat} {ops ops1 ops2 : Array Oper} (hij : i ≠ j) (h : ops.toList = all) (h1 : ops1.toList = addL i j all) (h2 : ops2.toList = addL j i all) {a : Act} {w : World}
    (k1 : AllOk F n P ops1 Q a w) (k2 : AllOk F n P ops2 Q a w) : AllOk F n P ops Q a w := by
  intro L hl
  have len : ∀ (i j : Nat) (all : List Oper), (addL i j all).length = all.length := by
    intro i j all
    induction all generalizing j with
    | nil => cases j <;> rfl
    | cons o r ih => cases j <;> simp [addL, ih]
  have s1 : ops1.size = ops.size := by rw [← Array.length_toList, ← Array.length_toList, h, h1, len]
  have s2 : ops2.size = ops.size := by rw [← Array.length_toList, ← Array.length_toList, h, h2, len]
  rcases waits_or hij L (Array.replicate ops.size false) (fun k hk => by simpa using lists_lt L _ hl k hk) with hw | hw
  · exact alike_ops (addL_alike h h1) L a w (k1 L (by rw [s1]; exact lists_add h h1 L _ hl hw))
  · exact alike_ops (addL_alike h h2) L a w (k2 L (by rw [s2]; exact lists_add h h2 L _ hl hw))

theorem AllOk.region {ops : Array Oper} {a : Act} {w : World} {id : Nat} (hm : P.follows .mixedOrders = true) (h : AllOk F n P ops Q a { w with drawn := w.drawn + 1 }) : (Code.region id ops true).wpIn F n P Q a w :=
  wpIn_region_draw fun t => by
    simp only [Region.schedule, hm, Bool.true_or, if_true]
    refine h _ (go_lists _ _ _ (by simp) ?_)
    unfold unl
    refine Nat.le_trans List.countP_le_length ?_
    simp
theorem oper_mono2 {Q' : Exit → Act → World → Prop} (hq : ∀ e a w, Q e a w → Q' e a w) {o : Oper} {a : Act} {w : World} {K K' : Act → World → Prop} (h : ∀ a w, K a w → K' a w)
    (hh : o.wpIn F n P a w K Q) : o.wpIn F n P a w K' Q' := by
  unfold Oper.wpIn at *
  refine ⟨hh.1, ?_⟩
  have hh := hh.2
  generalize (o.semAt F.round a.eval).run P w = r at *
  cases r with
  | ok x w' =>
    cases x <;> simp only [Oper.uponIn] at hh ⊢ <;>
      first
        | exact h _ _ hh
        | exact ⟨hh.1, CallsIn.mono hh.2 (fun e w'' he => by cases e <;> first | exact h _ _ he | exact hq _ _ _ he | exact (let ⟨a, w, k⟩ := he; ⟨a, w, hq _ _ _ k⟩))⟩
        | exact ⟨hh.1, RowsIn.mono hh.2 (fun _ _ he => h _ _ he)⟩
        | exact ⟨hh.1, RoundIn.mono hh.2 (fun e w'' he => by cases e <;> first | exact h _ _ he | exact hq _ _ _ he | exact (let ⟨a, w, k⟩ := he; ⟨a, w, hq _ _ _ k⟩))⟩
  | halt x w' => cases x <;> simp only [Oper.uponIn] at hh ⊢ <;> first | exact hh | exact hq _ _ _ hh
theorem opsIn_mono {Q' : Exit → Act → World → Prop} (hq : ∀ e a w, Q e a w → Q' e a w) {ops : Array Oper} : ∀ (L : List Nat) (a : Act) (w : World), wpOpsIn F n P ops Q L a w → wpOpsIn F n P ops Q' L a w := by
  intro L
  induction L with
  | nil => intro a w h; exact hq _ _ _ h
  | cons i L ih =>
    intro a w h
    simp only [wpOpsIn] at h ⊢
    split at h
    · exact ih _ _ h
    · split at h
      · rename_i o _ hw
        rw [if_pos hw]
        exact oper_mono2 hq (fun a w => ih a w) h
      · rename_i o _ hw
        rw [if_neg hw]
        exact ⟨h.1, ih _ _ h.2⟩
theorem AllOk.mono {Q' : Exit → Act → World → Prop} (hq : ∀ e a w, Q e a w → Q' e a w) {ops : Array Oper} {a : Act} {w : World} (h : AllOk F n P ops Q a w) : AllOk F n P ops Q' a w :=
  fun L hl => opsIn_mono hq L a w (h L hl)
end
end Go.Cre
end
