/- oplog: what the evaluator is told of the calls that Agree makes. -/
import Derived.Test.YtljejfiecaihfaaGreatDoorOF
import Derived.Test.YtljejfiecaihfaaGreatDoorO24x
import Derived.Test.YtljejfiecaihfaaGreatDoorCreZb
namespace Go.Proofs.YtljejfiecaihfaaGreatDoor
open Go Go.RowKit Go.Cre
theorem neqE {ρ : Ren} {x y : Value} {e1 e2 : Ent} {r : Bool} (hx : Solid ρ x e1.val) (hy : Solid ρ y e2.val) (h : r = true ↔ ¬ e1 = e2) : Fact Tryz.prog ρ (.bin .neq 34 x y, .bool r) := by
  refine ⟨_, _, _, hx, hy, .flat rfl, fun w ox oy => ?_⟩
  obtain ⟨r', h1, h2⟩ := eqE w e1 e2
  have hr : r = !r' := by
    cases r' with
    | true =>
      cases r with
      | false => rfl
      | true => exact absurd (h2.1 rfl) (h.1 rfl)
    | false =>
      cases r with
      | true => rfl
      | false =>
        have : ¬ ¬ e1 = e2 := fun hn => by cases h.2 hn
        exact absurd (h2.2 (Classical.not_not.1 this)) (by simp)
  have hg : Tryz.prog.eqGuardType Tryz.prog.depth 34 = false := by kernel_rfl
  subst hr
  have h1 : (Op.equal 34 (.agg #[.int .i64 e1.c, .int .i64 e1.k, .string e1.t]) (.agg #[.int .i64 e2.c, .int .i64 e2.k, .string e2.t])).run Tryz.prog w = .ok r' w := h1
  simp [eqGuard, hg, binOp, h1]
variable {G : Gl} {B : Nat} {w0 : World}
theorem pinV {ρ : Ren} {k : Nat} {v y : Value} (hg : GOk Tryz.prog G ρ) (hp : (.pin (tk k), v) ∈ G.tab) (hy : VRel ρ (tk k) y) : y = v := (hg.2 _ hp).1.eq hy
theorem pinR {ρ : Ren} {k : Nat} {v : Value} (hg : GOk Tryz.prog G ρ) (hp : (.pin (tk k), v) ∈ G.tab) : VRel ρ (tk k) v := (hg.2 _ hp).2
theorem lgV {ρ : Ren} {kb ks ka : Nat} {b : Nat} {s : ByteArray} {ao : Option Addr} {n cap : Nat} {y : Value} (hg : GOk Tryz.prog G ρ) (p1 : (.pin (tk kb), nt b) ∈ G.tab) (p2 : (.pin (tk ks), .string s) ∈ G.tab) (p3 : (.pin (tk ka), .slice ao n cap) ∈ G.tab)
    (h : VRel ρ (.agg ⟨[tk kb, tk ks, tk ka]⟩) y) : y = lg b s ao n cap := by
  cases h with
  | flat hf => simp [flat] at hf
  | agg h =>
    cases h with | cons h1 h => cases h with | cons h2 h => cases h with | cons h3 h => cases h with | nil =>
    rw [pinV hg p1 h1, pinV hg p2 h2, pinV hg p3 h3]
theorem toldOp {kb ks ka kr : Nat} {b : Nat} {s : ByteArray} {ao : Option Addr} {n cap : Nat} (h : b + n ≤ 9223372036854775807) (p1 : (.pin (tk kb), nt b) ∈ G.tab) (p2 : (.pin (tk ks), .string s) ∈ G.tab) (p3 : (.pin (tk ka), .slice ao n cap) ∈ G.tab)
    (p4 : (.pin (tk kr), nt ((b + n : Nat) : Int)) ∈ G.tab) : ToldOk Tryz.prog G B w0 ⟨10, [.agg ⟨[tk kb, tk ks, tk ka]⟩], tk kr⟩ := by
  intro ρ w as' hg _ _ ha
  cases ha with | cons h1 ha => cases ha with | nil =>
  rw [lgV hg p1 p2 p3 h1]
  refine (op_any w b s ao n cap h).mono ?_
  rintro e w' ⟨rfl, rfl⟩
  exact ⟨⟨_, rfl, pinR hg p4⟩, (Below.refl _ _).alloc (Nat.le_refl _) _⟩
theorem toldAt {kb ks ka ki kc kk kt : Nat} {b : Nat} {s : ByteArray} {ao : Option Addr} {es : List Ent} {n cap j : Nat} {z : Int} {e : Ent} (hB : B = w0.heap.size) (hn : n = es.length) (hz : z = ((b + j + 1 : Nat) : Int)) (h : b + n ≤ 9223372036854775807) (hr : RowAt w0 ao es) (hj : es[j]? = some e)
    (p1 : (.pin (tk kb), nt b) ∈ G.tab) (p2 : (.pin (tk ks), .string s) ∈ G.tab) (p3 : (.pin (tk ka), .slice ao n cap) ∈ G.tab) (p4 : (.pin (tk ki), nt z) ∈ G.tab)
    (q1 : (.pin (tk kc), nt e.c) ∈ G.tab) (q2 : (.pin (tk kk), nt e.k) ∈ G.tab) (q3 : (.pin (tk kt), .string e.t) ∈ G.tab) :
    ToldOk Tryz.prog G B w0 ⟨16, [.agg ⟨[tk kb, tk ks, tk ka]⟩, tk ki], .tuple ⟨[.agg ⟨[tk kc, tk kk, tk kt]⟩, .bool true]⟩⟩ := by
  subst hB
  intro ρ w as' hg hb _ ha
  cases ha with | cons h1 ha => cases ha with | cons h2 ha => cases ha with | nil =>
  rw [lgV hg p1 p2 p3 h1, pinV hg p4 h2]
  refine (at_any2 w b s ao es n cap j z e hn hz h (hr.below hb) hj).mono ?_
  rintro r w' ⟨rfl, h2⟩
  exact ⟨⟨_, rfl, .tuple (.cons (.agg (.cons (pinR hg q1) (.cons (pinR hg q2) (.cons (pinR hg q3) .nil)))) (.cons (.flat rfl) .nil))⟩, h2⟩
end Go.Proofs.YtljejfiecaihfaaGreatDoor
