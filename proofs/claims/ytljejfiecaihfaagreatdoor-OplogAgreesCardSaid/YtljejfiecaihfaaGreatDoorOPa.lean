/- oplog: when two of the law's logs agree. -/
import Derived.Test.YtljejfiecaihfaaGreatDoorOH
import Derived.Test.YtljejfiecaihfaaGreatDoorCreZc
namespace Go.Proofs.YtljejfiecaihfaaGreatDoor
open Go Go.RowKit Go.Cre
theorem Same.comm {b1 b2 lo hi : Nat} {es1 es2 : List Ent} (h : Same b1 es1 b2 es2 lo hi) : Same b2 es2 b1 es1 lo hi := fun i h1 h2 => (h i h1 h2).symm
theorem same_refl (b lo hi : Nat) (es : List Ent) : Same b es b es lo hi := fun _ _ _ => rfl
theorem same_add (A : List Ent) (x : Ent) (hi : Nat) (h : hi ≤ 3 + A.length) : Same 3 A 3 (A ++ [x]) 3 hi := fun i h1 h2 => by
  rw [List.getElem?_append_left (by omega)]
theorem same_cut (C : List Ent) (b hi : Nat) (hb : 3 ≤ b) : Same 3 C b (C.drop (b - 3)) b hi := fun i h1 h2 => by
  rw [List.getElem?_drop]
  congr 1
  omega
theorem same_addcut (A : List Ent) (x : Ent) (b hi : Nat) (hb : 3 ≤ b) (h : hi ≤ 3 + A.length) : Same 3 A b ((A ++ [x]).drop (b - 3)) b hi := fun i h1 h2 => by
  rw [← same_cut (A ++ [x]) b hi hb i h1 h2, List.getElem?_append_left (by omega)]
def Is (G : Gl) (X y : Value) : Prop := ∀ ρ z, GOk Tryz.prog G ρ → VRel ρ X z → z = y
variable {G : Gl} {B : Nat} {w0 : World}
theorem is3 {s : ByteArray} {k : Nat} {ao : Option Addr} {n cap : Nat} (p : (.pin (tk k), .slice ao n cap) ∈ G.tab) : Is G (.agg ⟨[nt 3, .string s, tk k]⟩) (lg 3 s ao n cap) := by
  intro ρ z hg hz
  obtain ⟨l, rfl, hl⟩ := aggV hz
  obtain ⟨v0, _, rfl, k0, hl⟩ := consV hl
  obtain ⟨v1, _, rfl, k1, hl⟩ := consV hl
  obtain ⟨v2, _, rfl, k2, hl⟩ := consV hl
  cases nilV hl
  rw [flat_eq (v := nt 3) rfl k0, flat_eq (v := .string s) rfl k1, pinV hg p k2]
  rfl
theorem isD {kb ks ka b : Nat} {s : ByteArray} {ao : Option Addr} {n cap : Nat} (p1 : (.pin (tk kb), nt b) ∈ G.tab) (p2 : (.pin (tk ks), .string s) ∈ G.tab) (p3 : (.pin (tk ka), .slice ao n cap) ∈ G.tab) : Is G (.agg ⟨[tk kb, tk ks, tk ka]⟩) (lg b s ao n cap) :=
  fun _ _ hg hz => lgV hg p1 p2 p3 hz
theorem toldAgree {X Y : Value} {b1 b2 : Nat} {s1 s2 : ByteArray} {a1 a2 : Option Addr} {es1 es2 : List Ent} {n1 n2 c1 c2 : Nat} {r : Bool} (hB : B = w0.heap.size) (hw : 0 < w0.heap.size) (hX : Is G X (lg b1 s1 a1 n1 c1)) (hY : Is G Y (lg b2 s2 a2 n2 c2))
    (e1 : n1 = es1.length) (e2 : n2 = es2.length) (h1 : b1 + es1.length ≤ 9223372036854775806) (h2 : b2 + es2.length ≤ 9223372036854775806) (r1 : RowAt w0 a1 es1) (r2 : RowAt w0 a2 es2)
    (hr : r = true ↔ Same b1 es1 b2 es2 (max b1 b2) (min (b1 + es1.length) (b2 + es2.length))) : ToldOk Tryz.prog G B w0 ⟨9, [X, Y], .bool r⟩ := by
  subst hB e1 e2
  intro ρ w as' hg hb _ ha
  obtain ⟨x, _, rfl, k1, ha⟩ := consV ha
  obtain ⟨y, _, rfl, k2, ha⟩ := consV ha
  cases nilV ha
  rw [hX ρ x hg k1, hY ρ y hg k2]
  refine (agree_any w b1 b2 s1 s2 a1 a2 es1 es2 c1 c2 (Nat.lt_of_lt_of_le hw hb.size) h1 h2 (r1.below hb) (r2.below hb)).mono ?_
  rintro e w' ⟨⟨q, rfl, hq⟩, h3⟩
  refine ⟨⟨_, rfl, ?_⟩, h3⟩
  have : r = q := by
    have := hr.trans hq.symm
    cases r <;> cases q <;> simp_all
  subst this
  exact .flat rfl
theorem toldOp2 {X : Value} {kr : Nat} {b : Nat} {s : ByteArray} {ao : Option Addr} {n cap : Nat} {z : Int} (hX : Is G X (lg b s ao n cap)) (h : b + n ≤ 9223372036854775807) (hz : z = ((b + n : Nat) : Int)) (p4 : (.pin (tk kr), nt z) ∈ G.tab) : ToldOk Tryz.prog G B w0 ⟨10, [X], tk kr⟩ := by
  intro ρ w as' hg _ _ ha
  obtain ⟨x, _, rfl, k1, ha⟩ := consV ha
  cases nilV ha
  rw [hX ρ x hg k1]
  subst hz
  refine (op_any w b s ao n cap h).mono ?_
  rintro e w' ⟨rfl, rfl⟩
  exact ⟨⟨_, rfl, pinR hg p4⟩, (Below.refl _ _).alloc (Nat.le_refl _) _⟩
theorem lg3V {ρ : Ren} {s : ByteArray} {k : Nat} {ao : Option Addr} {n cap : Nat} {z : Value} (p : ρ k = some (tokT (.slice ao n cap))) (hz : VRel ρ (.agg ⟨[nt 3, .string s, tk k]⟩) z) : z = lg 3 s ao n cap := by
  obtain ⟨l, rfl, hl⟩ := aggV hz
  obtain ⟨v0, _, rfl, k0, hl⟩ := consV hl
  obtain ⟨v1, _, rfl, k1, hl⟩ := consV hl
  obtain ⟨v2, _, rfl, k2, hl⟩ := consV hl
  cases nilV hl
  rw [flat_eq (v := nt 3) rfl k0, flat_eq (v := .string s) rfl k1, tokV p k2]
  rfl
theorem newV {ρ : Ren} {s : ByteArray} {z : Value} (hz : VRel ρ (.agg ⟨[nt 1, nt 1, .string s]⟩) z) : z = .agg #[nt 1, nt 1, .string s] := by
  obtain ⟨l, rfl, hl⟩ := aggV hz
  obtain ⟨v0, _, rfl, k0, hl⟩ := consV hl
  obtain ⟨v1, _, rfl, k1, hl⟩ := consV hl
  obtain ⟨v2, _, rfl, k2, hl⟩ := consV hl
  cases nilV hl
  rw [flat_eq (v := nt 1) rfl k0, flat_eq (v := nt 1) rfl k1, flat_eq (v := .string s) rfl k2]
theorem lgDV {ρ : Ren} {kb ks ka b : Nat} {s : ByteArray} {ao : Option Addr} {n cap : Nat} {z : Value} (p1 : ρ kb = some (tokT (nt b))) (p2 : ρ ks = some (tokT (.string s))) (p3 : ρ ka = some (tokT (.slice ao n cap))) (hz : VRel ρ (.agg ⟨[tk kb, tk ks, tk ka]⟩) z) : z = lg b s ao n cap := by
  obtain ⟨l, rfl, hl⟩ := aggV hz
  obtain ⟨v0, _, rfl, k0, hl⟩ := consV hl
  obtain ⟨v1, _, rfl, k1, hl⟩ := consV hl
  obtain ⟨v2, _, rfl, k2, hl⟩ := consV hl
  cases nilV hl
  rw [tokV p1 k0, tokV p2 k1, tokV p3 k2]
  rfl
end Go.Proofs.YtljejfiecaihfaaGreatDoor
