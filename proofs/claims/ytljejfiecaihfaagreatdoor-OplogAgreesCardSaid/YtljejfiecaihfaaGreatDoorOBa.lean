/- oplog: the two logs that Agree keeps in memory, through what is called. -/
import Derived.Test.YtljejfiecaihfaaGreatDoorOA
namespace Go.Proofs.YtljejfiecaihfaaGreatDoor
open Go Go.RowKit
theorem at_any2 (w : World) (b : Nat) (s : ByteArray) (ao : Option Addr) (es : List Ent) (n cap j : Nat) (z : Int) (e : Ent) (hn : n = es.length) (hz : z = ((b + j + 1 : Nat) : Int)) (h : b + n ≤ 9223372036854775807) (hr : RowAt w ao es) (hj : es[j]? = some e) :
    Calls Tryz.prog 16 #[lg b s ao n cap, .int .i64 z] w fun r w' => r = .returned (.tuple #[e.val, .bool true]) ∧ Below w.heap.size w w' := by
  subst hn
  subst hz
  exact at_any w b s ao es cap j e h hr hj
structure Boxes (w wr : World) (b1 : Nat) (s1 : ByteArray) (a1 : Option Addr) (n1 c1 : Nat) (b2 : Nat) (s2 : ByteArray) (a2 : Option Addr) (n2 c2 : Nat) : Prop where
  bel : Below w.heap.size w wr
  sz : w.heap.size + 2 ≤ wr.heap.size
  x0 : wr.cell? ⟨w.heap.size, 0, none⟩ = some (.int .i64 b1)
  x1 : wr.cell? ⟨w.heap.size, 1, none⟩ = some (.string s1)
  x2 : wr.cell? ⟨w.heap.size, 2, none⟩ = some (.slice a1 n1 c1)
  y0 : wr.cell? ⟨w.heap.size + 1, 0, none⟩ = some (.int .i64 b2)
  y1 : wr.cell? ⟨w.heap.size + 1, 1, none⟩ = some (.string s2)
  y2 : wr.cell? ⟨w.heap.size + 1, 2, none⟩ = some (.slice a2 n2 c2)
variable {w wr w' : World} {b1 : Nat} {s1 : ByteArray} {a1 : Option Addr} {n1 c1 : Nat} {b2 : Nat} {s2 : ByteArray} {a2 : Option Addr} {n2 c2 : Nat}
theorem Boxes.below (h : Boxes w wr b1 s1 a1 n1 c1 b2 s2 a2 n2 c2) (hb : Below wr.heap.size wr w') : Boxes w w' b1 s1 a1 n1 c1 b2 s2 a2 n2 c2 := by
  have hs := h.sz
  have p : ∀ o, w'.cell? ⟨w.heap.size, o, none⟩ = wr.cell? ⟨w.heap.size, o, none⟩ := fun o => hb.cell (p := ⟨w.heap.size, o, none⟩) (by show w.heap.size < _; omega)
  have q : ∀ o, w'.cell? ⟨w.heap.size + 1, o, none⟩ = wr.cell? ⟨w.heap.size + 1, o, none⟩ := fun o => hb.cell (p := ⟨w.heap.size + 1, o, none⟩) (by show w.heap.size + 1 < _; omega)
  exact ⟨h.bel.trans (hb.mono (by omega)), Nat.le_trans hs hb.size, (p 0).trans h.x0, (p 1).trans h.x1, (p 2).trans h.x2, (q 0).trans h.y0, (q 1).trans h.y1, (q 2).trans h.y2⟩
theorem Boxes.alloc (h : Boxes w wr b1 s1 a1 n1 c1 b2 s2 a2 n2 c2) (o : Obj) : Boxes w (wr.alloc o) b1 s1 a1 n1 c1 b2 s2 a2 n2 c2 := h.below ((Below.refl _ _).alloc (Nat.le_refl _) o)
theorem Boxes.drew (h : Boxes w wr b1 s1 a1 n1 c1 b2 s2 a2 n2 c2) : Boxes w wr.drew b1 s1 a1 n1 c1 b2 s2 a2 n2 c2 := h.below (Below.refl _ _).drew
theorem RowAt.below {ao : Option Addr} {es : List Ent} (h : RowAt w ao es) (hb : Below w.heap.size w w') : RowAt w' ao es := by
  intro j e hj
  obtain ⟨g, off, rfl, hg, c0, c1, c2⟩ := h j e hj
  have p : ∀ o, w'.cell? ⟨g, o, none⟩ = w.cell? ⟨g, o, none⟩ := fun o => hb.cell (p := ⟨g, o, none⟩) hg
  exact ⟨g, off, rfl, Nat.lt_of_lt_of_le hg hb.size, (p _).trans c0, (p _).trans c1, (p _).trans c2⟩
theorem wp_boxes {P : Program} {c : Code} {Q : Exit → Act → World → Prop} {a : Act} (h : Boxes w wr b1 s1 a1 n1 c1 b2 s2 a2 n2 c2)
    (k : ∀ wz, Boxes w wz b1 s1 a1 n1 c1 b2 s2 a2 n2 c2 → c.wp P Q a wz) : c.wp P Q a wr := k wr h
end Go.Proofs.YtljejfiecaihfaaGreatDoor
