/- The closed run of speaks of layer 25, in pieces: what each piece reads, and what it leaves. Printed by program. -/
import Derived.Test.YtkbjogpeolmdeaaGreatDoorQ25x
open Go
noncomputable section
namespace Go.Cre
def pc25_9_1 : Piece :=
  { g := 9, args := [(.agg ⟨[(.int .i64 1), (.int .i64 0), (.int .i64 0), (.slice none 0 0), (.int .i64 0), (.int .i64 0), (.int .i64 0), (.int .i64 0), (.int .i64 0), (.int .i64 1), (.int .i64 0), (.string ⟨⟨[120]⟩⟩), (.bool false), (.int .i64 0), (.string ⟨⟨[]⟩⟩), (.slice none 0 0)]⟩), (.int .i64 3)], n0 := 50,
    pre := [(0, halves)],
    v := (.string ⟨⟨[1, 8, 1, 1, 0, 1, 1, 1, 1, 120, 215, 70, 150, 30]⟩⟩), n1 := 101,
    objs := [] }
def pc25_10_1 : Piece :=
  { g := 10, args := [(.string ⟨⟨[1, 8, 1, 1, 0, 1, 1, 1, 1, 120, 215, 70, 150, 30]⟩⟩), (.int .i64 3)], n0 := 101,
    pre := [(0, halves)],
    v := (.tuple ⟨[(.agg ⟨[(.int .i64 1), (.int .i64 0), (.int .i64 0), (.slice none 0 0), (.int .i64 0), (.int .i64 0), (.int .i64 0), (.int .i64 0), (.int .i64 0), (.int .i64 1), (.int .i64 0), (.string ⟨⟨[120]⟩⟩), (.bool false), (.int .i64 0), (.string ⟨⟨[]⟩⟩), (.slice none 0 0)]⟩), (.int .i64 0)]⟩), n1 := 135,
    objs := [] }
def pc25_9_2 : Piece :=
  { g := 9, args := [(.agg ⟨[(.int .i64 2), (.int .i64 0), (.int .i64 0), (.slice (some ⟨151, 0, none⟩) 3 3), (.int .i64 0), (.int .i64 0), (.int .i64 1), (.int .i64 0), (.int .i64 0), (.int .i64 0), (.int .i64 0), (.string ⟨⟨[]⟩⟩), (.bool false), (.int .i64 0), (.string ⟨⟨[]⟩⟩), (.slice (some ⟨146, 0, none⟩) 1 1)]⟩), (.int .i64 3)], n0 := 152,
    pre := [(0, halves),
    (146, .cells [(.int .i64 0), (.int .i64 1), (.string ⟨⟨[120]⟩⟩)] 80 3 false .no true),
    (151, .cells [(.int .i64 0), (.int .i64 0), (.int .i64 0)] 3 1 true .no true)],
    v := (.string ⟨⟨[1, 17, 1, 2, 0, 0, 0, 0, 0, 0, 1, 1, 0, 0, 1, 1, 1, 1, 120, 158, 181, 23, 212]⟩⟩), n1 := 264,
    objs := [] }
def pc25_9_3 : Piece :=
  { g := 9, args := [(.agg ⟨[(.int .i64 2), (.int .i64 0), (.int .i64 0), (.slice (some ⟨268, 0, none⟩) 3 3), (.int .i64 0), (.int .i64 0), (.int .i64 1), (.int .i64 0), (.int .i64 0), (.int .i64 0), (.int .i64 0), (.string ⟨⟨[]⟩⟩), (.bool false), (.int .i64 0), (.string ⟨⟨[]⟩⟩), (.slice (some ⟨146, 0, none⟩) 1 1)]⟩), (.int .i64 3)], n0 := 269,
    pre := [(0, halves),
    (146, .cells [(.int .i64 0), (.int .i64 1), (.string ⟨⟨[120]⟩⟩)] 80 3 false .no true),
    (268, .cells [(.int .i64 0), (.int .i64 0), (.int .i64 0)] 3 1 true .no true)],
    v := (.string ⟨⟨[1, 17, 1, 2, 0, 0, 0, 0, 0, 0, 1, 1, 0, 0, 1, 1, 1, 1, 120, 158, 181, 23, 212]⟩⟩), n1 := 381,
    objs := [] }
def pc25_10_2 : Piece :=
  { g := 10, args := [(.string ⟨⟨[1, 17, 1, 2, 0, 0, 0, 0, 0, 0, 1, 1, 0, 0, 1, 1, 1, 1, 120, 158, 181, 23, 212]⟩⟩), (.int .i64 3)], n0 := 388,
    pre := [(0, halves)],
    v := (.tuple ⟨[(.agg ⟨[(.int .i64 2), (.int .i64 0), (.int .i64 0), (.slice (some ⟨393, 0, none⟩) 3 3), (.int .i64 0), (.int .i64 0), (.int .i64 1), (.int .i64 0), (.int .i64 0), (.int .i64 0), (.int .i64 0), (.string ⟨⟨[]⟩⟩), (.bool false), (.int .i64 0), (.string ⟨⟨[]⟩⟩), (.slice (some ⟨394, 0, none⟩) 1 1)]⟩), (.int .i64 0)]⟩), n1 := 456,
    objs := [(393, .cells [(.int .i64 0), (.int .i64 0), (.int .i64 0)] 3 1 false .no false),
    (394, .cells [(.int .i64 0), (.int .i64 1), (.string ⟨⟨[120]⟩⟩)] 80 3 false .no false)] }
def pc25_9_4 : Piece :=
  { g := 9, args := [(.agg ⟨[(.int .i64 3), (.int .i64 1), (.int .i64 0), (.slice (some ⟨472, 0, none⟩) 3 3), (.int .i64 0), (.int .i64 0), (.int .i64 1), (.int .i64 0), (.int .i64 0), (.int .i64 0), (.int .i64 0), (.string ⟨⟨[]⟩⟩), (.bool false), (.int .i64 0), (.string ⟨⟨[]⟩⟩), (.slice none 0 0)]⟩), (.int .i64 3)], n0 := 473,
    pre := [(0, halves),
    (472, .cells [(.int .i64 0), (.int .i64 0), (.int .i64 0)] 3 1 true .no true)],
    v := (.string ⟨⟨[1, 11, 1, 3, 1, 1, 0, 0, 0, 0, 0, 1, 1, 192, 74, 4, 60]⟩⟩), n1 := 551,
    objs := [] }
def pc25_10_3 : Piece :=
  { g := 10, args := [(.string ⟨⟨[1, 17, 1, 2, 0, 0, 0, 0, 0, 0, 1, 1, 0, 0, 1, 1, 1, 1, 120, 158, 181, 23, 212]⟩⟩), (.int .i64 3)], n0 := 557,
    pre := [(0, halves)],
    v := (.tuple ⟨[(.agg ⟨[(.int .i64 2), (.int .i64 0), (.int .i64 0), (.slice (some ⟨562, 0, none⟩) 3 3), (.int .i64 0), (.int .i64 0), (.int .i64 1), (.int .i64 0), (.int .i64 0), (.int .i64 0), (.int .i64 0), (.string ⟨⟨[]⟩⟩), (.bool false), (.int .i64 0), (.string ⟨⟨[]⟩⟩), (.slice (some ⟨563, 0, none⟩) 1 1)]⟩), (.int .i64 0)]⟩), n1 := 625,
    objs := [(562, .cells [(.int .i64 0), (.int .i64 0), (.int .i64 0)] 3 1 false .no false),
    (563, .cells [(.int .i64 0), (.int .i64 1), (.string ⟨⟨[120]⟩⟩)] 80 3 false .no false)] }
def pc25_9_5 : Piece :=
  { g := 9, args := [(.agg ⟨[(.int .i64 3), (.int .i64 2), (.int .i64 0), (.slice (some ⟨641, 0, none⟩) 3 3), (.int .i64 0), (.int .i64 0), (.int .i64 1), (.int .i64 0), (.int .i64 0), (.int .i64 0), (.int .i64 0), (.string ⟨⟨[]⟩⟩), (.bool false), (.int .i64 0), (.string ⟨⟨[]⟩⟩), (.slice none 0 0)]⟩), (.int .i64 3)], n0 := 642,
    pre := [(0, halves),
    (641, .cells [(.int .i64 0), (.int .i64 0), (.int .i64 0)] 3 1 true .no true)],
    v := (.string ⟨⟨[1, 11, 1, 3, 1, 2, 0, 0, 0, 0, 0, 1, 1, 35, 77, 139, 178]⟩⟩), n1 := 720,
    objs := [] }
def pc25_10_4 : Piece :=
  { g := 10, args := [(.string ⟨⟨[1, 11, 1, 3, 1, 1, 0, 0, 0, 0, 0, 1, 1, 192, 74, 4, 60]⟩⟩), (.int .i64 3)], n0 := 726,
    pre := [(0, halves)],
    v := (.tuple ⟨[(.agg ⟨[(.int .i64 3), (.int .i64 1), (.int .i64 0), (.slice (some ⟨731, 0, none⟩) 3 3), (.int .i64 0), (.int .i64 0), (.int .i64 1), (.int .i64 0), (.int .i64 0), (.int .i64 0), (.int .i64 0), (.string ⟨⟨[]⟩⟩), (.bool false), (.int .i64 0), (.string ⟨⟨[]⟩⟩), (.slice none 0 0)]⟩), (.int .i64 0)]⟩), n1 := 775,
    objs := [(731, .cells [(.int .i64 0), (.int .i64 0), (.int .i64 0)] 3 1 false .no false)] }
def pc25_9_6 : Piece :=
  { g := 9, args := [(.agg ⟨[(.int .i64 4), (.int .i64 0), (.int .i64 0), (.slice (some ⟨832, 0, none⟩) 3 3), (.int .i64 0), (.int .i64 0), (.int .i64 0), (.int .i64 0), (.int .i64 0), (.int .i64 1), (.int .i64 0), (.string ⟨⟨[1, 2, 0, 0, 0, 0, 0, 0]⟩⟩), (.bool false), (.int .i64 0), (.string ⟨⟨[]⟩⟩), (.slice none 0 0)]⟩), (.int .i64 3)], n0 := 833,
    pre := [(0, halves),
    (832, .cells [(.int .i64 0), (.int .i64 0), (.int .i64 0)] 3 1 true .no true)],
    v := (.string ⟨⟨[1, 21, 1, 4, 0, 0, 0, 0, 0, 0, 0, 1, 1, 1, 8, 1, 2, 0, 0, 0, 0, 0, 0, 232, 80, 158, 143]⟩⟩), n1 := 924,
    objs := [] }
def pc25_10_5 : Piece :=
  { g := 10, args := [(.string ⟨⟨[1, 21, 1, 4, 0, 0, 0, 0, 0, 0, 0, 1, 1, 1, 8, 1, 2, 0, 0, 0, 0, 0, 0, 232, 80, 158, 143]⟩⟩), (.int .i64 3)], n0 := 928,
    pre := [(0, halves)],
    v := (.tuple ⟨[(.agg ⟨[(.int .i64 4), (.int .i64 0), (.int .i64 0), (.slice (some ⟨933, 0, none⟩) 3 3), (.int .i64 0), (.int .i64 0), (.int .i64 0), (.int .i64 0), (.int .i64 0), (.int .i64 1), (.int .i64 0), (.string ⟨⟨[1, 2, 0, 0, 0, 0, 0, 0]⟩⟩), (.bool false), (.int .i64 0), (.string ⟨⟨[]⟩⟩), (.slice none 0 0)]⟩), (.int .i64 0)]⟩), n1 := 983,
    objs := [(933, .cells [(.int .i64 0), (.int .i64 0), (.int .i64 0)] 3 1 false .no false)] }
def pc25_10_6 : Piece :=
  { g := 10, args := [(.string ⟨⟨[1, 11, 1, 3, 1, 2, 0, 0, 0, 0, 0, 1, 1, 35, 77, 139, 178]⟩⟩), (.int .i64 3)], n0 := 996,
    pre := [(0, halves)],
    v := (.tuple ⟨[(.agg ⟨[(.int .i64 3), (.int .i64 2), (.int .i64 0), (.slice (some ⟨1001, 0, none⟩) 3 3), (.int .i64 0), (.int .i64 0), (.int .i64 1), (.int .i64 0), (.int .i64 0), (.int .i64 0), (.int .i64 0), (.string ⟨⟨[]⟩⟩), (.bool false), (.int .i64 0), (.string ⟨⟨[]⟩⟩), (.slice none 0 0)]⟩), (.int .i64 0)]⟩), n1 := 1045,
    objs := [(1001, .cells [(.int .i64 0), (.int .i64 0), (.int .i64 0)] 3 1 false .no false)] }
def ps25 : List Piece := [pc25_9_1, pc25_10_1, pc25_9_2, pc25_9_3, pc25_10_2, pc25_9_4, pc25_10_3, pc25_9_5, pc25_10_4, pc25_9_6, pc25_10_5, pc25_10_6]
def x25p : Known := mkKnown [206] [] [] ps25
def R25p (G : Gl) : Rec := run x25p (drawnB x25p Go.Proofs.Tryz.prog G) Go.Proofs.Tryz.prog G 100000
end Go.Cre
end
