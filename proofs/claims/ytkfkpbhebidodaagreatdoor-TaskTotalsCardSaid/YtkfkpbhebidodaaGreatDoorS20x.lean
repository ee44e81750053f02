/- The closed run of function 29, in pieces: what each piece reads, and what it leaves. Printed by program. -/
import Derived.Test.YtkfkpbhebidodaaGreatDoorCreY
import Derived.Test.YtkfkpbhebidodaaGreatDoorProg
open Go
noncomputable section
namespace Go.Cre
def x200 : Known := mkKnown [305] [137, 274] []
def R200 : Rec := run x200 (drawnA x200 Go.Proofs.Tryz.prog 0) Go.Proofs.Tryz.prog 0 100000
def pc20_38 : Piece :=
  { g := 38, args := [(.string ⟨⟨[83, 58, 32, 39, 120, 39, 32, 83, 124, 39, 120, 39, 59]⟩⟩)], n0 := 15,
    pre := [],
    v := (.tuple ⟨[(.agg ⟨[(.string ⟨⟨[83]⟩⟩), (.slice (some ⟨153, 0, none⟩) 1 1)]⟩), (.agg ⟨[(.int .i64 0), (.int .i64 0), (.int .i64 0)]⟩)]⟩), n1 := 156,
    objs := [(112, .cells [(.int .i64 2), (.string ⟨⟨[120]⟩⟩), (.slice none 0 0), (.int .i64 1), (.string ⟨⟨[83]⟩⟩), (.slice none 0 0)] 48 3 true .no false),
    (145, .cells [(.int .i64 3), (.string ⟨⟨[]⟩⟩), (.slice (some ⟨112, 0, none⟩) 2 2), (.int .i64 2), (.string ⟨⟨[120]⟩⟩), (.slice none 0 0)] 48 3 true .no false),
    (153, .cells [(.string ⟨⟨[83]⟩⟩), (.int .i64 4), (.string ⟨⟨[]⟩⟩), (.slice (some ⟨145, 0, none⟩) 2 2)] 50 4 true .no false)] }
def pc20_14 : Piece :=
  { g := 14, args := [(.agg ⟨[(.string ⟨⟨[83]⟩⟩), (.slice (some ⟨153, 0, none⟩) 1 1)]⟩)], n0 := 182,
    pre := [(112, .cells [(.int .i64 2), (.string ⟨⟨[120]⟩⟩), (.slice none 0 0), (.int .i64 1), (.string ⟨⟨[83]⟩⟩), (.slice none 0 0)] 48 3 true .no true),
    (145, .cells [(.int .i64 3), (.string ⟨⟨[]⟩⟩), (.slice (some ⟨112, 0, none⟩) 2 2), (.int .i64 2), (.string ⟨⟨[120]⟩⟩), (.slice none 0 0)] 48 3 true .no true),
    (153, .cells [(.string ⟨⟨[83]⟩⟩), (.int .i64 4), (.string ⟨⟨[]⟩⟩), (.slice (some ⟨145, 0, none⟩) 2 2)] 50 4 true .no true)],
    v := (.tuple ⟨[(.agg ⟨[(.int .i64 0), (.int .i64 1), (.slice (some ⟨225, 0, none⟩) 1 1), (.slice (some ⟨243, 0, none⟩) 1 1), (.slice (some ⟨268, 0, none⟩) 2 2)]⟩), (.int .i64 0)]⟩), n1 := 269,
    objs := [(225, .cells [(.string ⟨⟨[83]⟩⟩)] 9 1 true .no false),
    (243, .cells [(.string ⟨⟨[120]⟩⟩)] 9 1 true .no false),
    (256, .cells [(.int .i64 (-1)), (.int .i64 0)] 3 1 true .no false),
    (266, .cells [(.int .i64 (-1))] 3 1 true .no false),
    (268, .cells [(.int .i64 0), (.slice (some ⟨256, 0, none⟩) 2 2), (.int .i64 0), (.slice (some ⟨266, 0, none⟩) 1 1)] 39 2 true .no false)] }
def pc20_182 : Piece :=
  { g := 182, args := [(.agg ⟨[(.int .i64 1), (.int .i64 2), (.int .i64 1), (.bool false), (.slice (some ⟨320, 0, none⟩) 3 3)]⟩)], n0 := 339,
    pre := [(308, .cells [(.int .i64 (-1))] 3 1 true .no true),
    (313, .cells [(.int .i64 (-1)), (.int .i64 0)] 3 1 true .no true),
    (318, .cells [(.int .i64 0)] 3 1 true .no true),
    (320, .cells [(.int .i64 0), (.slice (some ⟨308, 0, none⟩) 1 1), (.int .i64 0), (.slice (some ⟨313, 0, none⟩) 2 2), (.int .i64 1), (.slice (some ⟨318, 0, none⟩) 1 1)] 39 2 true .no true)],
    v := (.agg ⟨[(.int .i64 1), (.int .i64 3), (.int .i64 1), (.bool false), (.slice (some ⟨381, 0, none⟩) 4 4)]⟩), n1 := 414,
    objs := [(358, .cells [(.int .i64 (-1))] 3 1 true .no false),
    (365, .cells [(.int .i64 (-1))] 3 1 true .no false),
    (372, .cells [(.int .i64 2), (.int .i64 0)] 3 1 true .no false),
    (379, .cells [(.int .i64 0)] 3 1 true .no false),
    (381, .cells [(.int .i64 0), (.slice (some ⟨365, 0, none⟩) 1 1), (.int .i64 0), (.slice (some ⟨372, 0, none⟩) 2 2), (.int .i64 1), (.slice (some ⟨379, 0, none⟩) 1 1), (.int .i64 2), (.slice (some ⟨358, 0, none⟩) 1 1)] 39 2 true .no false)] }
def pc20_181 : Piece :=
  { g := 181, args := [(.agg ⟨[(.int .i64 1), (.int .i64 3), (.int .i64 1), (.bool false), (.slice (some ⟨381, 0, none⟩) 4 4)]⟩)], n0 := 414,
    pre := [(358, .cells [(.int .i64 (-1))] 3 1 true .no true),
    (365, .cells [(.int .i64 (-1))] 3 1 true .no true),
    (372, .cells [(.int .i64 2), (.int .i64 0)] 3 1 true .no true),
    (379, .cells [(.int .i64 0)] 3 1 true .no true),
    (381, .cells [(.int .i64 0), (.slice (some ⟨365, 0, none⟩) 1 1), (.int .i64 0), (.slice (some ⟨372, 0, none⟩) 2 2), (.int .i64 1), (.slice (some ⟨379, 0, none⟩) 1 1), (.int .i64 2), (.slice (some ⟨358, 0, none⟩) 1 1)] 39 2 true .no true)],
    v := (.agg ⟨[(.int .i64 1), (.int .i64 3), (.int .i64 1), (.bool false), (.slice (some ⟨467, 0, none⟩) 4 4)]⟩), n1 := 494,
    objs := [(450, .cells [(.int .i64 (-1))] 3 1 true .no false),
    (455, .cells [(.int .i64 2), (.int .i64 0)] 3 1 true .no false),
    (460, .cells [(.int .i64 0)] 3 1 true .no false),
    (465, .cells [(.int .i64 (-1))] 3 1 true .no false),
    (467, .cells [(.int .i64 0), (.slice (some ⟨450, 0, none⟩) 1 1), (.int .i64 0), (.slice (some ⟨455, 0, none⟩) 2 2), (.int .i64 1), (.slice (some ⟨460, 0, none⟩) 1 1), (.int .i64 2), (.slice (some ⟨465, 0, none⟩) 1 1)] 39 2 true .no false)] }
def pc20_180 : Piece :=
  { g := 180, args := [(.agg ⟨[(.int .i64 1), (.int .i64 3), (.int .i64 1), (.bool false), (.slice (some ⟨467, 0, none⟩) 4 4)]⟩)], n0 := 494,
    pre := [(450, .cells [(.int .i64 (-1))] 3 1 true .no true),
    (455, .cells [(.int .i64 2), (.int .i64 0)] 3 1 true .no true),
    (460, .cells [(.int .i64 0)] 3 1 true .no true),
    (465, .cells [(.int .i64 (-1))] 3 1 true .no true),
    (467, .cells [(.int .i64 0), (.slice (some ⟨450, 0, none⟩) 1 1), (.int .i64 0), (.slice (some ⟨455, 0, none⟩) 2 2), (.int .i64 1), (.slice (some ⟨460, 0, none⟩) 1 1), (.int .i64 2), (.slice (some ⟨465, 0, none⟩) 1 1)] 39 2 true .no true)],
    v := (.agg ⟨[(.int .i64 1), (.int .i64 3), (.int .i64 1), (.bool false), (.slice (some ⟨537, 0, none⟩) 4 4)]⟩), n1 := 564,
    objs := [(510, .cells [(.int .i64 (-1))] 3 1 true .no false),
    (521, .cells [(.int .i64 2), (.int .i64 0)] 3 1 true .no false),
    (528, .cells [(.int .i64 0)] 3 1 true .no false),
    (535, .cells [(.int .i64 (-1))] 3 1 true .no false),
    (537, .cells [(.int .i64 0), (.slice (some ⟨510, 0, none⟩) 1 1), (.int .i64 0), (.slice (some ⟨521, 0, none⟩) 2 2), (.int .i64 1), (.slice (some ⟨528, 0, none⟩) 1 1), (.int .i64 2), (.slice (some ⟨535, 0, none⟩) 1 1)] 39 2 true .no false)] }
def pc20_179 : Piece :=
  { g := 179, args := [(.agg ⟨[(.int .i64 1), (.int .i64 3), (.int .i64 1), (.bool false), (.slice (some ⟨537, 0, none⟩) 4 4)]⟩)], n0 := 564,
    pre := [(510, .cells [(.int .i64 (-1))] 3 1 true .no true),
    (521, .cells [(.int .i64 2), (.int .i64 0)] 3 1 true .no true),
    (528, .cells [(.int .i64 0)] 3 1 true .no true),
    (535, .cells [(.int .i64 (-1))] 3 1 true .no true),
    (537, .cells [(.int .i64 0), (.slice (some ⟨510, 0, none⟩) 1 1), (.int .i64 0), (.slice (some ⟨521, 0, none⟩) 2 2), (.int .i64 1), (.slice (some ⟨528, 0, none⟩) 1 1), (.int .i64 2), (.slice (some ⟨535, 0, none⟩) 1 1)] 39 2 true .no true)],
    v := (.tuple ⟨[(.agg ⟨[(.int .i64 1), (.int .i64 3), (.int .i64 1), (.bool false), (.slice (some ⟨645, 0, none⟩) 5 5)]⟩), (.int .i64 0)]⟩), n1 := 680,
    objs := [(591, .cells [(.int .i64 (-1))] 3 1 true .no false),
    (596, .cells [(.int .i64 2), (.int .i64 0)] 3 1 true .no false),
    (615, .cells [(.int .i64 (-1))] 3 1 true .no false),
    (620, .cells [(.int .i64 2), (.int .i64 0)] 3 1 true .no false),
    (639, .cells [(.int .i64 (-1))] 3 1 true .no false),
    (645, .cells [(.int .i64 0), (.slice (some ⟨591, 0, none⟩) 1 1), (.int .i64 0), (.slice (some ⟨596, 0, none⟩) 2 2), (.int .i64 1), (.slice (some ⟨615, 0, none⟩) 1 1), (.int .i64 1), (.slice (some ⟨620, 0, none⟩) 2 2), (.int .i64 2), (.slice (some ⟨639, 0, none⟩) 1 1)] 39 2 true .no false)] }
def pc20_80 : Piece :=
  { g := 80, args := [(.agg ⟨[(.string ⟨⟨[83]⟩⟩), (.slice (some ⟨153, 0, none⟩) 1 1)]⟩)], n0 := 681,
    pre := [(112, .cells [(.int .i64 2), (.string ⟨⟨[120]⟩⟩), (.slice none 0 0), (.int .i64 1), (.string ⟨⟨[83]⟩⟩), (.slice none 0 0)] 48 3 true .no true),
    (145, .cells [(.int .i64 3), (.string ⟨⟨[]⟩⟩), (.slice (some ⟨112, 0, none⟩) 2 2), (.int .i64 2), (.string ⟨⟨[120]⟩⟩), (.slice none 0 0)] 48 3 true .no true),
    (153, .cells [(.string ⟨⟨[83]⟩⟩), (.int .i64 4), (.string ⟨⟨[]⟩⟩), (.slice (some ⟨145, 0, none⟩) 2 2)] 50 4 true .no true)],
    v := (.tuple ⟨[(.string ⟨⟨[83, 58, 32, 39, 120, 39, 32, 83, 124, 39, 120, 39, 59, 10]⟩⟩), (.int .i64 0)]⟩), n1 := 727,
    objs := [] }
def x201 : Known := mkKnown [305] [137, 274] [pc20_38, pc20_14, pc20_182, pc20_181, pc20_180, pc20_179, pc20_80]
def R201 : Rec := run x201 (drawnA x201 Go.Proofs.Tryz.prog 0) Go.Proofs.Tryz.prog 0 100000
end Go.Cre
end
