/- Where the table of frame's halves lies: from the row's condition and the shape of a world at the door. -/
import Derived.Test.YtkbjogpeolmdeaaGreatDoorRows
import Derived.Test.YtkbjogpeolmdeaaGreatDoorTie
import Derived.Test.YtkbjogpeolmdeaaGreatDoorCards
import Derived.ProofKit
import Derived.LaidMore
import Derived.OpenShut
import Derived.Carry
import Derived.Stop.Joined
import Derived.SevenTiedAt
import Derived.Lib.LaidTab
import Derived.Lib.LaidU8
import Derived.Test.YtkbjogpeolmdeaaGreatDoorQ25z
namespace Go.Proofs.YtkbjogpeolmdeaaGreatDoor
open Go Go.ChangeShapes Go.WideShapes Go.ChangeAt Go.RowKit
set_option maxRecDepth 100000
abbrev laidL : List (String × DataW Unit) := [("math/bits.deBruijn32tab", Rows.laid_math_bits_deBruijn32tab), ("math/bits.deBruijn64tab", Rows.laid_math_bits_deBruijn64tab), ("internal/strconv.uint64pow10", Rows.laid_internal_strconv_uint64pow10), ("primer/frame.halves", Rows.laid_primer_frame_halves)]
theorem halvesNamed : Tryz.prog.globalNamed "primer/frame.halves" = some 0 := by kernel_rfl
theorem halvesType : (Tryz.prog.globals[0]?).map (·.type) = some 205 := by kernel_rfl
theorem halvesU : Tryz.prog.underlying 205 = some (.array 16 151) := by kernel_rfl
theorem halvesE : Tryz.prog.underlying 151 = some (.int .u32) := by kernel_rfl
theorem halvesC1 : Tryz.prog.cellsOf 151 = 1 := by kernel_rfl
theorem halvesC : Tryz.prog.cellsOf 205 = 16 := by kernel_rfl
theorem halvesRow : ((begin Tryz.prog (fun _ _ => 0) default).world.heap[0]?).bind Obj.row? = some (Array.replicate 16 (.int .u32 0), 205) := by kernel_rfl
theorem halvesSize : 0 < Tryz.prog.globals.size := by
  have h : Tryz.prog.globals.size = 6 := by kernel_rfl
  rw [h]; decide
theorem halves_at {W : World} (hs : W.ShapedOpen Tryz.prog) (h : laidMet Tryz.prog laidL W) : W.heap[0]? = some (.cells ⟨Go.Cre.halvesL⟩ 205) := by
  obtain ⟨cs, hc, _, _⟩ := hs.1 0 _ _ halvesSize halvesRow
  obtain ⟨g, t, cs', fuel, p, hg, ht, hvar, hd⟩ := Go.Lib.laidMet.reads h (n := "primer/frame.halves") (d := Rows.laid_primer_frame_halves) (by simp [laidL])
  obtain rfl := Option.some.inj (halvesNamed.symm.trans hg)
  obtain rfl := Option.some.inj (halvesType.symm.trans ht)
  unfold World.var? at hvar
  rw [halvesNamed] at hvar
  simp only [Option.bind_some, hc, Option.some.injEq] at hvar
  subst hvar
  have e := Go.Lib.cells_of_tab (k := .u32) (zs := [0, 498536548, 997073096, 651767980, 1994146192, 1802195444, 1303535960, 1342533948, 3988292384, 4027552580, 3604390888, 3412177804, 2607071920, 2262029012, 2685067896, 3183342108]) halvesU halvesE halvesC1 halvesC hd
  rw [hc]
  obtain ⟨l⟩ := cs
  have e : l = Go.Cre.halvesL := e
  rw [e]
end Go.Proofs.YtkbjogpeolmdeaaGreatDoor
