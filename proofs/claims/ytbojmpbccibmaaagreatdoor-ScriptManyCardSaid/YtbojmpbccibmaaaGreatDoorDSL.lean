/- The package-level variables that the rows list: what they give a run; a world that holds them. -/
import Derived.Test.YtbojmpbccibmaaaGreatDoorCards
import Derived.Test.YtbojmpbccibmaaaGreatDoorTie
import Derived.WalkKit
import Derived.ProofKit
import Derived.OpenShut
import Derived.Deep.DeepHandedRow
import Derived.Lib.LaidTab
import Derived.Carry
import Derived.Test.YtbojmpbccibmaaaGreatDoorDS5
set_option linter.unusedVariables false
set_option linter.unusedSimpArgs false
set_option linter.unusedSectionVars false
set_option linter.deprecated false
set_option maxRecDepth 100000
namespace Go.Proofs.YtbojmpbccibmaaaGreatDoor
open Go Go.Abs Go.ChangeShapes Go.WideShapes Go.ChangeAt Go.RowKit

theorem laidOut : laidOutB Tryz.prog = true := by kernel_rfl
theorem own : ownKnob Tryz.prog.godebug = none := by kernel_rfl
def laidL : List (String × DataW Unit) := [("math/bits.deBruijn32tab", Rows.laid_math_bits_deBruijn32tab), ("math/bits.deBruijn64tab", Rows.laid_math_bits_deBruijn64tab), ("internal/strconv.uint64pow10", Rows.laid_internal_strconv_uint64pow10), ("unicode/utf8.acceptRanges", Rows.laid_unicode_utf8_acceptRanges), ("unicode/utf8.first", Rows.laid_unicode_utf8_first)]
theorem powTab : (Rows.laid_internal_strconv_uint64pow10 : DataW Unit) = Lib.tabData .u64 pow10L := rfl
theorem powNamed : Tryz.prog.globalNamed "internal/strconv.uint64pow10" = some 0 := by kernel_rfl
theorem powType : (Tryz.prog.globals[0]?).map (·.type) = some 269 := by kernel_rfl
theorem powCells : Tryz.prog.cellsOf 269 = 20 := by kernel_rfl
theorem u64Cells : Tryz.prog.cellsOf 239 = 1 := by kernel_rfl

theorem laid_of {W : World} (h : laidMetH Tryz.prog laidL W) : Laid W := by
  have h' : laidMet Tryz.prog laidL W := h
  obtain ⟨ps, ⟨_, _, _, _, _, _, _, _, _, _, ⟨_, _, _, _, _, _, _, _, _, _, ⟨g, t, cs, fuel, p, q, hg, ht, hv, hd, _, _⟩, _⟩, _⟩, _⟩ := h'
  obtain rfl := Option.some.inj (powNamed.symm.trans hg)
  obtain rfl := Option.some.inj (powType.symm.trans ht)
  rw [powTab] at hd
  have hcs := Lib.cells_of_tab Tryz.underlying269 Tryz.underlying239 u64Cells powCells hd
  simp only [World.var?, powNamed, Option.bind_some] at hv
  split at hv
  · rename_i vs u fz hh
    cases hv
    refine ⟨cs, u, fz, hh, ?_, fun k n hk => ?_⟩
    · have := congrArg List.length hcs
      rw [List.length_map, Array.length_toList] at this
      rw [this]; decide
    · have := congrArg (·[k]?) hcs
      simp only [Array.getElem?_toList, List.getElem?_map, hk, Option.map_some] at this
      exact this
  · cases hv

/-- The cells of what is laid. -/
noncomputable def litCell : DataW Unit → List Value
  | .lit (.int k n) => [.int k n]
  | .agg [.lit (.int k n), .lit (.int k' n')] => [.int k n, .int k' n']
  | _ => []
noncomputable def tabCells : DataW Unit → Array Value
  | .agg l => (l.flatMap litCell).toArray
  | _ => #[]
noncomputable def putTab (g : Nat) (d : DataW Unit) (h : Array Obj) : Array Obj := h.modify g fun
  | .cells _ t frozen => .cells (tabCells d) t frozen
  | o => o

/-- A world for the witnesses: the settled one, the listed variables holding what the text lays. -/
noncomputable def laidWorld (os : Os) : World :=
  { World.holding Tryz.prog os ⟨#[], #[], []⟩ with heap := putTab 0 Rows.laid_internal_strconv_uint64pow10 (putTab 2 Rows.laid_math_bits_deBruijn32tab (putTab 3 Rows.laid_math_bits_deBruijn64tab (putTab 4 Rows.laid_unicode_utf8_first (putTab 5 Rows.laid_unicode_utf8_acceptRanges (World.holding Tryz.prog os ⟨#[], #[], []⟩).heap)))) }

end Go.Proofs.YtbojmpbccibmaaaGreatDoor
