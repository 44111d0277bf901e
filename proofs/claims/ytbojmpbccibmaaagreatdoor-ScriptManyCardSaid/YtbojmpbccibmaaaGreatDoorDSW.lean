/- Bounds of numbers. -/
import Derived.Test.YtbojmpbccibmaaaGreatDoorDS5
set_option linter.unusedVariables false
set_option linter.unusedSimpArgs false
set_option linter.unusedSectionVars false
set_option linter.deprecated false
set_option maxRecDepth 100000
namespace Go.Proofs.YtbojmpbccibmaaaGreatDoor
open Go Go.Abs

theorem u8_range {a : Int} (h : (Lit.int .u8 a).wf = true) : 0 ≤ a ∧ a < 256 := by
  simp [Lit.wf, IntKind.min, IntKind.max, IntKind.bits, IntKind.signed] at h
  omega

theorem u16_range {a : Int} (h : (Lit.int .u16 a).wf = true) : 0 ≤ a ∧ a < 65536 := by
  simp [Lit.wf, IntKind.min, IntKind.max, IntKind.bits, IntKind.signed] at h
  omega

/-- Numbers from one on, so many. -/
def span (a n : Nat) : List Int := (List.range' a n).map Int.ofNat

theorem span_at {a n : Nat} {x : Int} (h : (a : Int) ≤ x) (k : x < a + n) : (span a n)[(x - a).toNat]? = some x := by
  unfold span
  rw [List.getElem?_map, List.getElem?_range' (by omega)]
  simp; omega

end Go.Proofs.YtbojmpbccibmaaaGreatDoor
