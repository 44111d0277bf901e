/- Numbers of one rest: what a run is told in place of a number. -/
import Derived.Test.YtbojmpbccibmaaaGreatDoorS5
set_option linter.unusedVariables false
set_option linter.unusedSimpArgs false
set_option linter.unusedSectionVars false
set_option linter.deprecated false
set_option maxRecDepth 100000
namespace Go.Proofs.YtbojmpbccibmaaaGreatDoor
open Go Go.Abs

/-- The numbers of 8 bits that leave one rest. -/
def rests (m r : Nat) : List Int := ((List.range 256).filter fun n => n % m == r).map Int.ofNat
/-- Those of them on one side of 127. -/
def restsHi (m r : Nat) (b : Bool) : List Int := ((List.range 256).filter fun n => n % m == r && decide (127 < n) == b).map Int.ofNat

theorem u8_range {a : Int} (h : (Lit.int .u8 a).wf = true) : 0 ≤ a ∧ a < 256 := by
  simp [Lit.wf, IntKind.min, IntKind.max, IntKind.bits, IntKind.signed] at h
  omega

theorem rests_at {a : Int} (h : (Lit.int .u8 a).wf = true) (m : Nat) : ∃ j : Nat, (rests m (a.toNat % m))[j]? = some a := by
  obtain ⟨h1, h2⟩ := u8_range h
  refine List.mem_iff_getElem?.1 ?_
  unfold rests
  exact List.mem_map.2 ⟨a.toNat, List.mem_filter.2 ⟨List.mem_range.2 (by omega), by simp⟩, by simp; omega⟩

theorem restsHi_at {a : Int} (h : (Lit.int .u8 a).wf = true) (m : Nat) : ∃ j : Nat, (restsHi m (a.toNat % m) (decide (127 < a.toNat)))[j]? = some a := by
  obtain ⟨h1, h2⟩ := u8_range h
  refine List.mem_iff_getElem?.1 ?_
  unfold restsHi
  exact List.mem_map.2 ⟨a.toNat, List.mem_filter.2 ⟨List.mem_range.2 (by omega), by simp⟩, by simp; omega⟩

/-- Two numbers of two names. -/
theorem two_vals [v : Val] {φ : Phi} {k k' : IntKind} {l l' : List Int} {a b : Int} (ha : l[Val.at_ 0]? = some a) (hb : l'[Val.at_ 1]? = some b) : VRels φ [.sym k 0 l, .sym k' 1 l'] (#[Value.int k a, Value.int k' b] : Array Value).toList :=
  ⟨_, _, rfl, ⟨a, ha, rfl⟩, _, [], rfl, ⟨b, hb, rfl⟩, rfl⟩

end Go.Proofs.YtbojmpbccibmaaaGreatDoor
