/- Numbers of times: what is run, and what each run gives. -/
import Derived.Test.YtbojmpbccibmaaaGreatDoorCS5
import Derived.Test.YtbojmpbccibmaaaGreatDoorCSW
set_option linter.unusedVariables false
set_option linter.unusedSimpArgs false
set_option linter.unusedSectionVars false
set_option linter.deprecated false
set_option maxRecDepth 100000
namespace Go.Proofs.YtbojmpbccibmaaaGreatDoor
open Go Go.Abs

/-- What is to be shown of each two numbers and choice. -/
def Good (x y k : Nat) : Prop := ∀ (a0 a1 a2 : Int), (Lit.int .u16 a0).wf = true → (Lit.int .u16 a1).wf = true → (Lit.int .u8 a2).wf = true → a0 % 300 = x → a1 % 300 = y → a2 % 5 = k → ∀ w : World, Laid w →
  Calls Tryz.prog 3 #[.int .u16 a0, .int .u16 a1, .int .u8 a2] w fun e w' => e = .returned (.bool true) ∧ RowKit.Below w.heap.size w w'

noncomputable def blockOk (xa xn ya yn k : Nat) : Bool := okTrue ((RR O3 2000).call 3 [.rest .u16 300 0 (span xa xn), .rest .u16 300 1 (span ya yn), .rest .u8 5 2 [.ofNat k]] baseH)

theorem block_good {xa xn ya yn k : Nat} (h : blockOk xa xn ya yn k = true) {x y : Nat} (hx0 : xa ≤ x) (hx1 : x < xa + xn) (hy0 : ya ≤ y) (hy1 : y < ya + yn) : Good x y k := by
  intro a0 a1 a2 w0 w1 w2 e0 e1 e2 w hw
  obtain ⟨r0, _⟩ := u16_range w0
  obtain ⟨r1, _⟩ := u16_range w1
  obtain ⟨r2, _⟩ := u8_range w2
  letI : Val := ⟨fun i => if i = 0 then ((x : Int) - xa).toNat else if i = 1 then ((y : Int) - ya).toNat else 0⟩
  refine calls_true O3_ok h (fun φ => ⟨_, _, rfl, ⟨a0, rfl, r0, ?_⟩, _, _, rfl, ⟨a1, rfl, r1, ?_⟩, _, [], rfl, ⟨a2, rfl, r2, ?_⟩, rfl⟩) hw
  · show (span xa xn)[((x : Int) - xa).toNat]? = some (a0 % ((300 : Nat) : Int))
    rw [show a0 % ((300 : Nat) : Int) = x from e0]
    exact span_at (by omega) (by omega)
  · show (span ya yn)[((y : Int) - ya).toNat]? = some (a1 % ((300 : Nat) : Int))
    rw [show a1 % ((300 : Nat) : Int) = y from e1]
    exact span_at (by omega) (by omega)
  · show some (Int.ofNat k) = some (a2 % ((5 : Nat) : Int))
    rw [show a2 % ((5 : Nat) : Int) = k from e2]; rfl

/-- Two numbers from one on, so many: the first not above the second; the first above it. -/
def upP (a n : Nat) : List (Nat × Nat) := (List.range' a n).flatMap fun x => (List.range' x (a + n - x)).map fun y => (x, y)
def loP (a n : Nat) : List (Nat × Nat) := (List.range' a n).flatMap fun x => (List.range' a (x - a)).map fun y => (x, y)
noncomputable def pairOk (P : List (Nat × Nat)) (k : Nat) : Bool := okTrue ((RR O3 2000).call 3 [.rest .u16 300 0 (P.map fun p => .ofNat p.1), .rest .u16 300 0 (P.map fun p => .ofNat p.2), .rest .u8 5 2 [.ofNat k]] baseH)

theorem pair_good {P : List (Nat × Nat)} {k : Nat} (h : pairOk P k = true) {x y : Nat} (hm : (x, y) ∈ P) : Good x y k := by
  intro a0 a1 a2 w0 w1 w2 e0 e1 e2 w hw
  obtain ⟨r0, _⟩ := u16_range w0
  obtain ⟨r1, _⟩ := u16_range w1
  obtain ⟨r2, _⟩ := u8_range w2
  obtain ⟨j, hj⟩ := List.mem_iff_getElem?.1 hm
  letI : Val := ⟨fun i => if i = 0 then j else 0⟩
  refine calls_true O3_ok h (fun φ => ⟨_, _, rfl, ⟨a0, rfl, r0, ?_⟩, _, _, rfl, ⟨a1, rfl, r1, ?_⟩, _, [], rfl, ⟨a2, rfl, r2, ?_⟩, rfl⟩) hw
  · show (P.map fun p => Int.ofNat p.1)[j]? = some (a0 % ((300 : Nat) : Int))
    rw [show a0 % ((300 : Nat) : Int) = x from e0, List.getElem?_map, hj]; rfl
  · show (P.map fun p => Int.ofNat p.2)[j]? = some (a1 % ((300 : Nat) : Int))
    rw [show a1 % ((300 : Nat) : Int) = y from e1, List.getElem?_map, hj]; rfl
  · show some (Int.ofNat k) = some (a2 % ((5 : Nat) : Int))
    rw [show a2 % ((5 : Nat) : Int) = k from e2]; rfl

theorem up_mem {a n x y : Nat} (h0 : a ≤ x) (h1 : x ≤ y) (h2 : y < a + n) : (x, y) ∈ upP a n :=
  List.mem_flatMap.2 ⟨x, List.mem_range'_1.2 ⟨h0, by omega⟩, List.mem_map.2 ⟨y, List.mem_range'_1.2 ⟨h1, by omega⟩, rfl⟩⟩
theorem lo_mem {a n x y : Nat} (h0 : a ≤ y) (h1 : y < x) (h2 : x < a + n) : (x, y) ∈ loP a n :=
  List.mem_flatMap.2 ⟨x, List.mem_range'_1.2 ⟨by omega, h2⟩, List.mem_map.2 ⟨y, List.mem_range'_1.2 ⟨h0, by omega⟩, rfl⟩⟩
theorem all5 {f : Nat → Bool} (h : ((List.range 5).all f) = true) {k : Nat} (hk : k < 5) : f k = true := List.all_eq_true.1 h k (List.mem_range.2 hk)

end Go.Proofs.YtbojmpbccibmaaaGreatDoor
