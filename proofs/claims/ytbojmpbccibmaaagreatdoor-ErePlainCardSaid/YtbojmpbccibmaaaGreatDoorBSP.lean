/- The way in, with a row of bytes. -/
import Derived.Test.YtbojmpbccibmaaaGreatDoorBS5
import Derived.Test.YtbojmpbccibmaaaGreatDoorBSW
set_option linter.unusedVariables false
set_option linter.unusedSimpArgs false
set_option linter.unusedSectionVars false
set_option linter.deprecated false
set_option maxRecDepth 100000
namespace Go.Proofs.YtbojmpbccibmaaaGreatDoor
open Go Go.Abs

/-- A row of bytes of which only the rests are told, each by a name of its own. -/
def lettersOf (m : Nat) (n : Nat) : List AV := (List.range n).map fun i => .rest .u8 m i (span 0 m)
noncomputable def rowL (m n : Nat) : Abs.Rows := (10, lettersOf m n, 0) :: baseL
noncomputable def rowH (m n : Nat) : AHeap := heapOf 20 (rowL m n)
/-- The rest that each name stands for. -/
@[reducible] def restsVal (m : Nat) (zs : List Int) : Val := ⟨fun i => ((zs.getD i 0) % (m : Int)).toNat⟩

theorem letter_ok {m : Nat} (hm : 0 < m) {zs : List Int} (hz : ∀ n ∈ zs, (Lit.int .u8 n).wf = true) {k : Nat} (hk : k < zs.length) (φ : Phi) :
    @VRel (restsVal m zs) φ (.rest .u8 m k (span 0 m)) (.int .u8 (zs.getD k 0)) := by
  have hz' : (Lit.int .u8 (zs.getD k 0)).wf = true := by
    rw [List.getD_eq_getElem?_getD, List.getElem?_eq_getElem hk]
    exact hz _ (List.getElem_mem hk)
  obtain ⟨h0, h1⟩ := u8_range hz'
  have hr : 0 ≤ zs.getD k 0 % (m : Int) := Int.emod_nonneg _ (by omega)
  have hl : zs.getD k 0 % (m : Int) < m := Int.emod_lt_of_pos _ (by omega)
  refine ⟨_, rfl, h0, ?_⟩
  have := span_at (a := 0) (n := m) (x := zs.getD k 0 % (m : Int)) (by omega) (by omega)
  rw [show (zs.getD k 0 % (m : Int) - ((0 : Nat) : Int)).toNat = (zs.getD k 0 % (m : Int)).toNat by omega] at this
  exact this

/-- Where each block of the way in lies. -/
noncomputable def rowPhi (w : World) (at_ : PSt) : Phi := fun i => if i = 0 then (match w.heap[0]? with | some (Obj.cells vs _ _) => PSt.at 0 0 vs.size | _ => PSt.dead : PSt) else if i = 10 then at_ else if i < 20 then .dead else .un

theorem rowPhi_facts {w : World} {at_ : PSt} (hat : ∀ c p m, at_ = .at c p m → c < w.heap.size) (hun : at_ ≠ .un) :
    (∀ i, 20 ≤ i → rowPhi w at_ i = .un) ∧ (∀ g, g < 6 → PtrOk (rowPhi w at_) g 0 ⟨g, 0, none⟩) ∧ (∀ i c p m, rowPhi w at_ i = .at c p m → c < w.heap.size) := by
  refine ⟨fun i hi => ?_, fun g hg => ?_, fun i c p m e => ?_⟩
  · unfold rowPhi; rw [if_neg (by omega), if_neg (by omega), if_neg (by omega)]
  · unfold PtrOk rowPhi
    by_cases h0 : g = 0
    · subst h0
      simp only [if_true]
      split
      · rename_i hh; split at hh <;> cases hh
      · trivial
      · rename_i hh
        split at hh
        · cases hh; rfl
        · cases hh
    · rw [if_neg h0, if_neg (by omega), if_pos (by omega)]; trivial
  · unfold rowPhi at e
    split at e
    · split at e
      · rename_i vs _ _ hh
        cases e
        exact (Array.getElem?_eq_some_iff.1 hh).1
      · cases e
    · split at e
      · exact hat c p m e
      · split at e <;> cases e

theorem base_row [Val] {w : World} (hw : Laid w) {at_ : PSt} : ∀ x ∈ baseL, x.2.2 = 0 ∧ ∃ c p m vs u fz, rowPhi w at_ x.1 = .at c p m ∧ w.heap[c]? = some (.cells vs u fz) ∧ vs.size = p + m ∧ x.2.1.length ≤ m ∧
    ∀ (k : Nat) (a : AV), x.2.1[k]? = some a → ∃ cv, vs[p + k]? = some cv ∧ VRel (rowPhi w at_) a cv := by
  intro x hx
  unfold baseL at hx
  rw [List.mem_singleton] at hx
  subst hx
  obtain ⟨vs, u, fz, h1, h2, h3⟩ := hw
  refine ⟨rfl, 0, 0, vs.size, vs, u, fz, by unfold rowPhi; rw [if_pos rfl, h1], h1, by omega, by simpa [pow10L] using h2, fun k a ha => ?_⟩
  rw [List.getElem?_map, Option.map_eq_some_iff] at ha
  obtain ⟨m, hm', rfl⟩ := ha
  exact ⟨_, by rw [Nat.zero_add]; exact h3 k m hm', rfl⟩

/-- True is told of every row of bytes, of so many, if it is of their rests. -/
theorem row_true {O : Oracle} (hO : ∀ [Val], OracleOk Tryz.prog Tryz.prog.globals.size O) {n : Nat} {f : FuncId} {m : Nat} (hm0 : 0 < m) {zs : List Int} {len cap : Nat} (hin : rowsIn 20 (rowL m len) = true)
    (hok : okTrue ((RR O n).call f [.sl (some (10, 0)) 1 len len false] (rowH m len)) = true) (hlc : len ≤ cap) (hz : zs.length = cap) (hz8 : ∀ n ∈ zs, (Lit.int .u8 n).wf = true)
    {a : Addr} {w : World} (hpos : 0 < len) (hcell : ∀ i, i < zs.length → w.cell? (a.add i) = some (.int .u8 (zs.getD i 0))) (hw : Laid w) :
    Calls Tryz.prog f #[.slice (some a) len cap] w fun e w' => e = .returned (.bool true) ∧ RowKit.Below w.heap.size w w' := by
  letI : Val := restsVal m zs
  obtain ⟨ab, ao, spot⟩ := a
  have hspot : spot = none := by simpa [Addr.add] using World.cell?_spot (hcell 0 (by omega))
  subst hspot
  have hblk : ∃ vs u fz, w.heap[ab]? = some (.cells vs u fz) := by
    have := hcell 0 (by omega)
    unfold World.cell? at this
    split at this
    · rename_i vs u fz hh
      exact ⟨vs, u, fz, by simpa [Addr.add] using hh⟩
    · cases this
  obtain ⟨vs, u, fz, hb⟩ := hblk
  have hcs : ∀ i, i < cap → vs[ao + i]? = some (.int .u8 (zs.getD i 0)) := by
    intro i hi
    have := hcell i (by omega)
    rw [Addr.add_lit] at this
    simp only [World.cell?, hb] at this
    exact this
  have hsz : ao + cap ≤ vs.size := by
    have := hcs (cap - 1) (by omega)
    have := (Array.getElem?_eq_some_iff.1 this).1
    omega
  unfold okTrue at hok
  split at hok
  · rename_i h1 hrun
    have hcon := con_run hm hO n hrun
    have hlt : ab < w.heap.size := (Array.getElem?_eq_some_iff.1 hb).1
    obtain ⟨f1, f2, f3⟩ := rowPhi_facts (w := w) (at_ := .at ab ao (vs.size - ao)) (fun c p q e => by cases e; exact hlt) (by simp)
    have H : HRel Tryz.prog.globals.size (rowPhi w (.at ab ao (vs.size - ao))) (rowH m len) w := by
      refine hrel_rows f1 (by rw [hng]; exact f2) f3 hin fun x hx => ?_
      unfold rowL at hx
      rcases List.mem_cons.1 hx with rfl | hx
      · refine ⟨rfl, ab, ao, vs.size - ao, vs, u, fz, by unfold rowPhi; simp, hb, by omega, by simp [lettersOf]; omega, fun k a ha => ?_⟩
        unfold lettersOf at ha
        rw [List.getElem?_map, Option.map_eq_some_iff] at ha
        obtain ⟨q, hq, rfl⟩ := ha
        have hk := (List.getElem?_eq_some_iff.1 hq).1
        rw [List.length_range] at hk
        rw [List.getElem?_range hk] at hq
        cases hq
        exact ⟨_, hcs k (by omega), letter_ok hm0 hz8 (by omega) _⟩
      · exact base_row hw x hx
    refine enter_ro hcon H ?_ (fun φ u hu => hu)
    refine ⟨_, [], rfl, ⟨⟨ab, ao, none⟩, cap, rfl, Nat.le_refl _, hlc, by simp, ?_⟩, rfl⟩
    unfold SlOk rowPhi
    simp
    omega
  · cases hok

/-- True is told where the row isn't looked at. -/
theorem row_unread {O : Oracle} (hO : ∀ [Val], OracleOk Tryz.prog Tryz.prog.globals.size O) {n : Nat} {f : FuncId} {len cap : Nat}
    (hok : okTrue ((RR O n).call f [.sl (some (10, 0)) 1 len len false] baseH) = true) (hlc : len ≤ cap) {a : Addr} {w : World} (hw : Laid w) :
    Calls Tryz.prog f #[.slice (some a) len cap] w fun e w' => e = .returned (.bool true) ∧ RowKit.Below w.heap.size w w' := by
  letI : Val := ⟨fun _ => 0⟩
  unfold okTrue at hok
  split at hok
  · rename_i h1 hrun
    have hcon := con_run hm hO n hrun
    obtain ⟨f1, f2, f3⟩ := rowPhi_facts (w := w) (at_ := .dead) (fun c p q e => by cases e) (by simp)
    have H : HRel Tryz.prog.globals.size (rowPhi w .dead) baseH w := hrel_rows f1 (by rw [hng]; exact f2) f3 baseL_in fun x hx => base_row hw x hx
    refine enter_ro hcon H ?_ (fun φ u hu => hu)
    refine ⟨_, [], rfl, ⟨a, cap, rfl, Nat.le_refl _, hlc, by simp, ?_⟩, rfl⟩
    unfold SlOk rowPhi
    simp
  · cases hok

theorem row_nil {O : Oracle} (hO : ∀ [Val], OracleOk Tryz.prog Tryz.prog.globals.size O) {n : Nat} {f : FuncId}
    (hok : okTrue ((RR O n).call f [.sl none 1 0 0 false] baseH) = true) {w : World} (hw : Laid w) :
    Calls Tryz.prog f #[.slice none 0 0] w fun e w' => e = .returned (.bool true) ∧ RowKit.Below w.heap.size w w' := by
  letI : Val := ⟨fun _ => 0⟩
  exact calls_true hO hok (fun φ => ⟨_, [], rfl, ⟨rfl, rfl, rfl⟩, rfl⟩) hw

end Go.Proofs.YtbojmpbccibmaaaGreatDoor
