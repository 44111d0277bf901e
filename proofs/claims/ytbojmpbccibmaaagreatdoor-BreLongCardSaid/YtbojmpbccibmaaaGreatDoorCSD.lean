/- What is known of a call of a row of cells ahead. -/
import Derived.Test.YtbojmpbccibmaaaGreatDoorCS5
import Derived.Test.YtbojmpbccibmaaaGreatDoorCSW
import Derived.Test.YtbojmpbccibmaaaGreatDoorCAbsF
set_option linter.unusedVariables false
set_option linter.unusedSimpArgs false
set_option linter.unusedSectionVars false
set_option linter.deprecated false
set_option maxRecDepth 100000
namespace Go.Proofs.YtbojmpbccibmaaaGreatDoor
open Go Go.Abs

/-- Where the row lies. -/
def rhoOf (j : Nat) : Nat → Option Nat := fun i => if i = 10 then some j else none
noncomputable def rowOk (O : Oracle) (f : FuncId) (cs : List AV) (v : AV) : Bool := match (RR O 2000).call f [.sl (some (10, 0)) 1 cs.length cs.length false, .ptr (some (19, 0))] (heapOf 20 [(10, cs, 0)]) with
  | some (.returned u, _) => AV.same (deadify 0 u) v
  | _ => false
noncomputable def nilOk (f : FuncId) (v : AV) : Bool := match (RR O0 2000).call f [.sl none 0 0 0 true, .ptr (some (19, 0))] (heapOf 20 []) with
  | some (.returned u, _) => AV.same (deadify 0 u) v
  | _ => false

/-- A table of rows and answers, by their number of cells. -/
noncomputable def tabC (tab : Nat → Option (List AV × AV)) (nilV : AV) (args : List AV) (h : AHeap) : Option (AEnd × AHeap) :=
  match args with
  | [.sl (some (j, 0)) 1 len _ _, .ptr (some _)] => (match tab len with
    | some x => ifB (renB [(10, x.1, 0)] (rhoOf j) h) (some (.returned (deadify h.next x.2), ⟨h.tbl, h.next + 1⟩)) none
    | none => none)
  | [.sl none _ _ _ _, .ptr (some _)] => some (.returned (deadify h.next nilV), ⟨h.tbl, h.next + 1⟩)
  | _ => none

theorem rho_glob (j : Nat) : ∀ g, g < Tryz.prog.globals.size → rhoOf j g = some g ∨ rhoOf j g = none := by
  intro g hg
  rw [hng] at hg
  exact .inr (by unfold rhoOf; rw [if_neg (by omega)])

theorem tabC_ok [Val] {O : Oracle} (hO : OracleOk Tryz.prog Tryz.prog.globals.size O) {f : FuncId} {tab : Nat → Option (List AV × AV)} {nilV : AV} (hn : nilOk f nilV = true) (ht : ∀ len x, tab len = some x → x.1.length = len ∧ AV.ltns 20 x.1 = true ∧ rowOk O f x.1 x.2 = true) :
    ∀ args h en h', tabC tab nilV args h = some (en, h') → Con Tryz.prog Tryz.prog.globals.size f args h en h' := by
  intro args h en h' hr
  unfold tabC at hr
  split at hr
  · rename_i j len cap ex p
    split at hr
    · rename_i x hx
      obtain ⟨h1, h2, h3⟩ := ht len x hx
      rw [T.ifB_eq] at hr
      split at hr
      · rename_i hs
        simp only [Option.some.injEq, Prod.mk.injEq] at hr
        obtain ⟨rfl, rfl⟩ := hr
        unfold rowOk at h3
        split at h3
        · rename_i u h0 hrun
          rw [← same_eq _ _ h3, deadify_twice]
          refine con_ren (con_run hm hO 2000 hrun) (by rw [hng]; decide) ?_ (rho_glob j) hs ?_
          · unfold rowsIn
            simp only [List.all_cons, List.all_nil, Bool.and_true, Bool.and_eq_true]
            exact ⟨rfl, h2⟩
          · intro φ cargs hv
            rw [h1]
            obtain ⟨v, r, rfl, hv1, w, q, rfl, hv2, hq⟩ := hv
            simp only [VRels] at hq
            subst hq
            obtain ⟨a, c, rfl, k1, k2, _, k4⟩ := hv1
            obtain ⟨i, o⟩ := p
            obtain ⟨b, rfl, _⟩ := hv2
            refine ⟨_, _, rfl, ⟨a, c, rfl, Nat.le_refl _, by omega, by simp, ?_⟩, _, [], rfl, ⟨b, rfl, ?_⟩, rfl⟩
            · have e : renPhi 20 (rhoOf j) φ 10 = φ j := by simp [renPhi, rhoOf]
              unfold SlOk at *
              rw [e]; exact k4
            · have e : renPhi 20 (rhoOf j) φ 19 = .dead := by simp [renPhi, rhoOf]
              unfold PtrOk
              rw [e]; trivial
        · cases h3
      · cases hr
    · cases hr
  · rename_i p
    simp only [Option.some.injEq, Prod.mk.injEq] at hr
    obtain ⟨rfl, rfl⟩ := hr
    unfold nilOk at hn
    split at hn
    · rename_i u h0 hrun
      rw [← same_eq _ _ hn, deadify_twice]
      refine con_ren (ρ := rhoOf 0) (con_run hm O0_ok 2000 hrun) (by rw [hng]; decide) rfl (rho_glob 0) rfl ?_
      intro φ cargs hv
      obtain ⟨v, r, rfl, hv1, w, q, rfl, hv2, hq⟩ := hv
      simp only [VRels] at hq
      subst hq
      obtain ⟨rfl, _, _⟩ := hv1
      obtain ⟨i, o⟩ := p
      obtain ⟨b, rfl, _⟩ := hv2
      refine ⟨_, _, rfl, ⟨rfl, rfl, rfl⟩, _, [], rfl, ⟨b, rfl, ?_⟩, rfl⟩
      have e : renPhi 20 (rhoOf 0) φ 19 = .dead := by simp [renPhi, rhoOf]
      unfold PtrOk
      rw [e]; trivial
    · cases hn
  · cases hr

end Go.Proofs.YtbojmpbccibmaaaGreatDoor
