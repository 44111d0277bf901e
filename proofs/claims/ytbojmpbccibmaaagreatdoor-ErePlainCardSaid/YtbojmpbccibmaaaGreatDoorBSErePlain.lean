/-
  ErePlain: for every row of bytes, letters alone are parsed as a row of them (of at most 60; of more nothing is asked): the law returns true, and its argument reads as before.
  Conditions: the row's own (the package-level variables that it lists hold what the program's text lays; the card ties them).
-/
import Derived.Test.YtbojmpbccibmaaaGreatDoorBSL
import Derived.Test.YtbojmpbccibmaaaGreatDoorBSXErePlaina
import Derived.Test.YtbojmpbccibmaaaGreatDoorBSXErePlainb
import Derived.Test.YtbojmpbccibmaaaGreatDoorBSXErePlainc
import Derived.Test.YtbojmpbccibmaaaGreatDoorBSXErePlaind
import Derived.Test.YtbojmpbccibmaaaGreatDoorBSCErePlain
set_option linter.unusedVariables false
set_option linter.unusedSimpArgs false
set_option linter.unusedSectionVars false
set_option linter.deprecated false
set_option maxRecDepth 100000
namespace Go.Proofs.YtbojmpbccibmaaaGreatDoor.erePlain
open Go Go.Abs Go.ChangeShapes Go.WideShapes Go.ChangeAt Go.RowKit

theorem all_ok (n : Nat) (h0 : 0 < n) (hn : n ≤ 60) : erePlainOk n = true := by
  have h : n = 1 ∨ n = 2 ∨ n = 3 ∨ n = 4 ∨ n = 5 ∨ n = 6 ∨ n = 7 ∨ n = 8 ∨ n = 9 ∨ n = 10 ∨ n = 11 ∨ n = 12 ∨ n = 13 ∨ n = 14 ∨ n = 15 ∨ n = 16 ∨ n = 17 ∨ n = 18 ∨ n = 19 ∨ n = 20 ∨ n = 21 ∨ n = 22 ∨ n = 23 ∨ n = 24 ∨ n = 25 ∨ n = 26 ∨ n = 27 ∨ n = 28 ∨ n = 29 ∨ n = 30 ∨ n = 31 ∨ n = 32 ∨ n = 33 ∨ n = 34 ∨ n = 35 ∨ n = 36 ∨ n = 37 ∨ n = 38 ∨ n = 39 ∨ n = 40 ∨ n = 41 ∨ n = 42 ∨ n = 43 ∨ n = 44 ∨ n = 45 ∨ n = 46 ∨ n = 47 ∨ n = 48 ∨ n = 49 ∨ n = 50 ∨ n = 51 ∨ n = 52 ∨ n = 53 ∨ n = 54 ∨ n = 55 ∨ n = 56 ∨ n = 57 ∨ n = 58 ∨ n = 59 ∨ n = 60 := by omega
  rcases h with rfl | rfl | rfl | rfl | rfl | rfl | rfl | rfl | rfl | rfl | rfl | rfl | rfl | rfl | rfl | rfl | rfl | rfl | rfl | rfl | rfl | rfl | rfl | rfl | rfl | rfl | rfl | rfl | rfl | rfl | rfl | rfl | rfl | rfl | rfl | rfl | rfl | rfl | rfl | rfl | rfl | rfl | rfl | rfl | rfl | rfl | rfl | rfl | rfl | rfl | rfl | rfl | rfl | rfl | rfl | rfl | rfl | rfl | rfl | rfl
  · exact erePlainOk_1
  · exact erePlainOk_2
  · exact erePlainOk_3
  · exact erePlainOk_4
  · exact erePlainOk_5
  · exact erePlainOk_6
  · exact erePlainOk_7
  · exact erePlainOk_8
  · exact erePlainOk_9
  · exact erePlainOk_10
  · exact erePlainOk_11
  · exact erePlainOk_12
  · exact erePlainOk_13
  · exact erePlainOk_14
  · exact erePlainOk_15
  · exact erePlainOk_16
  · exact erePlainOk_17
  · exact erePlainOk_18
  · exact erePlainOk_19
  · exact erePlainOk_20
  · exact erePlainOk_21
  · exact erePlainOk_22
  · exact erePlainOk_23
  · exact erePlainOk_24
  · exact erePlainOk_25
  · exact erePlainOk_26
  · exact erePlainOk_27
  · exact erePlainOk_28
  · exact erePlainOk_29
  · exact erePlainOk_30
  · exact erePlainOk_31
  · exact erePlainOk_32
  · exact erePlainOk_33
  · exact erePlainOk_34
  · exact erePlainOk_35
  · exact erePlainOk_36
  · exact erePlainOk_37
  · exact erePlainOk_38
  · exact erePlainOk_39
  · exact erePlainOk_40
  · exact erePlainOk_41
  · exact erePlainOk_42
  · exact erePlainOk_43
  · exact erePlainOk_44
  · exact erePlainOk_45
  · exact erePlainOk_46
  · exact erePlainOk_47
  · exact erePlainOk_48
  · exact erePlainOk_49
  · exact erePlainOk_50
  · exact erePlainOk_51
  · exact erePlainOk_52
  · exact erePlainOk_53
  · exact erePlainOk_54
  · exact erePlainOk_55
  · exact erePlainOk_56
  · exact erePlainOk_57
  · exact erePlainOk_58
  · exact erePlainOk_59
  · exact erePlainOk_60

theorem u8Cells : Tryz.prog.cellsOf 5 = 1 := by kernel_rfl

theorem walk (H : Type) (enc : TypeId × Value → H) (W : World) (base : Nat) (v0 : Value) (d0 : DataW H) (p0 : List MemPlace) (hval : Value.okWide Tryz.prog W .any base 39 v0) (h0 : DataW.Trod enc Tryz.prog W 0 (fun _ => true) true 39 v0 d0 p0)
    (w : World) (hww : w = W) (hw : Laid w) : Calls Tryz.prog 6 #[v0] w fun e w' => e = .returned (.bool true) ∧ Below w.heap.size w w' := by
  subst hww
  obtain ⟨a1, len, cap, rfl⟩ := okWide_slice Tryz.underlying39 hval
  obtain ⟨fuel, hf⟩ := h0
  rcases open_ints Tryz.underlying39 Tryz.underlying5 u8Cells hf with ⟨hcs, hx⟩ | ⟨a, len', cap', zs, hcs, _, hl, hm, hz, hx, hcell, hwz⟩
  · simp [Value.cells] at hcs
    obtain ⟨rfl, rfl, rfl⟩ := hcs
    exact row_nil (O := O3) (fun [Val] => O3_ok) erePlainNil hw
  · simp [Value.cells] at hcs
    obtain ⟨rfl, rfl, rfl⟩ := hcs
    simp only [if_true] at hz
    by_cases hlen : len = 0
    · subst hlen
      exact row_unread (O := O3) (fun [Val] => O3_ok) erePlainNone hl hw
    · by_cases hlong : len ≤ 60
      · exact row_true (O := O3) (fun [Val] => O3_ok) (by decide) (List.all_eq_true.1 erePlainIn len (List.mem_range.2 (by omega))) (all_ok len (by omega) hlong) hl hz hwz (by omega) hcell hw
      · obtain ⟨k, rfl⟩ : ∃ k, len = k + 61 := ⟨len - 61, by omega⟩
        exact row_unread (O := O3) (fun [Val] => O3_ok) (erePlainLong k) hl hw

theorem contract (H : Type) (enc : TypeId × Value → H) (W : World) (base : Nat) (args : Array Value) (ds gs : List (DataW H)) (before : List MemPlace)
    (hval : ∀ (j : Nat) t v, Tryz.f6.params[j]? = some t → args[j]? = some v → Value.okWide Tryz.prog W .any base t v)
    (hW : DataW.Whole enc Tryz.prog Tryz.f6.params.toList Rows.erePlainSpec.vars false W args.toList ds gs before) (hL : laidMetH Tryz.prog Rows.erePlainRow.laid W) :
    Calls Tryz.prog 6 args W fun e W' => ∃ v, e = .returned v ∧ Rows.erePlainSpec.post enc Tryz.prog Tryz.f6 false true false false W args v W' := by
  have hW' := hW
  obtain ⟨p, q, hA0, hV, rfl, hfz, hnd⟩ := hW
  have hA : DataW.TrodAll enc Tryz.prog W 0 (fun _ => true) true Tryz.f6.params.toList args.toList ds p := hA0
  rw [Tryz.params6] at hA hval
  obtain ⟨v0, vs0, d0, ds0, p0, q0, hargs, rfl, rfl, h0, r0⟩ := trodAll_cons hA
  obtain ⟨rfl, rfl, rfl⟩ := trodAll_nil r0
  obtain rfl : args = #[v0] := by cases args; simp_all
  obtain ⟨rfl, rfl⟩ := trodVars_none hV
  clear hA0
  simp only [List.append_nil] at hW'
  refine (walk H enc W base v0 d0 p0 (hval 0 39 v0 rfl rfl) h0 W rfl (laid_of hL)).mono fun e W' ⟨he, hg⟩ => ?_
  subst he
  exact ⟨_, rfl, _, _, _, [], _, [], hW', trodAll_cons_mk (shut_bool Tryz.underlying4 _) trodAll_mk0, (trodAll_cons_mk (Below.trod laidOut (by kernel_rfl) (of_decide_eq_true (by kernel_rfl)) h0 hg (fun x hx => hW'.lt x (by simp [hx]))) trodAll_mk0), rfl, hg.frame _, fun h => by cases h⟩

theorem laid_met (os : Os) : laidMet Tryz.prog Rows.erePlainRow.laid ((laidWorld os).forCall (fun _ _ => 0) ⟨#[], #[.slice none 0 0], []⟩).memory :=
  laidMet_of_run' 8 (by kernel_rfl) (by kernel_rfl)
theorem reads (os : Os) {H : Type} (enc : TypeId × Value → H) : ∃ places, DataW.whole enc Tryz.prog ((laidWorld os).forCall (fun _ _ => 0) ⟨#[], #[.slice none 0 0], []⟩).memory Tryz.f6.params.toList Rows.erePlainSpec.vars false (#[.slice none 0 0] : Array Value).toList 8 = some ([.nil], [], places) :=
  ⟨[], by kernel_rfl⟩

theorem lifted (os : Os) (started : os.Started) (H : Type) (enc : TypeId × Value → H) (F : Stop.Interp) :
    ReturnsInHanded {} Tryz.checked os 6 .any ((OpenSpec.ofChange Rows.erePlainSpec).preRow enc Tryz.prog Tryz.f6 Rows.erePlainRow.domain false Rows.erePlainRow.laid) (((OpenSpec.ofChange Rows.erePlainSpec).at F).post enc Tryz.prog Tryz.f6 false true false false) := by
  obtain ⟨places, hx⟩ := reads os enc
  refine returnsInHanded_of_row (C := Tryz.checked) (s := OpenSpec.ofChange Rows.erePlainSpec) own started (by kernel_rfl) Tryz.func6
    (witness_row_at (enc := enc) (C := Tryz.checked) false (laidWorld os) #[.slice none 0 0] rfl (by kernel_rfl) (by kernel_rfl) (by kernel_rfl)
      (OpenSpec.preRow_of_cond 8 hx (by kernel_rfl) (fun k hk => by cases hk) (by kernel_rfl) (laid_met os))) ?_
  intro W base args ds gs before hval hW _ _ _ hL _ _
  exact contract H enc W base args ds gs before hval hW hL

theorem said : Rows.ErePlainSaid :=
  OpenClaim.holds_of_cond 6 Tryz.f6 rfl rfl rfl rfl rfl rfl rfl ⟨rfl, rfl, rfl, rfl, rfl⟩ rfl rfl rfl rfl rfl (by as_aux_lemma => kernel_rfl) Tryz.func6 closed
    (of_decide_eq_true (by as_aux_lemma => kernel_rfl)) (by as_aux_lemma => unfold Func.isWrapper; first | (rw [if_pos (by decide +kernel)]; kernel_rfl) | (rw [if_neg (by decide +kernel)]; exact ⟨rfl, rfl⟩))
    (fun os started H enc _ F => by rw [OpenClaim.pre_eq_preRow]; exact lifted os started H enc F)

theorem plain (f : FuncId) (fn : Func) (hf : Tryz.pinned.checked.prog.funcNamed "redactor/redactorlaw12.ErePlain" = some f) (hfn : Tryz.pinned.checked.prog.funcs[f]? = some fn) :
    true = Tryz.pinned.checked.prog.looks [] ∧ ∀ (j : Nat) t, fn.params[j]? = some t → Tryz.pinned.checked.prog.wantsStandIn t = false := by
  obtain rfl : f = 6 := Option.some.inj ((show Tryz.prog.funcNamed "redactor/redactorlaw12.ErePlain" = some 6 by kernel_rfl).symm.trans hf) |>.symm
  obtain rfl : fn = Tryz.f6 := (Option.some.inj (Tryz.func6.symm.trans hfn)).symm
  refine ⟨by kernel_rfl, fun j t ht => ?_⟩
  rw [Tryz.params6] at ht
  have ht' := Array.mem_of_getElem? ht
  simp only [List.mem_toArray, List.mem_cons, List.mem_nil_iff, or_false] at ht'
  subst ht'
  exact (show Tryz.prog.wantsStandIn 39 = false by kernel_rfl)

/-- ████ THE CARD ████ -/
theorem card : Rows.ErePlainCardSaid :=
  Claim7.holds_tied_plain_at .later [] _ _ _ _ said (fun _ h => by cases h) (by as_aux_lemma => kernel_rfl) (fun _ h => by cases h) erePlain_row_tie rfl ⟨rfl, rfl⟩ (by as_aux_lemma => kernel_rfl) rfl plain (by as_aux_lemma => kernel_rfl)
#print axioms card
end Go.Proofs.YtbojmpbccibmaaaGreatDoor.erePlain
