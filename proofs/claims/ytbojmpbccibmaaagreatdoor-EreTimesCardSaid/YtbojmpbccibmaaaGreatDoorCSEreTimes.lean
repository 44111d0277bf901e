/-
  EreTimes: for every two numbers of times and every choice of a wrong pattern, numbers of times are as they are told, and none may stand where nothing is ahead: the law returns true, and its arguments read as before.
  Conditions: the row's own (the package-level variables that it lists hold what the program's text lays; the card ties them).
-/
import Derived.Test.YtbojmpbccibmaaaGreatDoorCSL
import Derived.Test.YtbojmpbccibmaaaGreatDoorCSXEreTimesa
import Derived.Test.YtbojmpbccibmaaaGreatDoorCSXEreTimesb
import Derived.Test.YtbojmpbccibmaaaGreatDoorCSXEreTimesc
import Derived.Test.YtbojmpbccibmaaaGreatDoorCSXEreTimesd
import Derived.Test.YtbojmpbccibmaaaGreatDoorCSXEreTimese
import Derived.Test.YtbojmpbccibmaaaGreatDoorCSXEreTimesf
import Derived.Test.YtbojmpbccibmaaaGreatDoorCSCEreTimes
set_option linter.unusedVariables false
set_option linter.unusedSimpArgs false
set_option linter.unusedSectionVars false
set_option linter.deprecated false
set_option maxRecDepth 100000
namespace Go.Proofs.YtbojmpbccibmaaaGreatDoor.ereTimes
open Go Go.Abs Go.ChangeShapes Go.WideShapes Go.ChangeAt Go.RowKit

theorem cover (x y k : Nat) (hx : x < 300) (hy : y < 300) (hk : k < 5) : Good x y k := by
  by_cases cx : x < 100
  · by_cases cx : x < 10
    · by_cases cy : y < 100
      · by_cases cy : y < 10
        · by_cases c : x ≤ y
          · exact pair_good (all5 u_0_10 hk) (up_mem (by omega) c (by omega))
          · exact pair_good (all5 l_0_10 hk) (lo_mem (by omega) (by omega) (by omega))
        · exact block_good (all5 t_0_10_10_100 hk) (by omega) (by omega) (by omega) (by omega)
      · by_cases cy : y < 128
        · exact block_good (all5 t_0_10_100_128 hk) (by omega) (by omega) (by omega) (by omega)
        · by_cases cy : y < 256
          · exact block_good (all5 t_0_10_128_256 hk) (by omega) (by omega) (by omega) (by omega)
          · exact block_good (all5 t_0_10_256_300 hk) (by omega) (by omega) (by omega) (by omega)
    · by_cases cy : y < 100
      · by_cases cy : y < 10
        · exact block_good (all5 t_10_100_0_10 hk) (by omega) (by omega) (by omega) (by omega)
        · by_cases cx : x < 55
          · by_cases cy : y < 55
            · by_cases cx : x < 32
              · by_cases cy : y < 32
                · by_cases cx : x < 21
                  · by_cases cy : y < 21
                    · by_cases c : x ≤ y
                      · exact pair_good (all5 u_10_21 hk) (up_mem (by omega) c (by omega))
                      · exact pair_good (all5 l_10_21 hk) (lo_mem (by omega) (by omega) (by omega))
                    · exact block_good (all5 t_10_21_21_32 hk) (by omega) (by omega) (by omega) (by omega)
                  · by_cases cy : y < 21
                    · exact block_good (all5 t_21_32_10_21 hk) (by omega) (by omega) (by omega) (by omega)
                    · by_cases c : x ≤ y
                      · exact pair_good (all5 u_21_32 hk) (up_mem (by omega) c (by omega))
                      · exact pair_good (all5 l_21_32 hk) (lo_mem (by omega) (by omega) (by omega))
                · exact block_good (all5 t_10_32_32_55 hk) (by omega) (by omega) (by omega) (by omega)
              · by_cases cy : y < 32
                · exact block_good (all5 t_32_55_10_32 hk) (by omega) (by omega) (by omega) (by omega)
                · by_cases cx : x < 43
                  · by_cases cy : y < 43
                    · by_cases c : x ≤ y
                      · exact pair_good (all5 u_32_43 hk) (up_mem (by omega) c (by omega))
                      · exact pair_good (all5 l_32_43 hk) (lo_mem (by omega) (by omega) (by omega))
                    · exact block_good (all5 t_32_43_43_55 hk) (by omega) (by omega) (by omega) (by omega)
                  · by_cases cy : y < 43
                    · exact block_good (all5 t_43_55_32_43 hk) (by omega) (by omega) (by omega) (by omega)
                    · by_cases c : x ≤ y
                      · exact pair_good (all5 u_43_55 hk) (up_mem (by omega) c (by omega))
                      · exact pair_good (all5 l_43_55 hk) (lo_mem (by omega) (by omega) (by omega))
            · exact block_good (all5 t_10_55_55_100 hk) (by omega) (by omega) (by omega) (by omega)
          · by_cases cy : y < 55
            · exact block_good (all5 t_55_100_10_55 hk) (by omega) (by omega) (by omega) (by omega)
            · by_cases cx : x < 77
              · by_cases cy : y < 77
                · by_cases cx : x < 66
                  · by_cases cy : y < 66
                    · by_cases c : x ≤ y
                      · exact pair_good (all5 u_55_66 hk) (up_mem (by omega) c (by omega))
                      · exact pair_good (all5 l_55_66 hk) (lo_mem (by omega) (by omega) (by omega))
                    · exact block_good (all5 t_55_66_66_77 hk) (by omega) (by omega) (by omega) (by omega)
                  · by_cases cy : y < 66
                    · exact block_good (all5 t_66_77_55_66 hk) (by omega) (by omega) (by omega) (by omega)
                    · by_cases c : x ≤ y
                      · exact pair_good (all5 u_66_77 hk) (up_mem (by omega) c (by omega))
                      · exact pair_good (all5 l_66_77 hk) (lo_mem (by omega) (by omega) (by omega))
                · exact block_good (all5 t_55_77_77_100 hk) (by omega) (by omega) (by omega) (by omega)
              · by_cases cy : y < 77
                · exact block_good (all5 t_77_100_55_77 hk) (by omega) (by omega) (by omega) (by omega)
                · by_cases cx : x < 88
                  · by_cases cy : y < 88
                    · by_cases c : x ≤ y
                      · exact pair_good (all5 u_77_88 hk) (up_mem (by omega) c (by omega))
                      · exact pair_good (all5 l_77_88 hk) (lo_mem (by omega) (by omega) (by omega))
                    · exact block_good (all5 t_77_88_88_100 hk) (by omega) (by omega) (by omega) (by omega)
                  · by_cases cy : y < 88
                    · exact block_good (all5 t_88_100_77_88 hk) (by omega) (by omega) (by omega) (by omega)
                    · by_cases c : x ≤ y
                      · exact pair_good (all5 u_88_100 hk) (up_mem (by omega) c (by omega))
                      · exact pair_good (all5 l_88_100 hk) (lo_mem (by omega) (by omega) (by omega))
      · by_cases cy : y < 128
        · exact block_good (all5 t_10_100_100_128 hk) (by omega) (by omega) (by omega) (by omega)
        · by_cases cy : y < 256
          · exact block_good (all5 t_10_100_128_256 hk) (by omega) (by omega) (by omega) (by omega)
          · exact block_good (all5 t_10_100_256_300 hk) (by omega) (by omega) (by omega) (by omega)
  · by_cases cx : x < 128
    · by_cases cy : y < 100
      · by_cases cy : y < 10
        · exact block_good (all5 t_100_128_0_10 hk) (by omega) (by omega) (by omega) (by omega)
        · exact block_good (all5 t_100_128_10_100 hk) (by omega) (by omega) (by omega) (by omega)
      · by_cases cy : y < 128
        · by_cases cx : x < 114
          · by_cases cy : y < 114
            · by_cases c : x ≤ y
              · exact pair_good (all5 u_100_114 hk) (up_mem (by omega) c (by omega))
              · exact pair_good (all5 l_100_114 hk) (lo_mem (by omega) (by omega) (by omega))
            · exact block_good (all5 t_100_114_114_128 hk) (by omega) (by omega) (by omega) (by omega)
          · by_cases cy : y < 114
            · exact block_good (all5 t_114_128_100_114 hk) (by omega) (by omega) (by omega) (by omega)
            · by_cases c : x ≤ y
              · exact pair_good (all5 u_114_128 hk) (up_mem (by omega) c (by omega))
              · exact pair_good (all5 l_114_128 hk) (lo_mem (by omega) (by omega) (by omega))
        · by_cases cy : y < 256
          · exact block_good (all5 t_100_128_128_256 hk) (by omega) (by omega) (by omega) (by omega)
          · exact block_good (all5 t_100_128_256_300 hk) (by omega) (by omega) (by omega) (by omega)
    · by_cases cx : x < 256
      · by_cases cy : y < 100
        · by_cases cy : y < 10
          · exact block_good (all5 t_128_256_0_10 hk) (by omega) (by omega) (by omega) (by omega)
          · exact block_good (all5 t_128_256_10_100 hk) (by omega) (by omega) (by omega) (by omega)
        · by_cases cy : y < 128
          · exact block_good (all5 t_128_256_100_128 hk) (by omega) (by omega) (by omega) (by omega)
          · by_cases cy : y < 256
            · by_cases cx : x < 192
              · by_cases cy : y < 192
                · by_cases cx : x < 160
                  · by_cases cy : y < 160
                    · by_cases cx : x < 144
                      · by_cases cy : y < 144
                        · by_cases c : x ≤ y
                          · exact pair_good (all5 u_128_144 hk) (up_mem (by omega) c (by omega))
                          · exact pair_good (all5 l_128_144 hk) (lo_mem (by omega) (by omega) (by omega))
                        · exact block_good (all5 t_128_144_144_160 hk) (by omega) (by omega) (by omega) (by omega)
                      · by_cases cy : y < 144
                        · exact block_good (all5 t_144_160_128_144 hk) (by omega) (by omega) (by omega) (by omega)
                        · by_cases c : x ≤ y
                          · exact pair_good (all5 u_144_160 hk) (up_mem (by omega) c (by omega))
                          · exact pair_good (all5 l_144_160 hk) (lo_mem (by omega) (by omega) (by omega))
                    · exact block_good (all5 t_128_160_160_192 hk) (by omega) (by omega) (by omega) (by omega)
                  · by_cases cy : y < 160
                    · exact block_good (all5 t_160_192_128_160 hk) (by omega) (by omega) (by omega) (by omega)
                    · by_cases cx : x < 176
                      · by_cases cy : y < 176
                        · by_cases c : x ≤ y
                          · exact pair_good (all5 u_160_176 hk) (up_mem (by omega) c (by omega))
                          · exact pair_good (all5 l_160_176 hk) (lo_mem (by omega) (by omega) (by omega))
                        · exact block_good (all5 t_160_176_176_192 hk) (by omega) (by omega) (by omega) (by omega)
                      · by_cases cy : y < 176
                        · exact block_good (all5 t_176_192_160_176 hk) (by omega) (by omega) (by omega) (by omega)
                        · by_cases c : x ≤ y
                          · exact pair_good (all5 u_176_192 hk) (up_mem (by omega) c (by omega))
                          · exact pair_good (all5 l_176_192 hk) (lo_mem (by omega) (by omega) (by omega))
                · exact block_good (all5 t_128_192_192_256 hk) (by omega) (by omega) (by omega) (by omega)
              · by_cases cy : y < 192
                · exact block_good (all5 t_192_256_128_192 hk) (by omega) (by omega) (by omega) (by omega)
                · by_cases cx : x < 224
                  · by_cases cy : y < 224
                    · by_cases cx : x < 208
                      · by_cases cy : y < 208
                        · by_cases c : x ≤ y
                          · exact pair_good (all5 u_192_208 hk) (up_mem (by omega) c (by omega))
                          · exact pair_good (all5 l_192_208 hk) (lo_mem (by omega) (by omega) (by omega))
                        · exact block_good (all5 t_192_208_208_224 hk) (by omega) (by omega) (by omega) (by omega)
                      · by_cases cy : y < 208
                        · exact block_good (all5 t_208_224_192_208 hk) (by omega) (by omega) (by omega) (by omega)
                        · by_cases c : x ≤ y
                          · exact pair_good (all5 u_208_224 hk) (up_mem (by omega) c (by omega))
                          · exact pair_good (all5 l_208_224 hk) (lo_mem (by omega) (by omega) (by omega))
                    · exact block_good (all5 t_192_224_224_256 hk) (by omega) (by omega) (by omega) (by omega)
                  · by_cases cy : y < 224
                    · exact block_good (all5 t_224_256_192_224 hk) (by omega) (by omega) (by omega) (by omega)
                    · by_cases cx : x < 240
                      · by_cases cy : y < 240
                        · by_cases c : x ≤ y
                          · exact pair_good (all5 u_224_240 hk) (up_mem (by omega) c (by omega))
                          · exact pair_good (all5 l_224_240 hk) (lo_mem (by omega) (by omega) (by omega))
                        · exact block_good (all5 t_224_240_240_256 hk) (by omega) (by omega) (by omega) (by omega)
                      · by_cases cy : y < 240
                        · exact block_good (all5 t_240_256_224_240 hk) (by omega) (by omega) (by omega) (by omega)
                        · by_cases c : x ≤ y
                          · exact pair_good (all5 u_240_256 hk) (up_mem (by omega) c (by omega))
                          · exact pair_good (all5 l_240_256 hk) (lo_mem (by omega) (by omega) (by omega))
            · exact block_good (all5 t_128_256_256_300 hk) (by omega) (by omega) (by omega) (by omega)
      · by_cases cy : y < 100
        · by_cases cy : y < 10
          · exact block_good (all5 t_256_300_0_10 hk) (by omega) (by omega) (by omega) (by omega)
          · exact block_good (all5 t_256_300_10_100 hk) (by omega) (by omega) (by omega) (by omega)
        · by_cases cy : y < 128
          · exact block_good (all5 t_256_300_100_128 hk) (by omega) (by omega) (by omega) (by omega)
          · by_cases cy : y < 256
            · exact block_good (all5 t_256_300_128_256 hk) (by omega) (by omega) (by omega) (by omega)
            · by_cases cx : x < 278
              · by_cases cy : y < 278
                · by_cases cx : x < 267
                  · by_cases cy : y < 267
                    · by_cases c : x ≤ y
                      · exact pair_good (all5 u_256_267 hk) (up_mem (by omega) c (by omega))
                      · exact pair_good (all5 l_256_267 hk) (lo_mem (by omega) (by omega) (by omega))
                    · exact block_good (all5 t_256_267_267_278 hk) (by omega) (by omega) (by omega) (by omega)
                  · by_cases cy : y < 267
                    · exact block_good (all5 t_267_278_256_267 hk) (by omega) (by omega) (by omega) (by omega)
                    · by_cases c : x ≤ y
                      · exact pair_good (all5 u_267_278 hk) (up_mem (by omega) c (by omega))
                      · exact pair_good (all5 l_267_278 hk) (lo_mem (by omega) (by omega) (by omega))
                · exact block_good (all5 t_256_278_278_300 hk) (by omega) (by omega) (by omega) (by omega)
              · by_cases cy : y < 278
                · exact block_good (all5 t_278_300_256_278 hk) (by omega) (by omega) (by omega) (by omega)
                · by_cases cx : x < 289
                  · by_cases cy : y < 289
                    · by_cases c : x ≤ y
                      · exact pair_good (all5 u_278_289 hk) (up_mem (by omega) c (by omega))
                      · exact pair_good (all5 l_278_289 hk) (lo_mem (by omega) (by omega) (by omega))
                    · exact block_good (all5 t_278_289_289_300 hk) (by omega) (by omega) (by omega) (by omega)
                  · by_cases cy : y < 289
                    · exact block_good (all5 t_289_300_278_289 hk) (by omega) (by omega) (by omega) (by omega)
                    · by_cases c : x ≤ y
                      · exact pair_good (all5 u_289_300 hk) (up_mem (by omega) c (by omega))
                      · exact pair_good (all5 l_289_300 hk) (lo_mem (by omega) (by omega) (by omega))

theorem walk (a0 a1 a2 : Int) (w0 : (Lit.int .u16 a0).wf = true) (w1 : (Lit.int .u16 a1).wf = true) (w2 : (Lit.int .u8 a2).wf = true) (w : World) (hw : Laid w) :
    Calls Tryz.prog 3 #[.int .u16 a0, .int .u16 a1, .int .u8 a2] w fun e w' => e = .returned (.bool true) ∧ Below w.heap.size w w' :=
  cover (a0 % 300).toNat (a1 % 300).toNat (a2 % 5).toNat (by omega) (by omega) (by omega) a0 a1 a2 w0 w1 w2 (by omega) (by omega) (by omega) w hw

theorem contract (H : Type) (enc : TypeId × Value → H) (W : World) (base : Nat) (args : Array Value) (ds gs : List (DataW H)) (before : List MemPlace)
    (hval : ∀ (j : Nat) t v, Tryz.f3.params[j]? = some t → args[j]? = some v → Value.okWide Tryz.prog W .any base t v)
    (hW : DataW.Whole enc Tryz.prog Tryz.f3.params.toList Rows.ereTimesSpec.vars false W args.toList ds gs before) (hL : laidMetH Tryz.prog Rows.ereTimesRow.laid W) :
    Calls Tryz.prog 3 args W fun e W' => ∃ v, e = .returned v ∧ Rows.ereTimesSpec.post enc Tryz.prog Tryz.f3 false true false false W args v W' := by
  have hW' := hW
  obtain ⟨p, q, hA0, hV, rfl, hfz, hnd⟩ := hW
  have hA : DataW.TrodAll enc Tryz.prog W 0 (fun _ => true) true Tryz.f3.params.toList args.toList ds p := hA0
  rw [Tryz.params3] at hA hval
  obtain ⟨v0, vs0, d0, ds0, p0, q0, hargs, rfl, rfl, h0, r0⟩ := trodAll_cons hA
  obtain ⟨v1, vs1, d1, ds1, p1, q1, rfl, rfl, rfl, h1, r1⟩ := trodAll_cons r0
  obtain ⟨v2, vs2, d2, ds2, p2, q2, rfl, rfl, rfl, h2, r2⟩ := trodAll_cons r1
  obtain ⟨rfl, rfl, rfl⟩ := trodAll_nil r2
  obtain rfl : args = #[v0, v1, v2] := by cases args; simp_all
  obtain ⟨rfl, rfl⟩ := trodVars_none hV
  obtain ⟨a0, rfl, rfl, rfl, w0⟩ := open_int Tryz.underlying22 (hval 0 22 v0 rfl rfl) h0
  obtain ⟨a1, rfl, rfl, rfl, w1⟩ := open_int Tryz.underlying22 (hval 1 22 v1 rfl rfl) h1
  obtain ⟨a2, rfl, rfl, rfl, w2⟩ := open_int Tryz.underlying5 (hval 2 5 v2 rfl rfl) h2
  clear hA0
  simp only [List.append_nil] at hW'
  refine (walk a0 a1 a2 w0 w1 w2 W (laid_of hL)).mono fun e W' ⟨he, hg⟩ => ?_
  subst he
  exact ⟨_, rfl, _, _, _, [], _, [], hW', trodAll_cons_mk (shut_bool Tryz.underlying4 _) trodAll_mk0, (trodAll_cons_mk (shut_int Tryz.underlying22 w0) (trodAll_cons_mk (shut_int Tryz.underlying22 w1) (trodAll_cons_mk (shut_int Tryz.underlying5 w2) trodAll_mk0))), rfl, hg.frame _, fun h => by cases h⟩

theorem laid_met (os : Os) : laidMet Tryz.prog Rows.ereTimesRow.laid ((laidWorld os).forCall (fun _ _ => 0) ⟨#[], #[.int .u16 0, .int .u16 0, .int .u8 0], []⟩).memory :=
  laidMet_of_run' 8 (by kernel_rfl) (by kernel_rfl)
theorem reads (os : Os) {H : Type} (enc : TypeId × Value → H) : ∃ places, DataW.whole enc Tryz.prog ((laidWorld os).forCall (fun _ _ => 0) ⟨#[], #[.int .u16 0, .int .u16 0, .int .u8 0], []⟩).memory Tryz.f3.params.toList Rows.ereTimesSpec.vars false (#[.int .u16 0, .int .u16 0, .int .u8 0] : Array Value).toList 8 = some ([.lit (.int .u16 0), .lit (.int .u16 0), .lit (.int .u8 0)], [], places) :=
  ⟨[], by kernel_rfl⟩

theorem lifted (os : Os) (started : os.Started) (H : Type) (enc : TypeId × Value → H) (F : Stop.Interp) :
    ReturnsInHanded {} Tryz.checked os 3 .any ((OpenSpec.ofChange Rows.ereTimesSpec).preRow enc Tryz.prog Tryz.f3 Rows.ereTimesRow.domain false Rows.ereTimesRow.laid) (((OpenSpec.ofChange Rows.ereTimesSpec).at F).post enc Tryz.prog Tryz.f3 false true false false) := by
  obtain ⟨places, hx⟩ := reads os enc
  refine returnsInHanded_of_row (C := Tryz.checked) (s := OpenSpec.ofChange Rows.ereTimesSpec) own started (by kernel_rfl) Tryz.func3
    (witness_row_at (enc := enc) (C := Tryz.checked) false (laidWorld os) #[.int .u16 0, .int .u16 0, .int .u8 0] rfl (by kernel_rfl) (by kernel_rfl) (by kernel_rfl)
      (OpenSpec.preRow_of_cond 8 hx (by kernel_rfl) (fun k hk => by cases hk) (by kernel_rfl) (laid_met os))) ?_
  intro W base args ds gs before hval hW _ _ _ hL _ _
  exact contract H enc W base args ds gs before hval hW hL

theorem said : Rows.EreTimesSaid :=
  OpenClaim.holds_of_cond 3 Tryz.f3 rfl rfl rfl rfl rfl rfl rfl ⟨rfl, rfl, rfl, rfl, rfl⟩ rfl rfl rfl rfl rfl (by as_aux_lemma => kernel_rfl) Tryz.func3 closed
    (of_decide_eq_true (by as_aux_lemma => kernel_rfl)) (by as_aux_lemma => unfold Func.isWrapper; first | (rw [if_pos (by decide +kernel)]; kernel_rfl) | (rw [if_neg (by decide +kernel)]; exact ⟨rfl, rfl⟩))
    (fun os started H enc _ F => by rw [OpenClaim.pre_eq_preRow]; exact lifted os started H enc F)

theorem plain (f : FuncId) (fn : Func) (hf : Tryz.pinned.checked.prog.funcNamed "redactor/redactorlaw12.EreTimes" = some f) (hfn : Tryz.pinned.checked.prog.funcs[f]? = some fn) :
    true = Tryz.pinned.checked.prog.looks [] ∧ ∀ (j : Nat) t, fn.params[j]? = some t → Tryz.pinned.checked.prog.wantsStandIn t = false := by
  obtain rfl : f = 3 := Option.some.inj ((show Tryz.prog.funcNamed "redactor/redactorlaw12.EreTimes" = some 3 by kernel_rfl).symm.trans hf) |>.symm
  obtain rfl : fn = Tryz.f3 := (Option.some.inj (Tryz.func3.symm.trans hfn)).symm
  refine ⟨by kernel_rfl, fun j t ht => ?_⟩
  rw [Tryz.params3] at ht
  have ht' := Array.mem_of_getElem? ht
  simp only [List.mem_toArray, List.mem_cons, List.mem_nil_iff, or_false] at ht'
  rcases ht' with rfl | rfl | rfl
  · exact (show Tryz.prog.wantsStandIn 22 = false by kernel_rfl)
  · exact (show Tryz.prog.wantsStandIn 22 = false by kernel_rfl)
  · exact (show Tryz.prog.wantsStandIn 5 = false by kernel_rfl)

/-- ████ THE CARD ████ -/
theorem card : Rows.EreTimesCardSaid :=
  Claim7.holds_tied_plain_at .later [] _ _ _ _ said (fun _ h => by cases h) (by as_aux_lemma => kernel_rfl) (fun _ h => by cases h) ereTimes_row_tie rfl ⟨rfl, rfl⟩ (by as_aux_lemma => kernel_rfl) rfl plain (by as_aux_lemma => kernel_rfl)
#print axioms card
end Go.Proofs.YtbojmpbccibmaaaGreatDoor.ereTimes
