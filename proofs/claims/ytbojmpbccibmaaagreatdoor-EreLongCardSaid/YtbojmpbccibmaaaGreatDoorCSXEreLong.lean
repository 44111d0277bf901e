/- Long patterns: the runs. -/
import Derived.Test.YtbojmpbccibmaaaGreatDoorCSDEreLonga
import Derived.Test.YtbojmpbccibmaaaGreatDoorCSDEreLongb
set_option linter.unusedVariables false
set_option linter.unusedSimpArgs false
set_option linter.unusedSectionVars false
set_option linter.deprecated false
set_option maxRecDepth 100000
namespace Go.Proofs.YtbojmpbccibmaaaGreatDoor.ereLong
open Go Go.Abs

theorem lens_ok : (((List.range 20).all fun n => Nat.beq (ereLongL n).length (190 + n) && AV.ltns 20 (ereLongL n)) && ((List.range 13).all fun g => Nat.beq (ereLongM g).length (3 * g) && AV.ltns 20 (ereLongM g))) = true := by kernel_rfl
theorem tab_ok : ∀ len x, ereLongTab len = some x → x.1.length = len ∧ AV.ltns 20 x.1 = true ∧ rowOk OR 19 x.1 x.2 = true := by
  intro len x hx
  have hl := lens_ok
  rw [Bool.and_eq_true, List.all_eq_true, List.all_eq_true] at hl
  unfold ereLongTab at hx
  simp only [T.ifB_eq, ble_iff, blt_iff, beq_iff] at hx
  split at hx
  · rename_i h1
    split at hx
    · rename_i h2
      cases hx
      obtain ⟨n, rfl⟩ : ∃ n, len = 190 + n := ⟨len - 190, by omega⟩
      have e : Nat.sub (190 + n) 190 = n := by show 190 + n - 190 = n; omega
      rw [e]
      have h := hl.1 n (List.mem_range.2 (by omega))
      rw [Bool.and_eq_true, beq_iff] at h
      refine ⟨h.1, h.2, ?_⟩
      by_cases hn : n < 10
      · have h : n = 0 ∨ n = 1 ∨ n = 2 ∨ n = 3 ∨ n = 4 ∨ n = 5 ∨ n = 6 ∨ n = 7 ∨ n = 8 ∨ n = 9 := by omega
        rcases h with rfl | rfl | rfl | rfl | rfl | rfl | rfl | rfl | rfl | rfl
        · exact ereLongL_0
        · exact ereLongL_1
        · exact ereLongL_2
        · exact ereLongL_3
        · exact ereLongL_4
        · exact ereLongL_5
        · exact ereLongL_6
        · exact ereLongL_7
        · exact ereLongL_8
        · exact ereLongL_9
      · exact List.all_eq_true.1 ereLongLs n (List.mem_range'_1.2 (by omega))
    · cases hx
  · split at hx
    · rename_i h1
      split at hx
      · rename_i h2
        split at hx
        · rename_i h3
          cases hx
          have h3' : len % 3 = 0 := h3
          obtain ⟨g, rfl⟩ : ∃ g, len = 3 * g := ⟨len / 3, by omega⟩
          have e : Nat.div (3 * g) 3 = g := by show 3 * g / 3 = g; omega
          rw [e]
          have h := hl.2 g (List.mem_range.2 (by omega))
          rw [Bool.and_eq_true, beq_iff] at h
          refine ⟨h.1, h.2, ?_⟩
          by_cases hg : g < 7
          · exact List.all_eq_true.1 ereLongMs g (List.mem_range'_1.2 (by omega))
          · exact List.all_eq_true.1 ereLongMt g (List.mem_range'_1.2 (by omega))
        · cases hx
      · cases hx
    · cases hx

noncomputable def O5 : Oracle := oneO 19 (tabC ereLongTab (okV 1 0)) O3
theorem O5_ok [Val] : OracleOk Tryz.prog Tryz.prog.globals.size O5 := oracle_one O3_ok (tabC_ok OR_ok ereLongNilOk tab_ok)
noncomputable def longOk (n g : Nat) : Bool := okTrue ((RR O5 2000).call 7 [.rest .u8 20 0 [.ofNat n], .rest .u8 13 1 [.ofNat g]] baseH)

end Go.Proofs.YtbojmpbccibmaaaGreatDoor.ereLong
