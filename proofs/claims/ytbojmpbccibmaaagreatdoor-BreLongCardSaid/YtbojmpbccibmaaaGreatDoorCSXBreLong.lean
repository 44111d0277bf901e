/- Long patterns: the runs. -/
import Derived.Test.YtbojmpbccibmaaaGreatDoorCSDBreLonga
import Derived.Test.YtbojmpbccibmaaaGreatDoorCSDBreLongb
set_option linter.unusedVariables false
set_option linter.unusedSimpArgs false
set_option linter.unusedSectionVars false
set_option linter.deprecated false
set_option maxRecDepth 100000
namespace Go.Proofs.YtbojmpbccibmaaaGreatDoor.breLong
open Go Go.Abs

theorem lens_ok : (((List.range 20).all fun n => Nat.beq (breLongL n).length (190 + n) && AV.ltns 20 (breLongL n)) && ((List.range 13).all fun g => Nat.beq (breLongM g).length (5 * g) && AV.ltns 20 (breLongM g))) = true := by kernel_rfl
theorem tab_ok : ∀ len x, breLongTab len = some x → x.1.length = len ∧ AV.ltns 20 x.1 = true ∧ rowOk OR 27 x.1 x.2 = true := by
  intro len x hx
  have hl := lens_ok
  rw [Bool.and_eq_true, List.all_eq_true, List.all_eq_true] at hl
  unfold breLongTab at hx
  simp only [T.ifB_eq, ble_iff, blt_iff, beq_iff] at hx
  split at hx
  · rename_i h1
    split at hx
    · rename_i h2
      cases hx
      obtain ⟨n, rfl⟩ : ∃ n, len = 190 + n := ⟨len - 190, by omega⟩
      have e : Nat.sub (190 + n) 190 = n := by show 190 + n - 190 = n; omega
      rw [e]
      have h := hl.1 n (List.mem_range.2 (by omega))
      rw [Bool.and_eq_true, beq_iff] at h
      refine ⟨h.1, h.2, ?_⟩
      by_cases hn : n < 10
      · have h : n = 0 ∨ n = 1 ∨ n = 2 ∨ n = 3 ∨ n = 4 ∨ n = 5 ∨ n = 6 ∨ n = 7 ∨ n = 8 ∨ n = 9 := by omega
        rcases h with rfl | rfl | rfl | rfl | rfl | rfl | rfl | rfl | rfl | rfl
        · exact breLongL_0
        · exact breLongL_1
        · exact breLongL_2
        · exact breLongL_3
        · exact breLongL_4
        · exact breLongL_5
        · exact breLongL_6
        · exact breLongL_7
        · exact breLongL_8
        · exact breLongL_9
      · exact List.all_eq_true.1 breLongLs n (List.mem_range'_1.2 (by omega))
    · cases hx
  · split at hx
    · rename_i h1
      split at hx
      · rename_i h2
        split at hx
        · rename_i h3
          cases hx
          have h3' : len % 5 = 0 := h3
          obtain ⟨g, rfl⟩ : ∃ g, len = 5 * g := ⟨len / 5, by omega⟩
          have e : Nat.div (5 * g) 5 = g := by show 5 * g / 5 = g; omega
          rw [e]
          have h := hl.2 g (List.mem_range.2 (by omega))
          rw [Bool.and_eq_true, beq_iff] at h
          refine ⟨h.1, h.2, ?_⟩
          by_cases hg : g < 7
          · exact List.all_eq_true.1 breLongMs g (List.mem_range'_1.2 (by omega))
          · exact List.all_eq_true.1 breLongMt g (List.mem_range'_1.2 (by omega))
        · cases hx
      · cases hx
    · cases hx

noncomputable def O5 : Oracle := oneO 27 (tabC breLongTab (okV 1 0)) O3
theorem O5_ok [Val] : OracleOk Tryz.prog Tryz.prog.globals.size O5 := oracle_one O3_ok (tabC_ok OR_ok breLongNilOk tab_ok)
noncomputable def longOk (n g : Nat) : Bool := okTrue ((RR O5 2000).call 12 [.rest .u8 20 0 [.ofNat n], .rest .u8 13 1 [.ofNat g]] baseH)

end Go.Proofs.YtbojmpbccibmaaaGreatDoor.breLong
