/- Long patterns and their trees: what is known of them ahead. -/
import Derived.Test.YtbojmpbccibmaaaGreatDoorCSD
set_option linter.unusedVariables false
set_option linter.unusedSimpArgs false
set_option linter.unusedSectionVars false
set_option linter.deprecated false
set_option maxRecDepth 100000
namespace Go.Proofs.YtbojmpbccibmaaaGreatDoor
open Go Go.Abs

def nilS : AV := .sl none 0 0 0 true
def nodeOne : List AV := [.int .u8 1, .int .i32 97, .bool false, nilS, nilS, .int .i64 0, .int .i64 0, .int .i64 0, nilS]
/-- The tree of a row of so many letters, as Parse lays it. -/
def nodesOf (J n : Nat) : List AV := (List.replicate (190 + n) nodeOne).flatten ++ [.int .u8 8, .int .i32 0, .bool false, nilS, nilS, .int .i64 0, .int .i64 0, .int .i64 0, .sl (some (J + 573 + 3 * n, 0)) 1 (190 + n) (190 + n) false]
def rightL (J n : Nat) : Abs.Rows := [(J, nodesOf J n, 90), (J + 573 + 3 * n, (List.range (190 + n)).map fun i => .int .i64 (Int.ofNat i), 3)]
def rightArgs (J n : Nat) : List AV := [.agg [.sl (some (J, 0)) 9 (191 + n) (191 + n) false, .int .i64 0]]
noncomputable def rightOk (n : Nat) : Bool := okTrue ((RR O0 2000).call 25 (rightArgs (1365 + 7 * n) n) (heapOf 2100 (rightL (1365 + 7 * n) n)))
theorem rightIn : ((List.range 10).all fun n => rowsIn 2100 (rightL (1365 + 7 * n) n) && AV.ltns 2100 (rightArgs (1365 + 7 * n) n)) = true := by kernel_rfl

theorem rightOk_0 : rightOk 0 = true := by kernel_rfl
theorem rightOk_1 : rightOk 1 = true := by kernel_rfl
theorem rightOk_2 : rightOk 2 = true := by kernel_rfl
theorem rightOk_3 : rightOk 3 = true := by kernel_rfl
theorem rightOk_4 : rightOk 4 = true := by kernel_rfl
theorem rightOk_5 : rightOk 5 = true := by kernel_rfl
theorem rightOk_6 : rightOk 6 = true := by kernel_rfl
theorem rightOk_7 : rightOk 7 = true := by kernel_rfl
theorem rightOk_8 : rightOk 8 = true := by kernel_rfl
theorem rightOk_9 : rightOk 9 = true := by kernel_rfl

theorem rightOk_all (n : Nat) (hn : n < 10) : rightOk n = true := by
  have h : n = 0 ∨ n = 1 ∨ n = 2 ∨ n = 3 ∨ n = 4 ∨ n = 5 ∨ n = 6 ∨ n = 7 ∨ n = 8 ∨ n = 9 := by omega
  rcases h with rfl | rfl | rfl | rfl | rfl | rfl | rfl | rfl | rfl | rfl
  · exact rightOk_0
  · exact rightOk_1
  · exact rightOk_2
  · exact rightOk_3
  · exact rightOk_4
  · exact rightOk_5
  · exact rightOk_6
  · exact rightOk_7
  · exact rightOk_8
  · exact rightOk_9

noncomputable def rightC (args : List AV) (h : AHeap) : Option (AEnd × AHeap) :=
  match args with
  | [.agg [.sl (some (J, 0)) 9 len cap false, .int .i64 0]] =>
    ifB (Nat.ble 191 len) (ifB (Nat.blt len 201) (ifB (Nat.beq cap len) (ifB (Nat.beq J (1365 + 7 * Nat.sub len 191)) (ifB (subB (rightL (1365 + 7 * Nat.sub len 191) (Nat.sub len 191)) h) (some (.returned (.bool true), h)) none) none) none) none) none
  | _ => none

theorem rightC_ok [Val] : ∀ args h en h', rightC args h = some (en, h') → Con Tryz.prog Tryz.prog.globals.size 25 args h en h' := by
  intro args h en h' hr
  unfold rightC at hr
  split at hr
  · rename_i J len cap
    simp only [T.ifB_eq, ble_iff, blt_iff, beq_iff] at hr
    split at hr
    · rename_i h1
      split at hr
      · rename_i h2
        split at hr
        · rename_i h3
          split at hr
          · rename_i h4
            split at hr
            · rename_i h5
              simp only [Option.some.injEq, Prod.mk.injEq] at hr
              obtain ⟨rfl, rfl⟩ := hr
              have h3' := h3.symm
              subst h3'
              obtain ⟨n, rfl⟩ : ∃ n, len = 191 + n := ⟨len - 191, by omega⟩
              have e : Nat.sub (191 + n) 191 = n := by show 191 + n - 191 = n; omega
              rw [e] at h4 h5
              subst h4
              have hok := rightOk_all n (by omega)
              have hin := List.all_eq_true.1 rightIn n (List.mem_range.2 (by omega))
              rw [Bool.and_eq_true] at hin
              unfold rightOk okTrue at hok
              split at hok
              · rename_i h1' hrun
                exact con_pure (con_run hm O0_ok 2000 hrun) (by rw [hng]; show 6 ≤ 2100; decide) hin.2 rfl (sub_of hin.1 h5)
              · cases hok
            · cases hr
          · cases hr
        · cases hr
      · cases hr
    · cases hr
  · cases hr

noncomputable def OR : Oracle := oneO 25 rightC O0
theorem OR_ok [Val] : OracleOk Tryz.prog Tryz.prog.globals.size OR := oracle_one O0_ok rightC_ok

def okV (nodes groups : Nat) : AV := .tup [.agg [.sl (some (0, 0)) 9 nodes nodes false, .int .i64 (.ofNat groups)], .int .u16 0, .int .i64 0]
def errV (at_ : Nat) : AV := .tup [.agg [.sl none 0 0 0 true, .int .i64 0], .int .u16 3, .int .i64 (.ofNat at_)]
def breLongL (n : Nat) : List AV := List.replicate (190 + n) (.int .i32 97)
noncomputable def breLongLV (n : Nat) : AV := ifB (Nat.blt n 10) (okV (191 + n) 0) (errV 0)
def breLongM (g : Nat) : List AV := (List.replicate g [.int .i32 92, .int .i32 40, .int .i32 97, .int .i32 92, .int .i32 41]).flatten
noncomputable def breLongMV (g : Nat) : AV := ifB (Nat.blt g 10) (okV (ifB (Nat.beq g 1) 2 (2 * g + 1)) g) (errV 45)
noncomputable def breLongTab (len : Nat) : Option (List AV × AV) :=
  ifB (Nat.ble 190 len) (ifB (Nat.blt len 210) (some (breLongL (Nat.sub len 190), breLongLV (Nat.sub len 190))) none)
    (ifB (Nat.blt 0 len) (ifB (Nat.ble len 60) (ifB (Nat.beq (Nat.mod len 5) 0) (some (breLongM (Nat.div len 5), breLongMV (Nat.div len 5))) none) none) none)
theorem breLongNilOk : nilOk 27 (okV 1 0) = true := by kernel_rfl

end Go.Proofs.YtbojmpbccibmaaaGreatDoor
