/- A script of commands of one letter, one behind the other: what Parse comes to. -/
import Derived.Test.YtbojmpbccibmaaaGreatDoorDS5s
import Derived.Test.YtbojmpbccibmaaaGreatDoorDAbsG
set_option linter.unusedVariables false
set_option linter.unusedSimpArgs false
set_option linter.unusedSectionVars false
set_option linter.deprecated false
set_option maxRecDepth 100000
namespace Go.Proofs.YtbojmpbccibmaaaGreatDoor
open Go Go.Abs

theorem run0 (N : Names) (k : Nat) : RunOk Tryz.prog Tryz.prog.globals.size N (@RR N.fct O0 k) :=
  runOk_of hm (@O0_ok N.fct N.val) k

noncomputable def b31 : Code := (Tryz.f31.body).getD .skip
theorem hb31 : Tryz.f31.body = some b31 := by kernel_rfl
noncomputable abbrev F31 : Frm := ⟨Tryz.f31.ntmps, Tryz.f31.params.size + Tryz.f31.nfree, live 31⟩
def ndL : List Nat := [1, 1, 1, 1, 1, 0, 1, 0]
noncomputable def body31 : Code := nav [1, 1, 1, 1, 1, 0, 1, 0, 0] b31
theorem loop31 : nav ndL b31 = .loop body31 := by kernel_rfl
def as31 : List ARes := [.cell 6 1 false, .cell 7 1 false, .cell 8 1 false]
theorem has31 : cRes Tryz.prog Tryz.f31.results.toList = some as31 := by kernel_rfl

/-- What is known of the cells of rows: of commands; of a remark. -/
def cellM (nm j q : Nat) (v : Value) : Prop :=
  match nm with
  | 1 => v = .int .i32 (if j % 2 = 0 then 112 else 10)
  | 2 => v = .int .i32 (if j = 0 then 35 else 120)
  | _ => True

/-! ### States of the loop -/

def blk10 (segs : List (Nat × Int × List AV)) : ABlk := .row 1 1 1 0 segs 0 true
def regsS : List (Nat × AV) := [(0, .xsl 10 0 0 0 1 1 0), (1, .bool false), (2, .ptr (some (19, 0))), (6, .ptr (some (20, 0))), (7, .ptr (some (21, 0))), (8, .ptr (some (22, 0))), (9, .ptr (some (23, 0)))]
noncomputable def one (v : AV) (t : TypeId) : ABlk := .cells 1 (putsV [v] .nil 0) t false
noncomputable def blocksS (segs : List (Nat × Int × List AV)) (out at_ : AV) (more : XBlocks) : XBlocks :=
  [(10, blk10 segs), (20, one out 45), (21, one (.int .u16 0) 28), (22, one (.int .i64 0) 3), (23, .cells 4 (putsV [.xsl 10 0 0 0 1 1 0, at_, .fn 27 [] [], .ptr (some (19, 0))] .nil 0) 104 false)] ++ more
def dfS : List ADef := [⟨55, [.ptr (some (20, 0)), .ptr (some (21, 0)), .ptr (some (22, 0))]⟩]
noncomputable def stS (segs : List (Nat × Int × List AV)) (out at_ : AV) (more : XBlocks) : St := stX 31 regsS (blocksS segs out at_ more) dfS
def nilS : AV := .sl none 0 0 0 true
def outS : AV := .xsl 30 0 0 0 28 3 0
def moreS : XBlocks := [(30, .row 3 28 3 0 [] 53 false)]
def cmdS (a : AV) : List AV := [.int .u8 0, .int .i64 0, nilS, .int .i64 0, .bool false, .bool false, .int .u8 0, .int .i64 0, nilS, .int .i64 0, .bool false, .bool false, .bool false, .int .u8 112, nilS, .str [], .str [], nilS, .int .i64 0, .bool false, .bool false, nilS, .int .i64 0, .bool false, .bool false, nilS, .int .i64 0, a]
def P3 : List AV := [.int .i32 112, .int .i32 10, .int .i32 112]
def P2 : List AV := [.int .i32 112, .int .i32 10]

@[reducible] def fI : Fct := ⟨[(0, 1, 380), (1, 0, -418)], []⟩
@[reducible] def fR : Fct := ⟨[(0, 1, 380), (1, 0, -418), (0, 2, 2), (2, 0, -418), (2, 1, 3), (0, 3, 1), (3, 0, -199)], []⟩
@[reducible] def fL : Fct := ⟨[(0, 1, 380), (1, 0, -418), (0, 2, 2), (2, 0, -418), (2, 1, 2), (1, 2, -2), (0, 3, 1), (3, 0, -199)], []⟩
@[reducible] def fE : Fct := ⟨[(0, 1, 380), (1, 0, -418), (0, 2, 2), (2, 0, -418), (2, 1, 0), (1, 2, 0), (0, 3, 1), (3, 0, -200)], []⟩
@[reducible] def fX : Fct := ⟨[(0, 1, 380), (1, 0, -418), (0, 2, 400), (2, 0, -400), (2, 1, 2), (0, 3, 200), (3, 0, -200)], []⟩
def eId : Eqs := [((1, 0), (1, 0)), ((2, 0), (2, 0)), ((3, 0), (3, 0))]
def eUp : Eqs := [((1, 0), (1, 0)), ((2, 2), (2, 0)), ((3, 1), (3, 0))]
def eFst : Eqs := [((1, 0), (1, 0)), ((0, 2), (2, 0)), ((0, 1), (3, 0))]
def args31 : List AV := [.xsl 10 0 0 0 1 1 0, .bool false, .ptr (some (19, 0))]
noncomputable def h31 : AHeap := heapX 20 [(10, blk10 [(0, 0, P3)])]

noncomputable def stS0 : St := stS [(0, 0, P3)] nilS (.int .i64 0) []
noncomputable def stSI : St := stS [] outS (.ex .i64 2 0) moreS
noncomputable def stSW (cs : List AV) : St := stS [(2, 0, cs)] outS (.ex .i64 2 0) moreS

noncomputable def entryB : Bool := match @upTo fI Tryz.prog F31 (@RR fI O0 2000) ndL b31 ⟨argRegs args31 0 .nil, h31, [], none⟩ with
  | some s1 => reX 20 31 regsS (blocksS [(0, 0, P3)] nilS (.int .i64 0) []) dfS [] eId [1] [] [] s1
  | none => false
theorem runsOk_entry : entryB = true := by kernel_rfl
theorem runsOk_first : pieceB (@RR fI O0 2000) (@cCode fI Tryz.prog F31 body31) stS0 .normal 20 31 regsS (blocksS [] outS (.ex .i64 2 0) moreS) dfS [(30, 50)] eFst [] [(10, blk10 [(0, 0, P3)]), (30, .cells 28 (putsV (cmdS (.int .i64 0)) .nil 0) 53 false)] [0] = true := by kernel_rfl
theorem runsOk_win3 : reX 20 31 regsS (blocksS [(2, 0, P3)] outS (.ex .i64 2 0) moreS) dfS [] eId [3] [(10, blk10 [])] [0] stSI = true := by kernel_rfl
theorem runsOk_win2 : reX 20 31 regsS (blocksS [(2, 0, P2)] outS (.ex .i64 2 0) moreS) dfS [] eId [3] [(10, blk10 [])] [0] stSI = true := by kernel_rfl
theorem runsOk_win0 : reX 20 31 regsS (blocksS [] outS (.ex .i64 2 0) moreS) dfS [] eId [3] [(10, blk10 [])] [0] stSI = true := by kernel_rfl
theorem runsOk_round : pieceB (@RR fR O0 2000) (@cCode fR Tryz.prog F31 body31) (stSW P3) .normal 20 31 regsS (blocksS [] outS (.ex .i64 2 0) moreS) dfS [(30, 50)] eUp [] [(10, blk10 [(2, 0, P3)]), (30, .row 3 28 3 0 [(3, 0, cmdS (.ex .i64 2 0))] 53 false)] [0] = true := by kernel_rfl
theorem runsOk_last : pieceB (@RR fL O0 2000) (@cCode fL Tryz.prog F31 body31) (stSW P2) .normal 20 31 regsS (blocksS [] outS (.ex .i64 2 0) moreS) dfS [(30, 50)] eUp [] [(10, blk10 [(2, 0, P2)]), (30, .row 3 28 3 0 [(3, 0, cmdS (.ex .i64 2 0))] 53 false)] [0] = true := by kernel_rfl

/-- A round, and all behind the loop: what is told. -/
noncomputable def finB (f : Fct) (s : St) (v : AV) : Bool := match (codeFn (@cCode f Tryz.prog F31 body31)).run (@RR f O0 2000) s with
  | some (.normal, _) => false
  | some (x, s1) => (match @after f Tryz.prog F31 (@RR f O0 2000) ndL b31 x s1 with
    | some (x', s') => (match endOf (@RR f O0 2000) as31 x' s' with
      | some (.returned u, _) => AV.same u v
      | _ => false)
    | none => false)
  | none => false
def vEnd : AV := .tup [outS, .int .u16 0, .int .i64 0]
def vOver : AV := .tup [nilS, .int .u16 3, .ex .i64 2 0]
theorem runsOk_end : finB fE stSI vEnd = true := by kernel_rfl
theorem runsOk_over : finB fX (stSW P2) vOver = true := by kernel_rfl

/-! ### Names -/

theorem up_div (n : Nat) : (2 * n + 2) % 2 = 0 := by omega

section
variable {L : Int} (hL0 : 380 ≤ L) (hL1 : L ≤ 418)
include hL0 hL1

theorem numsI (p n : Int) : leOk (numL [0, L, p, n]) fI.le :=
  ⟨show (0 : Int) + (380) ≤ L by omega, show L + (-418) ≤ (0 : Int) by omega, trivial⟩
theorem numsR {p n : Int} (h1 : 2 ≤ p) (h2 : p + 3 ≤ L) (h3 : 1 ≤ n) (h4 : n ≤ 199) : leOk (numL [0, L, p, n]) fR.le :=
  ⟨show (0 : Int) + (380) ≤ L by omega, show L + (-418) ≤ (0 : Int) by omega, show (0 : Int) + (2) ≤ p by omega, show p + (-418) ≤ (0 : Int) by omega, show p + (3) ≤ L by omega, show (0 : Int) + (1) ≤ n by omega, show n + (-199) ≤ (0 : Int) by omega, trivial⟩
theorem numsL {p n : Int} (h1 : 2 ≤ p) (h2 : p + 2 = L) (h3 : 1 ≤ n) (h4 : n ≤ 199) : leOk (numL [0, L, p, n]) fL.le :=
  ⟨show (0 : Int) + (380) ≤ L by omega, show L + (-418) ≤ (0 : Int) by omega, show (0 : Int) + (2) ≤ p by omega, show p + (-418) ≤ (0 : Int) by omega, show p + (2) ≤ L by omega, show L + (-2) ≤ p by omega, show (0 : Int) + (1) ≤ n by omega, show n + (-199) ≤ (0 : Int) by omega, trivial⟩
theorem numsE {p n : Int} (h1 : 2 ≤ p) (h2 : p = L) (h3 : 1 ≤ n) (h4 : n ≤ 200) : leOk (numL [0, L, p, n]) fE.le :=
  ⟨show (0 : Int) + (380) ≤ L by omega, show L + (-418) ≤ (0 : Int) by omega, show (0 : Int) + (2) ≤ p by omega, show p + (-418) ≤ (0 : Int) by omega, show p + (0) ≤ L by omega, show L + (0) ≤ p by omega, show (0 : Int) + (1) ≤ n by omega, show n + (-200) ≤ (0 : Int) by omega, trivial⟩
theorem numsX {p n : Int} (h1 : p = 400) (h2 : p + 2 ≤ L) (h3 : n = 200) : leOk (numL [0, L, p, n]) fX.le :=
  ⟨show (0 : Int) + (380) ≤ L by omega, show L + (-418) ≤ (0 : Int) by omega, show (0 : Int) + (400) ≤ p by omega, show p + (-400) ≤ (0 : Int) by omega, show p + (2) ≤ L by omega, show (0 : Int) + (200) ≤ n by omega, show n + (-200) ≤ (0 : Int) by omega, trivial⟩
end

@[reducible] def nm (F : Fct) (L p n : Int) (h : leOk (numL [0, L, p, n]) F.le) (h' : remOk (numL [0, L, p, n]) F.rem) : Names := namesL F [0, L, p, n] cellM rfl h h'

theorem eId_ok {F G : Fct} {L p n : Int} {h h' k k'} : EqOk (nm F L p n h h') (nm G L p n k k') eId := by
  exact eqOk_of ⟨show L + 0 = L + 0 from rfl, show p + 0 = p + 0 from rfl, show n + 0 = n + 0 from rfl, trivial⟩
theorem eUp_ok {F G : Fct} {L p n : Int} {h h' k k'} : EqOk (nm F L p n h h') (nm G L (p + 2) (n + 1) k k') eUp := by
  exact eqOk_of ⟨show L + 0 = L + 0 from rfl, show p + 2 = (p + 2) + 0 by omega, show n + 1 = (n + 1) + 0 by omega, trivial⟩
theorem eFst_ok {F G : Fct} {L : Int} {h h' k k'} : EqOk (nm F L 0 0 h h') (nm G L 2 1 k k') eFst := by
  exact eqOk_of ⟨show L + 0 = L + 0 from rfl, show (0 : Int) + 2 = 2 + 0 from rfl, show (0 : Int) + 1 = 1 + 0 from rfl, trivial⟩

/-- The cells at an even place. -/
theorem win_ok {F G : Fct} {L p n p' n' : Int} {h h' k k'} {m : Nat} {ρ : Nat → Nat} {segs : List (Nat × Int × List AV)} {cs : List AV} (hcs : cs = P3 ∨ cs = P2) (hp : 0 ≤ p') (he : p' % 2 = 0) (hlen : p' + cs.length ≤ L) :
    BlkTo (nm F L p n h h') (nm G L p' n' k k') m ρ (blk10 segs) (blk10 [(2, 0, cs)]) := by
  have e2 : (nm G L p' n' k k').val.num 2 + 0 = p' := Int.add_zero p'
  refine row_win rfl rfl (by rw [e2]; exact hp) (by rw [e2]; exact show p' + cs.length ≤ L + 0 by omega) fun q a ha φ v hv => ?_
  rw [e2] at hv
  obtain ⟨j, hj⟩ : ∃ j : Nat, p'.toNat = 2 * j := ⟨p'.toNat / 2, by omega⟩
  have hv : v = .int .i32 (if (p'.toNat + q) % 2 = 0 then 112 else 10) := hv
  rw [hj] at hv
  have hall : ∀ (l : List AV), l = P3 ∨ l = P2 → l[q]? = some a → a = .int .i32 (if (2 * j + q) % 2 = 0 then 112 else 10) := by
    intro l hl hq
    rcases hl with rfl | rfl
    · match q, hq with
      | 0, hq => cases hq; rw [if_pos (by omega)]
      | 1, hq => cases hq; rw [if_neg (by omega)]
      | 2, hq => cases hq; rw [if_pos (by omega)]
      | q + 3, hq => simp [P3] at hq
    · match q, hq with
      | 0, hq => cases hq; rw [if_pos (by omega)]
      | 1, hq => cases hq; rw [if_neg (by omega)]
      | q + 2, hq => simp [P2] at hq
  rw [hall cs hcs ha, hv]; rfl

theorem shut_ok {F G : Fct} {L p n p' n' : Int} {h h' k k'} {m : Nat} {ρ : Nat → Nat} {segs : List (Nat × Int × List AV)} : BlkTo (nm F L p n h h') (nm G L p' n' k k') m ρ (blk10 segs) (blk10 []) := row_shut rfl rfl

theorem fold_ok {F G : Fct} {L p n : Int} {h h' k k'} {m : Nat} {ρ : Nat → Nat} (hn : 0 ≤ n) : BlkTo (nm F L p n h h') (nm G L (p + 2) (n + 1) k k') m ρ (.row 3 28 3 0 [(3, 0, cmdS (.ex .i64 2 0))] 53 false) (.row 3 28 3 0 [] 53 false) := by
  refine row_fold (m := 1) (id := 3) (off := 0) (by decide) (List.mem_singleton.2 rfl) ?_ rfl rfl ?_ (fun _ _ _ _ _ => trivial) (fun _ _ _ _ _ _ _ _ _ => trivial)
  · exact show 0 ≤ n + 0 by omega
  · exact show (n + 1) + 0 = n + 0 + ((1 : Nat) : Int) by omega

theorem first_ok {F G : Fct} {L : Int} {h h' k k'} {m : Nat} {ρ : Nat → Nat} : BlkTo (nm F L 0 0 h h') (nm G L 2 1 k k') m ρ (.cells 28 (putsV (cmdS (.int .i64 0)) .nil 0) 53 false) (.row 3 28 3 0 [] 53 false) :=
  cells_row (k := 1) (by decide) rfl (show (1 : Int) + 0 = ((1 : Nat) : Int) from rfl) (fun _ _ _ _ _ _ _ => trivial)

end Go.Proofs.YtbojmpbccibmaaaGreatDoor
