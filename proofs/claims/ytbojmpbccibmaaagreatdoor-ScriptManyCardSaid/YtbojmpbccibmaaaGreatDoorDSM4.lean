/- A script of one remark: what Parse comes to. -/
import Derived.Test.YtbojmpbccibmaaaGreatDoorDSM3
set_option linter.unusedVariables false
set_option linter.unusedSimpArgs false
set_option linter.unusedSectionVars false
set_option linter.deprecated false
set_option maxRecDepth 100000
namespace Go.Proofs.YtbojmpbccibmaaaGreatDoor
open Go Go.Abs

/-! ### Up to the remark's end -/

noncomputable def b96 : Code := (Tryz.f96.body).getD .skip
theorem hb96 : Tryz.f96.body = some b96 := by kernel_rfl
noncomputable abbrev F96 : Frm := ⟨Tryz.f96.ntmps, Tryz.f96.params.size + Tryz.f96.nfree, live 96⟩
def ndU : List Nat := [1, 1, 0, 0]
noncomputable def body96 : Code := nav [1, 1, 0, 0, 0] b96
theorem loop96 : nav ndU b96 = .loop body96 := by kernel_rfl
def as96 : List ARes := [.tmp 4]
theorem has96 : cRes Tryz.prog Tryz.f96.results.toList = some as96 := by kernel_rfl

def blkR (segs : List (Nat × Int × List AV)) : ABlk := .row 2 1 1 0 segs 0 true
def H1 : List (Nat × Int × List AV) := [(0, 0, [.int .i32 35])]
noncomputable def blocksU (segs : List (Nat × Int × List AV)) (at_ : AV) : XBlocks :=
  [(10, blkR segs), (20, one nilS 45), (21, one (.int .u16 0) 28), (22, one (.int .i64 0) 3), (23, .cells 4 (putsV [.xsl 10 0 0 0 1 1 0, at_, .fn 27 [] [], .ptr (some (19, 0))] .nil 0) 104 false),
   (24, .cells 5 (putsV [.int .i32 32, .int .i32 9, .int .i32 10, .int .i32 59, .int .i32 35] .nil 0) 43 false), (25, one (.int .i32 35) 43), (26, one (.int .i32 10) 43)]
def regsU : List (Nat × AV) := [(0, .ptr (some (23, 0))), (1, .sl (some (26, 0)) 1 1 1 true), (5, .int .i64 0)]
noncomputable def stU (segs : List (Nat × Int × List AV)) (at_ : AV) : St := stX 27 regsU (blocksU segs at_) []
noncomputable def hU : AHeap := heapX 27 (blocksU H1 (.int .i64 0))
noncomputable def hU1 : AHeap := heapX 27 (blocksU H1 (.ex .i64 1 0))
def argsU : List AV := [.ptr (some (23, 0)), .sl (some (26, 0)) 1 1 1 true]
def vU : AV := .xsl 10 0 0 0 1 1 0
def X1 : List AV := [.int .i32 120]

@[reducible] def fM : Fct := ⟨[(0, 1, 3990), (1, 0, -4000)], []⟩
@[reducible] def fMR : Fct := ⟨[(0, 1, 3990), (1, 0, -4000), (0, 2, 1), (2, 0, -4000), (2, 1, 1)], []⟩
@[reducible] def fMX : Fct := ⟨[(0, 1, 4001), (1, 0, -4009)], []⟩
def eMid : Eqs := [((1, 0), (1, 0)), ((2, 0), (2, 0))]
def eMup : Eqs := [((1, 0), (1, 0)), ((2, 1), (2, 0))]
def eMfst : Eqs := [((1, 0), (1, 0)), ((0, 1), (2, 0))]
def eMend : Eqs := [((1, 0), (1, 0)), ((2, 0), (1, 0))]

noncomputable def sameH (a b : AHeap) : Bool := Nat.beq a.next b.next && (List.range b.next).all fun i => blkSame (a.get i) (b.get i)

noncomputable def entryU : Bool := match @upTo fM Tryz.prog F96 (@RR fM O0 2000) ndU b96 ⟨argRegs argsU 0 .nil, hU, [], none⟩ with
  | some s1 => reX 27 27 regsU (blocksU H1 (.int .i64 0)) [] [] eMid [2] [] [] s1
  | none => false
theorem runsOk_entryU : entryU = true := by kernel_rfl
theorem runsOk_firstU : pieceB (@RR fM O0 2000) (@cCode fM Tryz.prog F96 body96) (stU H1 (.int .i64 0)) .normal 27 27 regsU (blocksU [] (.ex .i64 2 0)) [] [] eMfst [] [(10, blkR H1)] [0] = true := by kernel_rfl
theorem runsOk_winU : reX 27 27 regsU (blocksU [(2, 0, X1)] (.ex .i64 2 0)) [] [] eMid [] [(10, blkR [])] [0] (stU [] (.ex .i64 2 0)) = true := by kernel_rfl
theorem runsOk_roundU : pieceB (@RR fMR O0 2000) (@cCode fMR Tryz.prog F96 body96) (stU [(2, 0, X1)] (.ex .i64 2 0)) .normal 27 27 regsU (blocksU [] (.ex .i64 2 0)) [] [] eMup [] [(10, blkR [(2, 0, X1)])] [0] = true := by kernel_rfl
theorem runsOk_endU : reX 27 27 regsU (blocksU H1 (.ex .i64 1 0)) [] [] eMend [] [(10, blkR [])] [0] (stU [] (.ex .i64 2 0)) = true := by kernel_rfl
noncomputable def finU (f : Fct) : Bool := match (codeFn (@cCode f Tryz.prog F96 body96)).run (@RR f O0 2000) (stU H1 (.ex .i64 1 0)) with
  | some (.normal, _) => false
  | some (x, s1) => (match @after f Tryz.prog F96 (@RR f O0 2000) ndU b96 x s1 with
    | some (x', s') => (match endOf (@RR f O0 2000) as96 x' s' with
      | some (.returned u, h1) => AV.same u vU && sameH h1 hU1
      | _ => false)
    | none => false)
  | none => false
theorem runsOk_finU : finU fM = true := by kernel_rfl

/-! ### The rest of Parse, that knows of it -/

noncomputable def upC (args : List AV) (h : AHeap) : Option (AEnd × AHeap) :=
  match args with
  | [.ptr (some (23, 0)), .sl (some (26, 0)) 1 1 1 true] => ifB (sameH h hU) (some (.returned vU, hU1)) none
  | _ => none
noncomputable def OU : Oracle := oneO 96 upC O0
noncomputable def hM : AHeap := heapX 20 [(10, blkR H1)]
def vMend : AV := .tup [nilS, .int .u16 0, .int .i64 0]
def vMover : AV := .tup [nilS, .int .u16 3, .int .i64 0]
noncomputable def callIs (f : Fct) (O : Oracle) (h : AHeap) (v : AV) : Bool := match (@RR f O 2000).call 31 args31 h with
  | some (.returned u, _) => AV.same u v
  | _ => false
theorem runsOk_remark : callIs fM OU hM vMend = true := by kernel_rfl
theorem runsOk_remarkOver : callIs fMX O0 hM vMover = true := by kernel_rfl

end Go.Proofs.YtbojmpbccibmaaaGreatDoor
