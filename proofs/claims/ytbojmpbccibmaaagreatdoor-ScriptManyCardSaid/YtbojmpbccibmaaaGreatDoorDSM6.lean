/- Many commands, and a long remark: the law's runs. -/
import Derived.Test.YtbojmpbccibmaaaGreatDoorDSM5
set_option linter.unusedVariables false
set_option linter.unusedSimpArgs false
set_option linter.unusedSectionVars false
set_option linter.deprecated false
set_option maxRecDepth 100000
namespace Go.Proofs.YtbojmpbccibmaaaGreatDoor
open Go Go.Abs

noncomputable def b17 : Code := (Tryz.f17.body).getD .skip
theorem hb17 : Tryz.f17.body = some b17 := by kernel_rfl
noncomputable abbrev F17 : Frm := ⟨Tryz.f17.ntmps, Tryz.f17.params.size + Tryz.f17.nfree, live 17⟩
def as17 : List ARes := [.tmp 4]
theorem has17 : cRes Tryz.prog Tryz.f17.results.toList = some as17 := by kernel_rfl
/-- Behind the table's making: the first loop; all behind it. -/
def nd17 : List Nat := [1, 1, 1, 1, 1]
noncomputable def X17 : Code := nav [1, 1, 1, 1, 1, 0] b17
noncomputable def D17 : Code := nav [1, 1, 1, 1, 1, 1] b17
noncomputable def bodyA : Code := nav [1, 0, 0] X17
noncomputable def bodyB : Code := nav [1, 0, 0, 0] D17
theorem nav17 : nav nd17 b17 = .seq X17 D17 := by kernel_rfl
theorem X17_eq : X17 = .seq (nav [0] X17) (.block 0 (.loop bodyA)) := by kernel_rfl
theorem loopA : nav [1, 0] X17 = .loop bodyA := by kernel_rfl
theorem loopB : nav [1, 0, 0] D17 = .loop bodyB := by kernel_rfl

def lesO : List (Nat × Nat × Int) := [(0, 1, 0), (1, 0, -255), (0, 2, 0), (2, 0, -255), (0, 3, 0), (3, 0, -19), (0, 4, 0), (4, 0, -19), (0, 5, 0), (5, 0, -209), (0, 6, 0), (6, 0, -418), (0, 7, 0), (7, 0, -4009)]
def remsO : List (Nat × Nat × Nat) := [(1, 20, 3), (2, 20, 4)]
@[reducible] def fO : Fct := ⟨lesO, remsO⟩
@[reducible] def fOr : Fct := ⟨(5, 3, -189) :: lesO, remsO⟩
@[reducible] def fOe : Fct := ⟨(5, 3, -190) :: (3, 5, 190) :: lesO, remsO⟩
@[reducible] def fOm : Fct := ⟨(7, 4, -3989) :: lesO, remsO⟩
/-- At the second loop's end: are there at most 200 commands, 4000 cells? -/
@[reducible] def fOx (a b : Bool) : Fct := ⟨(7, 4, -3990) :: (4, 7, 3990) :: (if a then (3, 0, -10) else (0, 3, 11)) :: (if b then (7, 0, -4000) else (0, 7, 4001)) :: lesO, remsO⟩

noncomputable def b0 : Nat × ABlk := (0, .cells 20 (putsV (pow10L.map (AV.int .u64)) .nil 0) 0 true)
def args17 : List AV := [.ex .u8 1 0, .ex .u8 2 0]
def regsA : List (Nat × AV) := [(1, .ex .u8 2 0), (5, .ptr (some (29, 0))), (6, nilS), (7, nilS), (8, .ex .i64 3 190)]
def regsC : List (Nat × AV) := [(1, .ex .u8 2 0), (5, .ptr (some (29, 0))), (7, nilS), (8, .ex .i64 3 190), (6, .xsl 30 0 0 0 1 6 0), (9, .ex .i64 5 0)]
def regsD : List (Nat × AV) := [(1, .ex .u8 2 0), (5, .ptr (some (29, 0))), (7, nilS), (8, .ex .i64 3 190), (6, .xsl 30 0 0 0 1 6 0)]
def regsF : List (Nat × AV) := [(1, .ex .u8 2 0), (5, .ptr (some (29, 0))), (8, .ex .i64 3 190), (6, .xsl 30 0 0 0 1 6 0), (7, .xsl 31 0 0 0 1 7 0)]
def rowL : ABlk := .row 1 1 6 0 [] 43 false
def rowM : ABlk := .row 2 1 7 0 [] 43 false
noncomputable def bkC : XBlocks := [b0, (30, rowL)]
noncomputable def bkF : XBlocks := [b0, (30, rowL), (31, rowM)]
noncomputable def stA : St := stX 32 regsA [b0] []
noncomputable def stB : St := stX 32 ((9, .int .i64 0) :: regsA) [b0] []
noncomputable def stC : St := stX 32 regsC bkC []
noncomputable def stD : St := stX 32 regsD bkC []
noncomputable def stF : St := stX 32 regsF bkF []
def idE (l : List Nat) : Eqs := l.map fun i => ((i, 0), (i, 0))
def eO : Eqs := idE [1, 2, 3, 4, 5, 6, 7]
def eOf : Eqs := ((0, 1), (5, 0)) :: ((0, 2), (6, 0)) :: idE [2, 3, 4]
def eOu : Eqs := ((5, 1), (5, 0)) :: ((6, 2), (6, 0)) :: idE [2, 3, 4]
def eOm : Eqs := ((0, 1), (7, 0)) :: idE [2, 3, 4, 5, 6]
def eOv : Eqs := ((7, 1), (7, 0)) :: idE [2, 3, 4, 5, 6]

noncomputable def entryA : Bool := match @upTo fO Tryz.prog F17 (@RR fO O1 2000) nd17 b17 ⟨argRegs args17 0 .nil, baseH, [], none⟩ with
  | some s1 => reX 20 32 regsA [b0] [] [(29, 1528)] eO [] [] [] s1
  | none => false
theorem runsOk_entryA : entryA = true := by kernel_rfl
noncomputable def entryX : Bool := match @upTo fO Tryz.prog F17 (@RR fO O0 2000) [1, 0] X17 stA with
  | some s1 => reX 20 32 ((9, .int .i64 0) :: regsA) [b0] [] [] eO [] [] [] s1
  | none => false
theorem runsOk_entryX : entryX = true := by kernel_rfl
theorem runsOk_firstA : pieceB (@RR fO O0 2000) (@cCode fO Tryz.prog F17 bodyA) stB .normal 20 32 regsC bkC [] [(30, 33)] eOf [] [(30, .cells 2 (putsV P2 .nil 0) 43 false)] [] = true := by kernel_rfl
theorem runsOk_roundA : pieceB (@RR fOr O0 2000) (@cCode fOr Tryz.prog F17 bodyA) stC .normal 20 32 regsC bkC [] [(30, 33)] eOu [] [(30, .row 1 1 6 0 [(6, 0, P2)] 43 false)] [] = true := by kernel_rfl
theorem runsOk_exitA : pieceB (@RR fOe O0 2000) (@cCode fOe Tryz.prog F17 bodyA) stC (.exit 0) 20 32 regsD bkC [] [] eO [1] [] [] = true := by kernel_rfl
theorem runsOk_idC : reX 20 32 regsC bkC [] [] eO [1] [] [] stC = true := by kernel_rfl
noncomputable def entryD : Bool := match @upTo fO Tryz.prog F17 (@RR fO O0 2000) [1, 0, 0] D17 stD with
  | some s1 => reX 20 32 regsF bkF [] [(31, 33)] eOm [1] [(31, one (.int .i32 35) 43)] [] s1
  | none => false
theorem runsOk_entryD : entryD = true := by kernel_rfl
theorem runsOk_idF : reX 20 32 regsF bkF [] [] eO [1, 2] [] [] stF = true := by kernel_rfl
theorem runsOk_roundB : pieceB (@RR fOm O0 2000) (@cCode fOm Tryz.prog F17 bodyB) stF .normal 20 32 regsF bkF [] [(31, 33)] eOv [1] [(31, .row 2 1 7 0 [(7, 0, X1)] 43 false)] [] = true := by kernel_rfl

/-- What is known of Parse. -/
noncomputable def parseC (a b : Bool) (args : List AV) (h : AHeap) : Option (AEnd × AHeap) :=
  match args with
  | [.xsl j 0 0 (.ofNat 0) 1 lid (.ofNat 0), .bool false, .ptr (some _)] => (match h.get j with
    | some (.row nm 1 cid (.ofNat 0) _ _ _) =>
      ifB (Nat.beq nm 1 && (Nat.beq cid 6 && Nat.beq lid 6)) (some (.returned (ifB a (.tup [.xsl h.next 0 0 0 28 3 190, .int .u16 0, .int .i64 0]) (.tup [nilS, .int .u16 3, .int .i64 400])), ⟨h.tbl, Nat.succ h.next⟩))
        (ifB (Nat.beq nm 2 && (Nat.beq cid 7 && Nat.beq lid 7)) (some (.returned (ifB b vMend vMover), ⟨h.tbl, Nat.succ h.next⟩)) none)
    | _ => none)
  | _ => none
noncomputable def OP (a b : Bool) : Oracle := oneO 31 (parseC a b) O4
/-- The second loop's last round, and all behind it. -/
noncomputable def finD (a b : Bool) (f : Fct) : Bool := match (codeFn (@cCode f Tryz.prog F17 bodyB)).run (@RR f O0 2000) stF with
  | some (.normal, _) => false
  | some (x, s1) => (match @after f Tryz.prog F17 (@RR f (OP a b) 2000) [1, 0, 0] D17 x s1 with
    | some (x', s') => (match endOf (@RR f (OP a b) 2000) as17 x' s' with
      | some (.returned (.bool true), _) => true
      | _ => false)
    | none => false)
  | none => false
theorem runsOk_finTT : finD true true (fOx true true) = true := by kernel_rfl
theorem runsOk_finTF : finD true false (fOx true false) = true := by kernel_rfl
theorem runsOk_finFT : finD false true (fOx false true) = true := by kernel_rfl
theorem runsOk_finFF : finD false false (fOx false false) = true := by kernel_rfl

end Go.Proofs.YtbojmpbccibmaaaGreatDoor
