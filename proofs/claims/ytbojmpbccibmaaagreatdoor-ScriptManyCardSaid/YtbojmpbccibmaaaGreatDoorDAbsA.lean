/- Small functions, each written so that Lean's kernel carries it out in few steps. No statement is proved here but their equations. -/
import GoSem.Claims
set_option linter.unusedVariables false
set_option linter.unusedSimpArgs false
set_option linter.unusedSectionVars false
set_option linter.deprecated false
namespace Go.Abs
noncomputable section

/-- The choice by a Bool, in one step for the kernel. -/
@[reducible] def ifB {α : Type} (b : Bool) (x y : α) : α := Bool.rec y x b

@[simp] theorem ifB_true {α : Type} (x y : α) : ifB true x y = x := rfl
@[simp] theorem ifB_false {α : Type} (x y : α) : ifB false x y = y := rfl

/-! ### Trees keyed by numbers -/

inductive T (α : Type) where
  | nil
  | node (l : T α) (v : Option α) (r : T α)

namespace T
variable {α : Type}

def get (t : T α) : Nat → Option α :=
  T.rec (motive := fun _ => Nat → Option α) (fun _ => none)
    (fun _ v _ gl gr n => ifB (Nat.beq n 0) v (ifB (Nat.beq (Nat.mod n 2) 1) (gl (Nat.div n 2)) (gr (Nat.pred (Nat.div n 2))))) t

/-- 'f': more than the number of digits. -/
def setF (x : Option α) (f : Nat) : T α → Nat → T α :=
  Nat.rec (motive := fun _ => T α → Nat → T α) (fun t _ => t)
    (fun _ ih t n => T.casesOn (motive := fun _ => T α) t
      (ifB (Nat.beq n 0) (.node .nil x .nil) (ifB (Nat.beq (Nat.mod n 2) 1) (.node (ih .nil (Nat.div n 2)) none .nil) (.node .nil none (ih .nil (Nat.pred (Nat.div n 2))))))
      (fun l v r => ifB (Nat.beq n 0) (.node l x r) (ifB (Nat.beq (Nat.mod n 2) 1) (.node (ih l (Nat.div n 2)) v r) (.node l v (ih r (Nat.pred (Nat.div n 2))))))) f

def put (t : T α) (n : Nat) (x : Option α) : T α := setF x (Nat.succ n) t n

end T


/-! ### Lists -/

def lenQ {α : Type} (l : List α) : Nat := List.rec (motive := fun _ => Nat → Nat) (fun n => n) (fun _ _ ih n => ih (Nat.succ n)) l 0

def nthQ {α : Type} (d : α) (e : List α) (k : Nat) : α :=
  Nat.rec (motive := fun _ => List α → α) (fun e => List.casesOn (motive := fun _ => α) e d fun v _ => v)
    (fun _ ih e => List.casesOn (motive := fun _ => α) e d fun _ vs => ih vs) k e

def getsQ {α : Type} (d : α) (c : T α) (n : Nat) : Nat → List α :=
  Nat.rec (motive := fun _ => Nat → List α) (fun _ => [])
    (fun _ ih o => Option.casesOn (motive := fun _ => List α) (c.get o) (d :: ih (Nat.succ o)) fun v => v :: ih (Nat.succ o)) n

def putsQ {α : Type} (vs : List α) : T α → Nat → T α :=
  List.rec (motive := fun _ => T α → Nat → T α) (fun c _ => c) (fun v _ ih c o => ih (c.put o (some v)) (Nat.succ o)) vs

end
end Go.Abs

/- The abstract machine: its values, its heap, its code, and how it runs. No statement is proved here. -/
namespace Go.Abs
noncomputable section

/-! ### Values -/

/-- What is known of the numbers of names, two and two: the first one's number, and so much more, isn't above the second one's. -/
class Fct where
  le : List (Nat × Nat × Int)
  rem : List (Nat × Nat × Nat)      -- a name, a number, and the name of what is left over

instance (priority := low) noFct : Fct := ⟨[], []⟩

inductive AV where
  | bool (b : Bool)
  | int (k : IntKind) (n : Int)
  | ex (k : IntKind) (id : Nat) (off : Int)          -- a name's number, and so much more
  | any (p : Nat)                                    -- one cell, of which no more than this is known
  | xptr (i id sc : Nat) (off : Int)                 -- into a block: at a name's number, times so many, and so much more
  | xsl (i id sc : Nat) (off : Int) (esz lid : Nat) (loff : Int)   -- a slice: from there on; its length: a name's number, and so much more
  | sym (k : IntKind) (id : Nat) (ns : List Int)     -- a number that isn't told: one of these, the same place in each list of one name
  | rest (k : IntKind) (m id : Nat) (ns : List Int) -- a number of which only the rest is told
  | str (s : List UInt8)
  | sstr (l : List AV)                               -- a text of which not each byte is told
  | ptr (a : Option (Nat × Nat))
  | sl (a : Option (Nat × Nat)) (esz len cap : Nat) (exact : Bool)
  | map (r : Option Nat)
  | fn (f : FuncId) (first captured : List AV)
  | nilFn
  | iface (t : TypeId) (v : AV)
  | nilIface
  | agg (cs : List AV)
  | tup (cs : List AV)
  | junk
  deriving Inhabited

abbrev AV.undef : AV := .tup []

def AV.cells : AV → List AV
  | .agg cs => cs
  | v => [v]

inductive ABlk where
  | cells (n : Nat) (c : T AV) (t : TypeId) (ro : Bool)
  | row (nm esz cid : Nat) (coff : Int) (segs : List (Nat × Int × List AV)) (t : TypeId) (ro : Bool)   -- elements of a name, so many; some that are told
  | map (es : List (AV × AV × Nat)) (clock : Nat)
  | siter (s : List UInt8) (pos : Nat)

structure AHeap where
  tbl : T ABlk
  next : Nat

namespace AHeap
def get (h : AHeap) (i : Nat) : Option ABlk := h.tbl.get i
def set (h : AHeap) (i : Nat) (b : ABlk) : AHeap := ⟨h.tbl.put i (some b), h.next⟩
def drop (h : AHeap) (i : Nat) : AHeap := ⟨h.tbl.put i none, h.next⟩
def new (h : AHeap) (b : ABlk) : AHeap := ⟨h.tbl.put h.next (some b), h.next + 1⟩
end AHeap

/-! ### Operands: a result of this region ('loc': how many results ago), a place of the frame, a constant -/

abbrev Env := List AV
abbrev Regs := T AV

def Regs.val (r : Regs) (t : Nat) : AV := match T.get r t with | some v => v | none => .junk

inductive Opd where
  | loc (k : Nat)
  | tmp (t : Nat)
  | const (v : AV)
  | glob (g : Nat)
  | func (f : FuncId)
  deriving Inhabited

def locAt (e : Env) (k : Nat) : AV := nthQ .junk e k

/-! ### Rows of cells -/

/-- The cells from a place on, so many. -/
def getsV (c : T AV) (n : Nat) : Nat → List AV := getsQ .junk c n

/-- Cells laid from a place on. -/
def putsV (vs : List AV) : T AV → Nat → T AV := putsQ vs

def rowOf (vs : List AV) (t : TypeId) : ABlk := .cells (lenQ vs) (putsV vs .nil 0) t false

/-- The value of a place of the frame: its road is found once. -/
structure GetFn where
  run : Regs → AV

def topV (r : Regs) : AV := T.rec (motive := fun _ => AV) .junk (fun _ v _ _ _ => Option.rec (motive := fun _ => AV) .junk (fun v => v) v) r
def leftT (r : Regs) : Regs := T.rec (motive := fun _ => Regs) .nil (fun l _ _ _ _ => l) r
def rightT (r : Regs) : Regs := T.rec (motive := fun _ => Regs) .nil (fun _ _ r _ _ => r) r

def getFn (f : Nat) : Nat → GetFn :=
  Nat.rec (motive := fun _ => Nat → GetFn) (fun _ => ⟨fun _ => .junk⟩)
    (fun _ ih n => ifB (Nat.beq n 0) ⟨topV⟩ (ifB (Nat.beq (Nat.mod n 2) 1) ⟨fun r => (ih (Nat.div n 2)).run (leftT r)⟩ ⟨fun r => (ih (Nat.pred (Nat.div n 2))).run (rightT r)⟩)) f

structure PutFn where
  run : AV → Regs → Regs

def putTop (v : AV) (r : Regs) : Regs := T.rec (motive := fun _ => Regs) (.node .nil (some v) .nil) (fun a _ b _ _ => .node a (some v) b) r

def putFn (f : Nat) : Nat → PutFn :=
  Nat.rec (motive := fun _ => Nat → PutFn) (fun _ => ⟨fun _ r => r⟩)
    (fun _ ih n => ifB (Nat.beq n 0) ⟨putTop⟩ (ifB (Nat.beq (Nat.mod n 2) 1)
      ⟨fun v r => T.rec (motive := fun _ => Regs) (.node ((ih (Nat.div n 2)).run v .nil) none .nil) (fun a x b _ _ => .node ((ih (Nat.div n 2)).run v a) x b) r⟩
      ⟨fun v r => T.rec (motive := fun _ => Regs) (.node .nil none ((ih (Nat.pred (Nat.div n 2))).run v .nil)) (fun a x b _ _ => .node a x ((ih (Nat.pred (Nat.div n 2))).run v b)) r⟩)) f

def Opd.ev (x : Opd) (e : Env) (r : Regs) : AV :=
  Opd.rec (motive := fun _ => AV) (fun k => locAt e k) (fun t => (getFn (Nat.succ t) t).run r) (fun v => v) (fun g => .ptr (some (g, 0))) (fun f => .fn f [] []) x

/-! ### Numbers, quick for the kernel -/

def IntKind.idx : IntKind → Nat
  | .i8 => 0 | .i16 => 1 | .i32 => 2 | .i64 => 3 | .u8 => 4 | .u16 => 5 | .u32 => 6 | .u64 => 7

def kEq (a b : IntKind) : Bool := Nat.beq (IntKind.idx a) (IntKind.idx b)

/-- The bound of what stays as it is: below it, not below its negative (or 0). -/
def roomOf : IntKind → Nat × Bool
  | .i8 => (128, true) | .i16 => (32768, true) | .i32 => (2147483648, true) | .i64 => (9223372036854775808, true)
  | .u8 => (256, false) | .u16 => (65536, false) | .u32 => (4294967296, false) | .u64 => (18446744073709551616, false)

def wrapQ (k : IntKind) (n : Int) : Int :=
  match n with
  | .ofNat m => ifB (Nat.blt m (roomOf k).1) (.ofNat m) (k.wrap (.ofNat m))
  | .negSucc m => ifB (roomOf k).2 (ifB (Nat.blt m (roomOf k).1) (.negSucc m) (k.wrap (.negSucc m))) (k.wrap (.negSucc m))

def ltQ (a b : Int) : Bool :=
  match a, b with
  | .ofNat m, .ofNat n => Nat.blt m n
  | .ofNat _, .negSucc _ => false
  | .negSucc _, .ofNat _ => true
  | .negSucc m, .negSucc n => Nat.blt n m

def eqQ (a b : Int) : Bool :=
  match a, b with
  | .ofNat m, .ofNat n => Nat.beq m n
  | .negSucc m, .negSucc n => Nat.beq m n
  | _, _ => false

/-- An index: at least 0, below a bound. -/
def idxQ (a : Int) (n : Nat) : Option Nat :=
  match a with
  | .ofNat m => ifB (Nat.blt m n) (some m) none
  | .negSucc _ => none

def b8Q (a b : UInt8) : Bool := Nat.beq a.toNat b.toNat

def strEq : List UInt8 → List UInt8 → Bool
  | [] => fun t => match t with | [] => true | _ :: _ => false
  | a :: s => fun t => match t with | [] => false | b :: t => ifB (b8Q a b) (strEq s t) false

/-! ### What operations do -/

inductive DRes where
  | val (v : AV)
  | read (i o n : Nat) (f : List AV → Option AV)
  | readT (i o : Nat) (ts : List (TypeId × Nat)) (v : AV)
  | readMap (i : Nat) (f : List (AV × AV × Nat) → Option AV)
  | readX (i id sc : Nat) (off : Int) (n : Nat) (f : List AV → Option AV)
  | new (b : ABlk) (mk : Nat → AV)
  | bad

structure ADef where
  f : FuncId
  args : List AV
  deriving Inhabited

inductive Wr where
  | ok (v : AV) (h : AHeap)
  | enter (f : FuncId) (args : List AV)
  | defer (d : ADef)
  | panic (v : AV)
  | recover
  | bad

structure DFn where
  f : Env → Regs → DRes

structure WFn where
  f : Env → Regs → AHeap → Wr

def ofOpt (o : Option AV) : DRes := match o with | some v => .val v | none => .bad

def evs (xs : List Opd) (e : Env) (r : Regs) : List AV :=
  match xs with
  | [] => []
  | x :: xs => x.ev e r :: evs xs e r

/-! #### Numbers of names -/

def findLe (x y : Nat) (need : Int) : List (Nat × Nat × Int) → Bool
  | [] => false
  | (a, b, d) :: r => ifB (Nat.beq a x) (ifB (Nat.beq b y) (ifB (ltQ d need) (findLe x y need r) true) (findLe x y need r)) (findLe x y need r)

/-- Is one (a name's number, and so much more) not above another one? -/
def leX [Fct] (x : Nat) (a : Int) (y : Nat) (b : Int) : Option Bool :=
  ifB (Nat.beq x y) (some (!ltQ b a)) (ifB (findLe x y (a - b) Fct.le) (some true) (ifB (findLe y x (b + 1 - a) Fct.le) (some false) none))

def isLe [Fct] (x : Nat) (a : Int) (y : Nat) (b : Int) : Bool := match leX x a y b with
  | some t => t
  | none => false

def kMin (k : IntKind) : Int := ifB (roomOf k).2 (-(Int.ofNat (roomOf k).1)) 0
def kMax (k : IntKind) : Int := Int.ofNat (roomOf k).1 - 1

def inKind [Fct] (k : IntKind) (id : Nat) (off : Int) : Bool := ifB (isLe 0 (kMin k) id off) (isLe id off 0 (kMax k)) false

def toE (v : AV) : Option (IntKind × Nat × Int) := match v with
  | .int k n => some (k, 0, n)
  | .ex k id off => some (k, id, off)
  | _ => none

def exV [Fct] (k : IntKind) (id : Nat) (off : Int) : DRes := ifB (inKind k id off) (.val (ifB (Nat.beq id 0) (.int k off) (.ex k id off))) .bad

def linE (sub : Bool) (a b : Nat × Int) : Option (Nat × Int) :=
  ifB (Nat.beq b.1 0) (some (a.1, ifB sub (a.2 - b.2) (a.2 + b.2)))
    (ifB sub (ifB (Nat.beq a.1 b.1) (some (0, a.2 - b.2)) none) (ifB (Nat.beq a.1 0) (some (b.1, a.2 + b.2)) none))

def linV [Fct] (sub : Bool) (k : IntKind) (a b : AV) : DRes := match toE a, toE b with
  | some (k₁, x), some (k₂, y) => ifB (kEq k₁ k) (ifB (kEq k₂ k) (match linE sub x y with
    | some (id, off) => exV k id off
    | none => .bad) .bad) .bad
  | _, _ => .bad

inductive CmpO where
  | eq | ne | lt | le | gt | ge

def CmpO.fn (o : CmpO) : Int → Int → Bool := match o with
  | .eq => eqQ
  | .ne => fun a b => !eqQ a b
  | .lt => ltQ
  | .le => fun a b => !ltQ b a
  | .gt => fun a b => ltQ b a
  | .ge => fun a b => !ltQ a b

def eqX [Fct] (x : Nat) (a : Int) (y : Nat) (b : Int) : Option Bool := match leX x a y b, leX y b x a with
  | some true, some true => some true
  | some false, _ => some false
  | _, some false => some false
  | _, _ => none

def notO (o : Option Bool) : Option Bool := match o with
  | some b => some (!b)
  | none => none

def cmpE [Fct] (o : CmpO) (x : Nat) (a : Int) (y : Nat) (b : Int) : Option Bool := match o with
  | .eq => eqX x a y b
  | .ne => notO (eqX x a y b)
  | .lt => notO (leX y b x a)
  | .le => leX x a y b
  | .gt => notO (leX x a y b)
  | .ge => leX y b x a

def cmpX [Fct] (o : CmpO) (a b : AV) : DRes := match toE a, toE b with
  | some (k₁, x, p), some (k₂, y, q) => ifB (kEq k₁ k₂) (match cmpE o x p y q with
    | some t => .val (.bool t)
    | none => .bad) .bad
  | _, _ => .bad

def isEx (v : AV) : Bool := match v with
  | .ex _ _ _ => true
  | _ => false

/-! #### Integers, strings, comparisons -/

inductive BitOp where
  | and | or | xor | andNot
  deriving DecidableEq

def bitsOp (op : BitOp) (k : IntKind) (x y : Int) : Int :=
  let a := BitVec.ofInt k.bits x
  let b := BitVec.ofInt k.bits y
  k.wrap (match op with | .and => a &&& b | .or => a ||| b | .xor => a ^^^ b | .andNot => a &&& ~~~b).toNat

/-! Numbers that aren't told -/

def allSome : List (Option Int) → Option (List Int)
  | [] => some []
  | none :: _ => none
  | some n :: l => match allSome l with
    | some r => some (n :: r)
    | none => none

def allOne (n : Int) : List Int → Bool
  | [] => true
  | m :: l => ifB (eqQ m n) (allOne n l) false

def symV (k : IntKind) (id : Nat) (l : List Int) : DRes :=
  match l with
  | [] => .bad
  | n :: r => .val (ifB (allOne n r) (.int k n) (.sym k id (n :: r)))

def symO (k : IntKind) (id : Nat) (l : List (Option Int)) : DRes :=
  match allSome l with
  | some l => symV k id l
  | none => .bad

def allB (b : Bool) : List Bool → Bool
  | [] => true
  | c :: l => bif c == b then allB b l else false

def symB (l : List Bool) : DRes :=
  match l with
  | [] => .bad
  | b :: r => ifB (allB b r) (.val (.bool b)) .bad

def int2S (k : IntKind) (g : Int → Int → Option Int) (a b : AV) : DRes :=
  match a, b with
  | .int k₁ m, .sym k₂ id ns => ifB (kEq k₁ k) (ifB (kEq k₂ k) (symO k id (ns.map fun n => g m n)) .bad) .bad
  | .sym k₁ id ms, .int k₂ n => ifB (kEq k₁ k) (ifB (kEq k₂ k) (symO k id (ms.map fun m => g m n)) .bad) .bad
  | .sym k₁ id ms, .sym k₂ id' ns => ifB (Nat.beq id id') (ifB (kEq k₁ k) (ifB (kEq k₂ k) (symO k id (List.zipWith g ms ns)) .bad) .bad) .bad
  | _, _ => .bad

def cmpS (g : Int → Int → Bool) (a b : AV) : DRes :=
  match a, b with
  | .int k₁ m, .sym k₂ _ ns => ifB (kEq k₁ k₂) (symB (ns.map fun n => g m n)) .bad
  | .sym k₁ _ ms, .int k₂ n => ifB (kEq k₁ k₂) (symB (ms.map fun m => g m n)) .bad
  | .sym k₁ id ms, .sym k₂ id' ns => ifB (kEq k₁ k₂) (ifB (Nat.beq id id') (symB (List.zipWith g ms ns)) (symB (ms.flatMap fun m => ns.map fun n => g m n))) .bad
  | _, _ => .bad

/-- A number's operation on two numbers of one kind. -/
def int2V (k : IntKind) (g : Int → Int → Option Int) (a b : AV) : DRes :=
  match a, b with
  | .int k₁ a, .int k₂ b => ifB (kEq k₁ k) (ifB (kEq k₂ k) (match g a b with | some n => .val (.int k n) | none => .bad) .bad) .bad
  | a, b => int2S k g a b

def dInt2 (k : IntKind) (g : Int → Int → Option Int) (x y : Opd) : DFn := ⟨fun e r => int2V k g (x.ev e r) (y.ev e r)⟩

def findRem (x m : Nat) : List (Nat × Nat × Nat) → Option Nat
  | [] => none
  | (a, b, y) :: r => ifB (Nat.beq a x) (ifB (Nat.beq b m) (some y) (findRem x m r)) (findRem x m r)

/-- What is left over of a name's number. -/
def remX [Fct] (k : IntKind) (x : Nat) (b : Int) : DRes := match b with
  | .ofNat m => (match findRem x m Fct.rem with
    | some y => exV k y 0
    | none => .bad)
  | .negSucc _ => .bad

def remV [Fct] (k : IntKind) (g : Int → Int → Option Int) (a b : AV) : DRes :=
  match a, b with
  | .ex k₁ x (.ofNat 0), .int k₂ b => ifB (kEq k₁ k) (ifB (kEq k₂ k) (remX k x b) .bad) .bad
  | .rest k₁ m id ns, .int k₂ b => ifB (kEq k₁ k) (ifB (kEq k₂ k) (ifB (eqQ b (.ofNat m)) (ifB (Nat.blt 0 m) (symV k id ns) .bad) .bad) .bad) .bad
  | a, b => int2V k g a b

/-- A sum or a difference; of names' numbers too. -/
def dLin [Fct] (sub : Bool) (k : IntKind) (g : Int → Int → Option Int) (x y : Opd) : DFn := ⟨fun e r =>
  match x.ev e r, y.ev e r with
  | .ex k' id off, b => linV sub k (.ex k' id off) b
  | a, .ex k' id off => linV sub k a (.ex k' id off)
  | a, b => int2V k g a b⟩

def dAdd [Fct] (k : IntKind) := dLin false k fun a b => some (wrapQ k (a + b))
def dSub [Fct] (k : IntKind) := dLin true k fun a b => some (wrapQ k (a - b))
def dMul (k : IntKind) := dInt2 k fun a b => some (wrapQ k (a * b))
def dQuo (k : IntKind) := dInt2 k fun a b => bif eqQ b 0 then none else some (wrapQ k (a.tdiv b))
def dRem [Fct] (k : IntKind) (x y : Opd) : DFn := ⟨fun e r => remV k (fun a b => bif eqQ b 0 then none else some (a.tmod b)) (x.ev e r) (y.ev e r)⟩
def dBits (op : BitOp) (k : IntKind) := dInt2 k fun a b => some (bitsOp op k a b)

def dShift (left : Bool) (k : IntKind) (x y : Opd) : DFn := ⟨fun e r =>
  match x.ev e r, y.ev e r with
  | .int k₁ a, .int _ b => bif kEq k₁ k && !ltQ b 0 then
      .val (.int k (bif left then wrapQ k (a * 2 ^ min b.toNat k.bits) else a.fdiv (2 ^ min b.toNat k.bits))) else .bad
  | _, _ => .bad⟩

def cmpV [Fct] (o : CmpO) (a b : AV) : DRes := ifB (isEx a) (cmpX o a b) (ifB (isEx b) (cmpX o a b) (cmpS o.fn a b))

def dCmp [Fct] (o : CmpO) (x y : Opd) : DFn := ⟨fun e r =>
  match x.ev e r, y.ev e r with
  | .int k₁ a, .int k₂ b => ifB (kEq k₁ k₂) (.val (.bool (o.fn a b))) .bad
  | a, b => cmpV o a b⟩

def dEql [Fct] := dCmp .eq
def dNeq [Fct] := dCmp .ne
def dLss [Fct] := dCmp .lt
def dLeq [Fct] := dCmp .le
def dGtr [Fct] := dCmp .gt
def dGeq [Fct] := dCmp .ge

def strCells (s : List UInt8) : List AV := s.map fun b => .int .u8 (.ofNat b.toNat)

def strAV (v : AV) : Option (List AV) := match v with
  | .str s => some (strCells s)
  | .sstr l => some l
  | _ => none

def symEq (a b : AV) : Option Bool := match cmpS eqQ a b with
  | .val (.bool c) => some c
  | _ => none

def byteEq (a b : AV) : Option Bool := match a, b with
  | .int k m, .int k' n => ifB (kEq k k') (some (eqQ m n)) none
  | a, b => symEq a b

/-- Are two texts one? -/
def seqB : List AV → List AV → Option Bool
  | [] => fun y => match y with
    | [] => some true
    | _ :: _ => some false
  | a :: x => fun y => match y with
    | [] => some false
    | b :: y => match byteEq a b with
      | some true => seqB x y
      | some false => some false
      | none => match seqB x y with
        | some false => some false
        | _ => none

def catS (a b : AV) : DRes := match strAV a, strAV b with
  | some x, some y => bif Nat.blt (x.length + y.length) 1152921504606846976 then .val (.sstr (x ++ y)) else .bad
  | _, _ => .bad

def eqS (n : Bool) (a b : AV) : DRes := match strAV a, strAV b with
  | some x, some y => match seqB x y with
    | some c => .val (.bool (bif n then !c else c))
    | none => .bad
  | _, _ => .bad

def dCat (x y : Opd) : DFn := ⟨fun e r =>
  match x.ev e r, y.ev e r with
  | .str a, .str b => bif Nat.blt (a.length + b.length) 1152921504606846976 then .val (.str (a ++ b)) else .bad
  | a, b => catS a b⟩

def dStrEq (n : Bool) (x y : Opd) : DFn := ⟨fun e r =>
  match x.ev e r, y.ev e r with
  | .str a, .str b => .val (.bool (bif n then !strEq a b else strEq a b))
  | a, b => eqS n a b⟩

def dBoolEq (n : Bool) (x y : Opd) : DFn := ⟨fun e r =>
  match x.ev e r, y.ev e r with
  | .bool a, .bool b => .val (.bool (bif n then !(a == b) else a == b))
  | _, _ => .bad⟩

/-- Kinds of what may be nil. -/
inductive NK where
  | ptr | sl | map | fn | iface

def isNil (k : NK) (v : AV) : Option Bool :=
  match k with
  | .ptr => match v with | .ptr a => some a.isNone | .xptr _ _ _ _ => some false | _ => none
  | .sl => match v with | .sl a _ _ _ _ => some a.isNone | .xsl _ _ _ _ _ _ _ => some false | _ => none
  | .map => match v with | .map a => some a.isNone | _ => none
  | .fn => match v with | .nilFn => some true | .fn _ _ _ => some false | _ => none
  | .iface => match v with | .nilIface => some true | .iface _ _ => some false | _ => none

/-- Against the literal nil. -/
def dNil (k : NK) (n : Bool) (x : Opd) : DFn := ⟨fun e r =>
  match isNil k (x.ev e r) with
  | some b => .val (.bool (bif n then !b else b))
  | none => .bad⟩

def dPtrEq (n : Bool) (x y : Opd) : DFn := ⟨fun e r =>
  match x.ev e r, y.ev e r with
  | .ptr none, .ptr b => .val (.bool (bif n then !b.isNone else b.isNone))
  | .ptr (some _), .ptr none => .val (.bool n)
  | .ptr (some (i, o)), .ptr (some (j, p)) => bif Nat.beq i j then .read i o 1 (fun _ => some (.bool (bif n then !Nat.beq o p else Nat.beq o p))) else .bad
  | _, _ => .bad⟩

/-- Kinds of plain cells. -/
inductive KK where
  | int | str | bool

def isKey (k : KK) (v : AV) : Bool :=
  match k with
  | .int => match v with | .int _ _ => true | _ => false
  | .str => match v with | .str _ => true | _ => false
  | .bool => match v with | .bool _ => true | _ => false

def sameKey (a b : AV) : Option Bool :=
  match a with
  | .int k a => match b with | .int k' b => ifB (kEq k k') (some (eqQ a b)) none | _ => none
  | .str a => match b with | .str b => some (strEq a b) | _ => none
  | .bool a => match b with | .bool b => some (a == b) | _ => none
  | _ => none

def plainEq : List KK → List AV → List AV → Option Bool
  | [] => fun a b => match a, b with | [], [] => some true | _, _ => none
  | k :: ks => fun a b => match a, b with
    | x :: a, y :: b => ifB (isKey k x) (match sameKey x y with
      | some true => plainEq ks a b
      | some false => some false
      | none => none) none
    | _, _ => none

/-- Two structs of plain cells, so many. -/
def dStructEq (n : Bool) (ks : List KK) (x y : Opd) : DFn := ⟨fun e r =>
  match x.ev e r, y.ev e r with
  | .agg a, .agg b => match plainEq ks a b with
    | some b => .val (.bool (bif n then !b else b))
    | none => .bad
  | _, _ => .bad⟩

def dNeg (k : IntKind) (x : Opd) : DFn := ⟨fun e r => match x.ev e r with
  | .int k' n => bif kEq k' k then .val (.int k (wrapQ k (0 - n))) else .bad
  | _ => .bad⟩

def dBitNot (k : IntKind) (x : Opd) : DFn := ⟨fun e r => match x.ev e r with
  | .int k' n => bif kEq k' k then .val (.int k (bitsOp .xor k (if k.signed then -1 else k.max) n)) else .bad
  | _ => .bad⟩

def dNot (x : Opd) : DFn := ⟨fun e r => match x.ev e r with
  | .bool b => .val (.bool !b)
  | _ => .bad⟩

def dConv [Fct] (k : IntKind) (x : Opd) : DFn := ⟨fun e r => match x.ev e r with
  | .int _ n => .val (.int k (wrapQ k n))
  | .sym _ id ns => symO k id (ns.map fun n => some (wrapQ k n))
  | .ex _ id off => exV k id off
  | _ => .bad⟩

def kindA (v : AV) : Option IntKind := match v with
  | .int k _ => some k
  | .sym k _ _ => some k
  | _ => none

def minS (g : Int → Int → Option Int) (a b : AV) : DRes := match kindA a with
  | some k => int2S k g a b
  | none => .bad

def dMin (x y : Opd) : DFn := ⟨fun e r => match x.ev e r, y.ev e r with
  | .int k a, .int k' b => bif kEq k k' then .val (.int k (bif ltQ b a then b else a)) else .bad
  | a, b => minS (fun m n => some (bif ltQ n m then n else m)) a b⟩

def dMax (x y : Opd) : DFn := ⟨fun e r => match x.ev e r, y.ev e r with
  | .int k a, .int k' b => bif kEq k k' then .val (.int k (bif ltQ a b then b else a)) else .bad
  | a, b => minS (fun m n => some (bif ltQ m n then n else m)) a b⟩

def dPick (c a b : Opd) : DFn := ⟨fun e r => match c.ev e r with
  | .bool t => .val (bif t then a.ev e r else b.ev e r)
  | _ => .bad⟩

/-! #### Memory that is made -/

def dAlloc (t : TypeId) (zero : List AV) : DFn := ⟨fun _ _ => .new (rowOf zero t) fun i => .ptr (some (i, 0))⟩

def AV.isJunk : AV → Bool
  | .junk => true
  | _ => false

def dBox (t : TypeId) (x : Opd) : DFn := ⟨fun e r =>
  bif (x.ev e r).isJunk then .bad else .new (rowOf (x.ev e r).cells t) fun i => .ptr (some (i, 0))⟩

/-- Lays parts over cells: each at its offset, of just its size. -/
def fill : List (Nat × Nat × AV) → List AV → Option (List AV)
  | [] => fun cells => some cells
  | (off, n, v) :: rest => fun cells =>
    bif !v.isJunk && Nat.beq v.cells.length n && Nat.ble (off + n) cells.length then fill rest (cells.take off ++ v.cells ++ cells.drop (off + n)) else none

def evParts (ps : List (Nat × Nat × Opd)) (e : Env) (r : Regs) : List (Nat × Nat × AV) := ps.map fun p => (p.1, p.2.1, p.2.2.ev e r)

def dBuild (zero : List AV) (parts : List (Nat × Nat × Opd)) : DFn := ⟨fun e r => match fill (evParts parts e r) zero with
  | some cs => .val (.agg cs)
  | none => .bad⟩

def dBuildSlice (t : TypeId) (esz len : Nat) (zeros : List AV) (parts : List (Nat × Nat × Opd)) : DFn := ⟨fun e r =>
  match fill (evParts parts e r) zeros with
  | some cs => .new (rowOf cs t) fun i => .sl (some (i, 0)) esz len len true
  | none => .bad⟩

def dMkMap : DFn := ⟨fun _ _ => .new (.map [] 0) fun i => .map (some i)⟩

def dMkSlice (t : TypeId) (esz bytes : Nat) (zero : List AV) (l c : Opd) : DFn := ⟨fun e r => match l.ev e r, c.ev e r with
  | .int _ a, .int _ b => match idxQ b 1099511627776 with
    | some n => match idxQ a (n + 1) with
      | some m => bif Nat.ble (n * bytes) 1099511627776 then
          .new (rowOf ((List.replicate n zero).flatten) t) fun i => .sl (some (i, 0)) esz m n true else .bad
      | none => .bad
    | none => .bad
  | _, _ => .bad⟩

/-! #### Places -/

def aggOf (agg : Bool) (cs : List AV) : Option AV := match agg with
  | true => some (.agg cs)
  | false => match cs with
    | v :: _ => some v
    | [] => none

def dLoad (n : Nat) (agg : Bool) (a : Opd) : DFn := ⟨fun e r => match a.ev e r with
  | .ptr (some (i, o)) => .read i o n (aggOf agg)
  | .xptr i id sc off => ifB (Nat.blt 0 n) (.readX i id sc off n (aggOf agg)) .bad
  | _ => .bad⟩

def dNilCheck (x : Opd) : DFn := ⟨fun e r => match x.ev e r with
  | .ptr (some a) => .val (.ptr (some a))
  | .xptr i id sc off => .val (.xptr i id sc off)
  | .fn f a b => .val (.fn f a b)
  | _ => .bad⟩

def dAddOff (off : Nat) (x : Opd) : DFn := ⟨fun e r => match x.ev e r with
  | .ptr (some (i, o)) => .val (.ptr (some (i, Nat.add o off)))
  | .xptr i id sc o => .val (.xptr i id sc (o + Int.ofNat off))
  | _ => .bad⟩

def dField (off n : Nat) (agg : Bool) (x : Opd) : DFn := ⟨fun e r => match x.ev e r with
  | .agg cs => bif Nat.ble (off + n) cs.length then ofOpt (aggOf agg ((cs.drop off).take n)) else .bad
  | _ => .bad⟩

/-- A place of a slice that is told by names: its block, and where in it. -/
def idxX [Fct] (b id sc : Nat) (off : Int) (esz lid : Nat) (loff : Int) (v : AV) : DRes := match toE v with
  | some (_, j, jo) => ifB (isLe 0 0 j jo) (ifB (isLe j (jo + 1) lid loff)
      (ifB (Nat.beq j 0) (.val (.xptr b id sc (off + jo * Int.ofNat esz))) (ifB (Nat.beq id 0) (.val (.xptr b j esz (off + jo * Int.ofNat esz))) .bad)) .bad) .bad
  | none => .bad

def dIdxSl [Fct] (size : Nat) (x i : Opd) : DFn := ⟨fun e r => match x.ev e r, i.ev e r with
  | .sl (some (b, o)) esz len _ _, .int _ n => match idxQ n len with
    | some m => ifB (Nat.beq esz size) (.val (.ptr (some (b, Nat.add o (Nat.mul m esz))))) .bad
    | none => .bad
  | .xsl b id sc off esz lid loff, v => ifB (Nat.beq esz size) (idxX b id sc off esz lid loff v) .bad
  | _, _ => .bad⟩

def dIdxArr (len esz : Nat) (x i : Opd) : DFn := ⟨fun e r => match x.ev e r, i.ev e r with
  | .ptr (some (b, o)), .int _ n => match idxQ n len with
    | some m => .val (.ptr (some (b, o + m * esz)))
    | none => .bad
  | _, _ => .bad⟩

def atQ (s : List UInt8) (n : Nat) : Option UInt8 :=
  match s with
  | [] => none
  | b :: s => match n with | 0 => some b | n + 1 => atQ s n

def dIdxStr (x i : Opd) : DFn := ⟨fun e r => match x.ev e r, i.ev e r with
  | .str s, .int _ n => match idxQ n s.length with
    | some m => match atQ s m with
      | some b => .val (.int .u8 (.ofNat b.toNat))
      | none => .bad
    | none => .bad
  | .sstr l, .int _ n => match idxQ n l.length with
    | some m => match l[m]? with
      | some v => .val v
      | none => .bad
    | none => .bad
  | .str s, .sym _ id ns => symO .u8 id (ns.map fun n => match idxQ n s.length with
    | some m => match atQ s m with
      | some b => some (.ofNat b.toNat)
      | none => none
    | none => none)
  | _, _ => .bad⟩

def toUnsafe (x : Opd) : DFn := ⟨fun e r => match x.ev e r with
  | .ptr none => .val (.ptr none)
  | .ptr (some (i, o)) => .read i o 1 (fun _ => some (.ptr (some (i, o))))
  | _ => .bad⟩

def ofUnsafe (fits : List (TypeId × Nat × Nat)) (x : Opd) : DFn := ⟨fun e r => match x.ev e r with
  | .ptr none => .val (.ptr none)
  | .ptr (some (i, o)) => .readT i o (fits.filterMap fun p => if p.2.1 = o then some (p.1, p.2.2) else none) (.ptr (some (i, o)))
  | _ => .bad⟩

def boundOf (i : Option Opd) (e : Env) (r : Regs) (most dflt : Nat) : Option Nat :=
  match i with
  | none => some dflt
  | some x => match x.ev e r with
    | .int _ n => idxQ n (most + 1)
    | _ => none

def widthOk (n wd : Nat) (l h : Int) : Bool := match idxQ l (n + 1), idxQ h (n + 1) with
  | some a, some b => Nat.beq b (a + wd)
  | _, _ => false

def allT' : List Bool → Bool
  | [] => true
  | b :: l => bif b then allT' l else false

/-- A part of a text, from a place on that isn't told, of one width. -/
def sliceSym (s : List UInt8) (lo hi : AV) : DRes := match lo, hi with
  | .sym _ i ls, .sym _ j hs => match ls, hs with
    | l :: _, h :: _ => ifB (Nat.beq i j) (ifB (allT' (List.zipWith (widthOk s.length (h - l).toNat) ls hs))
        (.val (.sstr ((List.range (h - l).toNat).map fun q => .sym .u8 i (ls.map fun l => Int.ofNat ((atQ s (l.toNat + q)).getD 0).toNat)))) .bad) .bad
    | _, _ => .bad
  | _, _ => .bad

def dSliceStr (x : Opd) (lo hi : Option Opd) : DFn := ⟨fun e r => match x.ev e r with
  | .str s => match boundOf hi e r s.length s.length with
    | some h => match boundOf lo e r h 0 with
      | some l => .val (.str ((s.take h).drop l))
      | none => .bad
    | none => match lo, hi with
      | some l, some h => sliceSym s (l.ev e r) (h.ev e r)
      | _, _ => .bad
  | .sstr s => match boundOf hi e r s.length s.length with
    | some h => match boundOf lo e r h 0 with
      | some l => .val (.sstr ((s.take h).drop l))
      | none => .bad
    | none => .bad
  | _ => .bad⟩

def boundX (i : Option Opd) (e : Env) (r : Regs) (d : Nat × Int) : Option (Nat × Int) :=
  match i with
  | none => some d
  | some x => match toE (x.ev e r) with
    | some (_, b) => some b
    | none => none

/-- A part of a slice that is told by names. -/
def sliceX [Fct] (b id sc : Nat) (off : Int) (esz lid : Nat) (loff : Int) (lo hi : Nat × Int) : DRes :=
  ifB (isLe 0 0 lo.1 lo.2) (ifB (isLe lo.1 lo.2 hi.1 hi.2) (ifB (isLe hi.1 hi.2 lid loff)
    (match linE true hi lo with
     | some (nid, no) => ifB (Nat.beq lo.1 0) (.val (.xsl b id sc (off + lo.2 * Int.ofNat esz) esz nid no)) (ifB (Nat.beq id 0) (.val (.xsl b lo.1 esz (off + lo.2 * Int.ofNat esz) esz nid no)) .bad)
     | none => .bad) .bad) .bad) .bad

/-- A slice of nothing, with room for nothing. -/
def noneX (b esz : Nat) (lo : Option Opd) (h m : AV) : DRes := match lo, h, m with
  | none, .int _ (.ofNat 0), .int _ (.ofNat 0) => .val (.sl (some (b, 0)) esz 0 0 true)
  | _, _, _ => .bad

def sliceXD [Fct] (b id sc : Nat) (off : Int) (esz lid : Nat) (loff : Int) (lo hi mx : Option Opd) (e : Env) (r : Regs) : DRes := match mx with
  | none => match boundX hi e r (lid, loff) with
    | some h => match boundX lo e r (0, 0) with
      | some l => sliceX b id sc off esz lid loff l h
      | none => .bad
    | none => .bad
  | some m => match hi with
    | some h => noneX b esz lo (h.ev e r) (m.ev e r)
    | none => .bad

def dSliceSl [Fct] (size : Nat) (x : Opd) (lo hi mx : Option Opd) : DFn := ⟨fun e r => match x.ev e r with
  | .xsl b id sc off esz lid loff => ifB (Nat.beq esz size) (sliceXD b id sc off esz lid loff lo hi mx e r) .bad
  | .sl a esz len cap ex => bif !(Nat.beq esz size || a.isNone) then .bad else match boundOf mx e r cap cap with
    | some m => match boundOf hi e r m len with
      | some h => match boundOf lo e r h 0 with
        | some l => .val (.sl (match a with | some (i, o) => some (i, o + l * esz) | none => none) esz (h - l) (m - l) (ex || mx.isSome))
        | none => .bad
      | none => .bad
    | none => .bad
  | _ => .bad⟩

def dSliceArr (n esz : Nat) (x : Opd) (lo hi : Option Opd) : DFn := ⟨fun e r => match x.ev e r with
  | .ptr (some (i, o)) => match boundOf hi e r n n with
    | some h => match boundOf lo e r h 0 with
      | some l => .read i o (n * esz) fun _ => some (.sl (some (i, o + l * esz)) esz (h - l) (n - l) true)
      | none => .bad
    | none => .bad
  | _ => .bad⟩

def dSliceData (x : Opd) : DFn := ⟨fun e r => match x.ev e r with
  | .sl none _ _ _ _ => .val (.ptr none)
  | .sl (some a) _ len _ _ => bif Nat.blt 0 len then .val (.ptr (some a)) else .bad
  | _ => .bad⟩

/-! #### Texts -/

def bytesOf : List AV → Option (List UInt8)
  | [] => some []
  | v :: r => match v with
    | .int k n => bif kEq k .u8 then (match idxQ n 256 with
      | some m => (match bytesOf r with | some s => some (UInt8.ofNat m :: s) | none => none)
      | none => none) else none
    | _ => none

def sByte (v : AV) : Bool := match v with
  | .int k n => kEq k .u8 && (idxQ n 256).isSome
  | .sym k _ ns => kEq k .u8 && ns.all fun n => (idxQ n 256).isSome
  | _ => false

def bytesV (cs : List AV) : Option AV := match bytesOf cs with
  | some s => some (.str s)
  | none => bif cs.all sByte then some (.sstr cs) else none

def dBytesToStr (x : Opd) : DFn := ⟨fun e r => match x.ev e r with
  | .sl none _ _ _ _ => .val (.str [])
  | .sl (some (i, o)) esz len _ _ => bif Nat.beq esz 1 then .read i o len bytesV else .bad
  | _ => .bad⟩

/-- Bytes of a rune in UTF-8, of ASCII alone. -/
def dRuneToStr (x : Opd) : DFn := ⟨fun e r => match x.ev e r with
  | .int _ n => match idxQ n 128 with
    | some m => .val (.str [UInt8.ofNat m])
    | none => .bad
  | .sym _ id ns => bif ns.all fun n => (idxQ n 128).isSome then .val (.sstr [.sym .u8 id ns]) else .bad
  | _ => .bad⟩

def dRangeStr (x : Opd) : DFn := ⟨fun e r => match x.ev e r with
  | .str s => .new (.siter s 0) fun i => .ptr (some (i, 0))
  | _ => .bad⟩

def dLenStr (x : Opd) : DFn := ⟨fun e r => match x.ev e r with
  | .str s => .val (.int .i64 (.ofNat s.length))
  | .sstr l => .val (.int .i64 (.ofNat l.length))
  | _ => .bad⟩

def dLenSl (x : Opd) : DFn := ⟨fun e r => match x.ev e r with
  | .sl _ _ n _ _ => .val (.int .i64 (.ofNat n))
  | .xsl _ _ _ _ _ lid loff => .val (ifB (Nat.beq lid 0) (.int .i64 loff) (.ex .i64 lid loff))
  | _ => .bad⟩

def indexByte (b : UInt8) : List UInt8 → Nat → Int
  | [] => fun _ => -1
  | c :: r => fun i => ifB (b8Q c b) (.ofNat i) (indexByte b r (i + 1))

/-! #### Interfaces, functions, tuples, maps -/

def dIface (t : TypeId) (x : Opd) : DFn := ⟨fun e r => .val (.iface t (x.ev e r))⟩

def dFunc (f : FuncId) (first captured : List Opd) : DFn := ⟨fun e r => .val (.fn f (evs first e r) (evs captured e r))⟩

def nthV (vs : List AV) (i : Nat) : DRes :=
  match vs with
  | [] => .bad
  | v :: vs => match i with | 0 => .val v | i + 1 => nthV vs i

def dExtract (x : Opd) (i : Nat) : DFn := ⟨fun e r => match x.ev e r with
  | .tup vs => nthV vs i
  | _ => .bad⟩

def dAssert (t : TypeId) (zero : AV) (x : Opd) : DFn := ⟨fun e r => match x.ev e r with
  | .iface u v => .val (bif Nat.beq u t then .tup [v, .bool true] else .tup [zero, .bool false])
  | .nilIface => .val (.tup [zero, .bool false])
  | _ => .bad⟩

/-- The entry of a key: its place and value; none: a key of another make stands there. -/
def findKey (k : AV) : List (AV × AV × Nat) → Nat → Option (Option (Nat × AV))
  | [] => fun _ => some none
  | (k', v, _) :: r => fun i => match sameKey k k' with
    | some true => some (some (i, v))
    | some false => findKey k r (i + 1)
    | none => none

def lookedUp (zero : AV) (ok : Bool) (k : AV) (es : List (AV × AV × Nat)) : Option AV :=
  match findKey k es 0 with
  | some (some (_, v)) => some (bif ok then .tup [v, .bool true] else v)
  | some none => some (bif ok then .tup [zero, .bool false] else zero)
  | none => none

def dLookup (kk : KK) (zero : AV) (ok : Bool) (x i : Opd) : DFn := ⟨fun e r => match x.ev e r with
  | .map none => .val (bif ok then .tup [zero, .bool false] else zero)
  | .map (some m) => bif isKey kk (i.ev e r) then .readMap m (lookedUp zero ok (i.ev e r)) else .bad
  | _ => .bad⟩

def dLenMap (x : Opd) : DFn := ⟨fun e r => match x.ev e r with
  | .map none => .val (.int .i64 0)
  | .map (some m) => .readMap m fun es => some (.int .i64 es.length)
  | _ => .bad⟩

/-! #### Functions without a body, that write nothing -/

def dNothing : DFn := ⟨fun _ _ => .val (.tup [])⟩

def dMarked (x : Opd) : DFn := ⟨fun e r => match x.ev e r with
  | .ptr (some _) => .val (.tup [])
  | _ => .bad⟩

def oneInt (k : IntKind) : List AV → Option AV
  | [] => none
  | v :: _ => match v with | .int k' n => ifB (kEq k' k) (some (.int k' n)) none | _ => none

def dAtomicLoad (k : IntKind) (x : Opd) : DFn := ⟨fun e r => match x.ev e r with
  | .ptr (some (i, o)) => .read i o 1 (oneInt k)
  | _ => .bad⟩

def dIndexByte (x y : Opd) : DFn := ⟨fun e r => match x.ev e r, y.ev e r with
  | .str s, .int k b => bif kEq k .u8 then .val (.int .i64 (indexByte (UInt8.ofNat b.toNat) s 0)) else .bad
  | _, _ => .bad⟩

def dSame (x : Opd) : DFn := ⟨fun e r => match x.ev e r with
  | .ptr a => .val (.ptr a)
  | _ => .bad⟩

/-! #### What reads and makes, carried out -/

def AHeap.cellsAt (h : AHeap) (i o n : Nat) : Option (List AV) :=
  match h.get i with
  | some (.cells m c _ _) => ifB (Nat.ble (Nat.add o n) m) (some (getsV c n o)) none
  | _ => none

/-- The cells of a row that are told, from a place on, so many. -/
def segCells (id sc : Nat) (off : Int) (n esz : Nat) : List (Nat × Int × List AV) → Option (List AV)
  | [] => none
  | (id', off', cs) :: r => ifB (Nat.beq id' id) (ifB (Nat.beq sc esz) (match off - off' * Int.ofNat esz with
      | .ofNat k => ifB (Nat.ble (Nat.add k n) (lenQ cs)) (some ((cs.drop k).take n)) (segCells id sc off n esz r)
      | .negSucc _ => segCells id sc off n esz r) (segCells id sc off n esz r)) (segCells id sc off n esz r)

def AHeap.cellsX (h : AHeap) (i id sc : Nat) (off : Int) (n : Nat) : Option (List AV) :=
  match h.get i with
  | some (.row _ esz _ _ segs _ _) => segCells id (ifB (Nat.beq id 0) esz sc) off n esz segs
  | _ => none

/-- What an operation that writes nothing old makes: a value, and the heap behind it. -/
def runD (h : AHeap) (d : DRes) : Option (AV × AHeap) :=
  match d with
  | .val v => some (v, h)
  | .read i o n f => match h.cellsAt i o n with
    | some cs => match f cs with
      | some v => some (v, h)
      | none => none
    | none => none
  | .readT i o ts v => match h.get i with
    | some (.cells m _ t _) => ifB (Nat.ble (Nat.succ o) m && (!Nat.beq t 0 && ts.any fun p => Nat.beq p.1 t && Nat.ble p.2 m)) (some (v, h)) none
    | _ => none
  | .readMap i f => match h.get i with
    | some (.map es _) => match f es with
      | some v => some (v, h)
      | none => none
    | _ => none
  | .readX i id sc off n f => match h.cellsX i id sc off n with
    | some cs => match f cs with
      | some v => some (v, h)
      | none => none
    | none => none
  | .new b mk => some (mk h.next, h.new b)
  | .bad => none

/-! ### Operations that write -/

/-- The value of one cell. -/
def isCell (v : AV) : Bool := match v with
  | .agg _ => false
  | .tup _ => false
  | .junk => false
  | _ => true

def allCells (vs : List AV) : Bool := List.rec (motive := fun _ => Bool) true (fun v _ ih => ifB (isCell v) ih false) vs

def AHeap.store (h : AHeap) (i o : Nat) (vs : List AV) : Option AHeap :=
  match h.get i with
  | some (.cells m c t ro) => ifB (!ro && Nat.ble (Nat.add o (lenQ vs)) m && allCells vs) (some (h.set i (.cells m (putsV vs c o) t false))) none
  | _ => none

def ofOptH (o : Option AHeap) (v : AV) : Wr := match o with | some h => .ok v h | none => .bad

def wStore (n : Nat) (a v : Opd) : WFn := ⟨fun e r h => match a.ev e r with
  | .ptr (some (i, o)) => bif !(v.ev e r).isJunk && Nat.beq (lenQ (v.ev e r).cells) n then ofOptH (h.store i o (v.ev e r).cells) .undef else .bad
  | _ => .bad⟩

/-- Do all told cells lie ahead of a place? -/
def segsIn [Fct] (esz lid : Nat) (loff : Int) : List (Nat × Int × List AV) → Bool
  | [] => true
  | (id, off, cs) :: r => ifB (isLe id (off + Int.ofNat (Nat.div (Nat.add (lenQ cs) (Nat.pred esz)) esz)) lid loff) (segsIn esz lid loff r) false

/-- append(s, x), x of n elements: the old row is moved where there may be room. -/
def aAppend [Fct] (h : AHeap) (t : TypeId) (esz bytes : Nat) (s : AV) (new : List AV) (n : Nat) : Wr :=
  match s with
  | .sl a e len cap ex =>
    bif Nat.blt 1099511627776 ((len + n) * bytes) || Nat.blt 1099511627776 (len + n) then .bad
    else bif Nat.beq n 0 then .ok s h
    else match a with
      | none => .ok (.sl (some (h.next, 0)) esz n n false) (h.new (rowOf new t))
      | some (i, o) =>
        bif Nat.beq e esz then
        match h.get i with
        | some (.cells m c t0 ro) =>
          bif Nat.ble (len + n) cap then
            ofOptH (h.store i (o + len * esz) new) (.sl (some (i, o)) esz (len + n) cap ex)
          else bif ex then
            bif Nat.ble (o + len * esz) m then
              .ok (.sl (some (h.next, 0)) esz (len + n) (len + n) false) (h.new (rowOf (getsV c (len * esz) o ++ new) t))
            else .bad
          else
            bif !ro && Nat.beq m (o + len * esz) && allCells new then
              bif Nat.beq o 0 then .ok (.sl (some (h.next, 0)) esz (len + n) (len + n) false) ((h.drop i).new (.cells ((len + n) * esz) (putsV new c m) (ifB (Nat.beq t0 t) t 0) false))
              else .ok (.sl (some (h.next, 0)) esz (len + n) (len + n) false) ((h.drop i).new (rowOf (getsV c (len * esz) o ++ new) 0))
            else .bad
        | some (.row _ _ _ _ _ _ _) => bif ex && Nat.beq len 0 && Nat.blt cap n then .ok (.sl (some (h.next, 0)) esz n n false) (h.new (rowOf new t)) else .bad
        | _ => .bad
        else .bad
  | .xsl i 0 _ (.ofNat 0) e lid loff =>
    bif Nat.beq e esz && (Nat.blt 0 n && (isLe 0 0 lid loff && isLe lid (loff + Int.ofNat n) 0 268435456 && allCells new)) && Nat.ble bytes 4096 then
      match h.get i with
      | some (.row nm e' cid coff segs t0 ro) =>
        bif !ro && Nat.beq e' esz && (isLe cid coff lid loff && segsIn esz lid loff segs) then
          .ok (.xsl h.next 0 0 0 esz lid (loff + Int.ofNat n)) ((h.drop i).new (.row nm esz cid coff ((lid, loff, new) :: segs) (ifB (Nat.beq t0 t) t 0) false))
        else .bad
      | _ => .bad
    else .bad
  | _ => .bad

def wAppend [Fct] (t : TypeId) (esz bytes : Nat) (s x : Opd) : WFn := ⟨fun e r h => match x.ev e r with
  | .sl none _ _ _ _ => aAppend h t esz bytes (s.ev e r) [] 0
  | .sl (some (i, o)) e' len _ _ =>
    bif Nat.beq e' esz then
      match h.cellsAt i o (len * esz) with
      | some cs => aAppend h t esz bytes (s.ev e r) cs len
      | none => .bad
    else .bad
  | .xsl i id sc off e' 0 (.ofNat len) =>
    bif Nat.beq e' esz then
      bif Nat.beq len 0 then aAppend h t esz bytes (s.ev e r) [] 0 else
      match h.cellsX i id sc off (len * esz) with
      | some cs => aAppend h t esz bytes (s.ev e r) cs len
      | none => .bad
    else .bad
  | .str b => bif Nat.beq esz 1 then aAppend h t esz bytes (s.ev e r) (strCells b) b.length else .bad
  | .sstr l => bif Nat.beq esz 1 then aAppend h t esz bytes (s.ev e r) l l.length else .bad
  | _ => .bad⟩

def wClear (zero : List AV) (x : Opd) : WFn := ⟨fun e r h => match x.ev e r with
  | .sl none _ _ _ _ => .ok .undef h
  | .sl (some (i, o)) _ len _ _ => bif Nat.beq len 0 then .ok .undef h else ofOptH (h.store i o ((List.replicate len zero).flatten)) .undef
  | _ => .bad⟩

def updEntry (v : AV) : Nat → List (AV × AV × Nat) → List (AV × AV × Nat)
  | _, [] => []
  | 0, (k, _, b) :: r => (k, v, b) :: r
  | i + 1, x :: r => x :: updEntry v i r

def aMapUpdate (h : AHeap) (m k v : AV) : Wr :=
  match m with
  | .map (some i) => match h.get i with
    | some (.map es clock) => match findKey k es 0 with
      | some (some (j, _)) => .ok .undef (h.set i (.map (updEntry v j es) clock))
      | some none => .ok .undef (h.set i (.map (es ++ [(k, v, clock)]) (clock + 1)))
      | none => .bad
    | _ => .bad
  | _ => .bad

def wMapUpdate (kk : KK) (m k v : Opd) : WFn := ⟨fun e r h => bif isKey kk (k.ev e r) then aMapUpdate h (m.ev e r) (k.ev e r) (v.ev e r) else .bad⟩

/-- Decoding at a place of a text: of ASCII by itself; else by the model's own. -/
def decodeAt (s : List UInt8) (pos : Nat) : Nat × Nat :=
  match atQ s pos with
  | some b => bif Nat.blt b.toNat 128 then (b.toNat, 1) else Utf8.decode ⟨s.toArray⟩ pos
  | none => Utf8.decode ⟨s.toArray⟩ pos

def wNext (x : Opd) : WFn := ⟨fun e r h => match x.ev e r with
  | .ptr (some (i, 0)) => match h.get i with
    | some (.siter s pos) =>
      bif Nat.blt pos s.length then
        .ok (.tup [.bool true, .int .i64 (.ofNat pos), .int .i32 (.ofNat (decodeAt s pos).1)]) (h.set i (.siter s (pos + (decodeAt s pos).2)))
      else .ok (.tup [.bool false]) h
    | _ => .bad
  | _ => .bad⟩

def wCall (f : FuncId) (args : List Opd) : WFn := ⟨fun e r _ => .enter f (evs args e r)⟩

def wCallV (x : Opd) (args : List Opd) : WFn := ⟨fun e r _ => match x.ev e r with
  | .fn f first captured => .enter f (first ++ evs args e r ++ captured)
  | _ => .bad⟩

def wDefer (x : Opd) (args : List Opd) : WFn := ⟨fun e r _ => match x.ev e r with
  | .fn f first captured => .defer ⟨f, first ++ evs args e r ++ captured⟩
  | _ => .bad⟩

def wPanic (x : Opd) : WFn := ⟨fun e r _ => match x.ev e r with
  | .iface t v => .panic (.iface t v)
  | _ => .bad⟩

def wRecover : WFn := ⟨fun _ _ _ => .recover⟩

/-- An atomic write: the cell must hold a number of the kind. 'g': what it becomes (none: it stays), and what is told. -/
def aAtomic (h : AHeap) (i o : Nat) (k : IntKind) (g : Int → Option Int × AV) : Wr :=
  match h.cellsAt i o 1 with
  | some [.int k' n] => bif kEq k' k then (match g n with
    | (some m, v) => ofOptH (h.store i o [.int k m]) v
    | (none, v) => match h.store i o [.int k n] with | some _ => .ok v h | none => .bad) else .bad
  | _ => .bad

def wAtomicStore (x y : Opd) : WFn := ⟨fun e r h => match x.ev e r, y.ev e r with
  | .ptr (some (i, o)), .int k v => aAtomic h i o k fun _ => (some v, .undef)
  | _, _ => .bad⟩

def wAtomicAdd (k : IntKind) (x y : Opd) : WFn := ⟨fun e r h => match x.ev e r, y.ev e r with
  | .ptr (some (i, o)), .int k' v => bif kEq k' k then aAtomic h i o k fun n => (some (wrapQ k (n + v)), .int k (wrapQ k (n + v))) else .bad
  | _, _ => .bad⟩

def wCas (k0 : IntKind) (x y z : Opd) : WFn := ⟨fun e r h => match x.ev e r, y.ev e r, z.ev e r with
  | .ptr (some (i, o)), .int k a, .int k' b => bif kEq k' k && kEq k k0 then aAtomic h i o k fun n => bif eqQ n a then (some b, .bool true) else (none, .bool false) else .bad
  | _, _, _ => .bad⟩

def wUnsafeStr (okT : TypeId → Bool) (x n : Opd) : WFn := ⟨fun e r h => match x.ev e r, n.ev e r with
  | .ptr none, .int k n => bif eqQ n 0 && kEq k .i64 then .ok (.str []) h else .bad
  | .ptr (some (i, o)), .int k n => match idxQ n 1099511627776 with
    | some m => match h.get i with
      | some (.cells kk c t ro) => bif (!ro && Nat.ble (o + m) kk && Nat.blt 0 m && (!Nat.beq t 0 && okT t)) && (Nat.beq o 0 && kEq k .i64) then (match bytesV (getsV c m o) with
        | some v => .ok v (h.drop i)
        | none => .bad) else .bad
      | _ => .bad
    | none => .bad
  | _, _ => .bad⟩

def wMarkBytes (x : Opd) : WFn := ⟨fun e r h => match x.ev e r with
  | .sl (some (i, o)) esz len cap ex => match h.get i with
    | some (.cells _ _ _ ro) => bif ro || Nat.beq cap 0 then .bad else .ok (.sl (some (i, o)) esz len cap ex) h
    | _ => .bad
  | _ => .bad⟩

/-! ### Code -/

inductive AOp where
  | mov (x : Opd)
  | d (f : DFn)
  | w (f : WFn)

/-- An operation: the place of the frame that keeps its result (if one must), what guards it, what it is. -/
structure AOper where
  dst : Option Nat
  guard : Option (Opd × Bool)
  op : AOp

inductive ACode where
  | skip
  | region (ops : List AOper)
  | draw (ord : List (AOper × Nat × Nat)) (dsts : List Nat)
  | seq (a b : ACode)
  | cond (c : Opd) (a b : ACode)
  | block (id : Nat) (b : ACode)
  | loop (b : ACode)
  | exit (id : Nat)
  | ret
  | bad

inductive ARes where
  | tmp (t : Nat)
  | cell (a n : Nat) (agg : Bool)

structure AFunc where
  np : Nat
  results : List ARes
  body : ACode

/-! ### Running -/

abbrev Chain := List (AV × Bool)

structure St where
  regs : Regs
  heap : AHeap
  defers : List ADef
  below : Option (Option Chain)     -- in a deferred call: the panics of the frame below, if it panics

inductive AEx where
  | normal
  | exit (id : Nat)
  | ret
  | panic (c : Chain)

inductive AEnd where
  | returned (v : AV)
  | panicked (c : Chain)

abbrev Out := Option (AEx × St)

structure Runner where
  loop : ACode → St → Out
  call : FuncId → List AV → AHeap → Option (AEnd × AHeap)
  callD : FuncId → List AV → Option Chain → AHeap → Option (AEnd × Option Chain × AHeap)

def Regs.setO (r : Regs) (d : Option Nat) (v : AV) : Regs :=
  match d with
  | some d => T.put r d (some v)
  | none => r

/-- What a step of an operation does: goes on with a value; leaves; or is not known. -/
inductive Went where
  | on (v : AV) (s : St)
  | out (e : AEx) (s : St)
  | lost

def wentD (x : Option (AV × AHeap)) (s : St) : Went :=
  match x with
  | some (v, h) => .on v ⟨s.regs, h, s.defers, s.below⟩
  | none => .lost

def wentW (R : Runner) (x : Wr) (s : St) : Went :=
  match x with
  | .ok v h => .on v ⟨s.regs, h, s.defers, s.below⟩
  | .enter f args => match R.call f args s.heap with
    | some (.returned v, h) => .on v ⟨s.regs, h, s.defers, s.below⟩
    | some (.panicked c, h) => .out (.panic c) ⟨s.regs, h, s.defers, s.below⟩
    | none => .lost
  | .defer d => .on .undef ⟨s.regs, s.heap, d :: s.defers, s.below⟩
  | .panic v => .out (.panic [(v, false)]) s
  | .recover => match s.below with
    | some (some ((v, false) :: older)) => .on v ⟨s.regs, s.heap, s.defers, some (some ((v, true) :: older))⟩
    | some _ => .on .nilIface s
    | none => .lost
  | .bad => .lost

structure OpFn where
  run : Runner → Env → St → Went

def opFn (o : AOp) : OpFn :=
  match o with
  | .mov x => ⟨fun _ e s => .on (x.ev e s.regs) s⟩
  | .d f => ⟨fun _ e s => match f.f e s.regs with
    | .val v => .on v s
    | d => wentD (runD s.heap d) s⟩
  | .w f => ⟨fun R e s => wentW R (f.f e s.regs s.heap) s⟩

/-- Is an operation's guard met? none: it cannot be told. -/
def guardMet (g : AV) (want : Bool) : Option Bool :=
  match g with
  | .bool b => some (b == want)
  | .tup [] => some false
  | _ => none

def guardFn (g : Option (Opd × Bool)) (f : OpFn) : OpFn :=
  match g with
  | none => f
  | some (x, want) => ⟨fun R e s => match guardMet (x.ev e s.regs) want with
    | some true => f.run R e s
    | some false => .on .undef s
    | none => .lost⟩

def dstFn (d : Option Nat) (f : OpFn) : OpFn :=
  match d with
  | none => f
  | some d => ⟨fun R e s => match f.run R e s with
    | .on v s' => .on v ⟨(putFn (Nat.succ d) d).run v s'.regs, s'.heap, s'.defers, s'.below⟩
    | r => r⟩

def operFn (o : AOper) : OpFn := dstFn o.dst (guardFn o.guard (opFn o.op))

structure OpsFn where
  run : Runner → Env → St → Out

def opsFn : List AOper → OpsFn
  | [] => ⟨fun _ _ s => some (.normal, s)⟩
  | o :: os => match o with
    | ⟨none, none, .mov x⟩ => ⟨fun R e s => (opsFn os).run R (x.ev e s.regs :: e) s⟩
    | ⟨some d, none, .mov x⟩ => ⟨fun R e s => (opsFn os).run R (x.ev e s.regs :: e) ⟨(putFn (Nat.succ d) d).run (x.ev e s.regs) s.regs, s.heap, s.defers, s.below⟩⟩
    | ⟨none, none, .d f⟩ => ⟨fun R e s => match f.f e s.regs with
      | .val v => (opsFn os).run R (v :: e) s
      | d => match runD s.heap d with
        | some (v, h) => (opsFn os).run R (v :: e) ⟨s.regs, h, s.defers, s.below⟩
        | none => none⟩
    | o => ⟨fun R e s => match (operFn o).run R e s with
      | .on v s' => (opsFn os).run R (v :: e) s'
      | .out x s' => some (x, s')
      | .lost => none⟩

/-! #### Regions that draw their order -/

def sameInts : List Int → List Int → Bool
  | [] => fun y => match y with
    | [] => true
    | _ :: _ => false
  | a :: x => fun y => match y with
    | [] => false
    | b :: y => ifB (eqQ a b) (sameInts x y) false

mutual
/-- Are two values one, as far as can be seen? -/
def AV.same : AV → AV → Bool
  | .bool a, .bool b => a == b
  | .int k a, .int k' b => kEq k k' && eqQ a b
  | .str a, .str b => strEq a b
  | .sym k i l, .sym k' i' l' => kEq k k' && (i == i' && sameInts l l')
  | .rest k m i l, .rest k' m' i' l' => kEq k k' && (m == m' && (i == i' && sameInts l l'))
  | .sstr a, .sstr b => AV.sames a b
  | .ex k i o, .ex k' i' o' => kEq k k' && (i == i' && eqQ o o')
  | .any p, .any q => p == q
  | .xptr i a s o, .xptr i' a' s' o' => i == i' && (a == a' && (s == s' && eqQ o o'))
  | .xsl i a s o e l c, .xsl i' a' s' o' e' l' c' => i == i' && (a == a' && (s == s' && (eqQ o o' && (e == e' && (l == l' && eqQ c c')))))
  | .ptr a, .ptr b => a == b
  | .sl a e l c x, .sl a' e' l' c' x' => a == a' && e == e' && l == l' && c == c' && x == x'
  | .map a, .map b => a == b
  | .fn f a b, .fn f' a' b' => f == f' && AV.sames a a' && AV.sames b b'
  | .nilFn, .nilFn => true
  | .iface t v, .iface t' v' => t == t' && AV.same v v'
  | .nilIface, .nilIface => true
  | .agg a, .agg b => AV.sames a b
  | .tup a, .tup b => AV.sames a b
  | _, _ => false
def AV.sames : List AV → List AV → Bool
  | [], [] => true
  | a :: x, b :: y => AV.same a b && AV.sames x y
  | _, _ => false
end

structure Look where
  d : DRes
  v : AV
  lo : Nat
  hi : Nat

/-- Does a read give one thing in all heaps between two counts of writers? (The heaps come last first, 'k': how many writers the first of them has seen.) -/
def stableIn (l : Look) : List AHeap → Nat → Bool
  | [] => fun _ => true
  | h :: hs => fun k =>
    (bif Nat.ble l.lo k && Nat.ble k l.hi then (match runD h l.d with | some (v, _) => AV.same l.v v | none => false) else true) && stableIn l hs (k - 1)

def looksOk (ls : List Look) (hs : List AHeap) (k : Nat) : Bool := ls.all fun l => stableIn l hs k

/-- What a read saw, to be held against the other heaps; nothing where no writer may come between. -/
def lookAt (d : DRes) (h : AHeap) (lo hi : Nat) : List Look :=
  match d with
  | .read .. | .readT .. | .readMap .. | .readX .. => match runD h d with
    | some (v, _) => [⟨d, v, lo, hi⟩]
    | none => []
  | _ => []

def isW (o : AOper) : Bool := match o.op with | .w _ => true | _ => false

structure LookFn where
  run : Env → St → List Look

def lookFn (o : AOper) (lo hi : Nat) : LookFn :=
  match o.op with
    | .d f => match o.guard with
      | none => ⟨fun e s => lookAt (f.f e s.regs) s.heap lo hi⟩
      | some (x, want) => ⟨fun e s => match guardMet (x.ev e s.regs) want with
        | some true => lookAt (f.f e s.regs) s.heap lo hi
        | _ => []⟩
    | _ => ⟨fun _ _ => []⟩

structure DrawFn where
  run : Runner → Env → St → List AHeap → Nat → List Look → Out

/-- A region that draws its order, in one order: first all that needs no writer, then the first writer, and so on. 'hs': the heaps behind each count of writers, the last first; 'k': how many writers there were. -/
def drawFn : List (AOper × Nat × Nat) → DrawFn
  | [] => ⟨fun _ _ s hs k ls => bif looksOk ls (s.heap :: hs) k then some (.normal, s) else none⟩
  | (o, lo, hi) :: os =>
    bif isW o then
      ⟨fun R e s hs k ls => match (operFn o).run R e s with
        | .on v s' => (drawFn os).run R (v :: e) s' (s.heap :: hs) (k + 1) ls
        | .out x s' => bif looksOk ls (s.heap :: hs) k then some (x, s') else none
        | .lost => none⟩
    else
      ⟨fun R e s hs k ls => match (operFn o).run R e s with
        | .on v s' => (drawFn os).run R (v :: e) s' hs k ((lookFn o lo hi).run e s ++ ls)
        | _ => none⟩

def junkAll : List Nat → Regs → Regs
  | [], r => r
  | d :: ds, r => junkAll ds (T.put r d (some .junk))

/-! #### Code -/

structure CodeFn where
  run : Runner → St → Out

def codeFn : ACode → CodeFn
  | .skip => ⟨fun _ s => some (.normal, s)⟩
  | .region ops => ⟨fun R s => (opsFn ops).run R [] s⟩
  | .draw ord dsts => ⟨fun R s => match (drawFn ord).run R [] ⟨s.regs, s.heap, s.defers, none⟩ [] 0 [] with
    | some (.normal, s') => some (.normal, ⟨s'.regs, s'.heap, s'.defers, s.below⟩)
    | some (x, s') => some (x, ⟨junkAll dsts s'.regs, s'.heap, s'.defers, s.below⟩)
    | none => none⟩
  | .seq a b => ⟨fun R s => match (codeFn a).run R s with
    | some (.normal, s') => (codeFn b).run R s'
    | r => r⟩
  | .cond c a b => ⟨fun R s => match c.ev [] s.regs with
    | .bool true => (codeFn a).run R s
    | .bool false => (codeFn b).run R s
    | _ => none⟩
  | .block id b => ⟨fun R s => match (codeFn b).run R s with
    | some (.exit i, s') => bif Nat.beq i id then some (.normal, s') else some (.exit i, s')
    | r => r⟩
  | .loop b => ⟨fun R s => R.loop b s⟩
  | .exit id => ⟨fun _ s => some (.exit id, s)⟩
  | .ret => ⟨fun _ s => some (.ret, s)⟩
  | .bad => ⟨fun _ _ => none⟩

/-- What is known ahead of a function: its contract. -/
abbrev Oracle := FuncId → List AV → AHeap → Option (AEnd × AHeap)

structure Prog where
  func : FuncId → Option AFunc
  oracle : Oracle

def resOf (r : Regs) (h : AHeap) : List ARes → Option (List AV)
  | [] => some []
  | .tmp t :: rs => match resOf r h rs with
    | some vs => some (r.val t :: vs)
    | none => none
  | .cell a n agg :: rs => match r.val a with
    | .ptr (some (i, o)) => match h.cellsAt i o n with
      | some cs => match aggOf agg cs with
        | some v => match resOf r h rs with
          | some vs => some (v :: vs)
          | none => none
        | none => none
      | none => none
    | _ => none

def tupOf : List AV → AV
  | [v] => v
  | vs => .tup vs

/-- A recovered panic settles. -/
def settleA : Option Chain → Option Chain
  | some ((_, true) :: _) => none
  | m => m

/-- The deferred calls, the last one first. 'm': does the frame panic? -/
def runDefers (R : Runner) (results : List ARes) (regs : Regs) : List ADef → Option Chain → AHeap → Option (AEnd × AHeap)
  | [], none, h => match resOf regs h results with
    | some vs => some (.returned (tupOf vs), h)
    | none => none
  | [], some c, h => some (.panicked c, h)
  | d :: ds, m, h => match R.callD d.f d.args m h with
    | some (.returned _, m', h') => runDefers R results regs ds (settleA m') h'
    | some (.panicked c, m', h') => runDefers R results regs ds (some (match m' with | some old => c ++ old | none => c)) h'
    | none => none

def argRegs : List AV → Nat → Regs → Regs
  | [] => fun _ r => r
  | v :: vs => fun i r => argRegs vs (i + 1) (T.put r i (some v))

def callBody (R : Runner) (fn : AFunc) (args : List AV) (h : AHeap) : Option (AEnd × AHeap) :=
  bif !Nat.ble (lenQ args) fn.np then none else
  match (codeFn fn.body).run R ⟨argRegs args 0 .nil, h, [], none⟩ with
  | some (.normal, s) => runDefers R fn.results s.regs s.defers none s.heap
  | some (.ret, s) => runDefers R fn.results s.regs s.defers none s.heap
  | some (.panic c, s) => runDefers R fn.results s.regs s.defers (some c) s.heap
  | _ => none

def callStep (P : Prog) (R : Runner) (f : FuncId) (args : List AV) (h : AHeap) : Option (AEnd × AHeap) :=
  match P.oracle f args h with
  | some r => some r
  | none => match P.func f with
    | some fn => callBody R fn args h
    | none => none

def callDBody (R : Runner) (fn : AFunc) (args : List AV) (m : Option Chain) (h : AHeap) : Option (AEnd × Option Chain × AHeap) :=
  bif !Nat.ble (lenQ args) fn.np then none else
  match (codeFn fn.body).run R ⟨argRegs args 0 .nil, h, [], some m⟩ with
  | some (.normal, s) => match s.defers, s.below, resOf s.regs s.heap fn.results with
    | [], some m, some vs => some (.returned (tupOf vs), m, s.heap)
    | _, _, _ => none
  | some (.ret, s) => match s.defers, s.below, resOf s.regs s.heap fn.results with
    | [], some m, some vs => some (.returned (tupOf vs), m, s.heap)
    | _, _, _ => none
  | some (.panic c, s) => match s.defers, s.below with
    | [], some m => some (.panicked c, m, s.heap)
    | _, _ => none
  | _ => none

def callDStep (P : Prog) (R : Runner) (f : FuncId) (args : List AV) (m : Option Chain) (h : AHeap) : Option (AEnd × Option Chain × AHeap) :=
  match P.func f with
  | some fn => callDBody R fn args m h
  | none => none

/-- A loop: a round, then the loop again. -/
def loopStep (R : Runner) (b : ACode) (s : St) : Out :=
  match (codeFn b).run R s with
  | some (.normal, s') => R.loop b s'
  | r => r

def Runner.zero : Runner := { loop := fun _ _ => none, call := fun _ _ _ => none, callD := fun _ _ _ _ => none }

def Runner.succ (P : Prog) (R : Runner) : Runner := { loop := loopStep R, call := callStep P R, callD := callDStep P R }

def runner (P : Prog) : Nat → Runner
  | 0 => Runner.zero
  | n + 1 => Runner.succ P (runner P n)

end -- nc
end Go.Abs

/- The abstract machine: how the model's code becomes its code. No statement is proved here. -/
namespace Go.Abs
noncomputable section

mutual
def ofValue : Value → Option AV
  | .bool b => some (.bool b)
  | .int k n => some (.int k n)
  | .string s => some (.str s.data.toList)
  | .pointer none => some (.ptr none)
  | .slice none 0 0 => some (.sl none 0 0 0 true)
  | .map none => some (.map none)
  | .nilFunc => some .nilFn
  | .nilIface => some .nilIface
  | .agg ⟨cs⟩ => (ofValues cs).map .agg
  | .tuple ⟨cs⟩ => (ofValues cs).map .tup
  | .iface t v => (ofValue v).map (.iface t)
  | _ => none
def ofValues : List Value → Option (List AV)
  | [] => some []
  | v :: vs => match ofValue v with
    | some a => (ofValues vs).map (a :: ·)
    | none => none
end

/-- Where the latest result for a place of the frame stands among the region's results so far. -/
def locOf (t : Nat) : List (Option Nat) → Nat → Option Nat
  | [], _ => none
  | d :: ds, k => if d == some t then some k else locOf t ds (k + 1)

abbrev Ctx := List (Option Nat)

def cOpd (P : Program) (x : Ctx) : Operand → Option Opd
  | .tmp t => match locOf t x 0 with
    | some k => some (.loc k)
    | none => some (.tmp t)
  | .const v => (ofValue v).map .const
  | .global g => if g < P.globals.size then some (.glob g) else none
  | .func f => some (.func f)

def cOpds (P : Program) (x : Ctx) : List Operand → Option (List Opd)
  | [] => some []
  | y :: ys => (cOpd P x y).bind fun a => (cOpds P x ys).map (a :: ·)

def cOpdO (P : Program) (x : Ctx) : Option Operand → Option (Option Opd)
  | none => some none
  | some y => (cOpd P x y).map some

def sizeT (P : Program) (t : TypeId) : Option Nat := (P.info? t).map (·.size)
def bytesT (P : Program) (t : TypeId) : Option Nat := (P.info? t).map (·.bytes)
def isAggT (P : Program) (t : TypeId) : Option Bool := (P.underlying t).map fun
  | .struct _ | .array _ _ => true
  | _ => false
def zeroT (P : Program) (t : TypeId) : Option AV := (P.info? t).bind fun i => i.zero.bind ofValue

def nkOf : TypeDesc → Option NK
  | .pointer _ => some .ptr
  | .slice _ => some .sl
  | .map _ _ => some .map
  | .func _ _ _ => some .fn
  | .interface _ => some .iface
  | _ => none

def nilOpd (k : NK) (x : Operand) : Bool :=
  match k with
  | .ptr => match x with | .const (.pointer none) => true | _ => false
  | .sl => match x with | .const (.slice none 0 0) => true | _ => false
  | .map => match x with | .const (.map none) => true | _ => false
  | .fn => match x with | .const .nilFunc => true | _ => false
  | .iface => match x with | .const .nilIface => true | _ => false

def kindOf (P : Program) (t : TypeId) : Option KK :=
  match P.underlying t with
  | some (.int _) => some .int
  | some .bool => some .bool
  | some .string => some .str
  | _ => none

def fieldKinds (P : Program) : List Field → Nat → Option (List KK)
  | [], _ => some []
  | f :: fs, i => if f.name != "_" && f.offset == i then (kindOf P f.type).bind fun k => (fieldKinds P fs (i + 1)).map (k :: ·) else none

/-- A struct whose fields are all numbers, bools or strings, one cell each, one behind the other: of what kinds. -/
def plainStruct (P : Program) (t : TypeId) : Option (List KK) :=
  match P.underlying t with
  | some (.struct fs) => if !P.stoodInHeld t && !P.eqGuardType P.depth t then fieldKinds P fs.toList 0 else none
  | _ => none

/-- Against the literal nil: the other operand. -/
def againstNil (k : NK) (x y : Operand) : Option Operand := if nilOpd k y then some x else if nilOpd k x then some y else none

def cNil (P : Program) (c : Ctx) (k : NK) (op : BinOp) (x y : Operand) : Option DFn :=
  (againstNil k x y).bind fun z => (cOpd P c z).bind fun a => match op with
    | .eql => some (dNil k false a)
    | .neq => some (dNil k true a)
    | _ => none

def cBin [Fct] (P : Program) (c : Ctx) (op : BinOp) (xt : TypeId) (x y : Operand) : Option DFn :=
  match P.underlying xt with
  | some (.int k) => (cOpd P c x).bind fun a => (cOpd P c y).bind fun b => match op with
    | .add => some (dAdd k a b) | .sub => some (dSub k a b) | .mul => some (dMul k a b) | .quo => some (dQuo k a b) | .rem => some (dRem k a b)
    | .and => some (dBits .and k a b) | .or => some (dBits .or k a b) | .xor => some (dBits .xor k a b) | .andNot => some (dBits .andNot k a b)
    | .shl => some (dShift true k a b) | .shr => some (dShift false k a b)
    | .eql => some (dEql a b) | .neq => some (dNeq a b) | .lss => some (dLss a b) | .leq => some (dLeq a b) | .gtr => some (dGtr a b) | .geq => some (dGeq a b)
  | some .string => (cOpd P c x).bind fun a => (cOpd P c y).bind fun b => match op with
    | .add => some (dCat a b) | .eql => some (dStrEq false a b) | .neq => some (dStrEq true a b) | _ => none
  | some .bool => (cOpd P c x).bind fun a => (cOpd P c y).bind fun b => match op with
    | .eql => some (dBoolEq false a b) | .neq => some (dBoolEq true a b) | _ => none
  | some (.pointer e) => match againstNil .ptr x y with
    | some _ => cNil P c .ptr op x y
    | none => (sizeT P e).bind fun n => if n = 0 then none else (cOpd P c x).bind fun a => (cOpd P c y).bind fun b => match op with
      | .eql => some (dPtrEq false a b) | .neq => some (dPtrEq true a b) | _ => none
  | some (.slice _) => cNil P c .sl op x y
  | some (.map _ _) => cNil P c .map op x y
  | some (.func _ _ _) => cNil P c .fn op x y
  | some (.interface _) => cNil P c .iface op x y
  | some (.struct _) => (plainStruct P xt).bind fun n => (cOpd P c x).bind fun a => (cOpd P c y).bind fun b => match op with
    | .eql => some (dStructEq false n a b) | .neq => some (dStructEq true n a b) | _ => none
  | _ => none

/-- Where, in blocks of what type, a variable of a type lies: a block of it, or a field of a struct. -/
def fitsOf (P : Program) (u : TypeId) : List (TypeId × Nat × Nat) :=
  (((u, 0, P.cellsOf u) :: (List.range P.types.size).flatMap fun t => match P.underlying t with
    | some (.struct fs) => (fs.toList.filter fun f => f.type == u).map fun f => (t, f.offset, P.cellsOf t)
    | _ => []).filter fun p => Nat.blt 0 (P.cellsOf p.1) && (Nat.beq p.2.2 (P.cellsOf p.1) && liesAt P P.depth p.1 1 p.2.1 u 1))

inductive APrim where
  | nothing | marked | load (k : IntKind) | store | add (k : IntKind) | cas (k : IntKind) | indexByte | same

def cPrim (name : String) : Option APrim :=
  if name = "internal/race.Disable" ∨ name = "internal/race.Enable" then some .nothing
  else if name = "internal/race.Acquire" ∨ name = "internal/race.ReleaseMerge" then some .marked
  else if name = "sync/atomic.LoadInt64" then some (.load .i64)
  else if name = "sync/atomic.LoadUint32" then some (.load .u32)
  else if name = "sync/atomic.LoadInt32" then some (.load .i32)
  else if name = "sync/atomic.StoreUint32" then some .store
  else if name = "sync/atomic.AddInt64" then some (.add .i64)
  else if name = "sync/atomic.AddInt32" then some (.add .i32)
  else if name = "sync/atomic.CompareAndSwapInt32" then some (.cas .i32)
  else if name = "internal/bytealg.IndexByteString" then some .indexByte
  else if name = "internal/abi.NoEscape" then some .same
  else none

def primOp (p : APrim) (xs : List Opd) : Option AOp :=
  match p, xs with
  | .nothing, _ => some (.d dNothing)
  | .marked, [x] => some (.d (dMarked x))
  | .load k, [x] => some (.d (dAtomicLoad k x))
  | .store, [x, y] => some (.w (wAtomicStore x y))
  | .add k, [x, y] => some (.w (wAtomicAdd k x y))
  | .cas k, [x, y, z] => some (.w (wCas k x y z))
  | .indexByte, [x, y] => some (.d (dIndexByte x y))
  | .same, [x] => some (.d (dSame x))
  | _, _ => none

def cBuiltin [Fct] (P : Program) (b : Builtin) (ts : List TypeId) (xs : List Opd) : Option AOp :=
  match b, ts, xs with
  | .len, t :: _, [x] => match P.underlying t with
    | some .string => some (.d (dLenStr x))
    | some (.slice _) => some (.d (dLenSl x))
    | some (.map _ _) => some (.d (dLenMap x))
    | _ => none
  | .append, t :: u :: _, [s, x] => match P.underlying t, P.underlying u with
    | some (.slice e), some (.slice _) => (sizeT P e).bind fun n => (bytesT P e).bind fun b => (zeroT P e).bind fun z => if 0 < n ∧ z.cells.length = n then some (.w (wAppend e n b s x)) else none
    | some (.slice e), some .string => (sizeT P e).bind fun n => (bytesT P e).bind fun b => (zeroT P e).bind fun z => if 0 < n ∧ z.cells.length = n then some (.w (wAppend e n b s x)) else none
    | _, _ => none
  | .min, t :: _, [x, y] => match P.underlying t with
    | some (.int _) => some (.d (dMin x y))
    | _ => none
  | .max, t :: _, [x, y] => match P.underlying t with
    | some (.int _) => some (.d (dMax x y))
    | _ => none
  | .clear, t :: _, [x] => match P.underlying t with
    | some (.slice e) => (zeroT P e).bind fun z => some (.w (wClear z.cells x))
    | _ => none
  | .recover, _, [] => some (.w wRecover)
  | .unsafeSliceData, _, [x] => some (.d (dSliceData x))
  | .unsafeString, [t, _], [x, n] => match P.underlying t with
    | some (.pointer e) => if P.cellsOf e = 1 then some (.w (wUnsafeStr (fun t => Nat.beq t e) x n)) else none
    | _ => none
  | _, _, _ => none

def cCall [Fct] (P : Program) (c : Ctx) (k : Call) : Option AOp :=
  (cOpds P c k.args.toList).bind fun xs => match k.callee with
  | .invoke _ _ => none
  | .builtin b => cBuiltin P b k.argTypes.toList xs
  | .value (.func f) => (P.funcs[f]?).bind fun fn =>
    if fn.name = "runtime.NumGoroutine" then none
    else if fn.body.isSome then some (.w (wCall f xs))
    else if (Extern.findNext fn).isNone then (cPrim fn.name).bind fun p => primOp p xs else none
  | .value x => (cOpd P c x).bind fun x => some (.w (wCallV x xs))

def cParts (P : Program) (c : Ctx) (fs : Array Field) : List (Nat × Operand) → Option (List (Nat × Nat × Opd))
  | [] => some []
  | p :: ps => (fs[p.1]?).bind fun (f : Field) => (sizeT P f.type).bind fun n => (cOpd P c p.2).bind fun x => (cParts P c fs ps).map ((f.offset, n, x) :: ·)

def cElems (P : Program) (c : Ctx) (n : Nat) : List (Nat × Operand) → Option (List (Nat × Nat × Opd))
  | [] => some []
  | p :: ps => (cOpd P c p.2).bind fun x => (cElems P c n ps).map ((p.1 * n, n, x) :: ·)

def cOp.cMapUpdate (P : Program) (c : Ctx) (t : TypeId) (m k v : Operand) : Option AOp :=
  (cOpd P c m).bind fun m => (cOpd P c k).bind fun k => (cOpd P c v).bind fun v => match P.underlying t with
    | some (.map kt _) => (kindOf P kt).map fun kk => .w (wMapUpdate kk m k v)
    | _ => none

def cOp [Fct] (P : Program) (c : Ctx) (op : Op) : Option AOp :=
  match op with
  | .move x => (cOpd P c x).map .mov
  | .assign x => (cOpd P c x).map .mov
  | .pick x a b => (cOpd P c x).bind fun x => (cOpd P c a).bind fun a => (cOpd P c b).map fun b => .d (dPick x a b)
  | .alloc t => (zeroT P t).map fun z => .d (dAlloc t z.cells)
  | .box t x => (cOpd P c x).map fun x => .d (dBox t x)
  | .build t parts => (zeroT P t).bind fun z => match P.underlying t with
    | some (.struct fs) => if fs.toList.all fun f => (sizeT P f.type).isSome then (cParts P c fs parts.toList).map fun ps => .d (dBuild z.cells ps) else none
    | some (.array _ e) => (sizeT P e).bind fun n => (cElems P c n parts.toList).map fun ps => .d (dBuild z.cells ps)
    | _ => none
  | .buildSlice t len parts => match P.underlying t with
    | some (.slice e) => (sizeT P e).bind fun n => (zeroT P e).bind fun z =>
      if len * n ≤ 2 ^ 24 ∧ z.cells.length = n ∧ 0 < n then (cElems P c n parts.toList).map fun ps => .d (dBuildSlice e n len (List.replicate len z.cells).flatten ps) else none
    | _ => none
  | .load t a => (sizeT P t).bind fun n => (isAggT P t).bind fun g => (cOpd P c a).bind fun a => if g || n == 1 then some (.d (dLoad n g a)) else none
  | .store t a v => (sizeT P t).bind fun n => (cOpd P c a).bind fun a => (cOpd P c v).map fun v => .w (wStore n a v)
  | .nilCheck x => (cOpd P c x).map fun x => .d (dNilCheck x)
  | .binOp op xt x y _ => (cBin P c op xt x y).map .d
  | .unOp op xt x => (cOpd P c x).bind fun x => match op, P.underlying xt with
    | .neg, some (.int k) => some (.d (dNeg k x))
    | .xor, some (.int k) => some (.d (dBitNot k x))
    | .not, some .bool => some (.d (dNot x))
    | _, _ => none
  | .convert s d x => (cOpd P c x).bind fun x => match P.underlying s, P.underlying d with
    | some (.int _), some (.int k) => some (.d (dConv k x))
    | some (.int _), some .string => some (.d (dRuneToStr x))
    | some (.slice e), some .string => match P.underlying e with
      | some (.int .u8) => some (.d (dBytesToStr x))
      | _ => none
    | some (.pointer t), some .unsafePointer => (sizeT P t).bind fun n => if n = 0 then none else some (.d (toUnsafe x))
    | some .unsafePointer, some (.pointer u) => (sizeT P u).bind fun n => if n = 0 then none else some (.d (ofUnsafe (fitsOf P u) x))
    | some (.slice _), some (.slice e) => match P.underlying e with
      | some (.int .u8) => if s = d then some (.w (wMarkBytes x)) else none
      | _ => none
    | _, _ => none
  | .makeInterface t x => match P.underlying t with
    | some (.interface _) => none
    | some _ => (cOpd P c x).map fun x => .d (dIface t x)
    | none => none
  | .makeFunc (.func f) first captured => (cOpds P c first.toList).bind fun a => (cOpds P c captured.toList).map fun b => .d (dFunc f a b)
  | .makeMap _ none => some (.d dMkMap)
  | .makeSlice t l k => match P.underlying t with
    | some (.slice e) => (sizeT P e).bind fun n => (bytesT P e).bind fun b => (zeroT P e).bind fun z => (cOpd P c l).bind fun l => (cOpd P c k).bind fun k =>
      if z.cells.length = n ∧ 0 < n then some (.d (dMkSlice e n b z.cells l k)) else none
    | _ => none
  | .slice t x lo hi mx => (cOpd P c x).bind fun x => (cOpdO P c lo).bind fun lo => (cOpdO P c hi).bind fun hi => (cOpdO P c mx).bind fun mx => match P.underlying t with
    | some .string => if mx.isNone then some (.d (dSliceStr x lo hi)) else none
    | some (.slice e) => (sizeT P e).bind fun s => if mx.isSome && hi.isNone then none else some (.d (dSliceSl s x lo hi mx))
    | some (.array n e) => (sizeT P e).bind fun s => if mx.isNone then some (.d (dSliceArr n s x lo hi)) else none
    | _ => none
  | .fieldAddr s x f => match P.underlying s with
    | some (.struct fs) => (fs[f]?).bind fun (f : Field) => (sizeT P f.type).bind fun n => if n = 0 then none else (cOpd P c x).map fun x => .d (dAddOff f.offset x)
    | _ => none
  | .field t x f => match P.underlying t with
    | some (.struct fs) => (fs[f]?).bind fun (f : Field) => (sizeT P f.type).bind fun n => (isAggT P f.type).bind fun g => (cOpd P c x).bind fun x => if g || n == 1 then some (.d (dField f.offset n g x)) else none
    | _ => none
  | .indexAddr t x i => (cOpd P c x).bind fun x => (cOpd P c i).bind fun i => match P.underlying t with
    | some (.slice e) => (sizeT P e).map fun s => .d (dIdxSl s x i)
    | some (.array n e) => (sizeT P e).map fun s => .d (dIdxArr n s x i)
    | _ => none
  | .index t x i => (cOpd P c x).bind fun x => (cOpd P c i).bind fun i => match P.underlying t with
    | some .string => some (.d (dIdxStr x i))
    | _ => none
  | .lookup t x i ok => (cOpd P c x).bind fun x => (cOpd P c i).bind fun i => match P.underlying t with
    | some (.map k e) => (kindOf P k).bind fun kk => (zeroT P e).map fun z => .d (dLookup kk z ok x i)
    | _ => none
  | .mapUpdate t m k v => cOp.cMapUpdate P c t m k v
  | .insert t m k v => cOp.cMapUpdate P c t m k v
  | .range t x => (cOpd P c x).bind fun x => match P.underlying t with
    | some .string => some (.d (dRangeStr x))
    | _ => none
  | .next x true => (cOpd P c x).map fun x => .w (wNext x)
  | .typeAssert x _ t true => (cOpd P c x).bind fun x => match P.underlying t with
    | some (.interface _) => none
    | some _ => (zeroT P t).map fun z => .d (dAssert t z x)
    | none => none
  | .extract x i => (cOpd P c x).map fun x => .d (dExtract x i)
  | .call k => cCall P c k
  | .defer k => match k.callee with
    | .value x => (cOpd P c x).bind fun x => (cOpds P c k.args.toList).map fun xs => .w (wDefer x xs)
    | _ => none
  | .panic x => (cOpd P c x).map fun x => .w (wPanic x)
  | _ => none


/-- A move, or another operation. -/
def cOpM [Fct] (P : Program) (c : Ctx) (op : Op) : Option AOp :=
  match op with
  | .move x => (cOpd P c x).map .mov
  | .assign x => (cOpd P c x).map .mov
  | op => match cOp P c op with
    | some (.d f) => some (.d f)
    | some (.w f) => some (.w f)
    | _ => none

/-- Is a place of the frame kept? (An argument's; one of a list.) -/
def isLive (np : Nat) (live : List Nat) (t : Nat) : Bool := Nat.blt t np || live.contains t

def cGuard (P : Program) (ops : Array Oper) (c : Ctx) : Option (Nat × Bool) → Option (Option (Opd × Bool))
  | none => some none
  | some (j, want) => ((ops[j]?).bind (·.dst)).bind fun t => (cOpd P c (.tmp t)).map fun x => some (x, want)

structure Frm where
  ntmps : Nat
  np : Nat
  live : List Nat

def dstOk (n : Nat) (d : Option Nat) : Bool := match d with | some d => Nat.blt d n | none => true

def cOper [Fct] (P : Program) (F : Frm) (ops : Array Oper) (c : Ctx) (o : Oper) : Option AOper :=
  if dstOk F.ntmps o.dst = true then
    (cGuard P ops c o.guard).bind fun g => (cOpM P c o.op).map fun op => { dst := o.dst.filter (isLive F.np F.live), guard := g, op }
  else none

def cOpers [Fct] (P : Program) (F : Frm) (ops : Array Oper) : List Oper → Ctx → Option (List AOper)
  | [], _ => some []
  | o :: os, c => (cOper P F ops c o).bind fun a => (cOpers P F ops os (o.dst :: c)).map (a :: ·)

/-! ### Regions that draw their order -/

/-- Which operations must stand ahead of one; none: one that stands behind it in the text must. -/
def ancOf (anc : List (List Nat)) (i : Nat) (es : List Edge) : Option (List Nat) :=
  match es with
  | [] => some []
  | e :: es => if Region.binds .any e then (if e.on < i then (ancOf anc i es).map fun r => e.on :: (anc.getD e.on [] ++ r) else none) else ancOf anc i es

def ancAll : List Oper → Nat → List (List Nat) → Option (List (List Nat))
  | [], _, anc => some anc
  | o :: os, i, anc => (ancOf anc i o.after.toList).bind fun a => ancAll os (i + 1) (anc ++ [a.eraseDups])

def tmpsOf (l : List Operand) : List Nat := l.filterMap fun | .tmp t => some t | _ => none

def usesOf (ops : Array Oper) (o : Oper) : List Nat :=
  tmpsOf o.op.operands.toList ++
  (match o.guard with
   | some (g, _) => ((ops[g]?).bind (·.dst)).toList
   | none => [])

def memQ (a : Nat) (l : List Nat) : Bool := l.any (Nat.beq a)

def ancQ (anc : List (List Nat)) (i : Nat) : List Nat := anc.getD i []

def bindsOf (o : Oper) : List Nat := (o.after.toList.filter (Region.binds .any)).map (·.on)

/-- The result of one operation is read by others behind it, or those that read its place stand ahead of it; no two have one place. -/
def apartAll (anc : List (List Nat)) (ops : Array Oper) : Bool :=
  (List.range ops.size).all fun i => match ops[i]? with
    | some o => (List.range ops.size).all fun j => Nat.beq j i || (match ops[j]? with
      | some p => match p.dst with
        | some d => (match o.dst with | some d' => !Nat.beq d d' | none => true) && (!memQ d (usesOf ops o) || memQ j (ancQ anc i) || memQ i (ancQ anc j))
        | none => true
      | none => true)
    | none => true

abbrev DItem := Nat × AOper × Nat × Nat

def drawItems [Fct] (P : Program) (F : Frm) (ops : Array Oper) : List (Nat × Nat × Nat) → Ctx → Option (List DItem)
  | [], _ => some []
  | p :: ps, c => (ops[p.1]?).bind fun o => (cOper P F ops c o).bind fun a => (drawItems P F ops ps (o.dst :: c)).map ((p.1, a, p.2) :: ·)

/-- What must stand ahead is just what the edges say, and what they lead to. -/
def checkAnc (anc : List (List Nat)) (ops : Array Oper) : Bool :=
  (List.range ops.size).all fun i => match ops[i]? with
    | some o => (bindsOf o).all (fun j => memQ j (ancQ anc i) && (ancQ anc j).all fun x => memQ x (ancQ anc i)) && (ancQ anc i).all fun x => (bindsOf o).any fun j => Nat.beq x j || memQ x (ancQ anc j)
    | none => true

/-- The order holds each operation once, behind all that must stand ahead. -/
def checkOrder (anc : List (List Nat)) (n : Nat) : List DItem → List Nat → Bool
  | [], seen => (List.range n).all fun i => memQ i seen
  | it :: its, seen => Nat.blt it.1 n && (!memQ it.1 seen && ((ancQ anc it.1).all (fun x => memQ x seen) && checkOrder anc n its (it.1 :: seen)))

/-- Each stands behind the last writer that is ahead of it in the order; the counts of those that do not write are right. -/
def checkW (anc : List (List Nat)) : List DItem → Nat → Option Nat → Bool
  | [], _, _ => true
  | (i, ao, lo, _) :: its, k, last =>
    (match last with | some u => memQ u (ancQ anc i) | none => true) &&
    (bif isW ao then checkW anc its (k + 1) (some i) else Nat.beq lo k && checkW anc its k last)

def writersOf (items : List DItem) : List Nat := (items.filter fun it => isW it.2.1).map (·.1)

/-- The writers from the upper count on must stand behind. -/
def checkHi (anc : List (List Nat)) (ws : List Nat) (items : List DItem) : Bool :=
  items.all fun it => isW it.2.1 || (ws.drop it.2.2.2).all fun w => memQ it.1 (ancQ anc w)

def cDraw [Fct] (P : Program) (F : Frm) (ops : Array Oper) : Option ACode :=
  -- which operations write: told by what each is turned into, in the text's order
  (cOpers P F ops ops.toList []).bind fun first =>
  (ancAll ops.toList 0 []).bind fun anc =>
  let idx := List.range ops.size
  let isw := fun i => (first[i]?).any isW
  let ws := idx.filter isw
  let lo := fun i => (ws.filter fun w => memQ w (ancQ anc i)).length
  let hi := fun i => (ws.filter fun w => !memQ i (ancQ anc w)).length
  let dsts := ops.toList.filterMap (·.dst)
  let order := (List.range (ws.length + 1)).flatMap fun k => (idx.filter fun i => !isw i && Nat.beq (lo i) k) ++ (ws[k]?).toList
  (drawItems P F ops (order.map fun i => (i, lo i, hi i)) []).bind fun items =>
    if (checkAnc anc ops && (apartAll anc ops && (checkOrder anc ops.size items [] && (checkW anc items 0 none && checkHi anc (writersOf items) items)))) = true then
      some (.draw (items.map (·.2)) (dsts.filter (isLive F.np F.live)))
    else none

def cCode [Fct] (P : Program) (F : Frm) : Code → ACode
  | .skip => .skip
  | .label _ => .skip
  | .region _ ops false => match cOpers P F ops ops.toList [] with
    | some l => .region l
    | none => .bad
  | .region _ ops true => match cDraw P F ops with
    | some c => c
    | none => .bad
  | .seq a b => .seq (cCode P F a) (cCode P F b)
  | .cond c a b => match cOpd P [] c with
    | some c => .cond c (cCode P F a) (cCode P F b)
    | none => .bad
  | .block id b => .block id (cCode P F b)
  | .loop b => .loop (cCode P F b)
  | .scope b => cCode P F b
  | .exit id => .exit id
  | .ret => .ret
  | _ => .bad

def cRes (P : Program) : List ResultVar → Option (List ARes)
  | [] => some []
  | .tmp t :: rs => (cRes P rs).map (.tmp t :: ·)
  | .cell a t :: rs => (sizeT P t).bind fun n => (isAggT P t).bind fun g => if g || n == 1 then (cRes P rs).map (.cell a n g :: ·) else none

def cFunc [Fct] (P : Program) (live : FuncId → List Nat) (f : FuncId) : Option AFunc :=
  match P.funcs[f]? with
  | some fn => match fn.body with
    | some b => if fn.name = "runtime.NumGoroutine" then none else match cRes P fn.results.toList with
      | some rs => some { np := fn.params.size + fn.nfree, results := rs, body := cCode P ⟨fn.ntmps, fn.params.size + fn.nfree, live f⟩ b }
      | none => none
    | none => none
  | none => none

def progOf [Fct] (P : Program) (live : FuncId → List Nat) (O : Oracle) : Prog := { func := cFunc P live, oracle := O }

end -- nc
end Go.Abs
