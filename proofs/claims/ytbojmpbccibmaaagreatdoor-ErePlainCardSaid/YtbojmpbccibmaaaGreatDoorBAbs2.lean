/- The abstract machine: how the model's code becomes its code. No statement is proved here. -/
import Derived.Test.YtbojmpbccibmaaaGreatDoorBAbs1
set_option linter.unusedVariables false
set_option linter.unusedSimpArgs false
set_option linter.unusedSectionVars false
set_option linter.deprecated false
namespace Go.Abs
noncomputable section

mutual
def ofValue : Value → Option AV
  | .bool b => some (.bool b)
  | .int k n => some (.int k n)
  | .string s => some (.str s.data.toList)
  | .pointer none => some (.ptr none)
  | .slice none 0 0 => some (.sl none 0 0 0 true)
  | .map none => some (.map none)
  | .nilFunc => some .nilFn
  | .nilIface => some .nilIface
  | .agg ⟨cs⟩ => (ofValues cs).map .agg
  | .tuple ⟨cs⟩ => (ofValues cs).map .tup
  | .iface t v => (ofValue v).map (.iface t)
  | _ => none
def ofValues : List Value → Option (List AV)
  | [] => some []
  | v :: vs => match ofValue v with
    | some a => (ofValues vs).map (a :: ·)
    | none => none
end

/-- Where the latest result for a place of the frame stands among the region's results so far. -/
def locOf (t : Nat) : List (Option Nat) → Nat → Option Nat
  | [], _ => none
  | d :: ds, k => if d == some t then some k else locOf t ds (k + 1)

abbrev Ctx := List (Option Nat)

def cOpd (P : Program) (x : Ctx) : Operand → Option Opd
  | .tmp t => match locOf t x 0 with
    | some k => some (.loc k)
    | none => some (.tmp t)
  | .const v => (ofValue v).map .const
  | .global g => if g < P.globals.size then some (.glob g) else none
  | .func f => some (.func f)

def cOpds (P : Program) (x : Ctx) : List Operand → Option (List Opd)
  | [] => some []
  | y :: ys => (cOpd P x y).bind fun a => (cOpds P x ys).map (a :: ·)

def cOpdO (P : Program) (x : Ctx) : Option Operand → Option (Option Opd)
  | none => some none
  | some y => (cOpd P x y).map some

def sizeT (P : Program) (t : TypeId) : Option Nat := (P.info? t).map (·.size)
def bytesT (P : Program) (t : TypeId) : Option Nat := (P.info? t).map (·.bytes)
def isAggT (P : Program) (t : TypeId) : Option Bool := (P.underlying t).map fun
  | .struct _ | .array _ _ => true
  | _ => false
def zeroT (P : Program) (t : TypeId) : Option AV := (P.info? t).bind fun i => i.zero.bind ofValue

def nkOf : TypeDesc → Option NK
  | .pointer _ => some .ptr
  | .slice _ => some .sl
  | .map _ _ => some .map
  | .func _ _ _ => some .fn
  | .interface _ => some .iface
  | _ => none

def nilOpd (k : NK) (x : Operand) : Bool :=
  match k with
  | .ptr => match x with | .const (.pointer none) => true | _ => false
  | .sl => match x with | .const (.slice none 0 0) => true | _ => false
  | .map => match x with | .const (.map none) => true | _ => false
  | .fn => match x with | .const .nilFunc => true | _ => false
  | .iface => match x with | .const .nilIface => true | _ => false

def kindOf (P : Program) (t : TypeId) : Option KK :=
  match P.underlying t with
  | some (.int _) => some .int
  | some .bool => some .bool
  | some .string => some .str
  | _ => none

def fieldKinds (P : Program) : List Field → Nat → Option (List KK)
  | [], _ => some []
  | f :: fs, i => if f.name != "_" && f.offset == i then (kindOf P f.type).bind fun k => (fieldKinds P fs (i + 1)).map (k :: ·) else none

/-- A struct whose fields are all numbers, bools or strings, one cell each, one behind the other: of what kinds. -/
def plainStruct (P : Program) (t : TypeId) : Option (List KK) :=
  match P.underlying t with
  | some (.struct fs) => if !P.stoodInHeld t && !P.eqGuardType P.depth t then fieldKinds P fs.toList 0 else none
  | _ => none

/-- Against the literal nil: the other operand. -/
def againstNil (k : NK) (x y : Operand) : Option Operand := if nilOpd k y then some x else if nilOpd k x then some y else none

def cNil (P : Program) (c : Ctx) (k : NK) (op : BinOp) (x y : Operand) : Option DFn :=
  (againstNil k x y).bind fun z => (cOpd P c z).bind fun a => match op with
    | .eql => some (dNil k false a)
    | .neq => some (dNil k true a)
    | _ => none

def cBin (P : Program) (c : Ctx) (op : BinOp) (xt : TypeId) (x y : Operand) : Option DFn :=
  match P.underlying xt with
  | some (.int k) => (cOpd P c x).bind fun a => (cOpd P c y).bind fun b => match op with
    | .add => some (dAdd k a b) | .sub => some (dSub k a b) | .mul => some (dMul k a b) | .quo => some (dQuo k a b) | .rem => some (dRem k a b)
    | .and => some (dBits .and k a b) | .or => some (dBits .or k a b) | .xor => some (dBits .xor k a b) | .andNot => some (dBits .andNot k a b)
    | .shl => some (dShift true k a b) | .shr => some (dShift false k a b)
    | .eql => some (dEql a b) | .neq => some (dNeq a b) | .lss => some (dLss a b) | .leq => some (dLeq a b) | .gtr => some (dGtr a b) | .geq => some (dGeq a b)
  | some .string => (cOpd P c x).bind fun a => (cOpd P c y).bind fun b => match op with
    | .add => some (dCat a b) | .eql => some (dStrEq false a b) | .neq => some (dStrEq true a b) | _ => none
  | some .bool => (cOpd P c x).bind fun a => (cOpd P c y).bind fun b => match op with
    | .eql => some (dBoolEq false a b) | .neq => some (dBoolEq true a b) | _ => none
  | some (.pointer e) => match againstNil .ptr x y with
    | some _ => cNil P c .ptr op x y
    | none => (sizeT P e).bind fun n => if n = 0 then none else (cOpd P c x).bind fun a => (cOpd P c y).bind fun b => match op with
      | .eql => some (dPtrEq false a b) | .neq => some (dPtrEq true a b) | _ => none
  | some (.slice _) => cNil P c .sl op x y
  | some (.map _ _) => cNil P c .map op x y
  | some (.func _ _ _) => cNil P c .fn op x y
  | some (.interface _) => cNil P c .iface op x y
  | some (.struct _) => (plainStruct P xt).bind fun n => (cOpd P c x).bind fun a => (cOpd P c y).bind fun b => match op with
    | .eql => some (dStructEq false n a b) | .neq => some (dStructEq true n a b) | _ => none
  | _ => none

/-- Where, in blocks of what type, a variable of a type lies: a block of it, or a field of a struct. -/
def fitsOf (P : Program) (u : TypeId) : List (TypeId × Nat × Nat) :=
  (((u, 0, P.cellsOf u) :: (List.range P.types.size).flatMap fun t => match P.underlying t with
    | some (.struct fs) => (fs.toList.filter fun f => f.type == u).map fun f => (t, f.offset, P.cellsOf t)
    | _ => []).filter fun p => Nat.blt 0 (P.cellsOf p.1) && (Nat.beq p.2.2 (P.cellsOf p.1) && liesAt P P.depth p.1 1 p.2.1 u 1))

inductive APrim where
  | nothing | marked | load (k : IntKind) | store | add (k : IntKind) | cas (k : IntKind) | indexByte | same

def cPrim (name : String) : Option APrim :=
  if name = "internal/race.Disable" ∨ name = "internal/race.Enable" then some .nothing
  else if name = "internal/race.Acquire" ∨ name = "internal/race.ReleaseMerge" then some .marked
  else if name = "sync/atomic.LoadInt64" then some (.load .i64)
  else if name = "sync/atomic.LoadUint32" then some (.load .u32)
  else if name = "sync/atomic.LoadInt32" then some (.load .i32)
  else if name = "sync/atomic.StoreUint32" then some .store
  else if name = "sync/atomic.AddInt64" then some (.add .i64)
  else if name = "sync/atomic.AddInt32" then some (.add .i32)
  else if name = "sync/atomic.CompareAndSwapInt32" then some (.cas .i32)
  else if name = "internal/bytealg.IndexByteString" then some .indexByte
  else if name = "internal/abi.NoEscape" then some .same
  else none

def primOp (p : APrim) (xs : List Opd) : Option AOp :=
  match p, xs with
  | .nothing, _ => some (.d dNothing)
  | .marked, [x] => some (.d (dMarked x))
  | .load k, [x] => some (.d (dAtomicLoad k x))
  | .store, [x, y] => some (.w (wAtomicStore x y))
  | .add k, [x, y] => some (.w (wAtomicAdd k x y))
  | .cas k, [x, y, z] => some (.w (wCas k x y z))
  | .indexByte, [x, y] => some (.d (dIndexByte x y))
  | .same, [x] => some (.d (dSame x))
  | _, _ => none

def cBuiltin (P : Program) (b : Builtin) (ts : List TypeId) (xs : List Opd) : Option AOp :=
  match b, ts, xs with
  | .len, t :: _, [x] => match P.underlying t with
    | some .string => some (.d (dLenStr x))
    | some (.slice _) => some (.d (dLenSl x))
    | some (.map _ _) => some (.d (dLenMap x))
    | _ => none
  | .append, t :: u :: _, [s, x] => match P.underlying t, P.underlying u with
    | some (.slice e), some (.slice _) => (sizeT P e).bind fun n => (bytesT P e).bind fun b => (zeroT P e).bind fun z => if 0 < n ∧ z.cells.length = n then some (.w (wAppend e n b s x)) else none
    | some (.slice e), some .string => (sizeT P e).bind fun n => (bytesT P e).bind fun b => (zeroT P e).bind fun z => if 0 < n ∧ z.cells.length = n then some (.w (wAppend e n b s x)) else none
    | _, _ => none
  | .min, t :: _, [x, y] => match P.underlying t with
    | some (.int _) => some (.d (dMin x y))
    | _ => none
  | .max, t :: _, [x, y] => match P.underlying t with
    | some (.int _) => some (.d (dMax x y))
    | _ => none
  | .clear, t :: _, [x] => match P.underlying t with
    | some (.slice e) => (zeroT P e).bind fun z => some (.w (wClear z.cells x))
    | _ => none
  | .recover, _, [] => some (.w wRecover)
  | .unsafeSliceData, _, [x] => some (.d (dSliceData x))
  | .unsafeString, [t, _], [x, n] => match P.underlying t with
    | some (.pointer e) => if P.cellsOf e = 1 then some (.w (wUnsafeStr (fun t => Nat.beq t e) x n)) else none
    | _ => none
  | _, _, _ => none

def cCall (P : Program) (c : Ctx) (k : Call) : Option AOp :=
  (cOpds P c k.args.toList).bind fun xs => match k.callee with
  | .invoke _ _ => none
  | .builtin b => cBuiltin P b k.argTypes.toList xs
  | .value (.func f) => (P.funcs[f]?).bind fun fn =>
    if fn.name = "runtime.NumGoroutine" then none
    else if fn.body.isSome then some (.w (wCall f xs))
    else if (Extern.findNext fn).isNone then (cPrim fn.name).bind fun p => primOp p xs else none
  | .value x => (cOpd P c x).bind fun x => some (.w (wCallV x xs))

def cParts (P : Program) (c : Ctx) (fs : Array Field) : List (Nat × Operand) → Option (List (Nat × Nat × Opd))
  | [] => some []
  | p :: ps => (fs[p.1]?).bind fun (f : Field) => (sizeT P f.type).bind fun n => (cOpd P c p.2).bind fun x => (cParts P c fs ps).map ((f.offset, n, x) :: ·)

def cElems (P : Program) (c : Ctx) (n : Nat) : List (Nat × Operand) → Option (List (Nat × Nat × Opd))
  | [] => some []
  | p :: ps => (cOpd P c p.2).bind fun x => (cElems P c n ps).map ((p.1 * n, n, x) :: ·)

def cOp.cMapUpdate (P : Program) (c : Ctx) (t : TypeId) (m k v : Operand) : Option AOp :=
  (cOpd P c m).bind fun m => (cOpd P c k).bind fun k => (cOpd P c v).bind fun v => match P.underlying t with
    | some (.map kt _) => (kindOf P kt).map fun kk => .w (wMapUpdate kk m k v)
    | _ => none

def cOp (P : Program) (c : Ctx) (op : Op) : Option AOp :=
  match op with
  | .move x => (cOpd P c x).map .mov
  | .assign x => (cOpd P c x).map .mov
  | .pick x a b => (cOpd P c x).bind fun x => (cOpd P c a).bind fun a => (cOpd P c b).map fun b => .d (dPick x a b)
  | .alloc t => (zeroT P t).map fun z => .d (dAlloc t z.cells)
  | .box t x => (cOpd P c x).map fun x => .d (dBox t x)
  | .build t parts => (zeroT P t).bind fun z => match P.underlying t with
    | some (.struct fs) => if fs.toList.all fun f => (sizeT P f.type).isSome then (cParts P c fs parts.toList).map fun ps => .d (dBuild z.cells ps) else none
    | some (.array _ e) => (sizeT P e).bind fun n => (cElems P c n parts.toList).map fun ps => .d (dBuild z.cells ps)
    | _ => none
  | .buildSlice t len parts => match P.underlying t with
    | some (.slice e) => (sizeT P e).bind fun n => (zeroT P e).bind fun z =>
      if len * n ≤ 2 ^ 24 ∧ z.cells.length = n ∧ 0 < n then (cElems P c n parts.toList).map fun ps => .d (dBuildSlice e n len (List.replicate len z.cells).flatten ps) else none
    | _ => none
  | .load t a => (sizeT P t).bind fun n => (isAggT P t).bind fun g => (cOpd P c a).bind fun a => if g || n == 1 then some (.d (dLoad n g a)) else none
  | .store t a v => (sizeT P t).bind fun n => (cOpd P c a).bind fun a => (cOpd P c v).map fun v => .w (wStore n a v)
  | .nilCheck x => (cOpd P c x).map fun x => .d (dNilCheck x)
  | .binOp op xt x y _ => (cBin P c op xt x y).map .d
  | .unOp op xt x => (cOpd P c x).bind fun x => match op, P.underlying xt with
    | .neg, some (.int k) => some (.d (dNeg k x))
    | .xor, some (.int k) => some (.d (dBitNot k x))
    | .not, some .bool => some (.d (dNot x))
    | _, _ => none
  | .convert s d x => (cOpd P c x).bind fun x => match P.underlying s, P.underlying d with
    | some (.int _), some (.int k) => some (.d (dConv k x))
    | some (.int _), some .string => some (.d (dRuneToStr x))
    | some (.slice e), some .string => match P.underlying e with
      | some (.int .u8) => some (.d (dBytesToStr x))
      | _ => none
    | some (.pointer t), some .unsafePointer => (sizeT P t).bind fun n => if n = 0 then none else some (.d (toUnsafe x))
    | some .unsafePointer, some (.pointer u) => (sizeT P u).bind fun n => if n = 0 then none else some (.d (ofUnsafe (fitsOf P u) x))
    | some (.slice _), some (.slice e) => match P.underlying e with
      | some (.int .u8) => if s = d then some (.w (wMarkBytes x)) else none
      | _ => none
    | _, _ => none
  | .makeInterface t x => match P.underlying t with
    | some (.interface _) => none
    | some _ => (cOpd P c x).map fun x => .d (dIface t x)
    | none => none
  | .makeFunc (.func f) first captured => (cOpds P c first.toList).bind fun a => (cOpds P c captured.toList).map fun b => .d (dFunc f a b)
  | .makeMap _ none => some (.d dMkMap)
  | .makeSlice t l k => match P.underlying t with
    | some (.slice e) => (sizeT P e).bind fun n => (bytesT P e).bind fun b => (zeroT P e).bind fun z => (cOpd P c l).bind fun l => (cOpd P c k).bind fun k =>
      if z.cells.length = n ∧ 0 < n then some (.d (dMkSlice e n b z.cells l k)) else none
    | _ => none
  | .slice t x lo hi mx => (cOpd P c x).bind fun x => (cOpdO P c lo).bind fun lo => (cOpdO P c hi).bind fun hi => (cOpdO P c mx).bind fun mx => match P.underlying t with
    | some .string => if mx.isNone then some (.d (dSliceStr x lo hi)) else none
    | some (.slice e) => (sizeT P e).bind fun s => if mx.isSome && hi.isNone then none else some (.d (dSliceSl s x lo hi mx))
    | some (.array n e) => (sizeT P e).bind fun s => if mx.isNone then some (.d (dSliceArr n s x lo hi)) else none
    | _ => none
  | .fieldAddr s x f => match P.underlying s with
    | some (.struct fs) => (fs[f]?).bind fun (f : Field) => (sizeT P f.type).bind fun n => if n = 0 then none else (cOpd P c x).map fun x => .d (dAddOff f.offset x)
    | _ => none
  | .field t x f => match P.underlying t with
    | some (.struct fs) => (fs[f]?).bind fun (f : Field) => (sizeT P f.type).bind fun n => (isAggT P f.type).bind fun g => (cOpd P c x).bind fun x => if g || n == 1 then some (.d (dField f.offset n g x)) else none
    | _ => none
  | .indexAddr t x i => (cOpd P c x).bind fun x => (cOpd P c i).bind fun i => match P.underlying t with
    | some (.slice e) => (sizeT P e).map fun s => .d (dIdxSl s x i)
    | some (.array n e) => (sizeT P e).map fun s => .d (dIdxArr n s x i)
    | _ => none
  | .index t x i => (cOpd P c x).bind fun x => (cOpd P c i).bind fun i => match P.underlying t with
    | some .string => some (.d (dIdxStr x i))
    | _ => none
  | .lookup t x i ok => (cOpd P c x).bind fun x => (cOpd P c i).bind fun i => match P.underlying t with
    | some (.map k e) => (kindOf P k).bind fun kk => (zeroT P e).map fun z => .d (dLookup kk z ok x i)
    | _ => none
  | .mapUpdate t m k v => cOp.cMapUpdate P c t m k v
  | .insert t m k v => cOp.cMapUpdate P c t m k v
  | .range t x => (cOpd P c x).bind fun x => match P.underlying t with
    | some .string => some (.d (dRangeStr x))
    | _ => none
  | .next x true => (cOpd P c x).map fun x => .w (wNext x)
  | .typeAssert x _ t true => (cOpd P c x).bind fun x => match P.underlying t with
    | some (.interface _) => none
    | some _ => (zeroT P t).map fun z => .d (dAssert t z x)
    | none => none
  | .extract x i => (cOpd P c x).map fun x => .d (dExtract x i)
  | .call k => cCall P c k
  | .defer k => match k.callee with
    | .value x => (cOpd P c x).bind fun x => (cOpds P c k.args.toList).map fun xs => .w (wDefer x xs)
    | _ => none
  | .panic x => (cOpd P c x).map fun x => .w (wPanic x)
  | _ => none


/-- A move, or another operation. -/
def cOpM (P : Program) (c : Ctx) (op : Op) : Option AOp :=
  match op with
  | .move x => (cOpd P c x).map .mov
  | .assign x => (cOpd P c x).map .mov
  | op => match cOp P c op with
    | some (.d f) => some (.d f)
    | some (.w f) => some (.w f)
    | _ => none

/-- Is a place of the frame kept? (An argument's; one of a list.) -/
def isLive (np : Nat) (live : List Nat) (t : Nat) : Bool := Nat.blt t np || live.contains t

def cGuard (P : Program) (ops : Array Oper) (c : Ctx) : Option (Nat × Bool) → Option (Option (Opd × Bool))
  | none => some none
  | some (j, want) => ((ops[j]?).bind (·.dst)).bind fun t => (cOpd P c (.tmp t)).map fun x => some (x, want)

structure Frm where
  ntmps : Nat
  np : Nat
  live : List Nat

def dstOk (n : Nat) (d : Option Nat) : Bool := match d with | some d => Nat.blt d n | none => true

def cOper (P : Program) (F : Frm) (ops : Array Oper) (c : Ctx) (o : Oper) : Option AOper :=
  if dstOk F.ntmps o.dst = true then
    (cGuard P ops c o.guard).bind fun g => (cOpM P c o.op).map fun op => { dst := o.dst.filter (isLive F.np F.live), guard := g, op }
  else none

def cOpers (P : Program) (F : Frm) (ops : Array Oper) : List Oper → Ctx → Option (List AOper)
  | [], _ => some []
  | o :: os, c => (cOper P F ops c o).bind fun a => (cOpers P F ops os (o.dst :: c)).map (a :: ·)

/-! ### Regions that draw their order -/

/-- Which operations must stand ahead of one; none: one that stands behind it in the text must. -/
def ancOf (anc : List (List Nat)) (i : Nat) (es : List Edge) : Option (List Nat) :=
  match es with
  | [] => some []
  | e :: es => if Region.binds .any e then (if e.on < i then (ancOf anc i es).map fun r => e.on :: (anc.getD e.on [] ++ r) else none) else ancOf anc i es

def ancAll : List Oper → Nat → List (List Nat) → Option (List (List Nat))
  | [], _, anc => some anc
  | o :: os, i, anc => (ancOf anc i o.after.toList).bind fun a => ancAll os (i + 1) (anc ++ [a.eraseDups])

def tmpsOf (l : List Operand) : List Nat := l.filterMap fun | .tmp t => some t | _ => none

def usesOf (ops : Array Oper) (o : Oper) : List Nat :=
  tmpsOf o.op.operands.toList ++
  (match o.guard with
   | some (g, _) => ((ops[g]?).bind (·.dst)).toList
   | none => [])

def memQ (a : Nat) (l : List Nat) : Bool := l.any (Nat.beq a)

def ancQ (anc : List (List Nat)) (i : Nat) : List Nat := anc.getD i []

def bindsOf (o : Oper) : List Nat := (o.after.toList.filter (Region.binds .any)).map (·.on)

/-- The result of one operation is read by others behind it, or those that read its place stand ahead of it; no two have one place. -/
def apartAll (anc : List (List Nat)) (ops : Array Oper) : Bool :=
  (List.range ops.size).all fun i => match ops[i]? with
    | some o => (List.range ops.size).all fun j => Nat.beq j i || (match ops[j]? with
      | some p => match p.dst with
        | some d => (match o.dst with | some d' => !Nat.beq d d' | none => true) && (!memQ d (usesOf ops o) || memQ j (ancQ anc i) || memQ i (ancQ anc j))
        | none => true
      | none => true)
    | none => true

abbrev DItem := Nat × AOper × Nat × Nat

def drawItems (P : Program) (F : Frm) (ops : Array Oper) : List (Nat × Nat × Nat) → Ctx → Option (List DItem)
  | [], _ => some []
  | p :: ps, c => (ops[p.1]?).bind fun o => (cOper P F ops c o).bind fun a => (drawItems P F ops ps (o.dst :: c)).map ((p.1, a, p.2) :: ·)

/-- What must stand ahead is just what the edges say, and what they lead to. -/
def checkAnc (anc : List (List Nat)) (ops : Array Oper) : Bool :=
  (List.range ops.size).all fun i => match ops[i]? with
    | some o => (bindsOf o).all (fun j => memQ j (ancQ anc i) && (ancQ anc j).all fun x => memQ x (ancQ anc i)) && (ancQ anc i).all fun x => (bindsOf o).any fun j => Nat.beq x j || memQ x (ancQ anc j)
    | none => true

/-- The order holds each operation once, behind all that must stand ahead. -/
def checkOrder (anc : List (List Nat)) (n : Nat) : List DItem → List Nat → Bool
  | [], seen => (List.range n).all fun i => memQ i seen
  | it :: its, seen => Nat.blt it.1 n && (!memQ it.1 seen && ((ancQ anc it.1).all (fun x => memQ x seen) && checkOrder anc n its (it.1 :: seen)))

/-- Each stands behind the last writer that is ahead of it in the order; the counts of those that do not write are right. -/
def checkW (anc : List (List Nat)) : List DItem → Nat → Option Nat → Bool
  | [], _, _ => true
  | (i, ao, lo, _) :: its, k, last =>
    (match last with | some u => memQ u (ancQ anc i) | none => true) &&
    (bif isW ao then checkW anc its (k + 1) (some i) else Nat.beq lo k && checkW anc its k last)

def writersOf (items : List DItem) : List Nat := (items.filter fun it => isW it.2.1).map (·.1)

/-- The writers from the upper count on must stand behind. -/
def checkHi (anc : List (List Nat)) (ws : List Nat) (items : List DItem) : Bool :=
  items.all fun it => isW it.2.1 || (ws.drop it.2.2.2).all fun w => memQ it.1 (ancQ anc w)

def cDraw (P : Program) (F : Frm) (ops : Array Oper) : Option ACode :=
  -- which operations write: told by what each is turned into, in the text's order
  (cOpers P F ops ops.toList []).bind fun first =>
  (ancAll ops.toList 0 []).bind fun anc =>
  let idx := List.range ops.size
  let isw := fun i => (first[i]?).any isW
  let ws := idx.filter isw
  let lo := fun i => (ws.filter fun w => memQ w (ancQ anc i)).length
  let hi := fun i => (ws.filter fun w => !memQ i (ancQ anc w)).length
  let dsts := ops.toList.filterMap (·.dst)
  let order := (List.range (ws.length + 1)).flatMap fun k => (idx.filter fun i => !isw i && Nat.beq (lo i) k) ++ (ws[k]?).toList
  (drawItems P F ops (order.map fun i => (i, lo i, hi i)) []).bind fun items =>
    if (checkAnc anc ops && (apartAll anc ops && (checkOrder anc ops.size items [] && (checkW anc items 0 none && checkHi anc (writersOf items) items)))) = true then
      some (.draw (items.map (·.2)) (dsts.filter (isLive F.np F.live)))
    else none

def cCode (P : Program) (F : Frm) : Code → ACode
  | .skip => .skip
  | .label _ => .skip
  | .region _ ops false => match cOpers P F ops ops.toList [] with
    | some l => .region l
    | none => .bad
  | .region _ ops true => match cDraw P F ops with
    | some c => c
    | none => .bad
  | .seq a b => .seq (cCode P F a) (cCode P F b)
  | .cond c a b => match cOpd P [] c with
    | some c => .cond c (cCode P F a) (cCode P F b)
    | none => .bad
  | .block id b => .block id (cCode P F b)
  | .loop b => .loop (cCode P F b)
  | .scope b => cCode P F b
  | .exit id => .exit id
  | .ret => .ret
  | _ => .bad

def cRes (P : Program) : List ResultVar → Option (List ARes)
  | [] => some []
  | .tmp t :: rs => (cRes P rs).map (.tmp t :: ·)
  | .cell a t :: rs => (sizeT P t).bind fun n => (isAggT P t).bind fun g => if g || n == 1 then (cRes P rs).map (.cell a n g :: ·) else none

def cFunc (P : Program) (live : FuncId → List Nat) (f : FuncId) : Option AFunc :=
  match P.funcs[f]? with
  | some fn => match fn.body with
    | some b => if fn.name = "runtime.NumGoroutine" then none else match cRes P fn.results.toList with
      | some rs => some { np := fn.params.size + fn.nfree, results := rs, body := cCode P ⟨fn.ntmps, fn.params.size + fn.nfree, live f⟩ b }
      | none => none
    | none => none
  | none => none

def progOf (P : Program) (live : FuncId → List Nat) (O : Oracle) : Prog := { func := cFunc P live, oracle := O }

end -- nc
end Go.Abs
