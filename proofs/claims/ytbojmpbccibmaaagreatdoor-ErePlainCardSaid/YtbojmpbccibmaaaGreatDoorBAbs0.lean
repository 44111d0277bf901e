/- Small functions, each written so that Lean's kernel carries it out in few steps. No statement is proved here but their equations. -/
import GoSem.Claims
set_option linter.unusedVariables false
set_option linter.unusedSimpArgs false
set_option linter.unusedSectionVars false
set_option linter.deprecated false
namespace Go.Abs
noncomputable section

/-- The choice by a Bool, in one step for the kernel. -/
@[reducible] def ifB {α : Type} (b : Bool) (x y : α) : α := Bool.rec y x b

@[simp] theorem ifB_true {α : Type} (x y : α) : ifB true x y = x := rfl
@[simp] theorem ifB_false {α : Type} (x y : α) : ifB false x y = y := rfl

/-! ### Trees keyed by numbers -/

inductive T (α : Type) where
  | nil
  | node (l : T α) (v : Option α) (r : T α)

namespace T
variable {α : Type}

def get (t : T α) : Nat → Option α :=
  T.rec (motive := fun _ => Nat → Option α) (fun _ => none)
    (fun _ v _ gl gr n => ifB (Nat.beq n 0) v (ifB (Nat.beq (Nat.mod n 2) 1) (gl (Nat.div n 2)) (gr (Nat.pred (Nat.div n 2))))) t

/-- 'f': more than the number of digits. -/
def setF (x : Option α) (f : Nat) : T α → Nat → T α :=
  Nat.rec (motive := fun _ => T α → Nat → T α) (fun t _ => t)
    (fun _ ih t n => T.casesOn (motive := fun _ => T α) t
      (ifB (Nat.beq n 0) (.node .nil x .nil) (ifB (Nat.beq (Nat.mod n 2) 1) (.node (ih .nil (Nat.div n 2)) none .nil) (.node .nil none (ih .nil (Nat.pred (Nat.div n 2))))))
      (fun l v r => ifB (Nat.beq n 0) (.node l x r) (ifB (Nat.beq (Nat.mod n 2) 1) (.node (ih l (Nat.div n 2)) v r) (.node l v (ih r (Nat.pred (Nat.div n 2))))))) f

def put (t : T α) (n : Nat) (x : Option α) : T α := setF x (Nat.succ n) t n

end T


/-! ### Lists -/

def lenQ {α : Type} (l : List α) : Nat := List.rec (motive := fun _ => Nat → Nat) (fun n => n) (fun _ _ ih n => ih (Nat.succ n)) l 0

def nthQ {α : Type} (d : α) (e : List α) (k : Nat) : α :=
  Nat.rec (motive := fun _ => List α → α) (fun e => List.casesOn (motive := fun _ => α) e d fun v _ => v)
    (fun _ ih e => List.casesOn (motive := fun _ => α) e d fun _ vs => ih vs) k e

def getsQ {α : Type} (d : α) (c : T α) (n : Nat) : Nat → List α :=
  Nat.rec (motive := fun _ => Nat → List α) (fun _ => [])
    (fun _ ih o => Option.casesOn (motive := fun _ => List α) (c.get o) (d :: ih (Nat.succ o)) fun v => v :: ih (Nat.succ o)) n

def putsQ {α : Type} (vs : List α) : T α → Nat → T α :=
  List.rec (motive := fun _ => T α → Nat → T α) (fun c _ => c) (fun v _ ih c o => ih (c.put o (some v)) (Nat.succ o)) vs

end
end Go.Abs
