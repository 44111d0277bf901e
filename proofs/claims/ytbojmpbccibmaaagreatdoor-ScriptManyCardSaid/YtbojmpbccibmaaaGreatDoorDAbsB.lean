/- The abstract machine: laws of its trees, rows and small functions. -/
import Derived.Test.YtbojmpbccibmaaaGreatDoorDAbsA
import Derived.Calls
import Derived.Laws.Cells
import Derived.Laws.Entries
import Derived.Laws.NewBlocks
import Derived.Laws.Rows
import Derived.WalkKit
import Derived.Laws.LoneSync
import Derived.Laws.BytesString
import Derived.Laws.Externs
import Derived.LaidEql
import Derived.Laws.StructEq
set_option linter.unusedVariables false
set_option linter.unusedSimpArgs false
set_option linter.unusedSectionVars false
set_option linter.deprecated false
namespace Go.Abs

/-! ### Trees -/

namespace T
variable {α : Type}

@[simp] theorem get_nil (n : Nat) : (T.nil : T α).get n = none := rfl
theorem get_node (l : T α) (v : Option α) (r : T α) (n : Nat) : (T.node l v r).get n =
    ifB (Nat.beq n 0) v (ifB (Nat.beq (n % 2) 1) (l.get (n / 2)) (r.get (n / 2 - 1))) := rfl

theorem setF_zero (x : Option α) (t : T α) (n : Nat) : setF x 0 t n = t := rfl
theorem setF_nil (x : Option α) (f n : Nat) : setF x (f + 1) .nil n =
    ifB (Nat.beq n 0) (.node .nil x .nil) (ifB (Nat.beq (n % 2) 1) (.node (setF x f .nil (n / 2)) none .nil) (.node .nil none (setF x f .nil (n / 2 - 1)))) := rfl
theorem setF_node (x : Option α) (f n : Nat) (l : T α) (v : Option α) (r : T α) : setF x (f + 1) (.node l v r) n =
    ifB (Nat.beq n 0) (.node l x r) (ifB (Nat.beq (n % 2) 1) (.node (setF x f l (n / 2)) v r) (.node l v (setF x f r (n / 2 - 1)))) := rfl

theorem ifB_eq {β : Type} (b : Bool) (x y : β) : ifB b x y = if b then x else y := by cases b <;> rfl

theorem get_setF (x : Option α) : ∀ (f : Nat) (t : T α) (n m : Nat), n < f → (setF x f t n).get m = if m = n then x else t.get m := by
  intro f
  induction f with
  | zero => intro t n m h; omega
  | succ f ih =>
    intro t n m h
    cases t with
    | nil =>
      rw [setF_nil]
      by_cases h0 : n = 0
      · subst h0
        simp only [Nat.beq_eq, ifB_eq, if_true, get_node, get_nil]
        by_cases hm : m = 0 <;> simp [hm]
      · by_cases h1 : n % 2 = 1
        · simp only [ifB_eq, Nat.beq_eq, h0, h1, if_true, if_false, get_node, get_nil]
          by_cases hm : m = 0
          · simp [hm, Ne.symm h0]
          · by_cases hm1 : m % 2 = 1
            · rw [if_neg hm, if_pos hm1, ih _ _ _ (by omega)]
              by_cases e : m = n
              · simp [e]
              · rw [if_neg e, if_neg (by omega)]; rfl
            · rw [if_neg hm, if_neg hm1, if_neg (by omega)]
        · simp only [ifB_eq, Nat.beq_eq, h0, h1, if_false, get_node, get_nil]
          by_cases hm : m = 0
          · simp [hm, Ne.symm h0]
          · by_cases hm1 : m % 2 = 1
            · rw [if_neg hm, if_pos hm1, if_neg (by omega)]
            · rw [if_neg hm, if_neg hm1, ih _ _ _ (by omega)]
              by_cases e : m = n
              · simp [e]
              · rw [if_neg e, if_neg (by omega)]; rfl
    | node l v r =>
      rw [setF_node]
      by_cases h0 : n = 0
      · subst h0
        simp only [Nat.beq_eq, ifB_eq, if_true, get_node]
        by_cases hm : m = 0 <;> simp [hm]
      · by_cases h1 : n % 2 = 1
        · simp only [ifB_eq, Nat.beq_eq, h0, h1, if_true, if_false, get_node]
          by_cases hm : m = 0
          · simp [hm, Ne.symm h0]
          · by_cases hm1 : m % 2 = 1
            · rw [if_neg hm, if_pos hm1, ih _ _ _ (by omega), if_neg hm, if_pos hm1]
              by_cases e : m = n
              · simp [e]
              · rw [if_neg e, if_neg (by omega)]
            · rw [if_neg hm, if_neg hm1, if_neg hm, if_neg hm1, if_neg (by omega)]
        · simp only [ifB_eq, Nat.beq_eq, h0, h1, if_false, get_node]
          by_cases hm : m = 0
          · simp [hm, Ne.symm h0]
          · by_cases hm1 : m % 2 = 1
            · rw [if_neg hm, if_pos hm1, if_neg hm, if_pos hm1, if_neg (by omega)]
            · rw [if_neg hm, if_neg hm1, ih _ _ _ (by omega), if_neg hm, if_neg hm1]
              by_cases e : m = n
              · simp [e]
              · rw [if_neg e, if_neg (by omega)]

theorem get_put (t : T α) (n m : Nat) (x : Option α) : (t.put n x).get m = if m = n then x else t.get m :=
  get_setF x _ t n m (Nat.lt_succ_self n)

end T

/-! ### Places of the frame -/

theorem getFn_run : ∀ (f n : Nat) (r : Regs), n < f → (getFn f n).run r = r.val n := by
  intro f
  induction f with
  | zero => intro n r h; omega
  | succ f ih =>
    intro n r h
    have e : getFn (f + 1) n = ifB (Nat.beq n 0) ⟨topV⟩ (ifB (Nat.beq (n % 2) 1) ⟨fun r => (getFn f (n / 2)).run (leftT r)⟩ ⟨fun r => (getFn f (n / 2 - 1)).run (rightT r)⟩) := rfl
    rw [e]
    by_cases h0 : n = 0
    · subst h0
      cases r with
      | nil => rfl
      | node a v b => cases v <;> rfl
    · by_cases h1 : n % 2 = 1
      · simp only [T.ifB_eq, Nat.beq_eq, h0, h1, if_true, if_false]
        rw [ih _ _ (by omega)]
        cases r with
        | nil => rfl
        | node a v b => simp [Regs.val, T.get_node, T.ifB_eq, h0, h1, leftT]
      · simp only [T.ifB_eq, Nat.beq_eq, h0, h1, if_false]
        rw [ih _ _ (by omega)]
        cases r with
        | nil => rfl
        | node a v b => simp [Regs.val, T.get_node, T.ifB_eq, h0, h1, rightT]

theorem putFn_run (v : AV) : ∀ (f n : Nat) (r : Regs), (putFn f n).run v r = T.setF (some v) f r n := by
  intro f
  induction f with
  | zero => intro n r; rfl
  | succ f ih =>
    intro n r
    have e : putFn (f + 1) n = ifB (Nat.beq n 0) ⟨putTop⟩ (ifB (Nat.beq (n % 2) 1)
      ⟨fun v r => T.rec (motive := fun _ => Regs) (.node ((putFn f (n / 2)).run v .nil) none .nil) (fun a x b _ _ => .node ((putFn f (n / 2)).run v a) x b) r⟩
      ⟨fun v r => T.rec (motive := fun _ => Regs) (.node .nil none ((putFn f (n / 2 - 1)).run v .nil)) (fun a x b _ _ => .node a x ((putFn f (n / 2 - 1)).run v b)) r⟩) := rfl
    rw [e]
    cases r with
    | nil =>
      rw [T.setF_nil]
      by_cases h0 : n = 0
      · subst h0; rfl
      · by_cases h1 : n % 2 = 1
        · simp only [T.ifB_eq, Nat.beq_eq, h0, h1, if_true, if_false, ih]
        · simp only [T.ifB_eq, Nat.beq_eq, h0, h1, if_false, ih]
    | node a x b =>
      rw [T.setF_node]
      by_cases h0 : n = 0
      · subst h0; rfl
      · by_cases h1 : n % 2 = 1
        · simp only [T.ifB_eq, Nat.beq_eq, h0, h1, if_true, if_false, ih]
        · simp only [T.ifB_eq, Nat.beq_eq, h0, h1, if_false, ih]

theorem putFn_put (v : AV) (d : Nat) (r : Regs) : (putFn (Nat.succ d) d).run v r = T.put r d (some v) := putFn_run v _ _ _

@[simp] theorem ev_loc (k : Nat) (e : Env) (r : Regs) : (Opd.loc k).ev e r = locAt e k := rfl
@[simp] theorem ev_tmp (t : Nat) (e : Env) (r : Regs) : (Opd.tmp t).ev e r = r.val t := getFn_run _ _ _ (Nat.lt_succ_self t)
@[simp] theorem ev_const (v : AV) (e : Env) (r : Regs) : (Opd.const v).ev e r = v := rfl
@[simp] theorem ev_glob (g : Nat) (e : Env) (r : Regs) : (Opd.glob g).ev e r = .ptr (some (g, 0)) := rfl
@[simp] theorem ev_func (f : FuncId) (e : Env) (r : Regs) : (Opd.func f).ev e r = .fn f [] [] := rfl

theorem val_put (r : Regs) (d t : Nat) (v : AV) : Regs.val (T.put r d (some v)) t = if t = d then v else r.val t := by
  unfold Regs.val
  rw [T.get_put]
  by_cases h : t = d <;> simp [h]

/-! ### Lists -/

@[simp] theorem nthQ_zero {α : Type} (d v : α) (vs : List α) : nthQ d (v :: vs) 0 = v := rfl
@[simp] theorem nthQ_succ {α : Type} (d v : α) (vs : List α) (k : Nat) : nthQ d (v :: vs) (k + 1) = nthQ d vs k := rfl

theorem nthQ_nil {α : Type} (d : α) : ∀ k, nthQ d ([] : List α) k = d
  | 0 => rfl
  | _ + 1 => rfl

theorem nthQ_eq {α : Type} (d : α) : ∀ (l : List α) (k : Nat), nthQ d l k = (l[k]?).getD d
  | [], k => by simp [nthQ_nil]
  | v :: vs, 0 => rfl
  | v :: vs, k + 1 => by rw [nthQ_succ, nthQ_eq d vs k]; rfl

@[simp] theorem locAt_zero (v : AV) (e : Env) : locAt (v :: e) 0 = v := rfl
@[simp] theorem locAt_succ (v : AV) (e : Env) (k : Nat) : locAt (v :: e) (k + 1) = locAt e k := rfl

theorem lenQ_aux {α : Type} : ∀ (l : List α) (n : Nat), List.rec (motive := fun _ => Nat → Nat) (fun n => n) (fun _ _ ih n => ih (Nat.succ n)) l n = n + l.length
  | [], n => rfl
  | _ :: l, n => by
    have := lenQ_aux l (n + 1)
    simp only [List.length_cons]
    rw [show n + (l.length + 1) = n + 1 + l.length by omega, ← this]

@[simp] theorem lenQ_eq {α : Type} (l : List α) : lenQ l = l.length := by
  have := lenQ_aux l 0
  unfold lenQ; rw [this]; omega

theorem getsQ_succ {α : Type} (d : α) (c : T α) (n o : Nat) : getsQ d c (n + 1) o = ((c.get o).getD d) :: getsQ d c n (o + 1) := by
  show Option.casesOn (motive := fun _ => List α) (c.get o) _ _ = _
  cases c.get o <;> rfl

theorem length_getsQ {α : Type} (d : α) (c : T α) : ∀ (n o : Nat), (getsQ d c n o).length = n
  | 0, _ => rfl
  | n + 1, o => by rw [getsQ_succ, List.length_cons, length_getsQ d c n]

theorem getElem?_getsQ {α : Type} (d : α) (c : T α) : ∀ (n o k : Nat), k < n → (getsQ d c n o)[k]? = some ((c.get (o + k)).getD d)
  | 0, _, k, h => by omega
  | n + 1, o, 0, _ => by rw [getsQ_succ]; simp
  | n + 1, o, k + 1, h => by
    rw [getsQ_succ, List.getElem?_cons_succ, getElem?_getsQ d c n (o + 1) k (by omega)]
    rw [show o + 1 + k = o + (k + 1) by omega]

@[simp] theorem putsQ_nil {α : Type} (c : T α) (o : Nat) : putsQ [] c o = c := rfl
@[simp] theorem putsQ_cons {α : Type} (v : α) (vs : List α) (c : T α) (o : Nat) : putsQ (v :: vs) c o = putsQ vs (c.put o (some v)) (o + 1) := rfl

theorem get_putsQ {α : Type} : ∀ (vs : List α) (c : T α) (o m : Nat), (putsQ vs c o).get m = if o ≤ m ∧ m < o + vs.length then vs[m - o]? else c.get m
  | [], c, o, m => by simp only [putsQ_nil, List.length_nil, Nat.add_zero]; rw [if_neg (by omega)]
  | v :: vs, c, o, m => by
    rw [putsQ_cons, get_putsQ vs, T.get_put]
    simp only [List.length_cons]
    by_cases h : m = o
    · subst h
      rw [if_neg (by omega), if_pos rfl, if_pos ⟨Nat.le_refl _, by omega⟩]; simp
    · by_cases h' : o + 1 ≤ m ∧ m < o + 1 + vs.length
      · rw [if_pos h', if_pos ⟨by omega, by omega⟩, show m - o = (m - (o + 1)) + 1 by omega, List.getElem?_cons_succ]
      · rw [if_neg h', if_neg h, if_neg (by omega)]

theorem length_getsV (c : T AV) (n o : Nat) : (getsV c n o).length = n := length_getsQ _ _ _ _
theorem getElem?_getsV (c : T AV) (n o k : Nat) (h : k < n) : (getsV c n o)[k]? = some ((c.get (o + k)).getD .junk) := getElem?_getsQ _ _ _ _ _ h
theorem get_putsV (vs : List AV) (c : T AV) (o m : Nat) : (putsV vs c o).get m = if o ≤ m ∧ m < o + vs.length then vs[m - o]? else c.get m := get_putsQ vs c o m

/-! ### Numbers -/

theorem kEq_iff {a b : IntKind} : kEq a b = true ↔ a = b := by cases a <;> cases b <;> simp [kEq, IntKind.idx] <;> decide

theorem blt_iff {a b : Nat} : Nat.blt a b = true ↔ a < b := by rw [Nat.blt_eq]
theorem ble_iff {a b : Nat} : Nat.ble a b = true ↔ a ≤ b := by rw [Nat.ble_eq]
theorem beq_iff {a b : Nat} : Nat.beq a b = true ↔ a = b := by rw [Nat.beq_eq]

theorem ltQ_eq (a b : Int) : ltQ a b = decide (a < b) := by
  cases a <;> cases b <;> simp only [ltQ] <;> rw [Bool.eq_iff_iff] <;> simp [Nat.blt_eq, Int.negSucc_eq] <;> omega

theorem eqQ_eq (a b : Int) : eqQ a b = (a == b) := by
  cases a <;> cases b <;> simp only [eqQ] <;> rw [Bool.eq_iff_iff] <;> simp [Nat.beq_eq, Int.negSucc_eq] <;> omega

theorem idxQ_some {a : Int} {n m : Nat} : idxQ a n = some m ↔ (0 ≤ a ∧ a < n ∧ m = a.toNat) := by
  cases a with
  | ofNat k =>
    simp only [idxQ]
    by_cases h : k < n
    · rw [blt_iff.2 h]; simp; omega
    · have : Nat.blt k n = false := by rw [Bool.eq_false_iff]; exact fun e => h (blt_iff.1 e)
      rw [this]; simp; omega
  | negSucc k => simp [idxQ, Int.negSucc_eq]; omega

theorem wrap_small {k : IntKind} {n : Int} (h0 : k.min ≤ n) (h1 : n ≤ k.max) : k.wrap n = n := by
  cases k <;> simp [IntKind.min, IntKind.max, IntKind.bits, IntKind.signed] at h0 h1 <;> simp [IntKind.wrap, IntKind.bits, IntKind.signed] <;> omega

theorem wrapQ_eq (k : IntKind) (n : Int) : wrapQ k n = k.wrap n := by
  cases n with
  | ofNat m =>
    simp only [wrapQ]
    cases hb : Nat.blt m (roomOf k).1 with
    | false => rfl
    | true =>
      have h := blt_iff.1 hb
      show Int.ofNat m = _
      refine (wrap_small ?_ ?_).symm <;> cases k <;> simp [roomOf] at h <;> simp [IntKind.min, IntKind.max, IntKind.bits, IntKind.signed] <;> omega
  | negSucc m =>
    simp only [wrapQ]
    cases hs : (roomOf k).2 with
    | false => rfl
    | true =>
      show ifB (Nat.blt m (roomOf k).1) (Int.negSucc m) _ = _
      cases hb : Nat.blt m (roomOf k).1 with
      | false => rfl
      | true =>
        have h := blt_iff.1 hb
        show Int.negSucc m = _
        refine (wrap_small ?_ ?_).symm
        · cases k <;> simp only [roomOf, Bool.false_eq_true] at h hs <;> simp only [IntKind.min, IntKind.bits, IntKind.signed, if_true] <;> omega
        · cases k <;> simp only [roomOf, Bool.false_eq_true] at h hs <;> simp only [IntKind.max, IntKind.bits, IntKind.signed, if_true] <;> omega

theorem b8Q_iff {a b : UInt8} : b8Q a b = true ↔ a = b := by
  unfold b8Q
  rw [beq_iff]
  exact ⟨fun h => UInt8.toNat_inj.1 h, fun h => h ▸ rfl⟩

theorem strEq_eq : ∀ (a b : List UInt8), strEq a b = (a == b)
  | [], [] => rfl
  | [], _ :: _ => rfl
  | _ :: _, [] => rfl
  | a :: s, b :: t => by
    show ifB (b8Q a b) (strEq s t) false = _
    rw [strEq_eq s t]
    cases h : b8Q a b with
    | true => rw [b8Q_iff.1 h]; simp
    | false =>
      have : ¬ a = b := fun e => by rw [b8Q_iff.2 e] at h; cases h
      simp [this]

end Go.Abs

/- The abstract machine: how its values and its heap stand to the model's. -/
namespace Go.Abs

/-- What each name stands for; what is held of names' numbers holds. -/
class Val [Fct] where
  at_ : Nat → Nat
  num : Nat → Int
  pred : Nat → Value → Prop
  cell : Nat → Nat → Nat → Value → Prop
  num0 : num 0 = 0
  ok : ∀ x y d, (x, y, d) ∈ Fct.le → num x + d ≤ num y
  remOk : ∀ x m y, (x, m, y) ∈ Fct.rem → 0 ≤ num x ∧ 0 < m ∧ num y = num x % (m : Int)

/-- Where nothing is held of names' numbers. -/
@[reducible] def Val.of (f : Nat → Nat) : @Val noFct := @Val.mk noFct f (fun _ => 0) (fun _ _ => True) (fun _ _ _ _ => True) rfl (fun _ _ _ h => by cases h) (fun _ _ _ h => by cases h)

variable [Fct] [Val]

theorem findLe_mem : ∀ {l : List (Nat × Nat × Int)} {x y : Nat} {n : Int}, findLe x y n l = true → ∃ d, n ≤ d ∧ (x, y, d) ∈ l
  | [], _, _, _, h => by cases h
  | (a, b, d) :: r, x, y, n, h => by
    have next : findLe x y n r = true → ∃ d', n ≤ d' ∧ (x, y, d') ∈ (a, b, d) :: r := fun h => let ⟨d', h1, h2⟩ := findLe_mem h; ⟨d', h1, List.mem_cons_of_mem _ h2⟩
    simp only [findLe, T.ifB_eq, beq_iff, ltQ_eq] at h
    split at h
    · rename_i ha
      split at h
      · rename_i hb
        split at h
        · exact next h
        · rename_i hd
          subst ha; subst hb
          exact ⟨d, by simpa using hd, List.mem_cons_self ..⟩
      · exact next h
    · exact next h

theorem leX_ok {x y : Nat} {a b : Int} {t : Bool} (h : leX x a y b = some t) : t = decide (Val.num x + a ≤ Val.num y + b) := by
  unfold leX at h
  rw [T.ifB_eq, T.ifB_eq, T.ifB_eq] at h
  split at h
  · rename_i hx
    rw [beq_iff] at hx
    subst hx
    cases h
    rw [ltQ_eq, Bool.eq_iff_iff]
    simp
  · split at h
    · rename_i hf
      obtain ⟨d, h1, h2⟩ := findLe_mem hf
      have := Val.ok _ _ _ h2
      cases h
      symm; rw [decide_eq_true_iff]; omega
    · split at h
      · rename_i hf
        obtain ⟨d, h1, h2⟩ := findLe_mem hf
        have := Val.ok _ _ _ h2
        cases h
        symm; rw [decide_eq_false_iff_not]; omega
      · cases h

theorem isLe_ok {x y : Nat} {a b : Int} (h : isLe x a y b = true) : Val.num x + a ≤ Val.num y + b := by
  unfold isLe at h
  split at h
  · rename_i t ht
    subst h
    have := leX_ok ht
    exact of_decide_eq_true this.symm
  · cases h

/-! ### Where a block of the abstract heap lies -/

inductive PSt where
  | un                    -- nowhere yet
  | dead                  -- gone
  | at (b o n : Nat)      -- in block b, from o on, n cells

abbrev Phi := Nat → PSt

def PSt.le : PSt → PSt → Prop
  | .un, _ => True
  | .dead, s => s = .dead
  | .at b o n, s => s = .at b o n ∨ s = .dead

theorem PSt.le_refl (s : PSt) : s.le s := by cases s <;> simp [PSt.le]
theorem PSt.le_trans {a b c : PSt} (h : a.le b) (k : b.le c) : a.le c := by
  cases a with
  | un => trivial
  | dead => simp only [PSt.le] at h; subst h; exact k
  | «at» x y z =>
    simp only [PSt.le] at h
    rcases h with rfl | rfl
    · exact k
    · simp only [PSt.le] at k; exact .inr k

def Ext (φ φ' : Phi) : Prop := ∀ i, (φ i).le (φ' i)
theorem Ext.refl (φ : Phi) : Ext φ φ := fun _ => PSt.le_refl _
theorem Ext.trans {a b c : Phi} (h : Ext a b) (k : Ext b c) : Ext a c := fun i => PSt.le_trans (h i) (k i)

/-! ### Values -/

def PtrOk (φ : Phi) (i o : Nat) (a : Addr) : Prop :=
  match φ i with
  | .un => False
  | .dead => True
  | .at b p _ => a = ⟨b, p + o, none⟩

def SlOk (φ : Phi) (i o esz c : Nat) (a : Addr) : Prop :=
  match φ i with
  | .un => False
  | .dead => True
  | .at b p n => (0 < c → a = ⟨b, p + o, none⟩) ∧ o + c * esz ≤ n

def MapOk (φ : Phi) (i r : Nat) : Prop :=
  match φ i with
  | .un => False
  | .dead => True
  | .at b _ _ => r = b

mutual
def VRel (φ : Phi) : AV → Value → Prop
  | .bool b, v => v = .bool b
  | .int k n, v => v = .int k n
  | .sym k id ns, v => ∃ n, ns[Val.at_ id]? = some n ∧ v = .int k n
  | .rest k m id ns, v => ∃ n : Int, v = .int k n ∧ 0 ≤ n ∧ ns[Val.at_ id]? = some (n % m)
  | .ex k id off, v => v = .int k (Val.num id + off)
  | .any p, v => Val.pred p v ∧ ((∀ cs, v ≠ .agg cs) ∧ ∀ cs, v ≠ .tuple cs)
  | .xptr i id sc off, v => 0 ≤ Val.num id * sc + off ∧ ∃ a, v = .pointer (some a) ∧ PtrOk φ i (Val.num id * sc + off).toNat a
  | .xsl i id sc off esz lid loff, v => 0 ≤ Val.num id * sc + off ∧ 0 ≤ Val.num lid + loff ∧ ∃ a c, v = .slice (some a) (Val.num lid + loff).toNat c ∧ (Val.num lid + loff).toNat ≤ c ∧ SlOk φ i (Val.num id * sc + off).toNat esz c a
  | .str s, v => v = .string ⟨s.toArray⟩
  | .sstr l, v => ∃ s : List UInt8, v = .string ⟨s.toArray⟩ ∧ VRels φ l (s.map fun b => .int .u8 b.toNat)
  | .ptr none, v => v = .pointer none
  | .ptr (some (i, o)), v => ∃ a, v = .pointer (some a) ∧ PtrOk φ i o a
  | .sl none _ len cap _, v => v = .slice none 0 0 ∧ len = 0 ∧ cap = 0
  | .sl (some (i, o)) esz len cap ex, v => ∃ a c, v = .slice (some a) len c ∧ len ≤ cap ∧ cap ≤ c ∧ (ex = true → c = cap) ∧ SlOk φ i o esz c a
  | .map none, v => v = .map none
  | .map (some i), v => ∃ r, v = .map (some r) ∧ MapOk φ i r
  | .fn f x y, v => ∃ a b, v = .func (.func f) a b ∧ VRels φ x a.toList ∧ VRels φ y b.toList
  | .nilFn, v => v = .nilFunc
  | .iface t x, v => ∃ y, v = .iface t y ∧ VRel φ x y
  | .nilIface, v => v = .nilIface
  | .agg cs, v => ∃ vs, v = .agg vs ∧ VRels φ cs vs.toList
  | .tup cs, v => ∃ vs, v = .tuple vs ∧ VRels φ cs vs.toList
  | .junk, _ => True
def VRels (φ : Phi) : List AV → List Value → Prop
  | [], vs => vs = []
  | c :: cs, vs => ∃ v r, vs = v :: r ∧ VRel φ c v ∧ VRels φ cs r
end

theorem PtrOk.mono {φ φ' : Phi} (h : Ext φ φ') {i o : Nat} {a : Addr} (k : PtrOk φ i o a) : PtrOk φ' i o a := by
  have hi := h i
  unfold PtrOk at *
  cases e : φ i with
  | un => rw [e] at k; exact k.elim
  | dead => rw [e] at hi; simp only [PSt.le] at hi; rw [hi]; trivial
  | «at» b p n =>
    rw [e] at hi k
    simp only [PSt.le] at hi
    rcases hi with hi | hi <;> rw [hi]
    · exact k
    · trivial

theorem SlOk.mono {φ φ' : Phi} (h : Ext φ φ') {i o esz c : Nat} {a : Addr} (k : SlOk φ i o esz c a) : SlOk φ' i o esz c a := by
  have hi := h i
  unfold SlOk at *
  cases e : φ i with
  | un => rw [e] at k; exact k.elim
  | dead => rw [e] at hi; simp only [PSt.le] at hi; rw [hi]; trivial
  | «at» b p n =>
    rw [e] at hi k
    simp only [PSt.le] at hi
    rcases hi with hi | hi <;> rw [hi]
    · exact k
    · trivial

theorem MapOk.mono {φ φ' : Phi} (h : Ext φ φ') {i r : Nat} (k : MapOk φ i r) : MapOk φ' i r := by
  have hi := h i
  unfold MapOk at *
  cases e : φ i with
  | un => rw [e] at k; exact k.elim
  | dead => rw [e] at hi; simp only [PSt.le] at hi; rw [hi]; trivial
  | «at» b p n =>
    rw [e] at hi k
    simp only [PSt.le] at hi
    rcases hi with hi | hi <;> rw [hi]
    · exact k
    · trivial

theorem PtrOk.notUn {φ : Phi} {i o : Nat} {a : Addr} (h : PtrOk φ i o a) : φ i ≠ .un := by
  intro e; simp [PtrOk, e] at h

theorem SlOk.notUn {φ : Phi} {i o esz c : Nat} {a : Addr} (h : SlOk φ i o esz c a) : φ i ≠ .un := by
  intro e; simp [SlOk, e] at h

theorem MapOk.notUn {φ : Phi} {i r : Nat} (h : MapOk φ i r) : φ i ≠ .un := by
  intro e; simp [MapOk, e] at h

mutual
theorem VRel.mono {φ φ' : Phi} (h : Ext φ φ') : ∀ (x : AV) (v : Value), VRel φ x v → VRel φ' x v
  | .bool _, _, k => k
  | .int _ _, _, k => k
  | .sym _ _ _, _, k => k
  | .rest _ _ _ _, _, k => k
  | .ex _ _ _, _, k => k
  | .any _, _, k => k
  | .xptr _ _ _ _, _, ⟨h0, a, e, k⟩ => ⟨h0, a, e, k.mono h⟩
  | .xsl _ _ _ _ _ _ _, _, ⟨h0, h1, a, c, e, h2, k⟩ => ⟨h0, h1, a, c, e, h2, k.mono h⟩
  | .str _, _, k => k
  | .sstr l, _, ⟨s, e, k⟩ => ⟨s, e, VRels.mono h l _ k⟩
  | .ptr none, _, k => k
  | .ptr (some (i, o)), _, ⟨a, e, k⟩ => ⟨a, e, k.mono h⟩
  | .sl none _ _ _ _, _, k => k
  | .sl (some (i, o)) _ _ _ _, _, ⟨a, c, e, h0, h1, h2, k⟩ => ⟨a, c, e, h0, h1, h2, k.mono h⟩
  | .map none, _, k => k
  | .map (some i), _, ⟨r, e, k⟩ => ⟨r, e, k.mono h⟩
  | .fn _ x y, _, ⟨a, b, e, k, l⟩ => ⟨a, b, e, VRels.mono h x _ k, VRels.mono h y _ l⟩
  | .nilFn, _, k => k
  | .iface _ x, _, ⟨y, e, k⟩ => ⟨y, e, VRel.mono h x y k⟩
  | .nilIface, _, k => k
  | .agg cs, _, ⟨vs, e, k⟩ => ⟨vs, e, VRels.mono h cs _ k⟩
  | .tup cs, _, ⟨vs, e, k⟩ => ⟨vs, e, VRels.mono h cs _ k⟩
  | .junk, _, _ => trivial
theorem VRels.mono {φ φ' : Phi} (h : Ext φ φ') : ∀ (x : List AV) (v : List Value), VRels φ x v → VRels φ' x v
  | [], _, k => k
  | c :: cs, _, ⟨v, r, e, k, l⟩ => ⟨v, r, e, VRel.mono h c v k, VRels.mono h cs r l⟩
end

theorem VRel.junk {φ : Phi} {v : Value} : VRel φ .junk v := trivial
theorem VRel.undef {φ : Phi} : VRel φ .undef undef := ⟨#[], rfl, rfl⟩

theorem VRels.length {φ : Phi} : ∀ {x : List AV} {v : List Value}, VRels φ x v → v.length = x.length
  | [], _, k => by simp only [VRels] at k; subst k; rfl
  | c :: cs, _, k => by
    obtain ⟨v, r, rfl, _, l⟩ := k
    simp only [List.length_cons, VRels.length l]

theorem VRels.get {φ : Phi} : ∀ {x : List AV} {v : List Value}, VRels φ x v → ∀ (i : Nat) (a : AV), x[i]? = some a → ∃ c, v[i]? = some c ∧ VRel φ a c
  | [], _, _, i, a, e => by simp at e
  | c :: cs, _, k, 0, a, e => by
    obtain ⟨v, r, rfl, l, _⟩ := k
    simp at e; subst e
    exact ⟨v, rfl, l⟩
  | c :: cs, _, k, i + 1, a, e => by
    obtain ⟨v, r, rfl, _, l⟩ := k
    exact VRels.get l i a (by simpa using e)

theorem VRels.mk {φ : Phi} : ∀ {x : List AV} {v : List Value}, v.length = x.length → (∀ (i : Nat) (a : AV) (c : Value), x[i]? = some a → v[i]? = some c → VRel φ a c) → VRels φ x v
  | [], [], _, _ => rfl
  | [], _ :: _, h, _ => by simp at h
  | _ :: _, [], h, _ => by simp at h
  | a :: x, c :: v, h, k => ⟨c, v, rfl, k 0 a c rfl rfl, VRels.mk (by simpa using h) fun i a' c' e e' => k (i + 1) a' c' (by simpa using e) (by simpa using e')⟩

theorem VRels.append {φ : Phi} : ∀ {x y : List AV} {v w : List Value}, VRels φ x v → VRels φ y w → VRels φ (x ++ y) (v ++ w)
  | [], _, _, _, h, k => by simp only [VRels] at h; subst h; exact k
  | _ :: _, _, _, _, ⟨v, r, e, h, l⟩, k => ⟨v, r ++ _, by rw [e]; rfl, h, VRels.append l k⟩

theorem VRels.take {φ : Phi} {x : List AV} {v : List Value} (h : VRels φ x v) (n : Nat) : VRels φ (x.take n) (v.take n) := by
  refine .mk (by simp [h.length]) fun i a c e e' => ?_
  simp only [List.getElem?_take] at e e'
  by_cases hi : i < n
  · rw [if_pos hi] at e e'
    obtain ⟨c', hc, hr⟩ := h.get i a e
    rw [hc] at e'; cases e'; exact hr
  · rw [if_neg hi] at e; cases e

theorem VRels.drop {φ : Phi} {x : List AV} {v : List Value} (h : VRels φ x v) (n : Nat) : VRels φ (x.drop n) (v.drop n) := by
  refine .mk (by simp [h.length]) fun i a c e e' => ?_
  simp only [List.getElem?_drop] at e e'
  obtain ⟨c', hc, hr⟩ := h.get _ a e
  rw [hc] at e'; cases e'; exact hr

theorem VRels.replicate {φ : Phi} {x : List AV} {v : List Value} (h : VRels φ x v) : ∀ n, VRels φ (List.replicate n x).flatten (List.replicate n v).flatten
  | 0 => rfl
  | n + 1 => by
    rw [List.replicate_succ, List.replicate_succ, List.flatten_cons, List.flatten_cons]
    exact VRels.append h (VRels.replicate h n)

/-- The cells of a value. -/
theorem VRel.cells {φ : Phi} {x : AV} {v : Value} (h : VRel φ x v) (hj : x.isJunk = false) : VRels φ x.cells v.cells.toList := by
  cases x with
  | agg cs => obtain ⟨vs, rfl, k⟩ := h; exact k
  | junk => cases hj
  | bool b => simp only [VRel] at h; subst h; exact ⟨_, [], rfl, rfl, rfl⟩
  | int k n => simp only [VRel] at h; subst h; exact ⟨_, [], rfl, rfl, rfl⟩
  | sym k id ns => obtain ⟨n, h1, rfl⟩ := h; exact ⟨_, [], rfl, ⟨n, h1, rfl⟩, rfl⟩
  | rest k m id ns => obtain ⟨n, rfl, h1⟩ := h; exact ⟨_, [], rfl, ⟨n, rfl, h1⟩, rfl⟩
  | ex k id off => simp only [VRel] at h; subst h; exact ⟨_, [], rfl, rfl, rfl⟩
  | any p =>
    have hc : v.cells.toList = [v] := by
      obtain ⟨_, h1, h2⟩ := h
      cases v <;> first | rfl | (exfalso; first | exact h1 _ rfl | exact h2 _ rfl)
    rw [hc]; exact ⟨v, [], rfl, h, rfl⟩
  | xptr i id sc off => obtain ⟨h0, a, rfl, k⟩ := h; exact ⟨_, [], rfl, ⟨h0, a, rfl, k⟩, rfl⟩
  | xsl i id sc off e l o => obtain ⟨h0, h1, a, c, rfl, k⟩ := h; exact ⟨_, [], rfl, ⟨h0, h1, a, c, rfl, k⟩, rfl⟩
  | str s => simp only [VRel] at h; subst h; exact ⟨_, [], rfl, rfl, rfl⟩
  | sstr l => obtain ⟨s, rfl, k⟩ := h; exact ⟨_, [], rfl, ⟨s, rfl, k⟩, rfl⟩
  | nilFn => simp only [VRel] at h; subst h; exact ⟨_, [], rfl, rfl, rfl⟩
  | nilIface => simp only [VRel] at h; subst h; exact ⟨_, [], rfl, rfl, rfl⟩
  | ptr a =>
    cases a with
    | none => simp only [VRel] at h; subst h; exact ⟨_, [], rfl, rfl, rfl⟩
    | some p => obtain ⟨i, o⟩ := p; obtain ⟨a, rfl, k⟩ := h; exact ⟨_, [], rfl, ⟨a, rfl, k⟩, rfl⟩
  | sl a e l c x =>
    cases a with
    | none => obtain ⟨rfl, rfl, rfl⟩ := h; exact ⟨_, [], rfl, ⟨rfl, rfl, rfl⟩, rfl⟩
    | some p => obtain ⟨i, o⟩ := p; obtain ⟨a, c, rfl, k⟩ := h; exact ⟨_, [], rfl, ⟨a, c, rfl, k⟩, rfl⟩
  | map r =>
    cases r with
    | none => simp only [VRel] at h; subst h; exact ⟨_, [], rfl, rfl, rfl⟩
    | some i => obtain ⟨r, rfl, k⟩ := h; exact ⟨_, [], rfl, ⟨r, rfl, k⟩, rfl⟩
  | fn f a b => obtain ⟨c, d, rfl, k⟩ := h; exact ⟨_, [], rfl, ⟨c, d, rfl, k⟩, rfl⟩
  | iface t x => obtain ⟨y, rfl, k⟩ := h; exact ⟨_, [], rfl, ⟨y, rfl, k⟩, rfl⟩
  | tup cs => obtain ⟨vs, rfl, k⟩ := h; exact ⟨_, [], rfl, ⟨vs, rfl, k⟩, rfl⟩

/-- A cell's value is no aggregate. -/
theorem VRel.isCell {φ : Phi} {x : AV} {v : Value} (h : VRel φ x v) (hc : isCell x = true) : (∀ cs, v ≠ .agg cs) ∧ ∀ cs, v ≠ .tuple cs := by
  cases x with
  | agg cs => cases hc
  | junk => cases hc
  | tup cs => cases hc
  | bool b => simp only [VRel] at h; subst h; simp
  | int k n => simp only [VRel] at h; subst h; simp
  | sym k id ns => obtain ⟨n, h1, rfl⟩ := h; simp
  | rest k m id ns => obtain ⟨n, rfl, h1⟩ := h; simp
  | ex k id off => simp only [VRel] at h; subst h; simp
  | any p => exact h.2
  | xptr i id sc off => obtain ⟨h0, a, rfl, k⟩ := h; simp
  | xsl i id sc off e l o => obtain ⟨h0, h1, a, c, rfl, k⟩ := h; simp
  | str s => simp only [VRel] at h; subst h; simp
  | sstr l => obtain ⟨s, rfl, k⟩ := h; simp
  | nilFn => simp only [VRel] at h; subst h; simp
  | nilIface => simp only [VRel] at h; subst h; simp
  | ptr a =>
    cases a with
    | none => simp only [VRel] at h; subst h; simp
    | some p => obtain ⟨i, o⟩ := p; obtain ⟨a, rfl, k⟩ := h; simp
  | sl a e l c x =>
    cases a with
    | none => obtain ⟨rfl, rfl, rfl⟩ := h; simp
    | some p => obtain ⟨i, o⟩ := p; obtain ⟨a, c, rfl, k⟩ := h; simp
  | map r =>
    cases r with
    | none => simp only [VRel] at h; subst h; simp
    | some i => obtain ⟨r, rfl, k⟩ := h; simp
  | fn f a b => obtain ⟨c, d, rfl, k⟩ := h; simp
  | iface t x => obtain ⟨y, rfl, k⟩ := h; simp

theorem allCells_iff : ∀ {vs : List AV}, allCells vs = true ↔ ∀ v ∈ vs, isCell v = true
  | [] => by simp [allCells]
  | v :: vs => by
    have e : allCells (v :: vs) = ifB (isCell v) (allCells vs) false := rfl
    rw [e]
    cases h : isCell v with
    | false => simp [h]
    | true => simp [h, allCells_iff (vs := vs)]

/-! ### The heap -/

def ERel (φ : Phi) (x : AV × AV × Nat) (e : MapEntry) : Prop := VRel φ x.1 e.key ∧ VRel φ x.2.1 e.val ∧ e.born = x.2.2

def ERels (φ : Phi) : List (AV × AV × Nat) → List MapEntry → Prop
  | [], es => es = []
  | x :: xs, es => ∃ e r, es = e :: r ∧ ERel φ x e ∧ ERels φ xs r

theorem ERels.mono {φ φ' : Phi} (h : Ext φ φ') : ∀ {x : List (AV × AV × Nat)} {e : List MapEntry}, ERels φ x e → ERels φ' x e
  | [], _, k => k
  | _ :: _, _, ⟨e, r, h1, ⟨h2, h3, h4⟩, h5⟩ => ⟨e, r, h1, ⟨h2.mono h, h3.mono h, h4⟩, ERels.mono h h5⟩

def ABlk.ro : ABlk → Bool
  | .cells _ _ _ ro => ro
  | .row _ _ _ _ _ _ ro => ro
  | _ => false

/-- Told cells of a row. -/
def SegOk (φ : Phi) (vs : Array Value) (p esz : Nat) (s : Nat × Int × List AV) : Prop :=
  0 ≤ Val.num s.1 + s.2.1 ∧ ∀ (k : Nat) (a : AV), s.2.2[k]? = some a → ∃ v, vs[p + ((Val.num s.1 + s.2.1).toNat * esz + k)]? = some v ∧ VRel φ a v

theorem SegOk.mono {φ φ' : Phi} (h : Ext φ φ') {vs : Array Value} {p esz : Nat} {s : Nat × Int × List AV} (k : SegOk φ vs p esz s) : SegOk φ' vs p esz s :=
  ⟨k.1, fun j a ha => let ⟨v, h1, h2⟩ := k.2 j a ha; ⟨v, h1, h2.mono h⟩⟩

def BRel (φ : Phi) (blk : ABlk) (b p n : Nat) (w : World) : Prop :=
  match blk with
  | .cells m c t ro => ∃ vs u fz, w.heap[b]? = some (.cells vs u fz) ∧ vs.size = p + n ∧ m ≤ n ∧
      (∀ k, k < m → ∃ v, vs[p + k]? = some v ∧ VRel φ ((c.get k).getD .junk) v) ∧ (ro = false → fz.1 = fz.2 ∨ vs.size ≤ fz.1) ∧ (t ≠ 0 → u = t ∧ p = 0)
  | .row nm esz cid coff segs t ro => ∃ vs u fz, w.heap[b]? = some (.cells vs u fz) ∧ vs.size = p + n ∧
      ((∀ (j q : Nat), (j : Int) < Val.num cid + coff → q < esz → ∃ v, vs[p + (j * esz + q)]? = some v ∧ Val.cell nm j q v) ∧ ∀ s ∈ segs, SegOk φ vs p esz s) ∧ (ro = false → fz.1 = fz.2 ∨ vs.size ≤ fz.1) ∧ (t ≠ 0 → u = t ∧ p = 0)
  | .map es clock => ∃ ces, w.heap[b]? = some (.map ces clock) ∧ ERels φ es ces.toList
  | .siter s pos => w.heap[b]? = some (.stringIter ⟨s.toArray⟩ pos) ∧ p = 0

theorem BRel.mono {φ φ' : Phi} (h : Ext φ φ') {blk : ABlk} {b p n : Nat} {w : World} (k : BRel φ blk b p n w) : BRel φ' blk b p n w := by
  cases blk with
  | cells m c t ro =>
    obtain ⟨vs, u, fz, h1, h2, h3, h4, h5⟩ := k
    exact ⟨vs, u, fz, h1, h2, h3, fun j hj => let ⟨v, e, r⟩ := h4 j hj; ⟨v, e, r.mono h⟩, h5⟩
  | row nm esz cid coff segs t ro =>
    obtain ⟨vs, u, fz, h1, h2, ⟨h3, h4⟩, h5⟩ := k
    exact ⟨vs, u, fz, h1, h2, ⟨h3, fun s hs => (h4 s hs).mono h⟩, h5⟩
  | map es clock => obtain ⟨ces, h1, h2⟩ := k; exact ⟨ces, h1, h2.mono h⟩
  | siter s pos => exact k

theorem BRel.same {φ : Phi} {blk : ABlk} {b p n : Nat} {w w' : World} (k : BRel φ blk b p n w) (h : w'.heap[b]? = w.heap[b]?) : BRel φ blk b p n w' := by
  cases blk with
  | cells m c t ro => obtain ⟨vs, u, fz, h1, r⟩ := k; exact ⟨vs, u, fz, h.trans h1, r⟩
  | row nm esz cid coff segs t ro => obtain ⟨vs, u, fz, h1, r⟩ := k; exact ⟨vs, u, fz, h.trans h1, r⟩
  | map es clock => obtain ⟨ces, h1, h2⟩ := k; exact ⟨ces, h.trans h1, h2⟩
  | siter s pos => exact ⟨h.trans k.1, k.2⟩

/-- Is a block of the model one that the abstract heap may write? -/
def RW (φ : Phi) (h : AHeap) (b : Nat) : Prop := ∃ i blk o n, h.get i = some blk ∧ blk.ro = false ∧ φ i = .at b o n

structure HRel (ng : Nat) (φ : Phi) (h : AHeap) (w : World) : Prop where
  fresh : ∀ i, h.next ≤ i → φ i = .un
  glob : ∀ g, g < ng → PtrOk φ g 0 ⟨g, 0, none⟩
  blk : ∀ i b, h.get i = some b → φ i = .un ∨ ∃ c p n, φ i = .at c p n ∧ BRel φ b c p n w
  inj : ∀ i j b b' c p n p' n', h.get i = some b → h.get j = some b' → i ≠ j → φ i = .at c p n → φ j = .at c p' n' → b.ro = true ∧ b'.ro = true
  lt : ∀ i c p n, φ i = .at c p n → c < w.heap.size
  dom : ∀ i b, h.get i = some b → i < h.next

structure Stp (φ : Phi) (h : AHeap) (w : World) (φ' : Phi) (h' : AHeap) (w' : World) : Prop where
  ext : Ext φ φ'
  os : w'.os = w.os
  tape : w'.tape = w.tape
  output : w'.output = w.output
  size : w.heap.size ≤ w'.heap.size
  same : ∀ b, b < w.heap.size → ¬ RW φ h b → w'.heap[b]? = w.heap[b]?
  own : ∀ b, RW φ' h' b → b < w.heap.size → RW φ h b
  virt : ∀ i, i < h.next → φ i = .un → h'.get i = h.get i ∧ φ' i = .un
  next : h.next ≤ h'.next

theorem Stp.refl (φ : Phi) (h : AHeap) (w : World) : Stp φ h w φ h w :=
  ⟨Ext.refl _, rfl, rfl, rfl, Nat.le_refl _, fun _ _ _ => rfl, fun _ h _ => h, fun _ _ e => ⟨rfl, e⟩, Nat.le_refl _⟩

theorem Stp.trans {φ φ' φ'' : Phi} {h h' h'' : AHeap} {w w' w'' : World} (a : Stp φ h w φ' h' w') (b : Stp φ' h' w' φ'' h'' w'') : Stp φ h w φ'' h'' w'' where
  ext := a.ext.trans b.ext
  os := b.os.trans a.os
  tape := b.tape.trans a.tape
  output := b.output.trans a.output
  size := Nat.le_trans a.size b.size
  same := fun k hk hn => (b.same k (Nat.lt_of_lt_of_le hk a.size) fun hr => hn (a.own k hr hk)).trans (a.same k hk hn)
  own := fun k hr hk => a.own k (b.own k hr (Nat.lt_of_lt_of_le hk a.size)) hk
  virt := fun i hi e => by
    obtain ⟨h1, h2⟩ := a.virt i hi e
    obtain ⟨h3, h4⟩ := b.virt i (Nat.lt_of_lt_of_le hi a.next) h2
    exact ⟨h3.trans h1, h4⟩
  next := Nat.le_trans a.next b.next

theorem AHeap.get_new (h : AHeap) (b : ABlk) (i : Nat) : (h.new b).get i = if i = h.next then some b else h.get i := T.get_put _ _ _ _
theorem AHeap.get_set (h : AHeap) (j : Nat) (b : ABlk) (i : Nat) : (h.set j b).get i = if i = j then some b else h.get i := T.get_put _ _ _ _
theorem AHeap.get_drop (h : AHeap) (j : Nat) (i : Nat) : (h.drop j).get i = if i = j then none else h.get i := T.get_put _ _ _ _
@[simp] theorem AHeap.next_new (h : AHeap) (b : ABlk) : (h.new b).next = h.next + 1 := rfl
@[simp] theorem AHeap.next_set (h : AHeap) (j : Nat) (b : ABlk) : (h.set j b).next = h.next := rfl
@[simp] theorem AHeap.next_drop (h : AHeap) (j : Nat) : (h.drop j).next = h.next := rfl

end Go.Abs

/- The abstract machine: what becomes of the relation when a block is made, written or given up; loads and stores of the model. -/
namespace Go.Abs
variable [Fct] [Val]

def upd (φ : Phi) (i : Nat) (s : PSt) : Phi := fun j => if j = i then s else φ j

@[simp] theorem upd_same (φ : Phi) (i : Nat) (s : PSt) : upd φ i s i = s := by simp [upd]
theorem upd_other (φ : Phi) {i j : Nat} (s : PSt) (h : j ≠ i) : upd φ i s j = φ j := by simp [upd, h]

theorem Ext.upd {φ : Phi} {i : Nat} {s : PSt} (h : (φ i).le s) : Ext φ (upd φ i s) := by
  intro j
  by_cases e : j = i
  · subst e; rw [upd_same]; exact h
  · rw [upd_other φ s e]; exact PSt.le_refl _

/-! ### A new block -/

theorem heap_alloc_lt {w : World} {o : Obj} {b : Nat} (h : b < w.heap.size) : (w.alloc o).heap[b]? = w.heap[b]? := by
  show (w.heap.push o)[b]? = _
  rw [Array.getElem?_push, if_neg (by omega)]

theorem step_new {ng : Nat} {φ : Phi} {h : AHeap} {w : World} (H : HRel ng φ h w) (blk : ABlk) (o : Obj) (n : Nat)
    (hb : BRel (upd φ h.next (.at w.heap.size 0 n)) blk w.heap.size 0 n (w.alloc o)) :
    HRel ng (upd φ h.next (.at w.heap.size 0 n)) (h.new blk) (w.alloc o) ∧ Stp φ h w (upd φ h.next (.at w.heap.size 0 n)) (h.new blk) (w.alloc o) := by
  have hun : φ h.next = .un := H.fresh _ (Nat.le_refl _)
  have hext : Ext φ (upd φ h.next (.at w.heap.size 0 n)) := Ext.upd (by rw [hun]; trivial)
  have hat : ∀ i c p m, upd φ h.next (.at w.heap.size 0 n) i = .at c p m → (i = h.next ∧ c = w.heap.size) ∨ (i ≠ h.next ∧ φ i = .at c p m ∧ c < w.heap.size) := by
    intro i c p m e
    by_cases hi : i = h.next
    · subst hi; rw [upd_same] at e; cases e; exact .inl ⟨rfl, rfl⟩
    · rw [upd_other φ _ hi] at e; exact .inr ⟨hi, e, H.lt _ _ _ _ e⟩
  constructor
  · refine ⟨fun i hi => ?_, fun g hg => (H.glob g hg).mono hext, fun i b hget => ?_, fun i j b b' c p m p' m' hi hj hne ei ej => ?_, fun i c p m e => ?_, fun i b hget => ?_⟩
    · simp only [AHeap.next_new] at hi
      rw [upd_other φ _ (by omega)]; exact H.fresh i (by omega)
    · rw [AHeap.get_new] at hget
      by_cases hi : i = h.next
      · rw [if_pos hi] at hget; cases hget
        subst hi
        exact .inr ⟨w.heap.size, 0, n, upd_same _ _ _, hb⟩
      · rw [if_neg hi] at hget
        rcases H.blk i b hget with e | ⟨c, p, m, e, k⟩
        · exact .inl (by rw [upd_other φ _ hi]; exact e)
        · exact .inr ⟨c, p, m, by rw [upd_other φ _ hi]; exact e, (k.mono hext).same (heap_alloc_lt (H.lt _ _ _ _ e))⟩
    · rw [AHeap.get_new] at hi hj
      rcases hat _ _ _ _ ei with ⟨rfl, rfl⟩ | ⟨h1, h2, h3⟩ <;> rcases hat _ _ _ _ ej with ⟨rfl, h4⟩ | ⟨h4, h5, h6⟩
      · exact absurd rfl hne
      · omega
      · omega
      · rw [if_neg h1] at hi; rw [if_neg h4] at hj
        exact H.inj i j b b' c p m p' m' hi hj hne h2 h5
    · rcases hat _ _ _ _ e with ⟨_, rfl⟩ | ⟨_, _, h3⟩ <;> simp <;> omega
    · rw [AHeap.get_new] at hget
      simp only [AHeap.next_new]
      by_cases hi : i = h.next
      · omega
      · rw [if_neg hi] at hget; have := H.dom i b hget; omega
  · refine ⟨hext, rfl, rfl, rfl, by simp, fun b hbl _ => heap_alloc_lt hbl, fun b ⟨i, bl, p, m, hget, hro, e⟩ hbl => ?_, fun i hi e => ?_, by simp⟩
    · rcases hat _ _ _ _ e with ⟨_, rfl⟩ | ⟨h1, h2, h3⟩
      · omega
      · rw [AHeap.get_new, if_neg h1] at hget
        exact ⟨i, bl, p, m, hget, hro, h2⟩
    · exact ⟨by rw [AHeap.get_new, if_neg (by omega)], by rw [upd_other φ _ (by omega)]; exact e⟩

theorem brel_row {φ : Phi} {cs : List AV} {vs : Array Value} {t : TypeId} {w : World} (h : VRels φ cs vs.toList) :
    BRel φ (rowOf cs t) w.heap.size 0 vs.size (w.alloc (.cells vs t)) := by
  refine ⟨vs, t, (0, 0), heap_alloc_new _ _, by omega, ?_, fun k hk => ?_, fun _ => .inl rfl, fun _ => ⟨rfl, rfl⟩⟩
  · have := h.length; simp at this; simp [this]
  · simp only [lenQ_eq] at hk
    rw [get_putsV, if_pos ⟨by omega, by omega⟩]
    obtain ⟨v, hv, hr⟩ := h.get k cs[k] (List.getElem?_eq_getElem hk)
    refine ⟨v, by rw [Nat.zero_add, ← Array.getElem?_toList]; exact hv, ?_⟩
    rw [Nat.sub_zero, List.getElem?_eq_getElem hk]; exact hr

/-- As 'step_new', for a row of cells. -/
theorem step_row {ng : Nat} {φ : Phi} {h : AHeap} {w : World} (H : HRel ng φ h w) {cs : List AV} {vs : Array Value} (t : TypeId) (k : VRels φ cs vs.toList) :
    HRel ng (upd φ h.next (.at w.heap.size 0 vs.size)) (h.new (rowOf cs t)) (w.alloc (.cells vs t)) ∧
      Stp φ h w (upd φ h.next (.at w.heap.size 0 vs.size)) (h.new (rowOf cs t)) (w.alloc (.cells vs t)) :=
  step_new H _ _ _ (brel_row (VRels.mono (Ext.upd (by rw [H.fresh _ (Nat.le_refl _)]; trivial)) _ _ k))

/-! ### A block that is there -/

/-- A block's content is turned: the model's block b becomes o. -/
theorem step_set {ng : Nat} {φ : Phi} {h : AHeap} {w : World} (H : HRel ng φ h w) {i b p n : Nat} {blk blk' : ABlk} {o : Obj}
    (hget : h.get i = some blk) (hro : blk.ro = false) (hro' : blk'.ro = false) (hφ : φ i = .at b p n) {w' : World}
    (hw : w'.heap[b]? = some o) (hsz : w'.heap.size = w.heap.size) (hoth : ∀ k, k ≠ b → w'.heap[k]? = w.heap[k]?)
    (hos : w'.os = w.os) (htp : w'.tape = w.tape) (hout : w'.output = w.output)
    (hb : BRel φ blk' b p n w') : HRel ng φ (h.set i blk') w' ∧ Stp φ h w φ (h.set i blk') w' := by
  have hi : i < h.next := by
    rcases Nat.lt_or_ge i h.next with hl | hl
    · exact hl
    · rw [H.fresh i hl] at hφ; cases hφ
  constructor
  · refine ⟨H.fresh, H.glob, fun j bl hj => ?_, fun j k bj bk c q m q' m' hj hk hne ej ek => ?_, fun j c q m e => by rw [hsz]; exact H.lt _ _ _ _ e, fun j bl hj => by
      rw [AHeap.get_set] at hj
      by_cases e : j = i
      · rw [e]; exact hi
      · rw [if_neg e] at hj; exact H.dom j bl hj⟩
    · rw [AHeap.get_set] at hj
      by_cases e : j = i
      · rw [if_pos e] at hj; cases hj; subst e
        exact .inr ⟨b, p, n, hφ, hb⟩
      · rw [if_neg e] at hj
        rcases H.blk j bl hj with e' | ⟨c, q, m, e', k⟩
        · exact .inl e'
        · refine .inr ⟨c, q, m, e', k.same (hoth c fun hc => ?_)⟩
          subst hc
          have := (H.inj j i bl blk c q m p n hj hget e e' hφ).2
          rw [hro] at this; cases this
    · rw [AHeap.get_set] at hj hk
      by_cases e1 : j = i
      · subst e1
        rw [if_neg (Ne.symm hne)] at hk
        rw [hφ] at ej; cases ej
        have := (H.inj j k blk bk b p n q' m' hget hk hne hφ ek).1
        rw [hro] at this; cases this
      · rw [if_neg e1] at hj
        by_cases e2 : k = i
        · subst e2
          rw [hφ] at ek; cases ek
          have := (H.inj j k bj blk b q m p n hj hget e1 ej hφ).2
          rw [hro] at this; cases this
        · rw [if_neg e2] at hk
          exact H.inj j k bj bk c q m q' m' hj hk hne ej ek
  · refine ⟨Ext.refl _, hos, htp, hout, by omega, fun k _ hn => hoth k fun e => hn ⟨i, blk, p, n, hget, hro, by rw [hφ, e]⟩, fun k ⟨j, bj, q, m, hj, hr, ej⟩ hk => ?_, fun j hj e => ⟨?_, e⟩, by simp⟩
    · rw [AHeap.get_set] at hj
      by_cases e : j = i
      · subst e; rw [hφ] at ej; cases ej; exact ⟨j, blk, p, n, hget, hro, hφ⟩
      · rw [if_neg e] at hj; exact ⟨j, bj, q, m, hj, hr, ej⟩
    · rw [AHeap.get_set, if_neg]
      rintro rfl; rw [hφ] at e; cases e

/-- A block is given up: nothing that leads to it is used any more. The model's block may be anything henceforth. -/
theorem step_drop {ng : Nat} {φ : Phi} {h : AHeap} {w : World} (H : HRel ng φ h w) {i b p n : Nat} {blk : ABlk}
    (hget : h.get i = some blk) (hro : blk.ro = false) (hφ : φ i = .at b p n) {w' : World}
    (hsz : w'.heap.size = w.heap.size) (hoth : ∀ k, k ≠ b → w'.heap[k]? = w.heap[k]?)
    (hos : w'.os = w.os) (htp : w'.tape = w.tape) (hout : w'.output = w.output) :
    HRel ng (upd φ i .dead) (h.drop i) w' ∧ Stp φ h w (upd φ i .dead) (h.drop i) w' := by
  have hi : i < h.next := by
    rcases Nat.lt_or_ge i h.next with hl | hl
    · exact hl
    · rw [H.fresh i hl] at hφ; cases hφ
  have hext : Ext φ (upd φ i .dead) := Ext.upd (by rw [hφ]; exact .inr rfl)
  have hat : ∀ j c q m, upd φ i .dead j = .at c q m → j ≠ i ∧ φ j = .at c q m := by
    intro j c q m e
    by_cases hj : j = i
    · subst hj; rw [upd_same] at e; cases e
    · rw [upd_other φ _ hj] at e; exact ⟨hj, e⟩
  constructor
  · refine ⟨fun j hj => ?_, fun g hg => (H.glob g hg).mono hext, fun j bl hj => ?_, fun j k bj bk c q m q' m' hj hk hne ej ek => ?_, fun j c q m e => by rw [hsz]; exact H.lt _ _ _ _ (hat _ _ _ _ e).2, fun j bl hj => by
      rw [AHeap.get_drop] at hj
      by_cases e : j = i
      · rw [if_pos e] at hj; cases hj
      · rw [if_neg e] at hj; exact H.dom j bl hj⟩
    · rw [upd_other φ _ (by simp at hj; omega)]; exact H.fresh j hj
    · rw [AHeap.get_drop] at hj
      by_cases e : j = i
      · rw [if_pos e] at hj; cases hj
      · rw [if_neg e] at hj
        rcases H.blk j bl hj with e' | ⟨c, q, m, e', k⟩
        · exact .inl (by rw [upd_other φ _ e]; exact e')
        · refine .inr ⟨c, q, m, by rw [upd_other φ _ e]; exact e', (k.mono hext).same (hoth c fun hc => ?_)⟩
          subst hc
          have := (H.inj j i bl blk c q m p n hj hget e e' hφ).2
          rw [hro] at this; cases this
    · rw [AHeap.get_drop] at hj hk
      obtain ⟨h1, h2⟩ := hat _ _ _ _ ej
      obtain ⟨h3, h4⟩ := hat _ _ _ _ ek
      rw [if_neg h1] at hj; rw [if_neg h3] at hk
      exact H.inj j k bj bk c q m q' m' hj hk hne h2 h4
  · refine ⟨hext, hos, htp, hout, by omega, fun k _ hn => hoth k fun e => hn ⟨i, blk, p, n, hget, hro, by rw [hφ, e]⟩, fun k ⟨j, bj, q, m, hj, hr, ej⟩ hk => ?_, fun j hj e => ⟨?_, ?_⟩, by simp⟩
    · obtain ⟨h1, h2⟩ := hat _ _ _ _ ej
      rw [AHeap.get_drop, if_neg h1] at hj
      exact ⟨j, bj, q, m, hj, hr, h2⟩
    · rw [AHeap.get_drop, if_neg]
      rintro rfl; rw [hφ] at e; cases e
    · rw [upd_other φ]
      · exact e
      · rintro rfl; rw [hφ] at e; cases e

/-- A row that is moved in place: the old number is gone, a new one stands for the same block of the model. -/
theorem step_move {ng : Nat} {φ : Phi} {h : AHeap} {w : World} (H : HRel ng φ h w) {i b p n p' n' : Nat} {blk blk' : ABlk}
    (hget : h.get i = some blk) (hro : blk.ro = false) (hro' : blk'.ro = false) (hφ : φ i = .at b p n) {w' : World}
    (hsz : w'.heap.size = w.heap.size) (hoth : ∀ k, k ≠ b → w'.heap[k]? = w.heap[k]?)
    (hos : w'.os = w.os) (htp : w'.tape = w.tape) (hout : w'.output = w.output)
    (hb : BRel (upd (upd φ i .dead) h.next (.at b p' n')) blk' b p' n' w') :
    HRel ng (upd (upd φ i .dead) h.next (.at b p' n')) ((h.drop i).new blk') w' ∧ Stp φ h w (upd (upd φ i .dead) h.next (.at b p' n')) ((h.drop i).new blk') w' := by
  have hi : i < h.next := by
    rcases Nat.lt_or_ge i h.next with hl | hl
    · exact hl
    · rw [H.fresh i hl] at hφ; cases hφ
  have hun : φ h.next = .un := H.fresh _ (Nat.le_refl _)
  have hext : Ext φ (upd (upd φ i .dead) h.next (.at b p' n')) :=
    Ext.trans (Ext.upd (s := .dead) (by rw [hφ]; exact .inr rfl)) (Ext.upd (by rw [upd_other φ _ (by omega), hun]; trivial))
  have hat : ∀ j c q m, upd (upd φ i .dead) h.next (.at b p' n') j = .at c q m → (j = h.next ∧ c = b ∧ q = p' ∧ m = n') ∨ (j ≠ h.next ∧ j ≠ i ∧ φ j = .at c q m) := by
    intro j c q m e
    by_cases hj : j = h.next
    · subst hj; rw [upd_same] at e; cases e; exact .inl ⟨rfl, rfl, rfl, rfl⟩
    · rw [upd_other _ _ hj] at e
      by_cases hj' : j = i
      · subst hj'; rw [upd_same] at e; cases e
      · rw [upd_other φ _ hj'] at e; exact .inr ⟨hj, hj', e⟩
  have gets : ∀ j, ((h.drop i).new blk').get j = if j = h.next then some blk' else if j = i then none else h.get j := by
    intro j; rw [AHeap.get_new, AHeap.get_drop]; rfl
  constructor
  · refine ⟨fun j hj => ?_, fun g hg => (H.glob g hg).mono hext, fun j bl hj => ?_, fun j k bj bk c q m q' m' hj hk hne ej ek => ?_, fun j c q m e => ?_, fun j bl hj => by
      rw [gets] at hj
      simp only [AHeap.next_new, AHeap.next_drop]
      by_cases e : j = h.next
      · omega
      · rw [if_neg e] at hj
        by_cases e2 : j = i
        · omega
        · rw [if_neg e2] at hj; have := H.dom j bl hj; omega⟩
    · simp only [AHeap.next_new, AHeap.next_drop] at hj
      rw [upd_other _ _ (by omega), upd_other _ _ (by omega)]; exact H.fresh j (by omega)
    · rw [gets] at hj
      by_cases e : j = h.next
      · rw [if_pos e] at hj; cases hj; subst e
        exact .inr ⟨b, p', n', upd_same _ _ _, hb⟩
      · rw [if_neg e] at hj
        by_cases e2 : j = i
        · rw [if_pos e2] at hj; cases hj
        · rw [if_neg e2] at hj
          rcases H.blk j bl hj with e' | ⟨c, q, m, e', k⟩
          · exact .inl (by rw [upd_other _ _ e, upd_other _ _ e2]; exact e')
          · refine .inr ⟨c, q, m, by rw [upd_other _ _ e, upd_other _ _ e2]; exact e', (k.mono hext).same (hoth c fun hc => ?_)⟩
            subst hc
            have := (H.inj j i bl blk c q m p n hj hget e2 e' hφ).2
            rw [hro] at this; cases this
    · rw [gets] at hj hk
      rcases hat _ _ _ _ ej with ⟨rfl, rfl, _, _⟩ | ⟨h1, h2, h3⟩ <;> rcases hat _ _ _ _ ek with ⟨rfl, h4, _, _⟩ | ⟨h4, h5, h6⟩
      · exact absurd rfl hne
      · rw [if_neg h4, if_neg h5] at hk
        have := (H.inj k i bk blk c q' m' p n hk hget h5 h6 hφ).2
        rw [hro] at this; cases this
      · subst h4
        rw [if_neg h1, if_neg h2] at hj
        have := (H.inj j i bj blk c q m p n hj hget h2 h3 hφ).2
        rw [hro] at this; cases this
      · rw [if_neg h1, if_neg h2] at hj; rw [if_neg h4, if_neg h5] at hk
        exact H.inj j k bj bk c q m q' m' hj hk hne h3 h6
    · rw [hsz]
      rcases hat _ _ _ _ e with ⟨_, rfl, _, _⟩ | ⟨_, _, h3⟩
      · exact H.lt _ _ _ _ hφ
      · exact H.lt _ _ _ _ h3
  · refine ⟨hext, hos, htp, hout, by omega, fun k _ hn => hoth k fun e => hn ⟨i, blk, p, n, hget, hro, by rw [hφ, e]⟩, fun k ⟨j, bj, q, m, hj, hr, ej⟩ hk => ?_, fun j hj e => ⟨?_, ?_⟩, by simp⟩
    · rcases hat _ _ _ _ ej with ⟨_, rfl, _, _⟩ | ⟨h1, h2, h3⟩
      · exact ⟨i, blk, p, n, hget, hro, hφ⟩
      · rw [gets, if_neg h1, if_neg h2] at hj
        exact ⟨j, bj, q, m, hj, hr, h3⟩
    · rw [gets, if_neg (by omega), if_neg]
      rintro rfl; rw [hφ] at e; cases e
    · rw [upd_other _ _ (by omega), upd_other φ]
      · exact e
      · rintro rfl; rw [hφ] at e; cases e

/-! ### Loads -/

theorem cell_row {w : World} {b : Nat} {vs : Array Value} {t : TypeId} {fz : Nat × Nat} (h : w.heap[b]? = some (.cells vs t fz)) (k : Nat) :
    w.cell? ⟨b, k, none⟩ = vs[k]? := by simp [World.cell?, h]

theorem add_none (b o k : Nat) : Addr.add ⟨b, o, none⟩ k = ⟨b, o + k, none⟩ := Addr.add_lit b o k

theorem run_loads (P : Program) {w : World} {b o : Nat} {vs : Array Value} {t : TypeId} {fz : Nat × Nat} (h : w.heap[b]? = some (.cells vs t fz)) (n : Nat) (hn : o + n ≤ vs.size) :
    (loadCells ⟨b, o, none⟩ n).run P w = .ok (vs.extract o (o + n)) w := by
  have hl : (vs.extract o (o + n)).toList.length = n := by simp; omega
  have := run_loadCells_list (P := P) (w := w) ⟨b, o, none⟩ (vs.extract o (o + n)).toList fun j v hj => by
    rw [add_none, cell_row h]
    rw [Array.getElem?_toList, Array.getElem?_extract] at hj
    split at hj
    · exact hj
    · cases hj
  rw [hl] at this
  rw [this]

/-- What the abstract heap tells of cells, the model's have. -/
theorem loads_of {ng : Nat} {φ : Phi} {h : AHeap} {w : World} (H : HRel ng φ h w) {i o n : Nat} {cs : List AV} (hc : h.cellsAt i o n = some cs) {b p m : Nat} (hφ : φ i = .at b p m) :
    ∃ vs t fz, w.heap[b]? = some (.cells vs t fz) ∧ p + o + n ≤ vs.size ∧ VRels φ cs (vs.extract (p + o) (p + o + n)).toList ∧ o + n ≤ m := by
  unfold AHeap.cellsAt at hc
  cases hg : h.get i with
  | none => rw [hg] at hc; cases hc
  | some blk =>
    rw [hg] at hc
    cases blk with
    | map es c => cases hc
    | siter s c => cases hc
    | row _ _ _ _ _ _ _ => cases hc
    | cells k c t ro =>
      simp only [T.ifB_eq, ble_iff] at hc
      split at hc
      · rename_i hle
        simp only [Nat.add_eq] at hle
        cases hc
        rcases H.blk i _ hg with e | ⟨b', p', m', e, vs, u, fz, h1, h2, h3, h4, h5, h6⟩
        · rw [e] at hφ; cases hφ
        · rw [e] at hφ; cases hφ
          refine ⟨vs, u, fz, h1, by omega, ?_, by omega⟩
          refine VRels.mk ?_ fun j a v ha hv => ?_
          · simp [length_getsV]; omega
          · have hj : j < n := by
              rcases Nat.lt_or_ge j n with hl | hl
              · exact hl
              · rw [List.getElem?_eq_none (by rw [length_getsV]; exact hl)] at ha; cases ha
            rw [getElem?_getsV _ _ _ _ hj] at ha; cases ha
            rw [Array.getElem?_toList, Array.getElem?_extract] at hv
            split at hv
            · obtain ⟨v', hv', hr⟩ := h4 (o + j) (by omega)
              rw [show p + o + j = p + (o + j) by omega, hv'] at hv; cases hv
              exact hr
            · cases hv
      · cases hc

theorem segCells_ok {φ : Phi} {vs : Array Value} {p esz id sc n : Nat} {off : Int} : ∀ {segs : List (Nat × Int × List AV)} {cs : List AV}, segCells id sc off n esz segs = some cs → (∀ s ∈ segs, SegOk φ vs p esz s) → 0 ≤ Val.num id * esz + off →
    cs.length = n ∧ ∀ (k : Nat) (a : AV), cs[k]? = some a → ∃ v, vs[p + ((Val.num id * esz + off).toNat + k)]? = some v ∧ VRel φ a v
  | [], cs, h, _, _ => by cases h
  | (id', off', ds) :: r, cs, h, hs, h0 => by
    have next := fun (h : segCells id sc off n esz r = some cs) => segCells_ok (segs := r) (cs := cs) h (fun s hm => hs s (List.mem_cons_of_mem _ hm)) h0
    simp only [segCells, T.ifB_eq, beq_iff, ble_iff, lenQ_eq, Nat.add_eq] at h
    split at h
    · rename_i hid
      split at h
      · split at h
        · rename_i k hk
          split at h
          · rename_i hle
            cases h
            subst hid
            obtain ⟨h1, h2⟩ := hs _ (List.mem_cons_self ..)
            refine ⟨by simp; omega, fun j a ha => ?_⟩
            have hj : j < n := by
              have := (List.getElem?_eq_some_iff.1 ha).1
              simp at this; omega
            rw [List.getElem?_take, if_pos hj, List.getElem?_drop] at ha
            obtain ⟨v, hv, hr⟩ := h2 _ _ ha
            refine ⟨v, ?_, hr⟩
            have e : ((Val.num id' + off').toNat * esz : Int) = Val.num id' * esz + off' * esz := by
              rw [Int.toNat_of_nonneg h1, Int.add_mul]
            have hk' : off - off' * (esz : Int) = (k : Int) := hk
            have e2 : (Val.num id' * (esz : Int) + off).toNat = (Val.num id' + off').toNat * esz + k := by
              have : (((Val.num id' + off').toNat * esz + k : Nat) : Int) = Val.num id' * (esz : Int) + off := by
                push_cast
                rw [e]; omega
              omega
            rw [e2, Nat.add_assoc]
            exact hv
          · exact next h
        · exact next h
      · exact next h
    · exact next h

/-- What the abstract heap tells of the cells of a row that is told by names, the model's have. -/
theorem loadsX_of {ng : Nat} {φ : Phi} {h : AHeap} {w : World} (H : HRel ng φ h w) {i id sc n : Nat} {off : Int} {cs : List AV} (hc : h.cellsX i id sc off n = some cs) (h0 : 0 ≤ Val.num id * sc + off) {b p m : Nat} (hφ : φ i = .at b p m) (hn : 0 < n) :
    ∃ vs t fz, w.heap[b]? = some (.cells vs t fz) ∧ p + (Val.num id * sc + off).toNat + n ≤ vs.size ∧ VRels φ cs (vs.extract (p + (Val.num id * sc + off).toNat) (p + (Val.num id * sc + off).toNat + n)).toList ∧ (Val.num id * sc + off).toNat + n ≤ m := by
  unfold AHeap.cellsX at hc
  cases hg : h.get i with
  | none => rw [hg] at hc; cases hc
  | some blk =>
    rw [hg] at hc
    cases blk with
    | cells _ _ _ _ => cases hc
    | map es c => cases hc
    | siter s c => cases hc
    | row nm esz cid coff segs t ro =>
      simp only at hc
      rcases H.blk i _ hg with e | ⟨b', p', m', e, vs, u, fz, h1, h2, ⟨h3, h4⟩, h5, h6⟩
      · rw [e] at hφ; cases hφ
      · rw [e] at hφ; cases hφ
        have e1 : Val.num id * (sc : Int) = Val.num id * ((ifB (Nat.beq id 0) esz sc : Nat) : Int) := by
          rw [T.ifB_eq]
          split
          · rename_i hz
            rw [beq_iff] at hz
            subst hz
            rw [Val.num0]; simp
          · rfl
        have hsc : ifB (Nat.beq id 0) esz sc = esz := by
          rw [T.ifB_eq]
          split
          · rfl
          · rename_i hz
            have : ∀ (segs : List (Nat × Int × List AV)), segCells id sc off n esz segs = some cs → sc = esz := by
              intro segs
              induction segs with
              | nil => intro h; cases h
              | cons s r ih =>
                obtain ⟨id', off', ds⟩ := s
                intro h
                simp only [segCells, T.ifB_eq, beq_iff] at h
                split at h
                · split at h
                  · rename_i hh; exact hh
                  · exact ih h
                · exact ih h
            rw [T.ifB_eq, if_neg hz] at hc
            exact this segs hc
        rw [hsc] at e1
        rw [T.ifB_eq] at hc
        have hc' : segCells id (ifB (Nat.beq id 0) esz sc) off n esz segs = some cs := by rw [T.ifB_eq]; exact hc
        rw [e1] at h0 ⊢
        obtain ⟨k1, k2⟩ := segCells_ok hc' h4 h0
        have hlast : p + (Val.num id * (esz : Int) + off).toNat + n ≤ vs.size := by
          obtain ⟨v, hv, _⟩ := k2 (n - 1) cs[n - 1] (List.getElem?_eq_getElem (by omega))
          have := (Array.getElem?_eq_some_iff.1 hv).1
          omega
        refine ⟨vs, u, fz, h1, hlast, VRels.mk (by simp [k1]; omega) fun j a v ha hv => ?_, by omega⟩
        obtain ⟨v', hv', hr⟩ := k2 j a ha
        rw [Array.getElem?_toList, Array.getElem?_extract] at hv
        split at hv
        · rw [Nat.add_assoc, hv'] at hv; cases hv; exact hr
        · cases hv

/-! ### Stores -/

/-- A row's cells overwritten from a place on. -/
def overwrite (vs : Array Value) (o : Nat) : List Value → Array Value
  | [] => vs
  | v :: r => overwrite (vs.setIfInBounds o v) (o + 1) r

theorem size_overwrite : ∀ (l : List Value) (vs : Array Value) (o : Nat), (overwrite vs o l).size = vs.size
  | [], _, _ => rfl
  | v :: r, vs, o => by rw [overwrite, size_overwrite r]; simp

theorem get_overwrite : ∀ (l : List Value) (vs : Array Value) (o k : Nat), o + l.length ≤ vs.size →
    (overwrite vs o l)[k]? = if o ≤ k ∧ k < o + l.length then l[k - o]? else vs[k]?
  | [], vs, o, k, _ => by simp only [overwrite, List.length_nil, Nat.add_zero]; rw [if_neg (by omega)]
  | v :: r, vs, o, k, h => by
    simp only [List.length_cons] at h
    rw [overwrite, get_overwrite r _ _ _ (by simp; omega)]
    simp only [List.length_cons]
    by_cases e : k = o
    · subst e
      rw [if_neg (by omega), if_pos ⟨Nat.le_refl _, by omega⟩]
      have : k < vs.size := by omega
      simp [this]
    · by_cases e2 : o + 1 ≤ k ∧ k < o + 1 + r.length
      · rw [if_pos e2, if_pos ⟨by omega, by omega⟩, show k - o = (k - (o + 1)) + 1 by omega, List.getElem?_cons_succ]
      · rw [if_neg e2, if_neg (by omega), Array.getElem?_setIfInBounds_ne (by omega)]

def World.setRowAt (w : World) (b : Nat) (vs : Array Value) (t : TypeId) (fz : Nat × Nat) : World := { w with heap := w.heap.setIfInBounds b (.cells vs t fz) }

theorem setCell_row {w : World} {b o : Nat} {vs : Array Value} {t : TypeId} {fz : Nat × Nat} (h : w.heap[b]? = some (.cells vs t fz)) (v : Value) :
    w.setCell ⟨b, o, none⟩ v = World.setRowAt w b (vs.setIfInBounds o v) t fz := by
  simp only [World.setCell, World.setRowAt, World.mk.injEq, and_true]
  refine Array.ext_getElem? fun k => ?_
  rw [Array.getElem?_modify, Array.getElem?_setIfInBounds]
  have hb : b < w.heap.size := (Array.getElem?_eq_some_iff.1 h).1
  by_cases e : b = k
  · subst e
    rw [if_pos rfl, if_pos rfl, if_pos hb, h]
    rfl
  · simp [e]

theorem setRowAt_same {w : World} {b : Nat} {vs : Array Value} {t : TypeId} {fz : Nat × Nat} (h : w.heap[b]? = some (.cells vs t fz)) : World.setRowAt w b vs t fz = w := by
  have : w.heap.setIfInBounds b (.cells vs t fz) = w.heap := by
    refine Array.ext_getElem? fun k => ?_
    rw [Array.getElem?_setIfInBounds]
    by_cases e : b = k
    · subst e; simp [h]; exact (Array.getElem?_eq_some_iff.1 h).1
    · simp [e]
  unfold World.setRowAt
  rw [this]

theorem setRowAt_twice (w : World) (b : Nat) (vs vs' : Array Value) (t : TypeId) (fz : Nat × Nat) : World.setRowAt (World.setRowAt w b vs t fz) b vs' t fz = World.setRowAt w b vs' t fz := by
  simp [World.setRowAt]

theorem heap_setRowAt {w : World} {b : Nat} (hb : b < w.heap.size) (vs : Array Value) (t : TypeId) (fz : Nat × Nat) : (World.setRowAt w b vs t fz).heap[b]? = some (.cells vs t fz) := by
  simp [World.setRowAt, hb]

theorem heap_setRowAt_other (w : World) {b k : Nat} (h : k ≠ b) (vs : Array Value) (t : TypeId) (fz : Nat × Nat) : (World.setRowAt w b vs t fz).heap[k]? = w.heap[k]? := by
  simp [World.setRowAt, Array.getElem?_setIfInBounds_ne (Ne.symm h)]

theorem notFrozen {w : World} {b o : Nat} {vs : Array Value} {t : TypeId} {fz : Nat × Nat} (h : w.heap[b]? = some (.cells vs t fz)) (hf : fz.1 = fz.2 ∨ vs.size ≤ fz.1) (ho : o < vs.size) :
    w.frozen? ⟨b, o, none⟩ = false := by
  obtain ⟨lo, hi⟩ := fz
  simp only [World.frozen?, h]
  simp only [Bool.and_eq_false_imp, decide_eq_true_eq, decide_eq_false_iff_not]
  intro hl
  rcases hf with hf | hf <;> simp at hf <;> omega

theorem run_stores (P : Program) : ∀ (l : List Value) {w : World} {b o i : Nat} {vs : Array Value} {t : TypeId} {fz : Nat × Nat}, w.heap[b]? = some (.cells vs t fz) →
    (fz.1 = fz.2 ∨ vs.size ≤ fz.1) → o + i + l.length ≤ vs.size → (∀ v ∈ l, v.oneCell' = true) →
    (storeCells ⟨b, o, none⟩ l i).run P w = .ok () (World.setRowAt w b (overwrite vs (o + i) l) t fz)
  | [], w, b, o, i, vs, t, fz, h, _, _, _ => by
    simp only [storeCells, Sem.run_pure, overwrite]
    rw [setRowAt_same h]
  | v :: r, w, b, o, i, vs, t, fz, h, hf, hl, hv => by
    simp only [List.length_cons] at hl
    have hb : b < w.heap.size := (Array.getElem?_eq_some_iff.1 h).1
    simp only [storeCells, Sem.run_bind, add_none]
    rw [run_store P w ⟨b, o + i, none⟩ v .plain (hv v (List.mem_cons_self ..)), cell_row h]
    rw [Array.getElem?_eq_getElem (show o + i < vs.size by omega)]
    simp only [notFrozen h hf (show o + i < vs.size by omega), Bool.false_eq_true, if_false, Result.andThen_ok]
    rw [setCell_row h]
    rw [run_stores P r (heap_setRowAt hb _ _ _) (by simpa using hf) (by simp; omega) (fun u hu => hv u (List.mem_cons_of_mem _ hu)), setRowAt_twice]
    rw [overwrite, Nat.add_assoc]

theorem oneCell_of {φ : Phi} {x : AV} {v : Value} (h : VRel φ x v) (hc : isCell x = true) : v.oneCell' = true := by
  obtain ⟨h1, h2⟩ := h.isCell hc
  cases v <;> simp_all [Value.oneCell']

/-- A store that the abstract heap carries out, the model does. -/
theorem stores_of (P : Program) {ng : Nat} {φ : Phi} {h h' : AHeap} {w : World} (H : HRel ng φ h w) {i o : Nat} {vs : List AV} {cvs : List Value} (hs : h.store i o vs = some h')
    {b p m : Nat} (hφ : φ i = .at b p m) (hv : VRels φ vs cvs) :
    ∃ w', (storeCells ⟨b, p + o, none⟩ cvs).run P w = .ok () w' ∧ HRel ng φ h' w' ∧ Stp φ h w φ h' w' := by
  unfold AHeap.store at hs
  cases hg : h.get i with
  | none => rw [hg] at hs; cases hs
  | some blk =>
    rw [hg] at hs
    cases blk with
    | map es c => cases hs
    | siter s c => cases hs
    | row _ _ _ _ _ _ _ => cases hs
    | cells k c t ro =>
      simp only [T.ifB_eq, Bool.and_eq_true, Bool.not_eq_true', ble_iff, lenQ_eq] at hs
      split at hs
      · rename_i hcond
        obtain ⟨⟨hro, hle⟩, hall⟩ := hcond
        subst hro
        simp only [Nat.add_eq] at hle
        cases hs
        rcases H.blk i _ hg with e | ⟨b', p', m', e, ws, u, fz, h1, h2, h3, h4, h5, h6⟩
        · rw [e] at hφ; cases hφ
        · rw [e] at hφ; cases hφ
          have hb : b < w.heap.size := (Array.getElem?_eq_some_iff.1 h1).1
          have hlen := hv.length
          have hone : ∀ v ∈ cvs, v.oneCell' = true := by
            intro v hvm
            obtain ⟨j, hj⟩ := List.getElem?_of_mem hvm
            have hj' : j < vs.length := by
              have := (List.getElem?_eq_some_iff.1 hj).1; omega
            obtain ⟨v', hv', hr⟩ := hv.get j vs[j] (List.getElem?_eq_getElem hj')
            rw [hj] at hv'; cases hv'
            exact oneCell_of hr (allCells_iff.1 hall _ (List.getElem_mem _))
          refine ⟨_, run_stores P cvs (i := 0) h1 (h5 rfl) (by omega) hone, ?_⟩
          rw [Nat.add_zero]
          refine step_set H hg rfl rfl e (heap_setRowAt hb _ _ _) (by simp [World.setRowAt]) (fun k hk => heap_setRowAt_other w hk _ _ _) rfl rfl rfl ?_
          refine ⟨_, u, fz, heap_setRowAt hb _ _ _, by rw [size_overwrite]; exact h2, h3, fun q hq => ?_, fun _ => by rw [size_overwrite]; exact h5 rfl, h6⟩
          rw [get_overwrite _ _ _ _ (by omega), get_putsV]
          by_cases hq2 : o ≤ q ∧ q < o + vs.length
          · rw [if_pos (by omega), if_pos hq2, show p + q - (p + o) = q - o by omega]
            obtain ⟨v', hv', hr⟩ := hv.get (q - o) vs[q - o] (List.getElem?_eq_getElem (by omega))
            refine ⟨v', hv', ?_⟩
            rw [List.getElem?_eq_getElem (by omega)]; exact hr
          · rw [if_neg (by omega), if_neg hq2]
            exact h4 q hq
      · cases hs

end Go.Abs

/- The abstract machine: operations that write nothing old: what the abstract one tells, the model's does. -/
namespace Go.Abs
variable [Fct] [Val]

/-! ### Constants and operands -/

mutual
theorem ofValue_rel {φ : Phi} : ∀ (v : Value) (x : AV), ofValue v = some x → VRel φ x v
  | .bool b, x, h => by simp only [ofValue] at h; cases h; rfl
  | .int k n, x, h => by simp only [ofValue] at h; cases h; rfl
  | .string s, x, h => by simp only [ofValue] at h; cases h; rfl
  | .pointer none, x, h => by simp only [ofValue] at h; cases h; rfl
  | .pointer (some _), x, h => by simp only [ofValue] at h; cases h
  | .slice none 0 0, x, h => by simp only [ofValue] at h; cases h; exact ⟨rfl, rfl, rfl⟩
  | .slice none 0 (_ + 1), x, h => by simp only [ofValue] at h; cases h
  | .slice none (_ + 1) _, x, h => by simp only [ofValue] at h; cases h
  | .slice (some _) _ _, x, h => by simp only [ofValue] at h; cases h
  | .map none, x, h => by simp only [ofValue] at h; cases h; rfl
  | .map (some _), x, h => by simp only [ofValue] at h; cases h
  | .nilFunc, x, h => by simp only [ofValue] at h; cases h; rfl
  | .nilIface, x, h => by simp only [ofValue] at h; cases h; rfl
  | .agg ⟨cs⟩, x, h => by
    simp only [ofValue] at h
    cases hc : ofValues cs with
    | none => rw [hc] at h; cases h
    | some l => rw [hc] at h; cases h; exact ⟨_, rfl, ofValues_rel cs l hc⟩
  | .tuple ⟨cs⟩, x, h => by
    simp only [ofValue] at h
    cases hc : ofValues cs with
    | none => rw [hc] at h; cases h
    | some l => rw [hc] at h; cases h; exact ⟨_, rfl, ofValues_rel cs l hc⟩
  | .iface t v, x, h => by
    simp only [ofValue] at h
    cases hc : ofValue v with
    | none => rw [hc] at h; cases h
    | some l => rw [hc] at h; cases h; exact ⟨_, rfl, ofValue_rel v l hc⟩
  | .float _ _, x, h => by simp only [ofValue] at h; cases h
  | .complex _ _ _, x, h => by simp only [ofValue] at h; cases h
  | .chan _, x, h => by simp only [ofValue] at h; cases h
  | .func _ _ _, x, h => by simp only [ofValue] at h; cases h
theorem ofValues_rel {φ : Phi} : ∀ (v : List Value) (x : List AV), ofValues v = some x → VRels φ x v
  | [], x, h => by simp only [ofValues] at h; cases h; rfl
  | v :: vs, x, h => by
    simp only [ofValues] at h
    cases hv : ofValue v with
    | none => rw [hv] at h; cases h
    | some a =>
      rw [hv] at h
      cases hr : ofValues vs with
      | none => rw [hr] at h; cases h
      | some l => rw [hr] at h; cases h; exact ⟨v, vs, rfl, ofValue_rel v a hv, ofValues_rel vs l hr⟩
end

/-- What is known of the frame: each place's value, told by the latest result or by what the frame keeps. -/
def CtxOk (φ : Phi) (c : Ctx) (e : Env) (r : Regs) (tmps : Array Value) : Prop :=
  ∀ t, VRel φ (match locOf t c 0 with | some k => locAt e k | none => r.val t) (tmps.getD t undef)

/-- Operands are what they are. -/
def OpsOk (P : Program) (φ : Phi) (c : Ctx) (e : Env) (r : Regs) (S : Operand → Prop) (ρ : Operand → Value) : Prop :=
  ∀ x y, S x → cOpd P c x = some y → VRel φ (y.ev e r) (ρ x)

theorem opsOk {P : Program} {φ : Phi} {c : Ctx} {e : Env} {r : Regs} {a : Act} (hg : ∀ g, g < P.globals.size → PtrOk φ g 0 ⟨g, 0, none⟩) (h : CtxOk φ c e r a.tmps) (S : Operand → Prop) : OpsOk P φ c e r S a.eval := by
  intro x y _ hx
  cases x with
  | tmp t =>
    have ht := h t
    simp only [cOpd] at hx
    cases hl : locOf t c 0 with
    | some k => rw [hl] at hx ht; cases hx; simpa [Act.eval] using ht
    | none => rw [hl] at hx ht; cases hx; simpa [Act.eval] using ht
  | const v =>
    simp only [cOpd] at hx
    cases hv : ofValue v with
    | none => rw [hv] at hx; cases hx
    | some av => rw [hv] at hx; cases hx; exact ofValue_rel v av hv
  | global g =>
    simp only [cOpd] at hx
    split at hx
    · rename_i hlt
      cases hx
      exact ⟨_, rfl, hg g hlt⟩
    · cases hx
  | func f =>
    simp only [cOpd] at hx
    cases hx
    exact ⟨#[], #[], rfl, rfl, rfl⟩

section
variable {P : Program} {φ : Phi} {c : Ctx} {e : Env} {r : Regs} {S : Operand → Prop} {ρ : Operand → Value} (H : OpsOk P φ c e r S ρ)
include H

theorem evs_ok : ∀ (xs : List Operand) (ys : List Opd), (∀ x ∈ xs, S x) → cOpds P c xs = some ys → VRels φ (evs ys e r) (xs.map ρ)
  | [], ys, _, h => by simp only [cOpds] at h; cases h; rfl
  | x :: xs, ys, hS, h => by
    simp only [cOpds] at h
    cases hx : cOpd P c x with
    | none => rw [hx] at h; cases h
    | some y =>
      rw [hx] at h
      simp only [Option.bind_some] at h
      cases hr : cOpds P c xs with
      | none => rw [hr] at h; cases h
      | some l =>
        rw [hr] at h; cases h
        exact ⟨_, _, rfl, H x y (hS x (by simp)) hx, evs_ok xs l (fun z hz => hS z (by simp [hz])) hr⟩

end

/-! ### What an operation that writes nothing old owes -/

def DOk (P : Program) (φ : Phi) (s : Sem Next) : DRes → Prop
  | .val v => ∃ cv, (∀ w, s.run P w = .ok (.value cv) w) ∧ VRel φ v cv
  | .read i o n f => φ i ≠ .un ∧ ∀ (b p m : Nat) (vs : Array Value) (t : TypeId) (fz : Nat × Nat) (w : World), φ i = .at b p m → w.heap[b]? = some (.cells vs t fz) → p + o + n ≤ vs.size → o + n ≤ m →
      ∀ (cs : List AV), VRels φ cs (vs.extract (p + o) (p + o + n)).toList → ∀ v, f cs = some v → ∃ cv, s.run P w = .ok (.value cv) w ∧ VRel φ v cv
  | .readT i o ts v => φ i ≠ .un ∧ ∀ (b m : Nat) (vs : Array Value) (t s' : Nat) (fz : Nat × Nat) (w : World), φ i = .at b 0 m → w.heap[b]? = some (.cells vs t fz) → vs.size = m → o < m → (t, s') ∈ ts → s' ≤ m →
      ∃ cv, s.run P w = .ok (.value cv) w ∧ VRel φ v cv
  | .readMap i f => φ i ≠ .un ∧ ∀ (b p m : Nat) (ces : Array MapEntry) (clock : Nat) (w : World), φ i = .at b p m → w.heap[b]? = some (.map ces clock) →
      ∀ (es : List (AV × AV × Nat)), ERels φ es ces.toList → ∀ v, f es = some v → ∃ cv, s.run P w = .ok (.value cv) w ∧ VRel φ v cv
  | .readX i id sc off n f => (φ i ≠ .un ∧ 0 ≤ Val.num id * sc + off ∧ 0 < n) ∧ ∀ (b p m : Nat) (vs : Array Value) (t : TypeId) (fz : Nat × Nat) (w : World), φ i = .at b p m → w.heap[b]? = some (.cells vs t fz) → p + (Val.num id * sc + off).toNat + n ≤ vs.size → (Val.num id * sc + off).toNat + n ≤ m →
      ∀ (cs : List AV), VRels φ cs (vs.extract (p + (Val.num id * sc + off).toNat) (p + (Val.num id * sc + off).toNat + n)).toList → ∀ v, f cs = some v → ∃ cv, s.run P w = .ok (.value cv) w ∧ VRel φ v cv
  | .new blk mk => ∀ (w : World), ∃ o n cv, s.run P w = .ok (.value cv) (w.alloc o) ∧ (∀ φ', Ext φ φ' → BRel φ' blk w.heap.size 0 n (w.alloc o)) ∧
      ∀ φ' i, φ' i = .at w.heap.size 0 n → VRel φ' (mk i) cv
  | .bad => True

/-- A value's operation as an operation. -/
abbrev valued (s : Sem Value) : Sem Next := do pure (.value (← s))

theorem run_valued (P : Program) (s : Sem Value) (w : World) : (valued s).run P w = (s.run P w).andThen fun v w' => .ok (.value v) w' := by
  simp [valued]

theorem DOk.val_of {P : Program} {φ : Phi} {s : Sem Value} {v : AV} (cv : Value) (h : ∀ w, s.run P w = .ok cv w) (k : VRel φ v cv) : DOk P φ (valued s) (.val v) :=
  ⟨cv, fun w => by rw [run_valued, h]; rfl, k⟩

theorem DOk.row {P : Program} {φ : Phi} {s : Sem Value} {cs : List AV} {t : TypeId} {mk : Nat → AV} (vs : Array Value) (cv : Nat → Value)
    (h : ∀ w, s.run P w = .ok (cv w.heap.size) (w.alloc (.cells vs t))) (k : VRels φ cs vs.toList) (hm : ∀ φ' b i, φ' i = .at b 0 vs.size → VRel φ' (mk i) (cv b)) :
    DOk P φ (valued s) (.new (rowOf cs t) mk) :=
  fun w => ⟨_, vs.size, cv w.heap.size, by rw [run_valued, h]; rfl, fun φ' he => brel_row (VRels.mono he _ _ k), fun φ' i hi => hm φ' _ i hi⟩

/-! ### Numbers -/

theorem allSome_get : ∀ {l : List (Option Int)} {r : List Int}, allSome l = some r → ∀ (j : Nat) (o : Option Int), l[j]? = some o → ∃ n, o = some n ∧ r[j]? = some n
  | [], r, h, j, o, hj => by simp at hj
  | none :: l, r, h, j, o, hj => by simp [allSome] at h
  | some n :: l, r, h, j, o, hj => by
    simp only [allSome] at h
    split at h
    · rename_i r' hr
      cases h
      cases j with
      | zero => simp at hj; exact ⟨n, hj.symm, rfl⟩
      | succ j =>
        obtain ⟨m, h1, h2⟩ := allSome_get hr j o (by simpa using hj)
        exact ⟨m, h1, by simpa using h2⟩
    · cases h

theorem allOne_get {n : Int} : ∀ {l : List Int}, allOne n l = true → ∀ (j : Nat) (m : Int), l[j]? = some m → m = n
  | [], h, j, m, hj => by simp at hj
  | x :: l, h, j, m, hj => by
    unfold allOne at h
    rw [T.ifB_eq] at h
    split at h
    · rename_i hx
      rw [eqQ_eq, beq_iff_eq] at hx
      cases j with
      | zero => simp at hj; rw [← hj]; exact hx
      | succ j => exact allOne_get h j m (by simpa using hj)
    · cases h

theorem allB_get {b : Bool} : ∀ {l : List Bool}, allB b l = true → ∀ (j : Nat) (c : Bool), l[j]? = some c → c = b
  | [], h, j, m, hj => by simp at hj
  | x :: l, h, j, m, hj => by
    unfold allB at h
    cases hx : x == b with
    | false => rw [hx] at h; cases h
    | true =>
      rw [hx] at h
      cases j with
      | zero => simp at hj; rw [← hj]; simpa using hx
      | succ j => exact allB_get h j m (by simpa using hj)

theorem symO_ok {P : Program} {φ : Phi} {s : Sem Value} {k : IntKind} {id : Nat} {l : List (Option Int)} {o : Option Int} (hl : l[Val.at_ id]? = some o) (h : ∀ n, o = some n → ∀ w, s.run P w = .ok (.int k n) w) : DOk P φ (valued s) (symO k id l) := by
  unfold symO
  split
  · rename_i r hr
    obtain ⟨n, rfl, hn⟩ := allSome_get hr _ _ hl
    unfold symV
    split
    · trivial
    · rename_i m r'
      rw [T.ifB_eq]
      refine .val_of _ (h n rfl) ?_
      split
      · rename_i h1
        have : n = m := by
          cases hj : Val.at_ id with
          | zero => rw [hj] at hn; simp at hn; exact hn.symm
          | succ j => rw [hj] at hn; exact allOne_get h1 j n (by simpa using hn)
        rw [this]; rfl
      · exact ⟨n, hn, rfl⟩
  · trivial

theorem symB_ok {P : Program} {φ : Phi} {s : Sem Value} {l : List Bool} {j : Nat} {c : Bool} (hl : l[j]? = some c) (h : ∀ w, s.run P w = .ok (.bool c) w) : DOk P φ (valued s) (symB l) := by
  unfold symB
  split
  · trivial
  · rename_i b r
    rw [T.ifB_eq]
    split
    · rename_i h1
      refine .val_of _ h ?_
      have : c = b := by
        cases j with
        | zero => simp at hl; exact hl.symm
        | succ j => exact allB_get h1 j c (by simpa using hl)
      rw [this]; rfl
    · trivial

theorem int2S_ok {P : Program} {φ : Phi} {k : IntKind} {g : Int → Int → Option Int} {va vb : AV} {cx cy : Value} (hx : VRel φ va cx) (hy : VRel φ vb cy)
    {s : Sem Value} (h : ∀ a b n, cx = .int k a → cy = .int k b → g a b = some n → ∀ w, s.run P w = .ok (.int k n) w) : DOk P φ (valued s) (int2S k g va vb) := by
  unfold int2S
  split
  · rename_i k₁ m k₂ id ns
    simp only [VRel] at hx
    obtain ⟨n, hn, hy⟩ := hy
    rw [T.ifB_eq, T.ifB_eq]
    split
    · rename_i h1
      split
      · rename_i h2
        rw [kEq_iff] at h1 h2
        subst h1; subst h2
        exact symO_ok (o := g m n) (by rw [List.getElem?_map, hn]; rfl) fun q hq w => h m n q hx hy hq w
      · trivial
    · trivial
  · rename_i k₁ id ms k₂ n
    simp only [VRel] at hy
    obtain ⟨m, hm, hx⟩ := hx
    rw [T.ifB_eq, T.ifB_eq]
    split
    · rename_i h1
      split
      · rename_i h2
        rw [kEq_iff] at h1 h2
        subst h1; subst h2
        exact symO_ok (o := g m n) (by rw [List.getElem?_map, hm]; rfl) fun q hq w => h m n q hx hy hq w
      · trivial
    · trivial
  · rename_i k₁ id ms k₂ id' ns
    obtain ⟨m, hm, hx⟩ := hx
    obtain ⟨n, hn, hy⟩ := hy
    rw [T.ifB_eq, T.ifB_eq, T.ifB_eq]
    split
    · rename_i h0
      rw [beq_iff] at h0
      subst h0
      split
      · rename_i h1
        split
        · rename_i h2
          rw [kEq_iff] at h1 h2
          subst h1; subst h2
          exact symO_ok (o := g m n) (by rw [List.getElem?_zipWith, hm, hn]) fun q hq w => h m n q hx hy hq w
        · trivial
      · trivial
    · trivial
  · trivial

theorem int2V_ok {P : Program} {φ : Phi} {k : IntKind} {g : Int → Int → Option Int} {va vb : AV} {cx cy : Value} (hx : VRel φ va cx) (hy : VRel φ vb cy)
    {s : Sem Value} (h : ∀ a b n, cx = .int k a → cy = .int k b → g a b = some n → ∀ w, s.run P w = .ok (.int k n) w) : DOk P φ (valued s) (int2V k g va vb) := by
  unfold int2V
  split
  · rename_i k₁ a k₂ b
    simp only [VRel] at hx hy
    rw [T.ifB_eq, T.ifB_eq]
    split
    · rename_i h1
      split
      · rename_i h2
        rw [kEq_iff] at h1 h2
        subst h1; subst h2
        split
        · rename_i n hn
          exact .val_of _ (h a b n hx hy hn) rfl
        · trivial
      · trivial
    · trivial
  · rename_i a b _
    exact int2S_ok hx hy h

theorem dInt2_ok {P : Program} {φ : Phi} {e : Env} {r : Regs} {k : IntKind} {g : Int → Int → Option Int} {x y : Opd} {cx cy : Value} (hx : VRel φ (x.ev e r) cx) (hy : VRel φ (y.ev e r) cy)
    {s : Sem Value} (h : ∀ a b n, cx = .int k a → cy = .int k b → g a b = some n → ∀ w, s.run P w = .ok (.int k n) w) : DOk P φ (valued s) ((dInt2 k g x y).f e r) := int2V_ok hx hy h

/-! Numbers of names -/

theorem toE_ok {φ : Phi} {v : AV} {cv : Value} {k : IntKind} {id : Nat} {off : Int} (h : toE v = some (k, id, off)) (hv : VRel φ v cv) : cv = .int k (Val.num id + off) := by
  unfold toE at h
  split at h
  · simp only [Option.some.injEq, Prod.mk.injEq] at h
    obtain ⟨rfl, rfl, rfl⟩ := h
    rw [Val.num0, Int.zero_add]; exact hv
  · simp only [Option.some.injEq, Prod.mk.injEq] at h
    obtain ⟨rfl, rfl, rfl⟩ := h
    exact hv
  · cases h

theorem kMin_eq (k : IntKind) : kMin k = k.min := by cases k <;> rfl
theorem kMax_eq (k : IntKind) : kMax k = k.max := by cases k <;> rfl

theorem inKind_ok {k : IntKind} {id : Nat} {off : Int} (h : inKind k id off = true) : k.min ≤ Val.num id + off ∧ Val.num id + off ≤ k.max := by
  unfold inKind at h
  rw [T.ifB_eq] at h
  split at h
  · rename_i h1
    have h1 := isLe_ok h1
    have h2 := isLe_ok h
    rw [Val.num0, kMin_eq] at h1
    rw [Val.num0, kMax_eq] at h2
    omega
  · cases h

theorem exV_ok {P : Program} {φ : Phi} {s : Sem Value} {k : IntKind} {id : Nat} {off : Int} (h : k.min ≤ Val.num id + off → Val.num id + off ≤ k.max → ∀ w, s.run P w = .ok (.int k (Val.num id + off)) w) : DOk P φ (valued s) (exV k id off) := by
  unfold exV
  rw [T.ifB_eq]
  split
  · rename_i hi
    obtain ⟨h1, h2⟩ := inKind_ok hi
    refine .val_of _ (h h1 h2) ?_
    rw [T.ifB_eq]
    split
    · rename_i hz
      rw [beq_iff] at hz
      subst hz
      rw [Val.num0, Int.zero_add]; rfl
    · rfl
  · trivial

theorem linE_ok {sub : Bool} {a b c : Nat × Int} (h : linE sub a b = some c) : Val.num c.1 + c.2 = if sub then (Val.num a.1 + a.2) - (Val.num b.1 + b.2) else (Val.num a.1 + a.2) + (Val.num b.1 + b.2) := by
  unfold linE at h
  simp only [T.ifB_eq, beq_iff] at h
  split at h
  · rename_i hb
    cases h
    rw [hb, Val.num0]
    cases sub <;> simp only [Bool.false_eq_true, if_false, if_true] <;> omega
  · cases sub
    · simp only [Bool.false_eq_true, if_false] at h
      split at h
      · rename_i ha
        cases h
        rw [ha, Val.num0]
        simp only [Bool.false_eq_true, if_false]; omega
      · cases h
    · simp only [if_true] at h
      split at h
      · rename_i ha
        cases h
        rw [ha, Val.num0]
        simp only [if_true]; omega
      · cases h

theorem linV_ok {P : Program} {φ : Phi} {sub : Bool} {k : IntKind} {va vb : AV} {cx cy : Value} (hx : VRel φ va cx) (hy : VRel φ vb cy)
    {s : Sem Value} (h : ∀ a b, cx = .int k a → cy = .int k b → ∀ w, s.run P w = .ok (.int k (k.wrap (if sub then a - b else a + b))) w) : DOk P φ (valued s) (linV sub k va vb) := by
  unfold linV
  split
  · rename_i k₁ xa k₂ xb ea eb
    simp only [T.ifB_eq]
    split
    · rename_i h1
      split
      · rename_i h2
        rw [kEq_iff] at h1 h2
        subst h1; subst h2
        split
        · rename_i id off hl
          have hl := linE_ok hl
          refine exV_ok fun h3 h4 w => ?_
          have := h _ _ (toE_ok ea hx) (toE_ok eb hy) w
          simp only at hl
          rw [← hl, wrap_small h3 h4] at this
          exact this
        · trivial
      · trivial
    · trivial
  · trivial

theorem dLin_ok {P : Program} {φ : Phi} {e : Env} {r : Regs} {sub : Bool} {k : IntKind} {g : Int → Int → Option Int} {x y : Opd} {cx cy : Value} (hx : VRel φ (x.ev e r) cx) (hy : VRel φ (y.ev e r) cy)
    {s : Sem Value} (h : ∀ a b n, cx = .int k a → cy = .int k b → g a b = some n → ∀ w, s.run P w = .ok (.int k n) w) (h' : ∀ a b, cx = .int k a → cy = .int k b → ∀ w, s.run P w = .ok (.int k (k.wrap (if sub then a - b else a + b))) w) :
    DOk P φ (valued s) ((dLin sub k g x y).f e r) := by
  simp only [dLin]
  split
  · rename_i k' id off b ex
    rw [ex] at hx
    exact linV_ok hx hy h'
  · rename_i k' id off ey _
    rw [ey] at hy
    exact linV_ok hx hy h'
  · exact int2V_ok hx hy h

theorem eqX_ok {x y : Nat} {a b : Int} {t : Bool} (h : eqX x a y b = some t) : t = (Val.num x + a == Val.num y + b) := by
  have key : ∀ p q : Int, (p == q) = (decide (p ≤ q) && decide (q ≤ p)) := by
    intro p q
    rw [Bool.eq_iff_iff]; simp; omega
  rw [key]
  unfold eqX at h
  split at h
  · rename_i h1 h2
    cases h
    rw [← leX_ok h1, ← leX_ok h2]; rfl
  · rename_i h1
    cases h
    rw [← leX_ok h1]; rfl
  · rename_i h1 _
    cases h
    rw [← leX_ok h1, Bool.and_false]
  · cases h

theorem cmpE_ok {o : CmpO} {x y : Nat} {a b : Int} {t : Bool} (h : cmpE o x a y b = some t) : t = o.fn (Val.num x + a) (Val.num y + b) := by
  have hn : ∀ {q : Option Bool} {t : Bool}, notO q = some t → q = some (!t) := by
    intro q t hq
    cases q with
    | none => cases hq
    | some u => cases hq; simp
  cases o with
  | eq => rw [eqX_ok h]; simp [CmpO.fn, eqQ_eq]
  | ne =>
    have := eqX_ok (hn h)
    simp only [CmpO.fn, eqQ_eq, ← this, Bool.not_not]
  | lt =>
    have := leX_ok (hn h)
    simp only [CmpO.fn, ltQ_eq]
    rw [← Bool.not_not t, this, ← decide_not]
    exact decide_eq_decide.2 (by omega)
  | le =>
    have := leX_ok h
    simp only [CmpO.fn, ltQ_eq]
    rw [this, ← decide_not]
    exact decide_eq_decide.2 (by omega)
  | gt =>
    have := leX_ok (hn h)
    simp only [CmpO.fn, ltQ_eq]
    rw [← Bool.not_not t, this, ← decide_not]
    exact decide_eq_decide.2 (by omega)
  | ge =>
    have := leX_ok h
    simp only [CmpO.fn, ltQ_eq]
    rw [this, ← decide_not]
    exact decide_eq_decide.2 (by omega)

theorem cmpX_ok {P : Program} {φ : Phi} {o : CmpO} {va vb : AV} {cx cy : Value} (hx : VRel φ va cx) (hy : VRel φ vb cy)
    {s : Sem Value} (h : ∀ k a b, cx = .int k a → cy = .int k b → ∀ w, s.run P w = .ok (.bool (o.fn a b)) w) : DOk P φ (valued s) (cmpX o va vb) := by
  unfold cmpX
  split
  · rename_i k₁ x p k₂ y q ea eb
    simp only [T.ifB_eq]
    split
    · rename_i h1
      rw [kEq_iff] at h1
      subst h1
      split
      · rename_i t ht
        have := cmpE_ok ht
        subst this
        exact .val_of _ (h _ _ _ (toE_ok ea hx) (toE_ok eb hy)) rfl
      · trivial
    · trivial
  · trivial

theorem findRem_mem : ∀ {l : List (Nat × Nat × Nat)} {x m y : Nat}, findRem x m l = some y → (x, m, y) ∈ l
  | [], _, _, _, h => by cases h
  | (a, b, c) :: r, x, m, y, h => by
    simp only [findRem, T.ifB_eq, beq_iff] at h
    split at h
    · rename_i ha
      split at h
      · rename_i hb
        cases h; subst ha; subst hb
        exact List.mem_cons_self ..
      · exact List.mem_cons_of_mem _ (findRem_mem h)
    · exact List.mem_cons_of_mem _ (findRem_mem h)

theorem dRem_ok {P : Program} {φ : Phi} {e : Env} {r : Regs} {k : IntKind} {x y : Opd} {cx cy : Value} (hx : VRel φ (x.ev e r) cx) (hy : VRel φ (y.ev e r) cy)
    {s : Sem Value} (h : ∀ a b n, cx = .int k a → cy = .int k b → (bif eqQ b 0 then none else some (a.tmod b)) = some n → ∀ w, s.run P w = .ok (.int k n) w) : DOk P φ (valued s) ((dRem k x y).f e r) := by
  simp only [dRem]
  unfold remV
  split
  · rename_i k₁ x k₂ b ex ey
    rw [ex] at hx; rw [ey] at hy
    simp only [VRel] at hx hy
    subst hx; subst hy
    simp only [T.ifB_eq]
    split
    · rename_i h1
      split
      · rename_i h2
        rw [kEq_iff] at h1 h2
        subst h1; subst h2
        unfold remX
        split
        · rename_i m
          split
          · rename_i y hf
            obtain ⟨k1, k2, k3⟩ := Val.remOk _ _ _ (findRem_mem hf)
            refine exV_ok fun _ _ w => ?_
            have hm0 : (Int.ofNat m == 0) = false := by
              rw [beq_eq_false_iff_ne]; intro hh; have : (m : Int) = 0 := hh; omega
            have := h (Val.num x + Int.ofNat 0) (Int.ofNat m) (Val.num y + 0) rfl rfl (by
              rw [eqQ_eq, hm0]
              simp only [cond_false, Option.some.injEq]
              rw [k3, Int.ofNat_eq_natCast, Int.ofNat_eq_natCast, Int.natCast_zero, Int.add_zero, Int.add_zero]
              exact Int.tmod_eq_emod_of_nonneg k1) w
            exact this
          · trivial
        · trivial
      · trivial
    · trivial
  · rename_i k₁ m id ns k₂ b ex ey
    rw [ex] at hx; rw [ey] at hy
    simp only [VRel] at hy
    obtain ⟨n, rfl, h0, hn⟩ := hx
    subst hy
    simp only [T.ifB_eq]
    split
    · rename_i h1
      split
      · rename_i h2
        split
        · rename_i h3
          split
          · rename_i h4
            rw [kEq_iff] at h1 h2
            rw [eqQ_eq, beq_iff_eq] at h3
            rw [blt_iff] at h4
            subst h1; subst h2; subst h3
            have hs : DOk P φ (valued s) (symO k₂ id (ns.map some)) := by
              refine symO_ok (o := some (n % (m : Int))) (by rw [List.getElem?_map, hn]; rfl) fun q hq w => ?_
              cases hq
              refine h n (.ofNat m) _ rfl rfl ?_ w
              rw [eqQ_eq]
              have hm0 : (Int.ofNat m == 0) = false := by
                rw [beq_eq_false_iff_ne]; intro hh; have : (m : Int) = 0 := hh; omega
              rw [hm0]
              simp only [cond_false, Option.some.injEq]
              exact Int.tmod_eq_emod_of_nonneg h0
            have he : ∀ l : List Int, allSome (l.map some) = some l := by
              intro l
              induction l with
              | nil => rfl
              | cons a l ih => simp [allSome, ih]
            unfold symO at hs
            rw [he] at hs
            exact hs
          · trivial
        · trivial
      · trivial
    · trivial
  · exact int2V_ok hx hy h

theorem dCmp_ok {P : Program} {φ : Phi} {e : Env} {r : Regs} {o : CmpO} {x y : Opd} {cx cy : Value} (hx : VRel φ (x.ev e r) cx) (hy : VRel φ (y.ev e r) cy)
    {s : Sem Value} (h : ∀ k a b, cx = .int k a → cy = .int k b → ∀ w, s.run P w = .ok (.bool (o.fn a b)) w) : DOk P φ (valued s) ((dCmp o x y).f e r) := by
  simp only [dCmp]
  generalize hgf : o.fn = g at h
  split
  · rename_i k₁ a k₂ b ex ey
    rw [ex] at hx; rw [ey] at hy
    simp only [VRel] at hx hy
    rw [T.ifB_eq]
    split
    · rename_i h1
      rw [kEq_iff] at h1
      subst h1
      exact .val_of _ (h k₁ a b hx hy) rfl
    · trivial
  · unfold cmpV
    rw [T.ifB_eq, T.ifB_eq]
    split
    · subst hgf; exact cmpX_ok hx hy h
    split
    · subst hgf; exact cmpX_ok hx hy h
    rw [hgf]
    unfold cmpS
    split
    · rename_i k₁ m k₂ id ns ex ey
      rw [ex] at hx; rw [ey] at hy
      simp only [VRel] at hx
      obtain ⟨n, hn, hy⟩ := hy
      rw [T.ifB_eq]
      split
      · rename_i h1
        rw [kEq_iff] at h1
        subst h1
        exact symB_ok (c := g m n) (j := Val.at_ id) (by rw [List.getElem?_map, hn]; rfl) (h k₁ m n hx hy)
      · trivial
    · rename_i k₁ id ms k₂ n ex ey
      rw [ex] at hx; rw [ey] at hy
      simp only [VRel] at hy
      obtain ⟨m, hm, hx⟩ := hx
      rw [T.ifB_eq]
      split
      · rename_i h1
        rw [kEq_iff] at h1
        subst h1
        exact symB_ok (c := g m n) (j := Val.at_ id) (by rw [List.getElem?_map, hm]; rfl) (h k₁ m n hx hy)
      · trivial
    · rename_i k₁ id ms k₂ id' ns ex ey
      rw [ex] at hx; rw [ey] at hy
      obtain ⟨m, hm, hx⟩ := hx
      obtain ⟨n, hn, hy⟩ := hy
      rw [T.ifB_eq, T.ifB_eq]
      split
      · rename_i h1
        rw [kEq_iff] at h1
        subst h1
        split
        · rename_i h0
          rw [beq_iff] at h0
          subst h0
          exact symB_ok (c := g m n) (j := Val.at_ id) (by rw [List.getElem?_zipWith, hm, hn]) (h k₁ m n hx hy)
        · have hmem : g m n ∈ ms.flatMap fun m => ns.map fun n => g m n := List.mem_flatMap.2 ⟨m, List.mem_of_getElem? hm, List.mem_map.2 ⟨n, List.mem_of_getElem? hn, rfl⟩⟩
          obtain ⟨j, hj⟩ := List.mem_iff_getElem?.1 hmem
          exact symB_ok hj (h k₁ m n hx hy)
      · trivial
    · trivial

theorem dShift_ok {P : Program} {φ : Phi} {e : Env} {r : Regs} {l : Bool} {k : IntKind} {x y : Opd} {cx cy : Value} (hx : VRel φ (x.ev e r) cx) (hy : VRel φ (y.ev e r) cy)
    {s : Sem Value} (h : ∀ a yk b, cx = .int k a → cy = .int yk b → 0 ≤ b → ∀ w, s.run P w = .ok (.int k (if l then k.wrap (a * 2 ^ min b.toNat k.bits) else a.fdiv (2 ^ min b.toNat k.bits))) w) :
    DOk P φ (valued s) ((dShift l k x y).f e r) := by
  simp only [dShift]
  split
  · rename_i k₁ a yk b ex ey
    rw [ex] at hx; rw [ey] at hy
    simp only [VRel] at hx hy
    cases h1 : (kEq k₁ k && !ltQ b 0) with
    | false => trivial
    | true =>
      simp only [Bool.and_eq_true, kEq_iff, Bool.not_eq_true', ltQ_eq, decide_eq_false_iff_not] at h1
      obtain ⟨rfl, h2⟩ := h1
      simp only [cond_true]
      refine .val_of _ (h a yk b hx hy (by omega)) ?_
      cases l <;> simp [VRel, wrapQ_eq]
  · trivial

theorem run_intArith (P : Program) (op : BinOp) (k : IntKind) (a b : Int) (w : World) (n : Int)
    (h : (op = .add ∧ n = k.wrap (a + b)) ∨ (op = .sub ∧ n = k.wrap (a - b)) ∨ (op = .mul ∧ n = k.wrap (a * b))) : (Op.intArith op k a b).run P w = .ok (.int k n) w := by
  rcases h with ⟨rfl, rfl⟩ | ⟨rfl, rfl⟩ | ⟨rfl, rfl⟩ <;> rfl

theorem bitsOp_wrap (op : BitOp) (k : IntKind) (a b : Int) : ∃ n : Int, bitsOp op k a b = n := ⟨_, rfl⟩

/-- The comparison's guard says nothing at a value that is no nil interface and no aggregate. -/
theorem guard_int (op : BinOp) (t : TypeId) (x y : Operand) (k : IntKind) (n : Int) (v : Value) : eqGuard op t x y (.int k n) v = pure () := by cases op <;> rfl

section
variable {P : Program} {φ : Phi} {c : Ctx} {e : Env} {r : Regs} {S : Operand → Prop} {ρ : Operand → Value} (H : OpsOk P φ c e r S ρ)

abbrev binSem (ρ : Operand → Value) (op : BinOp) (t : TypeId) (x y : Operand) : Sem Value := do eqGuard op t x y (ρ x) (ρ y); binOp op t (ρ x) (ρ y)

include H in
theorem cBin_int {op : BinOp} {xt : TypeId} {k : IntKind} {x y : Operand} {f : DFn} (hSx : S x) (hSy : S y) (hk : P.underlying xt = some (.int k)) (h : cBin P c op xt x y = some f) :
    DOk P φ (valued (binSem ρ op xt x y)) (f.f e r) := by
  unfold cBin at h
  rw [hk] at h
  simp only at h
  cases ha : cOpd P c x with
  | none => rw [ha] at h; cases h
  | some a =>
    cases hb : cOpd P c y with
    | none => rw [ha, hb] at h; cases h
    | some b =>
      rw [ha, hb] at h
      simp only [Option.bind_some] at h
      have hx := H x a hSx ha
      have hy := H y b hSy hb
      cases op <;> simp only [Option.some.injEq] at h <;> subst h
      case add => exact dLin_ok hx hy (fun m n q e1 e2 hq w => by cases hq; simp [binSem, e1, e2, binOp, guard_int, Op.intArith, wrapQ_eq]) (fun m n e1 e2 w => by simp [binSem, e1, e2, binOp, guard_int, Op.intArith])
      case sub => exact dLin_ok hx hy (fun m n q e1 e2 hq w => by cases hq; simp [binSem, e1, e2, binOp, guard_int, Op.intArith, wrapQ_eq]) (fun m n e1 e2 w => by simp [binSem, e1, e2, binOp, guard_int, Op.intArith])
      case mul => exact dInt2_ok hx hy fun m n q e1 e2 hq w => by cases hq; simp [binSem, e1, e2, binOp, guard_int, Op.intArith, wrapQ_eq]
      case quo =>
        refine dInt2_ok hx hy fun m n q e1 e2 hq w => ?_
        cases hz : eqQ n 0 with
        | true => rw [hz] at hq; cases hq
        | false =>
          rw [hz] at hq; cases hq
          rw [eqQ_eq] at hz
          have hn : n ≠ 0 := by simpa using hz
          simp [binSem, e1, e2, binOp, guard_int, Op.intDiv, hn, wrapQ_eq]
      case rem =>
        refine dRem_ok hx hy fun m n q e1 e2 hq w => ?_
        cases hz : eqQ n 0 with
        | true => rw [hz] at hq; cases hq
        | false =>
          rw [hz] at hq; cases hq
          rw [eqQ_eq] at hz
          have hn : n ≠ 0 := by simpa using hz
          simp [binSem, e1, e2, binOp, guard_int, Op.intDiv, hn]
      case and => exact dInt2_ok hx hy fun m n q e1 e2 hq w => by cases hq; simp [binSem, e1, e2, binOp, guard_int, Op.intBits, bitsOp]
      case or => exact dInt2_ok hx hy fun m n q e1 e2 hq w => by cases hq; simp [binSem, e1, e2, binOp, guard_int, Op.intBits, bitsOp]
      case xor => exact dInt2_ok hx hy fun m n q e1 e2 hq w => by cases hq; simp [binSem, e1, e2, binOp, guard_int, Op.intBits, bitsOp]
      case andNot => exact dInt2_ok hx hy fun m n q e1 e2 hq w => by cases hq; simp [binSem, e1, e2, binOp, guard_int, Op.intBits, bitsOp]
      case shl => exact dShift_ok hx hy fun m yk n e1 e2 hn w => by simp [binSem, e1, e2, binOp, guard_int, Op.shift, show ¬ n < 0 by omega]
      case shr => exact dShift_ok hx hy fun m yk n e1 e2 hn w => by simp [binSem, e1, e2, binOp, guard_int, Op.shift, show ¬ n < 0 by omega]
      case eql => exact dCmp_ok hx hy fun k m n e1 e2 w => by simp [CmpO.fn, binSem, e1, e2, binOp, guard_int, Op.intCmp, eqQ_eq]
      case neq => exact dCmp_ok hx hy fun k m n e1 e2 w => by simp [CmpO.fn, binSem, e1, e2, binOp, guard_int, Op.intCmp, eqQ_eq, bne]
      case lss => exact dCmp_ok hx hy fun k m n e1 e2 w => by simp [CmpO.fn, binSem, e1, e2, binOp, guard_int, Op.intCmp, ltQ_eq]
      case leq =>
        exact dCmp_ok hx hy fun k m n e1 e2 w => by
          have : decide (m ≤ n) = !decide (n < m) := by rw [← decide_not]; exact decide_eq_decide.2 (by omega)
          simp only [CmpO.fn, ltQ_eq, ← this]
          simp [binSem, e1, e2, binOp, guard_int, Op.intCmp]
      case gtr => exact dCmp_ok hx hy fun k m n e1 e2 w => by simp [CmpO.fn, binSem, e1, e2, binOp, guard_int, Op.intCmp, ltQ_eq]
      case geq =>
        exact dCmp_ok hx hy fun k m n e1 e2 w => by
          have : decide (m ≥ n) = !decide (m < n) := by rw [← decide_not]; exact decide_eq_decide.2 (by omega)
          simp only [CmpO.fn, ltQ_eq, ← this]
          simp [binSem, e1, e2, binOp, guard_int, Op.intCmp]

end
end Go.Abs

/- The abstract machine: operations that write nothing old, continued. -/
namespace Go.Abs
variable [Fct] [Val]

/-! ### Types -/

theorem run_sizeT {P : Program} {t : TypeId} {n : Nat} (h : sizeT P t = some n) (w : World) : (sizeOf t).run P w = .ok n w := by
  unfold sizeT at h
  cases hi : P.info? t with
  | none => rw [hi] at h; cases h
  | some i => rw [hi] at h; cases h; simp [sizeOf, typeInfo, hi]

theorem cellsOf_sizeT {P : Program} {t : TypeId} {n : Nat} (h : sizeT P t = some n) : P.cellsOf t = n := by
  unfold sizeT at h
  cases hi : P.info? t with
  | none => rw [hi] at h; cases h
  | some i => rw [hi] at h; cases h; simp [Program.cellsOf, hi]

theorem run_zeroT {P : Program} {t : TypeId} {z : AV} (h : zeroT P t = some z) : ∃ cz, ofValue cz = some z ∧ ∀ w, (zeroValue t).run P w = .ok cz w := by
  unfold zeroT at h
  cases hi : P.info? t with
  | none => rw [hi] at h; cases h
  | some i =>
    rw [hi] at h
    simp only [Option.bind_some] at h
    cases hz : i.zero with
    | none => rw [hz] at h; cases h
    | some cz => rw [hz] at h; exact ⟨cz, h, fun w => by simp [zeroValue, typeInfo, hi, hz]⟩

theorem run_isAggT {P : Program} {t : TypeId} {g : Bool} (h : isAggT P t = some g) (w : World) : (isAgg t).run P w = .ok g w := by
  unfold isAggT at h
  cases hu : P.underlying t with
  | none => rw [hu] at h; cases h
  | some d => rw [hu] at h; cases h; cases d <;> simp [isAgg, run_underlying hu]

theorem ofValue_notJunk : ∀ (v : Value) (x : AV), ofValue v = some x → x.isJunk = false
  | .bool b, x, h => by simp only [ofValue] at h; cases h; rfl
  | .int k n, x, h => by simp only [ofValue] at h; cases h; rfl
  | .string s, x, h => by simp only [ofValue] at h; cases h; rfl
  | .pointer none, x, h => by simp only [ofValue] at h; cases h; rfl
  | .pointer (some _), x, h => by simp only [ofValue] at h; cases h
  | .slice none 0 0, x, h => by simp only [ofValue] at h; cases h; rfl
  | .slice none 0 (_ + 1), x, h => by simp only [ofValue] at h; cases h
  | .slice none (_ + 1) _, x, h => by simp only [ofValue] at h; cases h
  | .slice (some _) _ _, x, h => by simp only [ofValue] at h; cases h
  | .map none, x, h => by simp only [ofValue] at h; cases h; rfl
  | .map (some _), x, h => by simp only [ofValue] at h; cases h
  | .nilFunc, x, h => by simp only [ofValue] at h; cases h; rfl
  | .nilIface, x, h => by simp only [ofValue] at h; cases h; rfl
  | .agg ⟨cs⟩, x, h => by
    simp only [ofValue, Option.map_eq_some_iff] at h
    obtain ⟨_, _, rfl⟩ := h; rfl
  | .tuple ⟨cs⟩, x, h => by
    simp only [ofValue, Option.map_eq_some_iff] at h
    obtain ⟨_, _, rfl⟩ := h; rfl
  | .iface t v, x, h => by
    simp only [ofValue, Option.map_eq_some_iff] at h
    obtain ⟨_, _, rfl⟩ := h; rfl
  | .float _ _, x, h => by simp only [ofValue] at h; cases h
  | .complex _ _ _, x, h => by simp only [ofValue] at h; cases h
  | .chan _, x, h => by simp only [ofValue] at h; cases h
  | .func _ _ _, x, h => by simp only [ofValue] at h; cases h

theorem DOk.val {P : Program} {φ : Phi} {s : Sem Next} {v : AV} (cv : Value) (h : ∀ w, s.run P w = .ok (.value cv) w) (k : VRel φ v cv) : DOk P φ s (.val v) := ⟨cv, h, k⟩

theorem run_valued_ok {P : Program} {s : Sem Value} {v : Value} {w w' : World} (h : s.run P w = .ok v w') : (valued s).run P w = .ok (.value v) w' := by
  rw [run_valued, h]; rfl

section
variable {P : Program} {φ : Phi} {e : Env} {r : Regs}

/-! ### Strings, bools, nil -/

theorem ba_append (a b : List UInt8) : (⟨a.toArray⟩ : ByteArray) ++ ⟨b.toArray⟩ = ⟨(a ++ b).toArray⟩ := by
  apply ByteArray.ext; simp

theorem ba_toList (a : List UInt8) : (⟨a.toArray⟩ : ByteArray).toList = a := by simp [ByteArray.toList_eq]

theorem ba_size (a : List UInt8) : (⟨a.toArray⟩ : ByteArray).size = a.length := by simp [ByteArray.size]

theorem strCells_rels {φ : Phi} : ∀ (s : List UInt8), VRels φ (strCells s) (s.map fun b => .int .u8 b.toNat)
  | [] => rfl
  | b :: s => ⟨_, _, rfl, rfl, strCells_rels s⟩

theorem strAV_ok {a : AV} {l : List AV} {v : Value} (h : strAV a = some l) (k : VRel φ a v) : ∃ s : List UInt8, v = .string ⟨s.toArray⟩ ∧ VRels φ l (s.map fun b => .int .u8 b.toNat) := by
  unfold strAV at h
  split at h
  · rename_i s
    cases h
    exact ⟨s, k, strCells_rels s⟩
  · cases h; exact k
  · cases h

theorem symB_val {l : List Bool} {v : AV} (h : symB l = .val v) {j : Nat} {c : Bool} (hj : l[j]? = some c) : v = .bool c := by
  unfold symB at h
  split at h
  · cases h
  · rename_i b r
    rw [T.ifB_eq] at h
    split at h
    · rename_i h1
      cases h
      cases j with
      | zero => simp at hj; rw [hj]
      | succ j => rw [allB_get h1 j c (by simpa using hj)]
    · cases h

theorem cmpS_val {g : Int → Int → Bool} {a b v : AV} (h : cmpS g a b = .val v) {k k' : IntKind} {m n : Int} (ha : VRel φ a (.int k m)) (hb : VRel φ b (.int k' n)) : v = .bool (g m n) := by
  unfold cmpS at h
  split at h
  · obtain ⟨q, hq, hb⟩ := hb
    simp only [VRel] at ha
    cases ha; cases hb
    rw [T.ifB_eq] at h
    split at h
    · exact symB_val h (by rw [List.getElem?_map, hq]; rfl)
    · cases h
  · obtain ⟨q, hq, ha⟩ := ha
    simp only [VRel] at hb
    cases ha; cases hb
    rw [T.ifB_eq] at h
    split at h
    · exact symB_val h (by rw [List.getElem?_map, hq]; rfl)
    · cases h
  · obtain ⟨q, hq, ha⟩ := ha
    obtain ⟨q', hq', hb⟩ := hb
    cases ha; cases hb
    rw [T.ifB_eq, T.ifB_eq] at h
    split at h
    · split at h
      · rename_i h0
        rw [beq_iff] at h0
        subst h0
        exact symB_val h (by rw [List.getElem?_zipWith, hq, hq'])
      · have hmem : ∀ (ms ns : List Int) (m n : Int), m ∈ ms → n ∈ ns → g m n ∈ ms.flatMap fun m => ns.map fun n => g m n := fun ms ns m n h1 h2 => List.mem_flatMap.2 ⟨m, h1, List.mem_map.2 ⟨n, h2, rfl⟩⟩
        obtain ⟨j, hj⟩ := List.mem_iff_getElem?.1 (hmem _ _ _ _ (List.mem_of_getElem? hq) (List.mem_of_getElem? hq'))
        exact symB_val h hj
    · cases h
  · cases h

theorem byteEq_ok {a b : AV} {c : Bool} (h : byteEq a b = some c) {k k' : IntKind} {m n : Int} (ha : VRel φ a (.int k m)) (hb : VRel φ b (.int k' n)) : (m == n) = c := by
  unfold byteEq at h
  split at h
  · simp only [VRel] at ha hb
    cases ha; cases hb
    rw [T.ifB_eq] at h
    split at h
    · cases h; rw [eqQ_eq]
    · cases h
  · unfold symEq at h
    split at h
    · rename_i c' hc
      cases h
      have := cmpS_val hc ha hb
      cases this
      rw [eqQ_eq]
    · cases h

theorem seqB_ok : ∀ (x y : List AV) (s t : List UInt8) (c : Bool), seqB x y = some c → VRels φ x (s.map fun b => .int .u8 b.toNat) → VRels φ y (t.map fun b => .int .u8 b.toNat) → (s == t) = c
  | [], [], s, t, c, h, hx, hy => by
    simp only [VRels, List.map_eq_nil_iff] at hx hy
    subst hx; subst hy
    simp only [seqB, Option.some.injEq] at h
    rw [← h]; rfl
  | [], b :: y, s, t, c, h, hx, hy => by
    simp only [VRels, List.map_eq_nil_iff] at hx
    obtain ⟨v, r, ht, _⟩ := hy
    cases t with
    | nil => simp at ht
    | cons q t =>
      subst hx
      simp only [seqB, Option.some.injEq] at h
      rw [← h]; rfl
  | a :: x, [], s, t, c, h, hx, hy => by
    simp only [VRels, List.map_eq_nil_iff] at hy
    obtain ⟨v, r, hs, _⟩ := hx
    cases s with
    | nil => simp at hs
    | cons q s =>
      subst hy
      simp only [seqB, Option.some.injEq] at h
      rw [← h]; rfl
  | a :: x, b :: y, s, t, c, h, hx, hy => by
    obtain ⟨v, r, hs, hav, hxr⟩ := hx
    obtain ⟨u, r', ht, hbv, hyr⟩ := hy
    cases s with
    | nil => simp at hs
    | cons p s =>
      cases t with
      | nil => simp at ht
      | cons q t =>
        simp only [List.map_cons, List.cons.injEq] at hs ht
        obtain ⟨rfl, rfl⟩ := hs
        obtain ⟨rfl, rfl⟩ := ht
        simp only [seqB] at h
        have hpq : ∀ c, byteEq a b = some c → (p == q) = c := by
          intro c hc
          have := byteEq_ok hc hav hbv
          rw [← this, Bool.eq_iff_iff, beq_iff_eq, beq_iff_eq]
          constructor
          · intro e; rw [e]
          · intro e; exact UInt8.toNat_inj.1 (by omega)
        rw [show ((p :: s) == (q :: t)) = ((p == q) && (s == t)) from rfl]
        cases hb : byteEq a b with
        | none =>
          rw [hb] at h
          simp only at h
          split at h
          · rename_i hr
            cases h
            rw [seqB_ok x y s t false hr hxr hyr, Bool.and_false]
          · cases h
        | some d =>
          rw [hb] at h
          rw [hpq d hb]
          cases d with
          | true => simp only at h; rw [seqB_ok x y s t c h hxr hyr, Bool.true_and]
          | false => simp only [Option.some.injEq] at h; rw [← h]; rfl

theorem dCat_ok {x y : Opd} {cx cy : Value} (hx : VRel φ (x.ev e r) cx) (hy : VRel φ (y.ev e r) cy) {s : Sem Value}
    (h : ∀ a b, cx = .string a → cy = .string b → s = Op.stringOp .add a b) : DOk P φ (valued s) ((dCat x y).f e r) := by
  simp only [dCat]
  split
  · rename_i a b ex ey
    rw [ex] at hx; rw [ey] at hy
    simp only [VRel] at hx hy
    rw [h _ _ hx hy]
    cases hb : Nat.blt (a.length + b.length) 1152921504606846976 with
    | false => trivial
    | true =>
      rw [blt_iff] at hb
      refine .val_of _ (fun w => ?_) rfl
      rw [run_string_add_sum w ⟨a.toArray⟩ ⟨b.toArray⟩ (by rw [ba_size, ba_size]; omega), ba_append]
  · unfold catS
    split
    · rename_i p q hp hq
      obtain ⟨a, rfl, ha⟩ := strAV_ok hp hx
      obtain ⟨b, rfl, hb'⟩ := strAV_ok hq hy
      rw [h _ _ rfl rfl]
      cases hb : Nat.blt (p.length + q.length) 1152921504606846976 with
      | false => trivial
      | true =>
        rw [blt_iff] at hb
        have h1 := ha.length
        have h2 := hb'.length
        rw [List.length_map] at h1 h2
        refine .val_of (.string ⟨(a ++ b).toArray⟩) (fun w => ?_) ⟨a ++ b, rfl, ?_⟩
        · rw [run_string_add_sum w ⟨a.toArray⟩ ⟨b.toArray⟩ (by rw [ba_size, ba_size]; omega), ba_append]
        · rw [List.map_append]; exact ha.append hb'
    · trivial

theorem dStrEq_ok {x y : Opd} {cx cy : Value} (hx : VRel φ (x.ev e r) cx) (hy : VRel φ (y.ev e r) cy) {n : Bool} {s : Sem Value}
    (h : ∀ a b, cx = .string a → cy = .string b → ∀ w, s.run P w = .ok (.bool (if n then !(a.toList == b.toList) else a.toList == b.toList)) w) : DOk P φ (valued s) ((dStrEq n x y).f e r) := by
  simp only [dStrEq]
  split
  · rename_i a b ex ey
    rw [ex] at hx; rw [ey] at hy
    simp only [VRel] at hx hy
    refine .val_of _ (fun w => h _ _ hx hy w) ?_
    rw [ba_toList, ba_toList, strEq_eq]
    cases n <;> rfl
  · unfold eqS
    split
    · rename_i p q hp hq
      obtain ⟨a, rfl, ha⟩ := strAV_ok hp hx
      obtain ⟨b, rfl, hb⟩ := strAV_ok hq hy
      split
      · rename_i c hc
        refine .val_of _ (fun w => h _ _ rfl rfl w) ?_
        rw [ba_toList, ba_toList, seqB_ok p q a b c hc ha hb]
        cases n <;> rfl
      · trivial
    · trivial

theorem dBoolEq_ok {x y : Opd} {cx cy : Value} (hx : VRel φ (x.ev e r) cx) (hy : VRel φ (y.ev e r) cy) {n : Bool} {s : Sem Value}
    (h : ∀ a b, cx = .bool a → cy = .bool b → ∀ w, s.run P w = .ok (.bool (if n then !(a == b) else a == b)) w) : DOk P φ (valued s) ((dBoolEq n x y).f e r) := by
  simp only [dBoolEq]
  split
  · rename_i a b ex ey
    rw [ex] at hx; rw [ey] at hy
    simp only [VRel] at hx hy
    refine .val_of _ (fun w => h _ _ hx hy w) ?_
    cases n <;> rfl
  · trivial

/-- Is a value of the model nil? -/
def cvNil (k : NK) (v : Value) : Option Bool :=
  match k with
  | .ptr => match v with | .pointer a => some a.isNone | _ => none
  | .sl => match v with | .slice a _ _ => some a.isNone | _ => none
  | .map => match v with | .map a => some a.isNone | _ => none
  | .fn => match v with | .nilFunc => some true | .func _ _ _ => some false | _ => none
  | .iface => match v with | .nilIface => some true | .iface _ _ => some false | _ => none

theorem isNil_ok {k : NK} {x : AV} {cx : Value} (h : VRel φ x cx) {b : Bool} (hn : isNil k x = some b) : cvNil k cx = some b := by
  cases k
  case ptr =>
    cases x <;> try (cases hn; done)
    · obtain ⟨_, a, rfl, _⟩ := h; exact hn
    rename_i a
    cases a with
    | none => simp only [VRel] at h; subst h; exact hn
    | some p => obtain ⟨i, o⟩ := p; obtain ⟨a, rfl, _⟩ := h; exact hn
  case sl =>
    cases x <;> try (cases hn; done)
    · obtain ⟨_, _, a, c, rfl, _⟩ := h; exact hn
    · rename_i a _ _ _ _
      cases a with
      | none => obtain ⟨rfl, _⟩ := h; exact hn
      | some p => obtain ⟨i, o⟩ := p; obtain ⟨a, c, rfl, _⟩ := h; exact hn
  case map =>
    cases x <;> try (cases hn; done)
    rename_i a
    cases a with
    | none => simp only [VRel] at h; subst h; exact hn
    | some p => obtain ⟨a, rfl, _⟩ := h; exact hn
  case fn =>
    cases x <;> try (cases hn; done)
    · obtain ⟨_, _, rfl, _⟩ := h; exact hn
    · simp only [VRel] at h; subst h; exact hn
  case iface =>
    cases x <;> try (cases hn; done)
    · obtain ⟨_, rfl, _⟩ := h; exact hn
    · simp only [VRel] at h; subst h; exact hn

theorem dNil_ok {k : NK} {x : Opd} {cx : Value} (hx : VRel φ (x.ev e r) cx) {n : Bool} {s : Sem Value}
    (h : ∀ b, cvNil k cx = some b → ∀ w, s.run P w = .ok (.bool (if n then !b else b)) w) : DOk P φ (valued s) ((dNil k n x).f e r) := by
  simp only [dNil]
  split
  · rename_i b hb
    refine .val_of _ (fun w => h b (isNil_ok hx hb) w) ?_
    cases n <;> rfl
  · trivial

theorem dNeg_ok {x : Opd} {cx : Value} (hx : VRel φ (x.ev e r) cx) (k : IntKind) : DOk P φ (valued (Op.unary .neg cx)) ((dNeg k x).f e r) := by
  simp only [dNeg]
  split
  · rename_i k' n ex
    rw [ex] at hx
    simp only [VRel] at hx
    subst hx
    cases hk : kEq k' k with
    | false => trivial
    | true => rw [kEq_iff] at hk; subst hk; exact .val_of (.int k' (k'.wrap (0 - n))) (fun w => rfl) (by simp [VRel, wrapQ_eq])
  · trivial

theorem dBitNot_ok {x : Opd} {cx : Value} (hx : VRel φ (x.ev e r) cx) (k : IntKind) : DOk P φ (valued (Op.unary .xor cx)) ((dBitNot k x).f e r) := by
  simp only [dBitNot]
  split
  · rename_i k' n ex
    rw [ex] at hx
    simp only [VRel] at hx
    subst hx
    cases hk : kEq k' k with
    | false => trivial
    | true => rw [kEq_iff] at hk; subst hk; exact .val_of (.int k' (bitsOp .xor k' (if k'.signed then -1 else k'.max) n)) (fun w => rfl) rfl
  · trivial

theorem dNot_ok {x : Opd} {cx : Value} (hx : VRel φ (x.ev e r) cx) : DOk P φ (valued (Op.unary .not cx)) ((dNot x).f e r) := by
  simp only [dNot]
  split
  · rename_i b ex
    rw [ex] at hx
    simp only [VRel] at hx
    subst hx
    exact .val_of (.bool !b) (fun w => rfl) rfl
  · trivial

theorem dPick_ok {c x y : Opd} {cc cx cy : Value} (hc : VRel φ (c.ev e r) cc) (hx : VRel φ (x.ev e r) cx) (hy : VRel φ (y.ev e r) cy) :
    DOk P φ (do pure (.value (if ← asBool cc then cx else cy))) ((dPick c x y).f e r) := by
  simp only [dPick]
  split
  · rename_i b eb
    rw [eb] at hc
    simp only [VRel] at hc
    subst hc
    refine .val (if b then cx else cy) (fun w => by simp [asBool]) ?_
    cases b <;> simpa
  · trivial

/-! ### Memory that is made -/

theorem dAlloc_ok {t : TypeId} {z : AV} (hz : zeroT P t = some z) : DOk P φ (valued (Instr.alloc t true (.tuple #[]))) ((dAlloc t z.cells).f e r) := by
  obtain ⟨cz, h1, h2⟩ := run_zeroT hz
  refine .row cz.cells (fun b => .pointer (some ⟨b, 0, none⟩)) (fun w => ?_) ((ofValue_rel cz z h1).cells (ofValue_notJunk cz z h1)) fun φ' b i hi => ⟨_, rfl, ?_⟩
  · simp [Instr.alloc, h2, newVar, newRow]
  · simp [PtrOk, hi]

theorem dBox_ok {t : TypeId} {x : Opd} {cx : Value} (hx : VRel φ (x.ev e r) cx) : DOk P φ (valued (Instr.box t cx)) ((dBox t x).f e r) := by
  simp only [dBox]
  cases hj : (x.ev e r).isJunk with
  | true => trivial
  | false =>
    refine .row cx.cells (fun b => .pointer (some ⟨b, 0, none⟩)) (fun w => ?_) (hx.cells hj) fun φ' b i hi => ⟨_, rfl, ?_⟩
    · simp [Instr.box, newVar, newRow]
    · simp [PtrOk, hi]

theorem dMkMap_ok {t : TypeId} : DOk P φ (valued (Instr.makeMap t none)) (dMkMap.f e r) := by
  intro w
  refine ⟨.map #[] 0, 0, .map (some w.heap.size), run_valued_ok rfl, fun φ' _ => ⟨#[], heap_alloc_new _ _, rfl⟩, fun φ' i hi => ⟨_, rfl, ?_⟩⟩
  · simp [MapOk, hi]

theorem dRangeStr_ok {t : TypeId} {x : Opd} {cx : Value} (hu : P.underlying t = some .string) (hx : VRel φ (x.ev e r) cx) : DOk P φ (valued (Instr.range t cx)) ((dRangeStr x).f e r) := by
  simp only [dRangeStr]
  split
  · rename_i s ex
    rw [ex] at hx
    simp only [VRel] at hx
    subst hx
    intro w
    refine ⟨.stringIter ⟨s.toArray⟩ 0, 0, .pointer (some ⟨w.heap.size, 0, none⟩), run_valued_ok ?_, fun φ' _ => ?_, fun φ' i hi => ⟨_, rfl, ?_⟩⟩
    · simp [Instr.range, run_underlying hu]
    · exact ⟨heap_alloc_new _ _, rfl⟩
    · simp [PtrOk, hi]
  · trivial

end
end Go.Abs

/- The abstract machine: operations that write nothing old: places, slices, conversions. -/
namespace Go.Abs
variable [Fct] [Val]

theorem add_at (b o k : Nat) : Addr.add ⟨b, o, none⟩ k = ⟨b, o + k, none⟩ := add_none b o k

theorem PtrOk.add {φ : Phi} {i o : Nat} {a : Addr} (k : Nat) (h : PtrOk φ i o a) : PtrOk φ i (o + k) (a.add k) := by
  unfold PtrOk at *
  split at h
  · exact h.elim
  · trivial
  · subst h; rw [add_at, Nat.add_assoc]

section
variable {P : Program} {φ : Phi} {e : Env} {r : Regs}

/-! ### Loads -/

theorem cells_one {cs : List AV} {vs : Array Value} {o : Nat} (h : o + 1 ≤ vs.size) (k : VRels φ cs (vs.extract o (o + 1)).toList) {v : AV} (hv : aggOf false cs = some v) : ∃ cv, vs[o]? = some cv ∧ VRel φ v cv := by
  cases cs with
  | nil => cases hv
  | cons c cs =>
    simp only [aggOf, Option.some.injEq] at hv
    subst hv
    obtain ⟨cv, h1, h2⟩ := k.get 0 c rfl
    rw [Array.getElem?_toList, Array.getElem?_extract] at h1
    split at h1
    · exact ⟨cv, by simpa using h1, h2⟩
    · cases h1

theorem dLoad_ok {t : TypeId} {n : Nat} {g : Bool} {a : Opd} {ca : Value} (hn : sizeT P t = some n) (hg : isAggT P t = some g) (hc : (g || n == 1) = true) (ha : VRel φ (a.ev e r) ca) :
    DOk P φ (valued (Instr.loadAt t ca)) ((dLoad n g a).f e r) := by
  simp only [dLoad]
  split
  · rename_i i o ea
    rw [ea] at ha
    obtain ⟨ad, rfl, hp⟩ := ha
    refine ⟨hp.notUn, ?_⟩
    intro b p m vs u fz w hφ hb hsz hm cs hcs v hv
    simp only [PtrOk, hφ] at hp
    subst hp
    cases g with
    | true =>
      simp only [aggOf, Option.some.injEq] at hv
      subst hv
      refine ⟨.agg (vs.extract (p + o) (p + o + n)), run_valued_ok ?_, _, rfl, hcs⟩
      simp [Instr.loadAt, Instr.sureAddr, loadVar, run_isAggT hg, run_sizeT hn, run_loads P hb n hsz]
    | false =>
      simp only [Bool.false_or, beq_iff_eq] at hc
      subst hc
      obtain ⟨cv, h1, h2⟩ := cells_one hsz hcs hv
      refine ⟨cv, run_valued_ok ?_, h2⟩
      have : w.cell? ⟨b, p + o, none⟩ = some cv := by rw [cell_row hb]; exact h1
      simp [Instr.loadAt, Instr.sureAddr, loadVar, run_isAggT hg, this]
  · rename_i i id sc off ea
    rw [ea] at ha
    obtain ⟨h0, ad, rfl, hp⟩ := ha
    rw [T.ifB_eq]
    split
    · rename_i hn0
      rw [blt_iff] at hn0
      refine ⟨⟨hp.notUn, h0, hn0⟩, ?_⟩
      intro b p m vs u fz w hφ hb hsz hm cs hcs v hv
      simp only [PtrOk, hφ] at hp
      subst hp
      cases g with
      | true =>
        simp only [aggOf, Option.some.injEq] at hv
        subst hv
        refine ⟨.agg (vs.extract (p + (Val.num id * sc + off).toNat) (p + (Val.num id * sc + off).toNat + n)), run_valued_ok ?_, _, rfl, hcs⟩
        simp [Instr.loadAt, Instr.sureAddr, loadVar, run_isAggT hg, run_sizeT hn, run_loads P hb n hsz]
      | false =>
        simp only [Bool.false_or, beq_iff_eq] at hc
        subst hc
        obtain ⟨cv, h1, h2⟩ := cells_one hsz hcs hv
        refine ⟨cv, run_valued_ok ?_, h2⟩
        have : w.cell? ⟨b, p + (Val.num id * sc + off).toNat, none⟩ = some cv := by rw [cell_row hb]; exact h1
        simp [Instr.loadAt, Instr.sureAddr, loadVar, run_isAggT hg, this]
    · trivial
  · trivial

theorem dAddOff_ok {s : TypeId} {fs : Array Field} {f : Nat} {fld : Field} {n : Nat} {x : Opd} {cx : Value} (hu : P.underlying s = some (.struct fs)) (hf : fs[f]? = some fld) (hn : sizeT P fld.type = some n) (h0 : n ≠ 0)
    (hx : VRel φ (x.ev e r) cx) : DOk P φ (valued (Instr.fieldAt s cx f)) ((dAddOff fld.offset x).f e r) := by
  simp only [dAddOff]
  split
  · rename_i i o ex
    rw [ex] at hx
    obtain ⟨a, rfl, hp⟩ := hx
    refine .val_of (.pointer (some (a.add fld.offset))) (fun w => ?_) ⟨_, rfl, hp.add _⟩
    simp [Instr.fieldAt, run_underlying hu, hf, Instr.sureAddr, fieldPlace, run_sizeT hn, h0]
  · rename_i i id sc o ex
    rw [ex] at hx
    obtain ⟨hge, a, rfl, hp⟩ := hx
    have e : (Val.num id * sc + (o + Int.ofNat fld.offset)).toNat = (Val.num id * sc + o).toNat + fld.offset := by
      rw [Int.ofNat_eq_natCast]; omega
    refine .val_of (.pointer (some (a.add fld.offset))) (fun w => ?_) ⟨?_, _, rfl, ?_⟩
    · simp [Instr.fieldAt, run_underlying hu, hf, Instr.sureAddr, fieldPlace, run_sizeT hn, h0]
    · rw [Int.ofNat_eq_natCast]; omega
    · rw [e]; exact hp.add _
  · trivial

theorem dField_ok {t : TypeId} {fs : Array Field} {f : Nat} {fld : Field} {n : Nat} {g : Bool} {x : Opd} {cx : Value} (hu : P.underlying t = some (.struct fs)) (hf : fs[f]? = some fld) (hn : sizeT P fld.type = some n)
    (hg : isAggT P fld.type = some g) (hc : (g || n == 1) = true) (hx : VRel φ (x.ev e r) cx) : DOk P φ (valued (Instr.field t cx f)) ((dField fld.offset n g x).f e r) := by
  simp only [dField]
  split
  · rename_i cs ex
    rw [ex] at hx
    obtain ⟨vs, rfl, hcs⟩ := hx
    cases hle : Nat.ble (fld.offset + n) cs.length with
    | false => trivial
    | true =>
      rw [ble_iff] at hle
      have hl := hcs.length
      have hsz : vs.size = cs.length := by simpa using hl
      have hk : VRels φ ((cs.drop fld.offset).take n) (vs.extract fld.offset (fld.offset + n)).toList := by
        have := (hcs.drop fld.offset).take n
        rwa [show (vs.extract fld.offset (fld.offset + n)).toList = (vs.toList.drop fld.offset).take n by simp [Array.toList_extract, List.extract]]
      cases g with
      | true =>
        refine .val_of (.agg (vs.extract fld.offset (fld.offset + n))) (fun w => ?_) ⟨_, rfl, hk⟩
        simp [Instr.field, run_underlying hu, hf, part, asAgg, run_isAggT hg, run_sizeT hn]
      | false =>
        simp only [Bool.false_or, beq_iff_eq] at hc
        subst hc
        cases hv : aggOf false ((cs.drop fld.offset).take 1) with
        | none => simp [hv, ofOpt, DOk]
        | some v =>
          obtain ⟨cv, h1, h2⟩ := cells_one (by omega) hk hv
          simp only [cond_true, hv, ofOpt]
          refine .val_of cv (fun w => ?_) h2
          simp [Instr.field, run_underlying hu, hf, part, asAgg, run_isAggT hg, h1]
  · trivial

/-! ### Indices -/

theorem dIdxSl_ok {t el : TypeId} {sz : Nat} {x i : Opd} {cx ci : Value} (hu : P.underlying t = some (.slice el)) (hs : sizeT P el = some sz) (hx : VRel φ (x.ev e r) cx) (hi : VRel φ (i.ev e r) ci) :
    DOk P φ (valued (Instr.indexAt t cx ci)) ((dIdxSl sz x i).f e r) := by
  simp only [dIdxSl]
  split
  · rename_i b o esz len cap ex k n ex' ei
    rw [ex'] at hx; rw [ei] at hi
    simp only [VRel] at hi
    subst hi
    obtain ⟨a, c, rfl, h1, h2, h3, hsl⟩ := hx
    split
    · rename_i m hm
      rw [idxQ_some] at hm
      obtain ⟨hm0, hm1, rfl⟩ := hm
      rw [T.ifB_eq]
      split
      · rename_i he
        rw [beq_iff] at he
        subst he
        refine .val_of (.pointer (some (a.add (n.toNat * esz)))) (fun w => ?_) ⟨_, rfl, ?_⟩
        · simp [Instr.indexAt, asIntOf, run_underlying hu, hm0, hm1, run_sizeT hs]
        · refine PtrOk.add _ ?_
          unfold SlOk at hsl
          unfold PtrOk
          split at hsl
          · exact hsl.elim
          · trivial
          · exact hsl.1 (by omega)
      · trivial
    · trivial
  · rename_i b id sc off esz lid loff ex'
    rw [ex'] at hx
    obtain ⟨h0, h1, a, c, rfl, h2, hsl⟩ := hx
    rw [T.ifB_eq]
    split
    · rename_i he
      rw [beq_iff] at he
      subst he
      unfold idxX
      split
      · rename_i k j jo hv
        have hci := toE_ok hv hi
        subst hci
        simp only [T.ifB_eq]
        split
        · rename_i hl0
          have hl0 := isLe_ok hl0
          rw [Val.num0] at hl0
          split
          · rename_i hl1
            have hl1 := isLe_ok hl1
            have hp : PtrOk φ b (Val.num id * sc + off).toNat a := by
              unfold SlOk at hsl
              unfold PtrOk
              split at hsl
              · exact hsl.elim
              · trivial
              · exact hsl.1 (by omega)
            have hrun : ∀ w, (Instr.indexAt t (.slice (some a) (Val.num lid + loff).toNat c) (.int k (Val.num j + jo))).run P w = .ok (.pointer (some (a.add ((Val.num j + jo).toNat * esz)))) w := by
              intro w
              have hb1 : (0 : Int) ≤ Val.num j + jo := by omega
              have hb2 : Val.num j + jo < ((Val.num lid + loff).toNat : Int) := by omega
              generalize (Val.num lid + loff).toNat = L at hb2
              simp [Instr.indexAt, asIntOf, run_underlying hu, hb1, hb2, run_sizeT hs]
            have hpos : 0 ≤ (Val.num j + jo) * (esz : Int) := Int.mul_nonneg (by omega) (Int.natCast_nonneg _)
            have hnat : ((Val.num j + jo) * (esz : Int)).toNat = (Val.num j + jo).toNat * esz := by
              have : (((Val.num j + jo).toNat * esz : Nat) : Int) = (Val.num j + jo) * (esz : Int) := by
                push_cast
                rw [Int.toNat_of_nonneg (by omega)]
              omega
            split
            · rename_i hj
              rw [beq_iff] at hj
              subst hj
              have hz : Val.num 0 + jo = jo := by rw [Val.num0, Int.zero_add]
              rw [hz] at hpos hnat hrun ⊢
              have e : Val.num id * (sc : Int) + (off + jo * Int.ofNat esz) = Val.num id * sc + off + jo * (esz : Int) := by rw [Int.ofNat_eq_natCast]; omega
              refine .val_of _ hrun ⟨by rw [e]; omega, _, rfl, ?_⟩
              rw [e, show (Val.num id * (sc : Int) + off + jo * (esz : Int)).toNat = (Val.num id * (sc : Int) + off).toNat + jo.toNat * esz by omega]
              exact PtrOk.add _ hp
            · split
              · rename_i hid
                rw [beq_iff] at hid
                subst hid
                rw [Val.num0, Int.zero_mul, Int.zero_add] at h0 hp
                have e : Val.num j * (esz : Int) + (off + jo * Int.ofNat esz) = off + (Val.num j + jo) * (esz : Int) := by rw [Int.ofNat_eq_natCast, Int.add_mul]; omega
                refine .val_of _ hrun ⟨by rw [e]; omega, _, rfl, ?_⟩
                rw [e, show (off + (Val.num j + jo) * (esz : Int)).toNat = off.toNat + (Val.num j + jo).toNat * esz by omega]
                exact PtrOk.add _ hp
              · trivial
          · trivial
        · trivial
      · trivial
    · trivial
  · trivial

theorem dIdxArr_ok {t el : TypeId} {len sz : Nat} {x i : Opd} {cx ci : Value} (hu : P.underlying t = some (.array len el)) (hs : sizeT P el = some sz) (hx : VRel φ (x.ev e r) cx) (hi : VRel φ (i.ev e r) ci) :
    DOk P φ (valued (Instr.indexAt t cx ci)) ((dIdxArr len sz x i).f e r) := by
  simp only [dIdxArr]
  split
  · rename_i b o k n ex ei
    rw [ex] at hx; rw [ei] at hi
    simp only [VRel] at hi
    subst hi
    obtain ⟨a, rfl, hp⟩ := hx
    split
    · rename_i m hm
      rw [idxQ_some] at hm
      obtain ⟨hm0, hm1, rfl⟩ := hm
      refine .val_of (.pointer (some (a.add (n.toNat * sz)))) (fun w => ?_) ⟨_, rfl, PtrOk.add _ hp⟩
      simp [Instr.indexAt, Instr.sureAddr, asIntOf, run_underlying hu, hm0, hm1, run_sizeT hs]
    · trivial
  · trivial

theorem atQ_eq : ∀ (s : List UInt8) (n : Nat), atQ s n = s[n]?
  | [], n => by simp [atQ]
  | b :: s, 0 => by simp [atQ]
  | b :: s, n + 1 => by simp [atQ, atQ_eq s n]

theorem ba_get? (s : List UInt8) (n : Nat) : (⟨s.toArray⟩ : ByteArray)[n]? = s[n]? := by
  by_cases h : n < s.length
  · rw [List.getElem?_eq_getElem h]
    have hn : n < (⟨s.toArray⟩ : ByteArray).size := by simpa [ByteArray.size] using h
    exact (getElem?_pos (⟨s.toArray⟩ : ByteArray) n hn).trans rfl
  · rw [List.getElem?_eq_none (by omega)]
    have hn : ¬ n < (⟨s.toArray⟩ : ByteArray).size := by simpa [ByteArray.size] using h
    exact getElem?_neg (⟨s.toArray⟩ : ByteArray) n hn

theorem dIdxStr_ok {t : TypeId} {x i : Opd} {cx ci : Value} (hu : P.underlying t = some .string) (hx : VRel φ (x.ev e r) cx) (hi : VRel φ (i.ev e r) ci) :
    DOk P φ (valued (Instr.index t cx ci)) ((dIdxStr x i).f e r) := by
  simp only [dIdxStr]
  split
  · rename_i s k n ex ei
    rw [ex] at hx; rw [ei] at hi
    simp only [VRel] at hi hx
    subst hi; subst hx
    split
    · rename_i m hm
      rw [idxQ_some] at hm
      obtain ⟨hm0, hm1, rfl⟩ := hm
      split
      · rename_i b hb
        rw [atQ_eq] at hb
        refine .val_of (.int .u8 b.toNat) (fun w => ?_) rfl
        simp [Instr.index, asIntOf, run_underlying hu, hm0, ba_get?, hb]
      · trivial
    · trivial
  · rename_i l k n ex ei
    rw [ex] at hx; rw [ei] at hi
    simp only [VRel] at hi
    obtain ⟨s, rfl, hl⟩ := hx
    subst hi
    split
    · rename_i m hm
      rw [idxQ_some] at hm
      obtain ⟨hm0, hm1, rfl⟩ := hm
      split
      · rename_i v hv
        obtain ⟨cv, h1, h2⟩ := hl.get _ _ hv
        rw [List.getElem?_map, Option.map_eq_some_iff] at h1
        obtain ⟨b, hb, rfl⟩ := h1
        refine .val_of (.int .u8 b.toNat) (fun w => ?_) h2
        simp [Instr.index, asIntOf, run_underlying hu, hm0, ba_get?, hb]
      · trivial
    · trivial
  · rename_i s k id ns ex ei
    rw [ex] at hx; rw [ei] at hi
    simp only [VRel] at hx
    obtain ⟨n, hn, rfl⟩ := hi
    subst hx
    refine symO_ok (by rw [List.getElem?_map, hn]; rfl) fun q hq w => ?_
    simp only at hq
    split at hq
    · rename_i m hm
      rw [idxQ_some] at hm
      obtain ⟨hm0, hm1, rfl⟩ := hm
      split at hq
      · rename_i b hb
        cases hq
        rw [atQ_eq] at hb
        simp [Instr.index, asIntOf, run_underlying hu, hm0, ba_get?, hb]
      · cases hq
    · cases hq
  · trivial

end
end Go.Abs

/- The abstract machine: operations that write nothing old: slices, conversions, lengths. -/
namespace Go.Abs
variable [Fct] [Val]

section
variable {P : Program} {φ : Phi} {e : Env} {r : Regs}

theorem SlOk.ptr {φ : Phi} {i o esz c : Nat} {a : Addr} (h : SlOk φ i o esz c a) (hc : 0 < c) : PtrOk φ i o a := by
  unfold SlOk at h
  unfold PtrOk
  split at h
  · exact h.elim
  · trivial
  · exact h.1 hc

/-! ### Bounds -/

/-- An operand that may lack. -/
def ORel (φ : Phi) (e : Env) (r : Regs) (x : Option Opd) (c : Option Value) : Prop :=
  match x with
  | none => c = none
  | some x => ∃ v, c = some v ∧ VRel φ (x.ev e r) v

theorem run_sliceBound {k : IntKind} {n : Int} {y : Nat} {code : BoundsCode} {m : Nat} {most : Nat} (hm : idxQ n (most + 1) = some m) (hy : most ≤ y) (w : World) :
    (Instr.sliceBound (.int k n) y code).run P w = .ok m w ∧ m ≤ most := by
  rw [idxQ_some] at hm
  obtain ⟨h0, h1, rfl⟩ := hm
  have : n ≤ (y : Int) := by omega
  constructor
  · simp [Instr.sliceBound, asIntOf, h0, this]
  · omega

theorem bound_ok {x : Option Opd} {c : Option Value} (h : ORel φ e r x c) {most dflt m : Nat} (hm : boundOf x e r most dflt = some m) :
    (c = none ∧ x = none ∧ m = dflt) ∨ ∃ k n, c = some (.int k n) ∧ x.isSome = true ∧ idxQ n (most + 1) = some m := by
  unfold boundOf at hm
  cases x with
  | none => cases hm; exact .inl ⟨h, rfl, rfl⟩
  | some x =>
    obtain ⟨v, rfl, hv⟩ := h
    simp only at hm
    split at hm
    · rename_i k n ex
      rw [ex] at hv
      simp only [VRel] at hv
      subst hv
      exact .inr ⟨k, n, rfl, rfl, hm⟩
    · cases hm

/-- The bounds of a slice: 'c' what there is, 'cap' what is known of it. -/
theorem bounds_ok {isSlice : Bool} {lo hi mx : Option Opd} {clo chi cmx : Option Value} (hlo : ORel φ e r lo clo) (hhi : ORel φ e r hi chi) (hmx : ORel φ e r mx cmx) (hneed : mx.isSome = true → hi.isSome = true)
    {len cap c m h l : Nat} (hlen : len ≤ cap) (hcap : cap ≤ c) (hm : boundOf mx e r cap cap = some m) (hh : boundOf hi e r m len = some h) (hl : boundOf lo e r h 0 = some l) (w : World) :
    ∃ m', (Instr.sliceBounds isSlice len c clo chi cmx).run P w = .ok (l, h, m') w ∧ l ≤ h ∧ h ≤ m ∧ m ≤ m' ∧ m' ≤ c ∧ m ≤ cap ∧ (mx.isSome = true → m' = m) ∧ (mx = none → m' = c ∧ m = cap) := by
  have hl' : ∀ code, (match clo with | some v => Instr.sliceBound v h code | none => pure 0 : Sem Nat).run P w = .ok l w ∧ l ≤ h := by
    intro code
    rcases bound_ok hlo hl with ⟨rfl, _, rfl⟩ | ⟨k, n, rfl, _, hi⟩
    · exact ⟨rfl, Nat.zero_le _⟩
    · exact run_sliceBound hi (Nat.le_refl _) w
  rcases bound_ok hmx hm with ⟨rfl, rfl, rfl⟩ | ⟨km, nm, rfl, hms, hmi⟩
  · have hh' : ∀ code, (match chi with | some v => Instr.sliceBound v c code | none => pure len : Sem Nat).run P w = .ok h w ∧ h ≤ m := by
      intro code
      rcases bound_ok hhi hh with ⟨rfl, _, rfl⟩ | ⟨k, n, rfl, _, hi⟩
      · exact ⟨rfl, hlen⟩
      · exact run_sliceBound hi hcap w
    refine ⟨c, ?_, (hl' .sliceB).2, (hh' .sliceB).2, hcap, Nat.le_refl _, Nat.le_refl _, by simp, fun _ => ⟨rfl, rfl⟩⟩
    have h1 := fun code => (hh' code).1
    have h2 := (hl' .sliceB).1
    cases chi <;> cases clo <;> simp_all [Instr.sliceBounds]
  · have hmb := run_sliceBound (P := P) (k := km) (code := if isSlice then .slice3Acap else .slice3Alen) hmi hcap w
    obtain ⟨hmr, hml⟩ := hmb
    have hhs := hneed hms
    rcases bound_ok hhi hh with ⟨_, rfl, _⟩ | ⟨k, n, rfl, _, hi⟩
    · cases hhs
    · have hhb := run_sliceBound (P := P) (k := k) (code := .slice3B) hi (Nat.le_refl _) w
      obtain ⟨hhr, hhl⟩ := hhb
      refine ⟨m, ?_, (hl' .slice3C).2, hhl, Nat.le_refl _, by omega, hml, fun _ => rfl, ?_⟩
      · have h2 := (hl' .slice3C).1
        cases clo <;> simp_all [Instr.sliceBounds]
      · rintro rfl; cases hms

theorem ba_extract (s : List UInt8) (l h : Nat) : (⟨s.toArray⟩ : ByteArray).extract l h = ⟨((s.take h).drop l).toArray⟩ := by
  apply ByteArray.ext
  simp [ByteArray.data_extract, List.extract, List.drop_take]

theorem allT'_get : ∀ {l : List Bool}, allT' l = true → ∀ (j : Nat) (b : Bool), l[j]? = some b → b = true
  | [], _, j, b, h => by simp at h
  | c :: l, hl, j, b, h => by
    unfold allT' at hl
    cases c with
    | false => cases hl
    | true =>
      cases j with
      | zero => simp at h; exact h
      | succ j => exact allT'_get hl j b (by simpa using h)

theorem sliceStr_run {t : TypeId} (hu : P.underlying t = some .string) (s : List UInt8) (kl kh : IntKind) {l h : Nat} (hl : l ≤ h) (hh : h ≤ s.length) (w : World) :
    (Instr.sliceAt t (.string ⟨s.toArray⟩) (some (.int kl l)) (some (.int kh h)) none).run P w = .ok (.string ⟨((s.take h).drop l).toArray⟩) w := by
  have hlo : ORel (fun _ => .un) [] .nil (some (.const (.int kl l))) (some (.int kl l)) := ⟨_, rfl, rfl⟩
  have hhi : ORel (fun _ => .un) [] .nil (some (.const (.int kh h))) (some (.int kh h)) := ⟨_, rfl, rfl⟩
  have h1 : boundOf (some (.const (.int kh h))) [] .nil s.length s.length = some h := by
    simp only [boundOf, ev_const]
    rw [idxQ_some]; omega
  have h2 : boundOf (some (.const (.int kl l))) [] .nil h 0 = some l := by
    simp only [boundOf, ev_const]
    rw [idxQ_some]; omega
  obtain ⟨m', hr, _⟩ := bounds_ok (P := P) (isSlice := false) hlo hhi (mx := none) rfl (by simp) (Nat.le_refl s.length) (Nat.le_refl s.length) rfl h1 h2 w
  simp [Instr.sliceAt, Instr.slice, run_underlying hu, ba_size, hr, ba_extract]

theorem dSliceStr_ok {t : TypeId} {x : Opd} {lo hi mx : Option Opd} {cx : Value} {clo chi cmx : Option Value} (hu : P.underlying t = some .string) (hx : VRel φ (x.ev e r) cx) (hlo : ORel φ e r lo clo) (hhi : ORel φ e r hi chi)
    (hmx : ORel φ e r mx cmx) (hn : mx.isNone = true) : DOk P φ (valued (Instr.sliceAt t cx clo chi cmx)) ((dSliceStr x lo hi).f e r) := by
  simp only [dSliceStr]
  cases mx with
  | some _ => cases hn
  | none =>
    simp only [ORel] at hmx
    subst hmx
    split
    · rename_i s ex
      rw [ex] at hx
      simp only [VRel] at hx
      subst hx
      split
      · rename_i h hh
        split
        · rename_i l hl
          refine .val_of (.string ⟨((s.take h).drop l).toArray⟩) (fun w => ?_) rfl
          obtain ⟨m', hr, h1, h2, h3, h4, _⟩ := bounds_ok (P := P) (isSlice := false) hlo hhi (mx := none) rfl (by simp) (Nat.le_refl s.length) (Nat.le_refl s.length) rfl hh hl w
          simp [Instr.sliceAt, Instr.slice, run_underlying hu, ba_size, hr, ba_extract]
        · trivial
      · split
        · rename_i lx hx2 hlx hhx
          unfold sliceSym
          split
          · rename_i kl i ls kh j hs el eh
            split
            · rename_i l0 ls' h0 hs'
              rw [T.ifB_eq, T.ifB_eq]
              split
              · rename_i hij
                rw [beq_iff] at hij
                subst hij
                split
                · rename_i hall
                  obtain ⟨vl, rfl, hvl⟩ := hlo
                  obtain ⟨vh, rfl, hvh⟩ := hhi
                  rw [el] at hvl
                  rw [eh] at hvh
                  obtain ⟨nl, hnl, rfl⟩ := hvl
                  obtain ⟨nh, hnh, rfl⟩ := hvh
                  have hw := allT'_get hall _ _ (by rw [List.getElem?_zipWith, hnl, hnh])
                  unfold widthOk at hw
                  split at hw
                  · rename_i a b ha hb
                    rw [beq_iff] at hw
                    rw [idxQ_some] at ha hb
                    obtain ⟨ha0, ha1, rfl⟩ := ha
                    obtain ⟨hb0, hb1, rfl⟩ := hb
                    have e1 : nl = ((nl.toNat : Nat) : Int) := by omega
                    have e2 : nh = ((nh.toNat : Nat) : Int) := by omega
                    refine .val_of (.string ⟨((s.take nh.toNat).drop nl.toNat).toArray⟩) (fun w => ?_) ⟨_, rfl, ?_⟩
                    · have := sliceStr_run (P := P) hu s kl kh (l := nl.toNat) (h := nh.toNat) (by omega) (by omega) w
                      rw [← e1, ← e2] at this
                      exact this
                    · refine .mk (by simp; omega) fun q a c e1 e2 => ?_
                      rw [List.getElem?_map, Option.map_eq_some_iff] at e1 e2
                      obtain ⟨q', hq', rfl⟩ := e1
                      obtain ⟨b, hb, rfl⟩ := e2
                      have hq := (List.getElem?_eq_some_iff.1 hq').1
                      rw [List.length_range] at hq
                      rw [List.getElem?_range hq] at hq'
                      cases hq'
                      refine ⟨_, by rw [List.getElem?_map, hnl]; rfl, ?_⟩
                      rw [List.getElem?_drop, List.getElem?_take, if_pos (by omega)] at hb
                      show Value.int .u8 _ = Value.int .u8 (Int.ofNat ((atQ s (nl.toNat + q)).getD 0).toNat)
                      rw [atQ_eq, hb]; rfl
                  · cases hw
                · trivial
              · trivial
            · trivial
          · trivial
        · trivial
    · rename_i p ex
      rw [ex] at hx
      obtain ⟨s, rfl, hp⟩ := hx
      have hlen := hp.length
      rw [List.length_map] at hlen
      rw [← hlen]
      split
      · rename_i h hh
        split
        · rename_i l hl
          refine .val_of (.string ⟨((s.take h).drop l).toArray⟩) (fun w => ?_) ⟨_, rfl, ?_⟩
          · obtain ⟨m', hr, h1, h2, h3, h4, _⟩ := bounds_ok (P := P) (isSlice := false) hlo hhi (mx := none) rfl (by simp) (Nat.le_refl s.length) (Nat.le_refl s.length) rfl hh hl w
            simp [Instr.sliceAt, Instr.slice, run_underlying hu, ba_size, hr, ba_extract]
          · rw [List.map_drop, List.map_take]; exact (hp.take h).drop l
        · trivial
      · trivial
    · trivial

theorem boundX_ok {x : Option Opd} {c : Option Value} (h : ORel φ e r x c) {d b : Nat × Int} (hb : boundX x e r d = some b) : (c = none ∧ b = d) ∨ ∃ k, c = some (.int k (Val.num b.1 + b.2)) := by
  unfold boundX at hb
  cases x with
  | none => cases hb; exact .inl ⟨h, rfl⟩
  | some x =>
    obtain ⟨v, rfl, hv⟩ := h
    simp only at hb
    split at hb
    · rename_i k b' hk
      cases hb
      obtain ⟨id, off⟩ := b
      exact .inr ⟨k, by rw [toE_ok hk hv]⟩
    · cases hb

theorem run_sliceBound' {k : IntKind} {n : Int} {y : Nat} {code : BoundsCode} (h0 : 0 ≤ n) (h1 : n ≤ y) (w : World) : (Instr.sliceBound (.int k n) y code).run P w = .ok n.toNat w :=
  (run_sliceBound (most := y) (idxQ_some.2 ⟨h0, by omega, rfl⟩) (Nat.le_refl _) w).1

theorem dSliceX_ok {t el : TypeId} {lo hi mx : Option Opd} {cx : Value} {clo chi cmx : Option Value} {b id sc esz lid : Nat} {off loff : Int} (hu : P.underlying t = some (.slice el)) (hs : sizeT P el = some esz) (hx : VRel φ (.xsl b id sc off esz lid loff) cx)
    (hlo : ORel φ e r lo clo) (hhi : ORel φ e r hi chi) (hmx : ORel φ e r mx cmx) : DOk P φ (valued (Instr.sliceAt t cx clo chi cmx)) (sliceXD b id sc off esz lid loff lo hi mx e r) := by
  unfold sliceXD
  obtain ⟨h0, h1, ad, c, rfl, hlc, hsl⟩ := hx
  cases mx with
  | none =>
    simp only [ORel] at hmx
    subst hmx
    simp only
    split
    · rename_i h hh
      split
      · rename_i l hl
        obtain ⟨lid', lo'⟩ := l
        obtain ⟨hid', ho'⟩ := h
        unfold sliceX
        simp only [T.ifB_eq]
        split
        · rename_i k1
          have k1 := isLe_ok k1
          split
          · rename_i k2
            have k2 := isLe_ok k2
            split
            · rename_i k3
              have k3 := isLe_ok k3
              rw [Val.num0] at k1
              have hrun : ∀ w, (Instr.sliceBounds true (Val.num lid + loff).toNat c clo chi none).run P w = .ok ((Val.num lid' + lo').toNat, (Val.num hid' + ho').toNat, c) w := by
                intro w
                have a1 : ∀ code, (match chi with | some v => Instr.sliceBound v c code | none => pure (Val.num lid + loff).toNat : Sem Nat).run P w = .ok (Val.num hid' + ho').toNat w := by
                  intro code
                  rcases boundX_ok hhi hh with ⟨rfl, e1⟩ | ⟨k, rfl⟩
                  · cases e1; rfl
                  · exact run_sliceBound' (n := Val.num hid' + ho') (by omega) (by omega) w
                have a2 : ∀ code, (match clo with | some v => Instr.sliceBound v (Val.num hid' + ho').toNat code | none => pure 0 : Sem Nat).run P w = .ok (Val.num lid' + lo').toNat w := by
                  intro code
                  rcases boundX_ok hlo hl with ⟨rfl, e1⟩ | ⟨k, rfl⟩
                  · cases e1; rw [Val.num0]; rfl
                  · exact run_sliceBound' (n := Val.num lid' + lo') (by omega) (by omega) w
                have b1 := a2 .sliceB
                cases chi <;> cases clo <;> simp_all [Instr.sliceBounds]
              split
              · rename_i nid no hn
                have hn := linE_ok hn
                simp only [if_true] at hn
                have hpos : 0 ≤ (Val.num lid' + lo') * (esz : Int) := Int.mul_nonneg (by omega) (Int.natCast_nonneg _)
                have hnat : ((Val.num lid' + lo') * (esz : Int)).toNat = (Val.num lid' + lo').toNat * esz := by
                  have : (((Val.num lid' + lo').toNat * esz : Nat) : Int) = (Val.num lid' + lo') * (esz : Int) := by
                    push_cast
                    rw [Int.toNat_of_nonneg (by omega)]
                  omega
                have hres : ∀ w, (Instr.sliceAt t (.slice (some ad) (Val.num lid + loff).toNat c) clo chi none).run P w = .ok (.slice (some (if c = (Val.num lid' + lo').toNat then ad else ad.add ((Val.num lid' + lo').toNat * esz))) ((Val.num hid' + ho').toNat - (Val.num lid' + lo').toNat) (c - (Val.num lid' + lo').toNat)) w := by
                  intro w
                  simp only [Instr.sliceAt, Instr.slice, Sem.run_bind, run_underlying hu, Result.andThen_ok, hrun, run_sizeT hs, Sem.run_pure, Option.map_some]
                  split <;> rfl
                have hlen : (Val.num hid' + ho').toNat - (Val.num lid' + lo').toNat = (Val.num nid + no).toNat := by omega
                have hslk : ∀ (B : Nat), B = (Val.num id * (sc : Int) + off).toNat + (Val.num lid' + lo').toNat * esz → SlOk φ b B esz (c - (Val.num lid' + lo').toNat) (if c = (Val.num lid' + lo').toNat then ad else ad.add ((Val.num lid' + lo').toNat * esz)) := by
                  intro B hB
                  subst hB
                  have hLc : (Val.num lid' + lo').toNat ≤ c := by omega
                  clear hnat hpos hres hlen hrun
                  generalize (Val.num lid' + lo').toNat = L at *
                  unfold SlOk at hsl ⊢
                  split at hsl
                  · exact hsl.elim
                  · trivial
                  · rename_i bb p n ed
                    refine ⟨fun hpos => ?_, ?_⟩
                    · rw [if_neg (by omega), hsl.1 (by omega), add_none, Nat.add_assoc]
                    · have hle : L ≤ c := by omega
                      have hmul : L * esz + (c - L) * esz = c * esz := by rw [← Nat.add_mul]; congr 1; omega
                      have := hsl.2
                      omega
                split
                · rename_i hz
                  rw [beq_iff] at hz
                  subst hz
                  have hz' : Val.num 0 + lo' = lo' := by rw [Val.num0, Int.zero_add]
                  rw [hz'] at hpos hnat hlen hslk hres
                  have e1 : Val.num id * (sc : Int) + (off + lo' * Int.ofNat esz) = Val.num id * sc + off + lo' * (esz : Int) := by rw [Int.ofNat_eq_natCast]; omega
                  refine .val_of _ hres ⟨by rw [e1]; omega, by omega, _, _, by rw [hlen], by rw [Val.num0] at *; omega, ?_⟩
                  rw [e1]
                  exact hslk _ (by omega)
                · split
                  · rename_i hz
                    rw [beq_iff] at hz
                    subst hz
                    rw [Val.num0, Int.zero_mul, Int.zero_add] at h0 hslk
                    have e1 : Val.num lid' * (esz : Int) + (off + lo' * Int.ofNat esz) = off + (Val.num lid' + lo') * (esz : Int) := by rw [Int.ofNat_eq_natCast, Int.add_mul]; omega
                    refine .val_of _ hres ⟨by rw [e1]; omega, by omega, _, _, by rw [hlen], by omega, ?_⟩
                    rw [e1]
                    exact hslk _ (by omega)
                  · trivial
              · trivial
            · trivial
          · trivial
        · trivial
      · trivial
    · trivial
  | some m =>
    cases hi with
    | none => trivial
    | some h =>
      simp only
      unfold noneX
      split
      · rename_i kh km eh em
        have hb := fun w => bounds_ok (P := P) (isSlice := true) (lo := none) (hi := some h) (mx := some m) (len := (Val.num lid + loff).toNat) (cap := (Val.num lid + loff).toNat) (m := 0) (h := 0) (l := 0) hlo hhi hmx (fun _ => rfl) (Nat.le_refl _) hlc
          (by simp only [boundOf, em]; rfl) (by simp only [boundOf, eh]; rfl) rfl w
        refine .val_of (.slice (some ad) 0 0) (fun w => ?_) ⟨ad, 0, rfl, Nat.le_refl _, Nat.le_refl _, fun _ => rfl, ?_⟩
        · obtain ⟨m', hr, _, _, _, _, _, k6, _⟩ := hb w
          have := k6 rfl
          subst this
          simp [Instr.sliceAt, Instr.slice, run_underlying hu, hr, run_sizeT hs]
        · unfold SlOk at hsl ⊢
          split at hsl
          · exact hsl.elim
          · trivial
          · exact ⟨fun hh => absurd hh (by omega), by omega⟩
      · trivial

theorem dSliceSl_ok {t el : TypeId} {sz : Nat} {x : Opd} {lo hi mx : Option Opd} {cx : Value} {clo chi cmx : Option Value} (hu : P.underlying t = some (.slice el)) (hs : sizeT P el = some sz) (hx : VRel φ (x.ev e r) cx)
    (hlo : ORel φ e r lo clo) (hhi : ORel φ e r hi chi) (hmx : ORel φ e r mx cmx) (hneed : mx.isSome = true → hi.isSome = true) : DOk P φ (valued (Instr.sliceAt t cx clo chi cmx)) ((dSliceSl sz x lo hi mx).f e r) := by
  simp only [dSliceSl]
  split
  · rename_i b id sc off esz lid loff ea
    rw [ea] at hx
    rw [T.ifB_eq]
    split
    · rename_i hg
      rw [beq_iff] at hg
      subst hg
      exact dSliceX_ok hu hs hx hlo hhi hmx
    · trivial
  · rename_i a esz len cap ex ea
    rw [ea] at hx
    cases hg : (Nat.beq esz sz || a.isNone) with
    | false => trivial
    | true =>
      simp only [Bool.not_true, cond_false]
      split
      · rename_i m hm
        split
        · rename_i h hh
          split
          · rename_i l hl
            cases a with
            | none =>
              obtain ⟨rfl, rfl, rfl⟩ := hx
              obtain ⟨m', hr, h1, h2, h3, h4, h5, h6, h7⟩ := bounds_ok (P := P) (isSlice := true) hlo hhi hmx hneed (Nat.le_refl 0) (Nat.le_refl 0) hm hh hl default
              have e1 : m' = 0 := by omega
              have e2 : m = 0 := by omega
              have e3 : h = 0 := by omega
              have e4 : l = 0 := by omega
              subst e1; subst e2; subst e3; subst e4
              refine .val_of (.slice none 0 0) (fun w => ?_) ⟨rfl, rfl, rfl⟩
              obtain ⟨m', hr, h1, h2, h3, h4, h5, h6, h7⟩ := bounds_ok (P := P) (isSlice := true) hlo hhi hmx hneed (Nat.le_refl 0) (Nat.le_refl 0) hm hh hl w
              have e1 : m' = 0 := by omega
              subst e1
              simp [Instr.sliceAt, Instr.slice, run_underlying hu, hr, run_sizeT hs]
            | some p =>
              obtain ⟨i, o⟩ := p
              obtain ⟨ad, c, rfl, hlc, hcc, hex, hsl⟩ := hx
              simp only [Option.isNone_some, Bool.or_false, beq_iff] at hg
              subst hg
              have hb := fun w => bounds_ok (P := P) (isSlice := true) hlo hhi hmx hneed hlc hcc hm hh hl w
              obtain ⟨m', _, h1, h2, h3, h4, h5, h6, h7⟩ := hb default
              refine .val_of (.slice (some (if m' = l then ad else ad.add (l * esz))) (h - l) (m' - l)) (fun w => ?_) ⟨_, m' - l, rfl, by omega, by omega, fun hx => ?_, ?_⟩
              · obtain ⟨m'', hr, k1, k2, k3, k4, k5, k6, k7⟩ := hb w
                have : m'' = m' := by
                  cases mx with
                  | none => rw [(k7 rfl).1, (h7 rfl).1]
                  | some _ => rw [k6 rfl, h6 rfl]
                subst this
                simp only [Instr.sliceAt, Instr.slice, Sem.run_bind, run_underlying hu, Result.andThen_ok, hr, run_sizeT hs, Sem.run_pure, Option.map_some]
                split <;> rfl
              · cases mx with
                | none =>
                  simp only [Option.isSome_none, Bool.or_false] at hx
                  have := hex hx
                  have := h7 rfl
                  omega
                | some _ => rw [h6 rfl]
              · unfold SlOk at hsl ⊢
                split at hsl
                · exact hsl.elim
                · rename_i ed; trivial
                · rename_i b p n ed
                  refine ⟨fun hpos => ?_, ?_⟩
                  · rw [if_neg (by omega), hsl.1 (by omega), add_at]; simp [Nat.add_assoc]
                  · have hmul : l * esz + (m' - l) * esz = m' * esz := by rw [← Nat.add_mul]; congr 1; omega
                    have : m' * esz ≤ c * esz := Nat.mul_le_mul_right _ h4
                    have := hsl.2
                    omega
          · trivial
        · trivial
      · trivial
  · trivial

theorem dSliceArr_ok {t el : TypeId} {n sz : Nat} {x : Opd} {lo hi mx : Option Opd} {cx : Value} {clo chi cmx : Option Value} (hu : P.underlying t = some (.array n el)) (hs : sizeT P el = some sz) (hx : VRel φ (x.ev e r) cx)
    (hlo : ORel φ e r lo clo) (hhi : ORel φ e r hi chi) (hmx : ORel φ e r mx cmx) (hn : mx.isNone = true) : DOk P φ (valued (Instr.sliceAt t cx clo chi cmx)) ((dSliceArr n sz x lo hi).f e r) := by
  simp only [dSliceArr]
  cases mx with
  | some _ => cases hn
  | none =>
    simp only [ORel] at hmx
    subst hmx
    split
    · rename_i i o ea
      rw [ea] at hx
      obtain ⟨ad, rfl, hp⟩ := hx
      split
      · rename_i h hh
        split
        · rename_i l hl
          refine ⟨hp.notUn, ?_⟩
          intro b p m vs u fz w hφ hb hsz hm cs hcs v hv
          simp only [Option.some.injEq] at hv
          subst hv
          simp only [PtrOk, hφ] at hp
          subst hp
          obtain ⟨m', hr, h1, h2, h3, h4, _, _, h7⟩ := bounds_ok (P := P) (isSlice := false) hlo hhi (mx := none) rfl (by simp) (Nat.le_refl n) (Nat.le_refl n) rfl hh hl w
          have : m' = n := (h7 rfl).1
          subst this
          refine ⟨.slice (some (if m' = l then ⟨b, p + o, none⟩ else Addr.add ⟨b, p + o, none⟩ (l * sz))) (h - l) (m' - l), run_valued_ok ?_, ⟨_, m' - l, rfl, by omega, Nat.le_refl _, fun _ => rfl, ?_⟩⟩
          · simp only [Instr.sliceAt, Instr.sureAddr, Sem.run_bind, run_underlying hu, Result.andThen_ok, hr, run_sizeT hs, Sem.run_pure]
          · simp only [SlOk, hφ]
            have hmul : l * sz + (m' - l) * sz = m' * sz := by rw [← Nat.add_mul]; congr 1; omega
            refine ⟨fun hpos => ?_, by omega⟩
            rw [if_neg (by omega), add_at]; simp [Nat.add_assoc]
        · trivial
      · trivial
    · trivial

/-! ### Conversions -/

theorem dConv_ok {s d : TypeId} {k : IntKind} {dk : TypeDesc} {x : Opd} {cx : Value} (hs : P.underlying s = some dk) (hd : P.underlying d = some (.int k)) (hx : VRel φ (x.ev e r) cx) :
    DOk P φ (valued (convert s d cx)) ((dConv k x).f e r) := by
  simp only [dConv]
  split
  · rename_i k' n ex
    rw [ex] at hx
    simp only [VRel] at hx
    subst hx
    refine .val_of (.int k (k.wrap n)) (fun w => ?_) (by simp [VRel, wrapQ_eq])
    simp [convert, run_underlying hs, run_underlying hd, Conv.intToInt]
  · rename_i k' id ns ex
    rw [ex] at hx
    obtain ⟨n, hn, rfl⟩ := hx
    refine symO_ok (o := some (wrapQ k n)) (by rw [List.getElem?_map, hn]; rfl) fun q hq w => ?_
    cases hq
    simp [convert, run_underlying hs, run_underlying hd, Conv.intToInt, wrapQ_eq]
  · rename_i k' id off ex
    rw [ex] at hx
    simp only [VRel] at hx
    subst hx
    refine exV_ok fun h1 h2 w => ?_
    simp [convert, run_underlying hs, run_underlying hd, Conv.intToInt, wrap_small h1 h2]
  · trivial

theorem encode_ascii (m : Nat) (h : m < 128) : Utf8.encode (m : Int) = ⟨[UInt8.ofNat m].toArray⟩ := by
  have key : ∀ m : Nat, m < 128 → (Utf8.encode (m : Int)).data.toList = [UInt8.ofNat m] := by decide
  apply ByteArray.ext
  apply Array.toList_inj.1
  rw [key m h]

theorem dRuneToStr_ok {s d : TypeId} {k : IntKind} {x : Opd} {cx : Value} (hs : P.underlying s = some (.int k)) (hd : P.underlying d = some .string) (hx : VRel φ (x.ev e r) cx) :
    DOk P φ (valued (convert s d cx)) ((dRuneToStr x).f e r) := by
  simp only [dRuneToStr]
  split
  · rename_i k' n ex
    rw [ex] at hx
    simp only [VRel] at hx
    subst hx
    split
    · rename_i m hm
      rw [idxQ_some] at hm
      obtain ⟨h0, h1, rfl⟩ := hm
      refine .val_of (.string (Utf8.encode n)) (fun w => ?_) ?_
      · simp [convert, run_underlying hs, run_underlying hd, Conv.intToString]
      · have := encode_ascii n.toNat (by omega)
        rw [Int.toNat_of_nonneg h0] at this
        rw [this]; rfl
    · trivial
  · rename_i k' id ns ex
    rw [ex] at hx
    obtain ⟨n, hn, rfl⟩ := hx
    cases hc : ns.all fun n => (idxQ n 128).isSome with
    | false => trivial
    | true =>
      rw [List.all_eq_true] at hc
      have h1 := hc n (List.mem_of_getElem? hn)
      rw [Option.isSome_iff_exists] at h1
      obtain ⟨m, hm⟩ := h1
      rw [idxQ_some] at hm
      obtain ⟨h0, h1, rfl⟩ := hm
      refine .val_of (.string (Utf8.encode n)) (fun w => ?_) ⟨[UInt8.ofNat n.toNat], ?_, _, [], rfl, ⟨n, hn, ?_⟩, rfl⟩
      · simp [convert, run_underlying hs, run_underlying hd, Conv.intToString]
      · have := encode_ascii n.toNat (by omega)
        rw [Int.toNat_of_nonneg h0] at this
        rw [this]
      · show Value.int .u8 _ = _
        rw [UInt8.toNat_ofNat', Nat.mod_eq_of_lt (by omega)]; congr 1; omega
  · trivial

theorem foldl_push (ns : List Int) : ∀ (b : ByteArray), ns.foldl (fun r n => r.push (UInt8.ofNat n.toNat)) b = b ++ ⟨(ns.map fun n => UInt8.ofNat n.toNat).toArray⟩ := by
  induction ns with
  | nil => intro b; apply ByteArray.ext; simp
  | cons n ns ih => intro b; rw [List.foldl_cons, ih]; apply ByteArray.ext; simp

/-- Cells that are bytes. -/
theorem bytesOf_ok : ∀ (cs : List AV) (vs : List Value) (s : List UInt8), VRels φ cs vs → bytesOf cs = some s → ∃ ns : List Int, vs = ns.map (.int .u8) ∧ s = (ns.map fun n => UInt8.ofNat n.toNat) ∧ ∀ n ∈ ns, 0 ≤ n ∧ n < 256
  | [], vs, s, h, hb => by
    simp only [VRels] at h
    subst h
    simp only [bytesOf, Option.some.injEq] at hb
    exact ⟨[], rfl, hb.symm, by simp⟩
  | c :: cs, vs, s, h, hb => by
    obtain ⟨v, r, rfl, h1, h2⟩ := h
    simp only [bytesOf] at hb
    split at hb
    · rename_i k n
      simp only [VRel] at h1
      subst h1
      cases hk : kEq k .u8 with
      | false => simp [hk] at hb
      | true =>
        rw [hk, cond_true] at hb
        rw [kEq_iff] at hk
        subst hk
        split at hb
        · rename_i m hm
          rw [idxQ_some] at hm
          split at hb
          · rename_i s' hs'
            simp only [Option.some.injEq] at hb
            subst hb
            obtain ⟨ns, rfl, rfl, h3⟩ := bytesOf_ok cs r s' h2 hs'
            refine ⟨n :: ns, rfl, by rw [hm.2.2]; rfl, fun x hx => ?_⟩
            rcases List.mem_cons.1 hx with rfl | hx
            · exact ⟨hm.1, by have := hm.2.1; omega⟩
            · exact h3 x hx
          · cases hb
        · cases hb
    · cases hb

theorem sBytes_ok : ∀ (cs : List AV) (vs : List Value), VRels φ cs vs → cs.all sByte = true → ∃ ns : List Int, vs = ns.map (.int .u8) ∧ ∀ n ∈ ns, 0 ≤ n ∧ n < 256
  | [], vs, h, _ => by
    simp only [VRels] at h
    subst h
    exact ⟨[], rfl, by simp⟩
  | c :: cs, vs, h, hb => by
    obtain ⟨v, r, rfl, h1, h2⟩ := h
    simp only [List.all_cons, Bool.and_eq_true] at hb
    obtain ⟨ns, rfl, h3⟩ := sBytes_ok cs r h2 hb.2
    have hv : ∃ n, v = .int .u8 n ∧ 0 ≤ n ∧ n < 256 := by
      have hs := hb.1
      unfold sByte at hs
      split at hs
      · rename_i k n
        rw [Bool.and_eq_true, kEq_iff, Option.isSome_iff_exists] at hs
        obtain ⟨rfl, m, hm⟩ := hs
        rw [idxQ_some] at hm
        exact ⟨n, h1, hm.1, by have := hm.2.1; omega⟩
      · rename_i k id l
        rw [Bool.and_eq_true, kEq_iff, List.all_eq_true] at hs
        obtain ⟨rfl, hs⟩ := hs
        obtain ⟨n, hn, rfl⟩ := h1
        have := hs n (List.mem_of_getElem? hn)
        rw [Option.isSome_iff_exists] at this
        obtain ⟨m, hm⟩ := this
        rw [idxQ_some] at hm
        exact ⟨n, rfl, hm.1, by have := hm.2.1; omega⟩
      · cases hs
    obtain ⟨n, rfl, hn⟩ := hv
    refine ⟨n :: ns, rfl, fun x hx => ?_⟩
    rcases List.mem_cons.1 hx with rfl | hx
    · exact hn
    · exact h3 x hx

theorem bytesV_ok {cs : List AV} {vs : List Value} {v : AV} (h : VRels φ cs vs) (hb : bytesV cs = some v) : ∃ ns : List Int, vs = ns.map (.int .u8) ∧ (∀ n ∈ ns, 0 ≤ n ∧ n < 256) ∧ VRel φ v (.string ⟨(ns.map fun n : Int => UInt8.ofNat n.toNat).toArray⟩) := by
  unfold bytesV at hb
  split at hb
  · rename_i s hs
    cases hb
    obtain ⟨ns, h1, rfl, h2⟩ := bytesOf_ok cs vs s h hs
    exact ⟨ns, h1, h2, rfl⟩
  · cases hc : cs.all sByte with
    | false => rw [hc] at hb; cases hb
    | true =>
      rw [hc] at hb
      simp only [cond_true, Option.some.injEq] at hb
      subst hb
      obtain ⟨ns, rfl, h2⟩ := sBytes_ok cs vs h hc
      refine ⟨ns, rfl, h2, _, rfl, ?_⟩
      have : (ns.map fun n : Int => UInt8.ofNat n.toNat).map (fun b => Value.int .u8 b.toNat) = ns.map (Value.int .u8) := by
        rw [List.map_map]
        refine List.map_congr_left fun n hn => ?_
        have := h2 n hn
        simp only [Function.comp]
        rw [UInt8.toNat_ofNat', Nat.mod_eq_of_lt (by omega)]
        congr 1; omega
      rw [this]; exact h

theorem dBytesToStr_ok {s d el : TypeId} {x : Opd} {cx : Value} (hs : P.underlying s = some (.slice el)) (he : P.underlying el = some (.int .u8)) (hd : P.underlying d = some .string) (hx : VRel φ (x.ev e r) cx) :
    DOk P φ (valued (convert s d cx)) ((dBytesToStr x).f e r) := by
  simp only [dBytesToStr]
  split
  · rename_i esz len cap ex ea
    rw [ea] at hx
    obtain ⟨rfl, _, _⟩ := hx
    refine .val_of (.string .empty) (fun w => ?_) rfl
    simp [convert, run_underlying hs, run_underlying hd, run_underlying he, Conv.bytesToString]
  · rename_i i o esz len cap ex ea
    rw [ea] at hx
    obtain ⟨a, c, rfl, h1, h2, h3, hsl⟩ := hx
    cases he1 : Nat.beq esz 1 with
    | false => trivial
    | true =>
      refine ⟨hsl.notUn, ?_⟩
      intro b p m vs u fz w hφ hb hsz hm cs hcs v hv
      obtain ⟨ns, hns, _, hvr⟩ := bytesV_ok hcs hv
      refine ⟨.string ⟨(ns.map fun n : Int => UInt8.ofNat n.toNat).toArray⟩, run_valued_ok ?_, hvr⟩
      have hload : (loadCells a len).run P w = .ok (ns.map (Value.int .u8)).toArray w := by
        rw [← hns]
        rcases Nat.eq_zero_or_pos len with hz | hz
        · subst hz
          simp [loadCells, loadCellsFrom]
        · have := hsl.ptr (show 0 < c by omega)
          simp only [PtrOk, hφ] at this
          subst this
          rw [run_loads P hb len hsz]
      simp only [convert, Sem.run_bind, run_underlying hs, run_underlying hd, run_underlying he, Result.andThen_ok]
      rw [run_bytesToString w a len c ns hload, foldl_push]
      congr 2
  · trivial

theorem dLenStr_ok {t ty : TypeId} {ts : Array TypeId} {x : Opd} {cx : Value} (ht : ts[0]? = some t) (hu : P.underlying t = some .string) (hx : VRel φ (x.ev e r) cx) :
    DOk P φ (valued (Builtin.len_ ts ty #[cx])) ((dLenStr x).f e r) := by
  simp only [dLenStr]
  split
  · rename_i s ex
    rw [ex] at hx
    simp only [VRel] at hx
    subst hx
    refine .val_of (.int .i64 s.length) (fun w => ?_) rfl
    simp [Builtin.len_, ht, run_underlying hu, goInt, ba_size]
  · rename_i l ex
    rw [ex] at hx
    obtain ⟨s, rfl, hl⟩ := hx
    have := hl.length
    rw [List.length_map] at this
    rw [← this]
    refine .val_of (.int .i64 s.length) (fun w => ?_) rfl
    simp [Builtin.len_, ht, run_underlying hu, goInt, ba_size]
  · trivial

theorem dLenSl_ok {t ty el : TypeId} {ts : Array TypeId} {x : Opd} {cx : Value} (ht : ts[0]? = some t) (hu : P.underlying t = some (.slice el)) (hx : VRel φ (x.ev e r) cx) :
    DOk P φ (valued (Builtin.len_ ts ty #[cx])) ((dLenSl x).f e r) := by
  simp only [dLenSl]
  split
  · rename_i a esz n cap exx ex
    rw [ex] at hx
    refine .val_of (.int .i64 n) (fun w => ?_) rfl
    cases a with
    | none => obtain ⟨rfl, rfl, rfl⟩ := hx; simp [Builtin.len_, ht, run_underlying hu, goInt]
    | some p => obtain ⟨i, o⟩ := p; obtain ⟨a, c, rfl, _⟩ := hx; simp [Builtin.len_, ht, run_underlying hu, goInt]
  · rename_i i id sc off esz lid loff ex
    rw [ex] at hx
    obtain ⟨h0, h1, a, c, rfl, _⟩ := hx
    refine .val_of (.int .i64 (Val.num lid + loff)) (fun w => ?_) ?_
    · have e : (((Val.num lid + loff).toNat : Nat) : Int) = Val.num lid + loff := Int.toNat_of_nonneg h1
      generalize (Val.num lid + loff).toNat = L at e
      rw [← e]
      simp [Builtin.len_, ht, run_underlying hu, goInt]
    · rw [T.ifB_eq]
      split
      · rename_i hz
        rw [beq_iff] at hz
        subst hz
        rw [Val.num0, Int.zero_add]; rfl
      · rfl
  · trivial

end
end Go.Abs

/- The abstract machine: operations that write nothing old: interfaces, functions, tuples, maps, comparisons of places and structs. -/
namespace Go.Abs
variable [Fct] [Val]

section
variable {P : Program} {φ : Phi} {e : Env} {r : Regs}

/-! ### Interfaces, functions, tuples -/

theorem dIface_ok {t : TypeId} {d : TypeDesc} {x : Opd} {cx : Value} (hu : P.underlying t = some d) (hd : ∀ ms, d ≠ .interface ms) (hx : VRel φ (x.ev e r) cx) :
    DOk P φ (valued (Instr.makeInterface t cx)) ((dIface t x).f e r) := by
  refine .val_of (.iface t cx) (fun w => ?_) ⟨_, rfl, hx⟩
  cases d <;> simp_all [Instr.makeInterface, run_underlying hu]

theorem dFunc_ok {f : FuncId} {a b : List Opd} {ca cb : Array Value} (ha : VRels φ (evs a e r) ca.toList) (hb : VRels φ (evs b e r) cb.toList) :
    DOk P φ (valued (Instr.makeFunc (.func f) ca cb)) ((dFunc f a b).f e r) :=
  .val_of (.func (.func f) ca cb) (fun w => rfl) ⟨_, _, rfl, ha, hb⟩

theorem nthV_ok {P : Program} {φ : Phi} {s : Sem Value} : ∀ (vs : List AV) (cs : List Value) (i : Nat), VRels φ vs cs → (∀ v, cs[i]? = some v → ∀ w, s.run P w = .ok v w) → DOk P φ (valued s) (nthV vs i)
  | [], _, _, _, _ => trivial
  | v :: vs, cs, i, h, k => by
    obtain ⟨c, cs, rfl, h1, h2⟩ := h
    cases i with
    | zero => exact .val_of c (k c rfl) h1
    | succ i => exact nthV_ok vs cs i h2 fun v hv => k v (by simpa using hv)

theorem dExtract_ok {x : Opd} {i : Nat} {cx : Value} (hx : VRel φ (x.ev e r) cx) : DOk P φ (valued (Instr.extract cx i)) ((dExtract x i).f e r) := by
  simp only [dExtract]
  split
  · rename_i vs ex
    rw [ex] at hx
    obtain ⟨cs, rfl, h⟩ := hx
    refine nthV_ok vs cs.toList i h fun v hv w => ?_
    rw [Array.getElem?_toList] at hv
    simp [Instr.extract, hv]
  · trivial

theorem dAssert_ok {t xt : TypeId} {d : TypeDesc} {z : AV} {x : Opd} {cx : Value} (hu : P.underlying t = some d) (hd : ∀ ms, d ≠ .interface ms) (hz : zeroT P t = some z) (hx : VRel φ (x.ev e r) cx) :
    DOk P φ (valued (Instr.typeAssert cx xt t true)) ((dAssert t z x).f e r) := by
  obtain ⟨cz, hz1, hz2⟩ := run_zeroT hz
  have hzr : ∀ w, (zeroValue t).run P w = .ok cz w := hz2
  simp only [dAssert]
  split
  · rename_i u v ex
    rw [ex] at hx
    obtain ⟨y, rfl, hy⟩ := hx
    cases hb : Nat.beq u t with
    | true =>
      rw [beq_iff] at hb
      subst hb
      refine .val_of (.tuple #[y, .bool true]) (fun w => ?_) ⟨_, rfl, _, _, rfl, hy, _, _, rfl, rfl, rfl⟩
      cases d <;> simp_all [Instr.typeAssert, run_underlying hu]
    | false =>
      have hne : u ≠ t := by
        intro hc; rw [← beq_iff] at hc; rw [hb] at hc; cases hc
      refine .val_of (.tuple #[cz, .bool false]) (fun w => ?_) ⟨_, rfl, _, _, rfl, ofValue_rel _ _ hz1, _, _, rfl, rfl, rfl⟩
      cases d <;> simp_all [Instr.typeAssert, run_underlying hu]
  · rename_i ex
    rw [ex] at hx
    simp only [VRel] at hx
    subst hx
    refine .val_of (.tuple #[cz, .bool false]) (fun w => ?_) ⟨_, rfl, _, _, rfl, ofValue_rel _ _ hz1, _, _, rfl, rfl, rfl⟩
    cases d <;> simp_all [Instr.typeAssert, run_underlying hu]
  · trivial

/-! ### Plain cells compared -/

def KK.of : KK → TypeDesc → Prop
  | .int, d => ∃ k, d = .int k
  | .str, d => d = .string
  | .bool, d => d = .bool

theorem kindOf_of {t : TypeId} {k : KK} (h : kindOf P t = some k) : ∃ d, P.underlying t = some d ∧ k.of d := by
  unfold kindOf at h
  split at h <;> cases h
  · rename_i k' hu; exact ⟨_, hu, k', rfl⟩
  · rename_i hu; exact ⟨_, hu, rfl⟩
  · rename_i hu; exact ⟨_, hu, rfl⟩

theorem ba_beq (a b : List UInt8) : ((⟨a.toArray⟩ : ByteArray) == ⟨b.toArray⟩) = (a == b) := by
  rw [beq_toListBytes, ba_toList, ba_toList]

/-- Two keys compared: the model's own. -/
theorem sameKey_now {d : TypeDesc} {k : KK} (hd : k.of d) {x y : AV} {cx cy : Value} (hx : VRel φ x cx) (hy : VRel φ y cy) (hk : isKey k x = true) {b : Bool} (h : sameKey x y = some b) : Instr.sameNow d cx cy = some b := by
  cases x with
  | int kk n =>
    cases y with
    | int kk' n' =>
      simp only [VRel] at hx hy
      subst hx; subst hy
      simp only [sameKey, T.ifB_eq] at h
      split at h
      · rename_i he
        rw [kEq_iff] at he
        subst he
        cases h
        cases k <;> simp [isKey] at hk
        obtain ⟨k', rfl⟩ := hd
        simp [Instr.sameNow, eqQ_eq]
      · cases h
    | _ => cases h
  | str s =>
    cases y with
    | str s' =>
      simp only [VRel] at hx hy
      subst hx; subst hy
      simp only [sameKey, Option.some.injEq] at h
      subst h
      cases k <;> simp [isKey] at hk
      simp only [KK.of] at hd
      subst hd
      simp [Instr.sameNow, strEq_eq, ba_beq]
    | _ => cases h
  | bool s =>
    cases y with
    | bool s' =>
      simp only [VRel] at hx hy
      subst hx; subst hy
      simp only [sameKey, Option.some.injEq] at h
      subst h
      cases k <;> simp [isKey] at hk
      simp only [KK.of] at hd
      subst hd
      simp [Instr.sameNow]
    | _ => cases h
  | _ => cases h

theorem equalIn_now {t : TypeId} {d : TypeDesc} {k : KK} (hu : P.underlying t = some d) (hd : k.of d) {cx cy : Value} {b : Bool} (h : Instr.sameNow d cx cy = some b) (n : Nat) (w : World) :
    (Op.equalIn (n + 1) t cx cy).run P w = .ok b w := by
  cases k with
  | int =>
    obtain ⟨k', rfl⟩ := hd
    cases cx <;> cases cy <;> simp [Instr.sameNow] at h
    obtain ⟨rfl, rfl⟩ := h
    simp [Op.equalIn, run_underlying hu]
  | str =>
    simp only [KK.of] at hd; subst hd
    cases cx <;> cases cy <;> simp [Instr.sameNow] at h
    subst h
    simp [Op.equalIn, run_underlying hu]
  | bool =>
    simp only [KK.of] at hd; subst hd
    cases cx <;> cases cy <;> simp [Instr.sameNow] at h
    subst h
    simp [Op.equalIn, run_underlying hu]

/-! ### Maps -/

theorem findKey_now {d : TypeDesc} {k : KK} (hd : k.of d) {x : AV} {cx : Value} (hx : VRel φ x cx) (hk : isKey k x = true) : ∀ (es : List (AV × AV × Nat)) (ces : List MapEntry) (i : Nat) (o : Option (Nat × AV)),
    ERels φ es ces → findKey x es i = some o → ∃ co, Instr.findNow d cx ces i = some co ∧ (match o, co with | none, none => True | some (j, v), some (j', cv) => j = j' ∧ VRel φ v cv | _, _ => False)
  | [], ces, i, o, h, hf => by
    simp only [ERels] at h
    subst h
    simp only [findKey, Option.some.injEq] at hf
    subst hf
    exact ⟨none, rfl, trivial⟩
  | (k', v, n) :: es, ces, i, o, h, hf => by
    obtain ⟨ce, rest, rfl, ⟨h1, h2, h3⟩, h4⟩ := h
    simp only [findKey] at hf
    split at hf
    · rename_i hs
      cases hf
      exact ⟨some (i, ce.val), by simp [Instr.findNow, sameKey_now hd hx h1 hk hs], rfl, h2⟩
    · rename_i hs
      obtain ⟨co, hco, hr⟩ := findKey_now hd hx hk es rest (i + 1) o h4 hf
      exact ⟨co, by simp [Instr.findNow, sameKey_now hd hx h1 hk hs, hco], hr⟩
    · cases hf

theorem run_checkKey_plain' {t : TypeId} {d : TypeDesc} {k : KK} (hu : P.underlying t = some d) (hd : k.of d) (em : Bool) (n : Nat) (v : Value) (w : World) : (Instr.checkKey em (n + 1) t v).run P w = .ok () w := by
  cases k with
  | int => obtain ⟨k', rfl⟩ := hd; simp [Instr.checkKey, run_underlying hu]
  | str => simp only [KK.of] at hd; subst hd; simp [Instr.checkKey, run_underlying hu]
  | bool => simp only [KK.of] at hd; subst hd; simp [Instr.checkKey, run_underlying hu]

theorem run_findKey_now {t : TypeId} {d : TypeDesc} (hu : P.underlying t = some d) {k : Value} {es : List MapEntry} {o : Option (Nat × Value)} (h : Instr.findNow d k es 0 = some o) (w : World) : (Instr.findKey t k es).run P w = .ok o w := by
  simp [Instr.findKey, run_underlying hu, h]

theorem dLookup_ok {t kt el : TypeId} {kk : KK} {z : AV} {ok : Bool} {x i : Opd} {cx ci : Value} (hu : P.underlying t = some (.map kt el)) (hk : kindOf P kt = some kk) (hz : zeroT P el = some z)
    (hx : VRel φ (x.ev e r) cx) (hi : VRel φ (i.ev e r) ci) : DOk P φ (valued (Instr.lookup t cx ci ok)) ((dLookup kk z ok x i).f e r) := by
  obtain ⟨cz, hz1, hz2⟩ := run_zeroT hz
  have hzr := ofValue_rel (φ := φ) _ _ hz1
  obtain ⟨d, hd, hkd⟩ := kindOf_of hk
  simp only [dLookup]
  split
  · rename_i ex
    rw [ex] at hx
    simp only [VRel] at hx
    subst hx
    have hf : Instr.findNow d ci [] 0 = some none := rfl
    refine .val_of (if ok then .tuple #[cz, .bool false] else cz) (fun w => ?_) ?_
    · simp [Instr.lookup, run_underlying hu, run_checkKey_plain' hd hkd, run_findKey_now hd hf, hz2]
    · cases ok
      · exact hzr
      · exact ⟨_, rfl, _, _, rfl, hzr, _, _, rfl, rfl, rfl⟩
  · rename_i m ex
    rw [ex] at hx
    obtain ⟨rr, rfl, hm⟩ := hx
    cases hkey : isKey kk (i.ev e r) with
    | false => trivial
    | true =>
      refine ⟨hm.notUn, ?_⟩
      intro b p m' ces clock w hφ hb es hes v hv
      simp only [MapOk, hφ] at hm
      subst hm
      simp only [lookedUp] at hv
      have hget : (getObj rr).run P w = .ok (.map ces clock) w := by simp [getObj, Sem.run, hb]
      split at hv
      · rename_i j val hf
        obtain ⟨co, hco, hr⟩ := findKey_now hkd hi hkey es ces.toList 0 _ hes hf
        cases co with
        | none => exact hr.elim
        | some q =>
          obtain ⟨j', cv⟩ := q
          obtain ⟨rfl, hcv⟩ := hr
          cases hv
          refine ⟨if ok then .tuple #[cv, .bool true] else cv, run_valued_ok ?_, ?_⟩
          · simp [Instr.lookup, run_underlying hu, run_checkKey_plain' hd hkd, run_findKey_now hd hco, hget]
          · cases ok
            · exact hcv
            · exact ⟨_, rfl, _, _, rfl, hcv, _, _, rfl, rfl, rfl⟩
      · rename_i hf
        obtain ⟨co, hco, hr⟩ := findKey_now hkd hi hkey es ces.toList 0 _ hes hf
        cases co with
        | some q => exact hr.elim
        | none =>
          cases hv
          refine ⟨if ok then .tuple #[cz, .bool false] else cz, run_valued_ok ?_, ?_⟩
          · simp [Instr.lookup, run_underlying hu, run_checkKey_plain' hd hkd, run_findKey_now hd hco, hget, hz2]
          · cases ok
            · exact hzr
            · exact ⟨_, rfl, _, _, rfl, hzr, _, _, rfl, rfl, rfl⟩
      · cases hv
  · trivial

theorem ERels.length {φ : Phi} : ∀ {es : List (AV × AV × Nat)} {ces : List MapEntry}, ERels φ es ces → ces.length = es.length
  | [], _, h => by simp only [ERels] at h; subst h; rfl
  | _ :: _, _, ⟨_, _, e, _, h⟩ => by subst e; simp [ERels.length h]

theorem dLenMap_ok {t ty kt el : TypeId} {ts : Array TypeId} {x : Opd} {cx : Value} (ht : ts[0]? = some t) (hu : P.underlying t = some (.map kt el)) (hx : VRel φ (x.ev e r) cx) :
    DOk P φ (valued (Builtin.len_ ts ty #[cx])) ((dLenMap x).f e r) := by
  simp only [dLenMap]
  split
  · rename_i ex
    rw [ex] at hx
    simp only [VRel] at hx
    subst hx
    refine .val_of (.int .i64 0) (fun w => ?_) rfl
    simp [Builtin.len_, ht, run_underlying hu, goInt]
  · rename_i m ex
    rw [ex] at hx
    obtain ⟨rr, rfl, hm⟩ := hx
    refine ⟨hm.notUn, ?_⟩
    intro b p m' ces clock w hφ hb es hes v hv
    simp only [MapOk, hφ] at hm
    subst hm
    cases hv
    have hget : (getObj rr).run P w = .ok (.map ces clock) w := by simp [getObj, Sem.run, hb]
    refine ⟨.int .i64 ces.size, run_valued_ok ?_, ?_⟩
    · simp [Builtin.len_, ht, run_underlying hu, goInt, hget]
    · have := hes.length
      simp only [Array.length_toList] at this
      simp [VRel, this]
  · trivial

/-! ### Places and structs compared -/

theorem ptrEq_nil {t el : TypeId} (hu : P.underlying t = some (.pointer el)) (b : Option Addr) (n : Nat) (w : World) : (Op.equalIn (n + 1) t (.pointer none) (.pointer b)).run P w = .ok b.isNone w := by
  simp [Op.equalIn, run_underlying hu]

theorem ptrEq_some {t el : TypeId} (hu : P.underlying t = some (.pointer el)) (a : Addr) (n : Nat) (w : World) : (Op.equalIn (n + 1) t (.pointer (some a)) (.pointer none)).run P w = .ok false w := by
  simp [Op.equalIn, run_underlying hu]

theorem ptrEq_both {t el : TypeId} {sz : Nat} (hu : P.underlying t = some (.pointer el)) (hs : sizeT P el = some sz) (h0 : sz ≠ 0) (a b : Addr) (n : Nat) {w : World} {q : Bool} (h : (sameAddr a b).run P w = .ok q w) :
    (Op.equalIn (n + 1) t (.pointer (some a)) (.pointer (some b))).run P w = .ok q w := by
  simp [Op.equalIn, run_underlying hu, run_sizeT hs, h0, h]

theorem run_equal_of {t : TypeId} {x y : Value} {w : World} {q : Bool} (h : (Op.equalIn (9999 + 1) t x y).run P w = .ok q w) (n : Bool) :
    (do let b ← Op.equal t x y; pure (Value.bool (if n then !b else b)) : Sem Value).run P w = .ok (.bool (if n then !q else q)) w := by
  have h' : (Op.equal t x y).run P w = .ok q w := h
  rw [Sem.run_bind, h']; rfl

theorem dPtrEq_ok {t el : TypeId} {sz : Nat} {n : Bool} {x y : Opd} {cx cy : Value} (hu : P.underlying t = some (.pointer el)) (hs : sizeT P el = some sz) (h0 : sz ≠ 0)
    (hx : VRel φ (x.ev e r) cx) (hy : VRel φ (y.ev e r) cy) {s : Sem Value} (h : s = (do let b ← Op.equal t cx cy; pure (.bool (if n then !b else b)))) : DOk P φ (valued s) ((dPtrEq n x y).f e r) := by
  subst h
  simp only [dPtrEq]
  cases ex : x.ev e r <;> try trivial
  rename_i pa
  cases ey : y.ev e r <;> try (cases pa <;> trivial)
  rename_i pb
  rw [ex] at hx; rw [ey] at hy
  cases pa with
  | none =>
    simp only [VRel] at hx
    subst hx
    cases pb with
    | none =>
      simp only [VRel] at hy; subst hy
      exact .val_of _ (fun w => run_equal_of (ptrEq_nil hu none 9999 w) n) (by cases n <;> rfl)
    | some p =>
      obtain ⟨i, o⟩ := p
      obtain ⟨a, rfl, _⟩ := hy
      exact .val_of _ (fun w => run_equal_of (ptrEq_nil hu (some a) 9999 w) n) (by cases n <;> rfl)
  | some p =>
    obtain ⟨i, o⟩ := p
    obtain ⟨a, rfl, ha⟩ := hx
    cases pb with
    | none =>
      simp only [VRel] at hy
      subst hy
      exact .val_of _ (fun w => run_equal_of (ptrEq_some hu a 9999 w) n) (by cases n <;> rfl)
    | some p' =>
      obtain ⟨j, p⟩ := p'
      obtain ⟨a', rfl, ha'⟩ := hy
      cases hb : Nat.beq i j with
      | false => simp [hb, DOk]
      | true =>
        simp only [hb, cond_true]
        rw [beq_iff] at hb
        subst hb
        refine ⟨ha.notUn, ?_⟩
        intro b q m vs u fz w hφ hbk hsz hm cs hcs v hv
        simp only [Option.some.injEq] at hv
        subst hv
        simp only [PtrOk, hφ] at ha ha'
        subst ha; subst ha'
        have hsame : (sameAddr ⟨b, q + o, none⟩ ⟨b, q + p, none⟩).run P w = .ok (Nat.beq o p) w := by
          by_cases hop : o = p
          · subst hop; simp [sameAddr]
          · have : Nat.beq o p = false := by
              cases hc : Nat.beq o p with
              | false => rfl
              | true => rw [beq_iff] at hc; exact absurd hc hop
            rw [this]
            simp [sameAddr, hop]
        exact ⟨_, run_valued_ok (run_equal_of (ptrEq_both hu hs h0 _ _ 9999 hsame) n), by cases n <;> rfl⟩

theorem plainEq_ok (n : Nat) (xs ys : Array Value) : ∀ (fs : List Field) (i : Nat) (ks : List KK) (a b : List AV) (q : Bool), fieldKinds P fs i = some ks → plainEq ks a b = some q →
    VRels φ a (xs.toList.drop i) → VRels φ b (ys.toList.drop i) → ∀ w, (Op.eqFields (n + 1) xs ys fs).run P w = .ok q w
  | [], i, ks, a, b, q, hk, hq, ha, hb, w => by
    simp only [fieldKinds, Option.some.injEq] at hk
    subst hk
    simp only [plainEq] at hq
    split at hq
    · cases hq; simp [Op.eqFields]
    · cases hq
  | f :: fs, i, ks, a, b, q, hk, hq, ha, hb, w => by
    simp only [fieldKinds] at hk
    split at hk
    · rename_i hc
      simp only [Bool.and_eq_true, bne_iff_ne, ne_eq, beq_iff_eq] at hc
      cases hkf : kindOf P f.type with
      | none => rw [hkf] at hk; cases hk
      | some k =>
        rw [hkf] at hk
        simp only [Option.bind_some, Option.map_eq_some_iff] at hk
        obtain ⟨ks', hks, rfl⟩ := hk
        simp only [plainEq] at hq
        split at hq
        · rename_i x a' y b'
          rw [T.ifB_eq] at hq
          split at hq
          · rename_i hkey
            obtain ⟨cx, rx, ex, hx, hrx⟩ := ha
            obtain ⟨cy, ry, ey, hy, hry⟩ := hb
            obtain ⟨d, hd, hkd⟩ := kindOf_of hkf
            have hpx : ∀ w, (part f.type xs f.offset).run P w = .ok cx w := by
              intro w
              have : xs[i]? = some cx := by
                rw [← Array.getElem?_toList, ← List.head?_drop, ex]; rfl
              rw [hc.2]
              cases k with
              | int => obtain ⟨k', rfl⟩ := hkd; simp [part, isAgg, run_underlying hd, this]
              | str => simp only [KK.of] at hkd; subst hkd; simp [part, isAgg, run_underlying hd, this]
              | bool => simp only [KK.of] at hkd; subst hkd; simp [part, isAgg, run_underlying hd, this]
            have hpy : ∀ w, (part f.type ys f.offset).run P w = .ok cy w := by
              intro w
              have : ys[i]? = some cy := by
                rw [← Array.getElem?_toList, ← List.head?_drop, ey]; rfl
              rw [hc.2]
              cases k with
              | int => obtain ⟨k', rfl⟩ := hkd; simp [part, isAgg, run_underlying hd, this]
              | str => simp only [KK.of] at hkd; subst hkd; simp [part, isAgg, run_underlying hd, this]
              | bool => simp only [KK.of] at hkd; subst hkd; simp [part, isAgg, run_underlying hd, this]
            have drop_succ : ∀ (l : List Value) (c : Value) (r : List Value), l.drop i = c :: r → l.drop (i + 1) = r := by
              intro l c r h
              rw [← List.drop_drop, h]; rfl
            split at hq
            · rename_i hs
              have hnow := equalIn_now hd hkd (sameKey_now hkd hx hy hkey hs) n w
              have ih := plainEq_ok n xs ys fs (i + 1) ks' a' b' q hks hq (by rw [drop_succ _ _ _ ex]; exact hrx) (by rw [drop_succ _ _ _ ey]; exact hry) w
              simp [Op.eqFields, hc.1, hpx, hpy, hnow, ih]
            · rename_i hs
              cases hq
              have hnow := equalIn_now hd hkd (sameKey_now hkd hx hy hkey hs) n w
              simp [Op.eqFields, hc.1, hpx, hpy, hnow]
            · cases hq
          · cases hq
        · cases hq
    · cases hk

theorem dStructEq_ok {t : TypeId} {ks : List KK} {n : Bool} {x y : Opd} {cx cy : Value} (hp : plainStruct P t = some ks)
    (hx : VRel φ (x.ev e r) cx) (hy : VRel φ (y.ev e r) cy) {s : Sem Value} (h : ∀ xs ys, cx = .agg xs → cy = .agg ys → P.eqGuardType P.depth t = false → ∀ w, s.run P w = ((Op.equal t cx cy).run P w).andThen fun b w' => .ok (.bool (if n then !b else b)) w') :
    DOk P φ (valued s) ((dStructEq n ks x y).f e r) := by
  unfold plainStruct at hp
  split at hp
  · rename_i fs hu
    split at hp
    · rename_i hc
      simp only [Bool.and_eq_true, Bool.not_eq_true'] at hc
      simp only [dStructEq]
      split
      · rename_i a b ex ey
        rw [ex] at hx; rw [ey] at hy
        obtain ⟨xs, rfl, hxs⟩ := hx
        obtain ⟨ys, rfl, hys⟩ := hy
        split
        · rename_i q hq
          have hfs : P.fieldsOf t = fs := by simp [Program.fieldsOf, hu]
          refine .val_of (.bool (if n then !q else q)) (fun w => ?_) (by cases n <;> rfl)
          rw [h xs ys rfl rfl hc.2 w]
          have he : (Op.equal t (.agg xs) (.agg ys)).run P w = .ok q w := by
            unfold Op.equal Op.maxDepth
            rw [run_equalIn_struct w 9999 t xs ys (by rw [hfs]; exact hu) hc.1, hfs]
            exact plainEq_ok 9998 xs ys fs.toList 0 ks a b q hp hq (by simpa using hxs) (by simpa using hys) w
          rw [he]; rfl
        · trivial
      · trivial
    · cases hp
  · cases hp

end
end Go.Abs
