/- The abstract machine: laws of its trees, rows and small functions. -/
import Derived.Test.YtbojmpbccibmaaaGreatDoorBAbs2
set_option linter.unusedVariables false
set_option linter.unusedSimpArgs false
set_option linter.unusedSectionVars false
set_option linter.deprecated false
namespace Go.Abs

/-! ### Trees -/

namespace T
variable {α : Type}

@[simp] theorem get_nil (n : Nat) : (T.nil : T α).get n = none := rfl
theorem get_node (l : T α) (v : Option α) (r : T α) (n : Nat) : (T.node l v r).get n =
    ifB (Nat.beq n 0) v (ifB (Nat.beq (n % 2) 1) (l.get (n / 2)) (r.get (n / 2 - 1))) := rfl

theorem setF_zero (x : Option α) (t : T α) (n : Nat) : setF x 0 t n = t := rfl
theorem setF_nil (x : Option α) (f n : Nat) : setF x (f + 1) .nil n =
    ifB (Nat.beq n 0) (.node .nil x .nil) (ifB (Nat.beq (n % 2) 1) (.node (setF x f .nil (n / 2)) none .nil) (.node .nil none (setF x f .nil (n / 2 - 1)))) := rfl
theorem setF_node (x : Option α) (f n : Nat) (l : T α) (v : Option α) (r : T α) : setF x (f + 1) (.node l v r) n =
    ifB (Nat.beq n 0) (.node l x r) (ifB (Nat.beq (n % 2) 1) (.node (setF x f l (n / 2)) v r) (.node l v (setF x f r (n / 2 - 1)))) := rfl

theorem ifB_eq {β : Type} (b : Bool) (x y : β) : ifB b x y = if b then x else y := by cases b <;> rfl

theorem get_setF (x : Option α) : ∀ (f : Nat) (t : T α) (n m : Nat), n < f → (setF x f t n).get m = if m = n then x else t.get m := by
  intro f
  induction f with
  | zero => intro t n m h; omega
  | succ f ih =>
    intro t n m h
    cases t with
    | nil =>
      rw [setF_nil]
      by_cases h0 : n = 0
      · subst h0
        simp only [Nat.beq_eq, ifB_eq, if_true, get_node, get_nil]
        by_cases hm : m = 0 <;> simp [hm]
      · by_cases h1 : n % 2 = 1
        · simp only [ifB_eq, Nat.beq_eq, h0, h1, if_true, if_false, get_node, get_nil]
          by_cases hm : m = 0
          · simp [hm, Ne.symm h0]
          · by_cases hm1 : m % 2 = 1
            · rw [if_neg hm, if_pos hm1, ih _ _ _ (by omega)]
              by_cases e : m = n
              · simp [e]
              · rw [if_neg e, if_neg (by omega)]; rfl
            · rw [if_neg hm, if_neg hm1, if_neg (by omega)]
        · simp only [ifB_eq, Nat.beq_eq, h0, h1, if_false, get_node, get_nil]
          by_cases hm : m = 0
          · simp [hm, Ne.symm h0]
          · by_cases hm1 : m % 2 = 1
            · rw [if_neg hm, if_pos hm1, if_neg (by omega)]
            · rw [if_neg hm, if_neg hm1, ih _ _ _ (by omega)]
              by_cases e : m = n
              · simp [e]
              · rw [if_neg e, if_neg (by omega)]; rfl
    | node l v r =>
      rw [setF_node]
      by_cases h0 : n = 0
      · subst h0
        simp only [Nat.beq_eq, ifB_eq, if_true, get_node]
        by_cases hm : m = 0 <;> simp [hm]
      · by_cases h1 : n % 2 = 1
        · simp only [ifB_eq, Nat.beq_eq, h0, h1, if_true, if_false, get_node]
          by_cases hm : m = 0
          · simp [hm, Ne.symm h0]
          · by_cases hm1 : m % 2 = 1
            · rw [if_neg hm, if_pos hm1, ih _ _ _ (by omega), if_neg hm, if_pos hm1]
              by_cases e : m = n
              · simp [e]
              · rw [if_neg e, if_neg (by omega)]
            · rw [if_neg hm, if_neg hm1, if_neg hm, if_neg hm1, if_neg (by omega)]
        · simp only [ifB_eq, Nat.beq_eq, h0, h1, if_false, get_node]
          by_cases hm : m = 0
          · simp [hm, Ne.symm h0]
          · by_cases hm1 : m % 2 = 1
            · rw [if_neg hm, if_pos hm1, if_neg hm, if_pos hm1, if_neg (by omega)]
            · rw [if_neg hm, if_neg hm1, ih _ _ _ (by omega), if_neg hm, if_neg hm1]
              by_cases e : m = n
              · simp [e]
              · rw [if_neg e, if_neg (by omega)]

theorem get_put (t : T α) (n m : Nat) (x : Option α) : (t.put n x).get m = if m = n then x else t.get m :=
  get_setF x _ t n m (Nat.lt_succ_self n)

end T

/-! ### Places of the frame -/

theorem getFn_run : ∀ (f n : Nat) (r : Regs), n < f → (getFn f n).run r = r.val n := by
  intro f
  induction f with
  | zero => intro n r h; omega
  | succ f ih =>
    intro n r h
    have e : getFn (f + 1) n = ifB (Nat.beq n 0) ⟨topV⟩ (ifB (Nat.beq (n % 2) 1) ⟨fun r => (getFn f (n / 2)).run (leftT r)⟩ ⟨fun r => (getFn f (n / 2 - 1)).run (rightT r)⟩) := rfl
    rw [e]
    by_cases h0 : n = 0
    · subst h0
      cases r with
      | nil => rfl
      | node a v b => cases v <;> rfl
    · by_cases h1 : n % 2 = 1
      · simp only [T.ifB_eq, Nat.beq_eq, h0, h1, if_true, if_false]
        rw [ih _ _ (by omega)]
        cases r with
        | nil => rfl
        | node a v b => simp [Regs.val, T.get_node, T.ifB_eq, h0, h1, leftT]
      · simp only [T.ifB_eq, Nat.beq_eq, h0, h1, if_false]
        rw [ih _ _ (by omega)]
        cases r with
        | nil => rfl
        | node a v b => simp [Regs.val, T.get_node, T.ifB_eq, h0, h1, rightT]

theorem putFn_run (v : AV) : ∀ (f n : Nat) (r : Regs), (putFn f n).run v r = T.setF (some v) f r n := by
  intro f
  induction f with
  | zero => intro n r; rfl
  | succ f ih =>
    intro n r
    have e : putFn (f + 1) n = ifB (Nat.beq n 0) ⟨putTop⟩ (ifB (Nat.beq (n % 2) 1)
      ⟨fun v r => T.rec (motive := fun _ => Regs) (.node ((putFn f (n / 2)).run v .nil) none .nil) (fun a x b _ _ => .node ((putFn f (n / 2)).run v a) x b) r⟩
      ⟨fun v r => T.rec (motive := fun _ => Regs) (.node .nil none ((putFn f (n / 2 - 1)).run v .nil)) (fun a x b _ _ => .node a x ((putFn f (n / 2 - 1)).run v b)) r⟩) := rfl
    rw [e]
    cases r with
    | nil =>
      rw [T.setF_nil]
      by_cases h0 : n = 0
      · subst h0; rfl
      · by_cases h1 : n % 2 = 1
        · simp only [T.ifB_eq, Nat.beq_eq, h0, h1, if_true, if_false, ih]
        · simp only [T.ifB_eq, Nat.beq_eq, h0, h1, if_false, ih]
    | node a x b =>
      rw [T.setF_node]
      by_cases h0 : n = 0
      · subst h0; rfl
      · by_cases h1 : n % 2 = 1
        · simp only [T.ifB_eq, Nat.beq_eq, h0, h1, if_true, if_false, ih]
        · simp only [T.ifB_eq, Nat.beq_eq, h0, h1, if_false, ih]

theorem putFn_put (v : AV) (d : Nat) (r : Regs) : (putFn (Nat.succ d) d).run v r = T.put r d (some v) := putFn_run v _ _ _

@[simp] theorem ev_loc (k : Nat) (e : Env) (r : Regs) : (Opd.loc k).ev e r = locAt e k := rfl
@[simp] theorem ev_tmp (t : Nat) (e : Env) (r : Regs) : (Opd.tmp t).ev e r = r.val t := getFn_run _ _ _ (Nat.lt_succ_self t)
@[simp] theorem ev_const (v : AV) (e : Env) (r : Regs) : (Opd.const v).ev e r = v := rfl
@[simp] theorem ev_glob (g : Nat) (e : Env) (r : Regs) : (Opd.glob g).ev e r = .ptr (some (g, 0)) := rfl
@[simp] theorem ev_func (f : FuncId) (e : Env) (r : Regs) : (Opd.func f).ev e r = .fn f [] [] := rfl

theorem val_put (r : Regs) (d t : Nat) (v : AV) : Regs.val (T.put r d (some v)) t = if t = d then v else r.val t := by
  unfold Regs.val
  rw [T.get_put]
  by_cases h : t = d <;> simp [h]

/-! ### Lists -/

@[simp] theorem nthQ_zero {α : Type} (d v : α) (vs : List α) : nthQ d (v :: vs) 0 = v := rfl
@[simp] theorem nthQ_succ {α : Type} (d v : α) (vs : List α) (k : Nat) : nthQ d (v :: vs) (k + 1) = nthQ d vs k := rfl

theorem nthQ_nil {α : Type} (d : α) : ∀ k, nthQ d ([] : List α) k = d
  | 0 => rfl
  | _ + 1 => rfl

theorem nthQ_eq {α : Type} (d : α) : ∀ (l : List α) (k : Nat), nthQ d l k = (l[k]?).getD d
  | [], k => by simp [nthQ_nil]
  | v :: vs, 0 => rfl
  | v :: vs, k + 1 => by rw [nthQ_succ, nthQ_eq d vs k]; rfl

@[simp] theorem locAt_zero (v : AV) (e : Env) : locAt (v :: e) 0 = v := rfl
@[simp] theorem locAt_succ (v : AV) (e : Env) (k : Nat) : locAt (v :: e) (k + 1) = locAt e k := rfl

theorem lenQ_aux {α : Type} : ∀ (l : List α) (n : Nat), List.rec (motive := fun _ => Nat → Nat) (fun n => n) (fun _ _ ih n => ih (Nat.succ n)) l n = n + l.length
  | [], n => rfl
  | _ :: l, n => by
    have := lenQ_aux l (n + 1)
    simp only [List.length_cons]
    rw [show n + (l.length + 1) = n + 1 + l.length by omega, ← this]

@[simp] theorem lenQ_eq {α : Type} (l : List α) : lenQ l = l.length := by
  have := lenQ_aux l 0
  unfold lenQ; rw [this]; omega

theorem getsQ_succ {α : Type} (d : α) (c : T α) (n o : Nat) : getsQ d c (n + 1) o = ((c.get o).getD d) :: getsQ d c n (o + 1) := by
  show Option.casesOn (motive := fun _ => List α) (c.get o) _ _ = _
  cases c.get o <;> rfl

theorem length_getsQ {α : Type} (d : α) (c : T α) : ∀ (n o : Nat), (getsQ d c n o).length = n
  | 0, _ => rfl
  | n + 1, o => by rw [getsQ_succ, List.length_cons, length_getsQ d c n]

theorem getElem?_getsQ {α : Type} (d : α) (c : T α) : ∀ (n o k : Nat), k < n → (getsQ d c n o)[k]? = some ((c.get (o + k)).getD d)
  | 0, _, k, h => by omega
  | n + 1, o, 0, _ => by rw [getsQ_succ]; simp
  | n + 1, o, k + 1, h => by
    rw [getsQ_succ, List.getElem?_cons_succ, getElem?_getsQ d c n (o + 1) k (by omega)]
    rw [show o + 1 + k = o + (k + 1) by omega]

@[simp] theorem putsQ_nil {α : Type} (c : T α) (o : Nat) : putsQ [] c o = c := rfl
@[simp] theorem putsQ_cons {α : Type} (v : α) (vs : List α) (c : T α) (o : Nat) : putsQ (v :: vs) c o = putsQ vs (c.put o (some v)) (o + 1) := rfl

theorem get_putsQ {α : Type} : ∀ (vs : List α) (c : T α) (o m : Nat), (putsQ vs c o).get m = if o ≤ m ∧ m < o + vs.length then vs[m - o]? else c.get m
  | [], c, o, m => by simp only [putsQ_nil, List.length_nil, Nat.add_zero]; rw [if_neg (by omega)]
  | v :: vs, c, o, m => by
    rw [putsQ_cons, get_putsQ vs, T.get_put]
    simp only [List.length_cons]
    by_cases h : m = o
    · subst h
      rw [if_neg (by omega), if_pos rfl, if_pos ⟨Nat.le_refl _, by omega⟩]; simp
    · by_cases h' : o + 1 ≤ m ∧ m < o + 1 + vs.length
      · rw [if_pos h', if_pos ⟨by omega, by omega⟩, show m - o = (m - (o + 1)) + 1 by omega, List.getElem?_cons_succ]
      · rw [if_neg h', if_neg h, if_neg (by omega)]

theorem length_getsV (c : T AV) (n o : Nat) : (getsV c n o).length = n := length_getsQ _ _ _ _
theorem getElem?_getsV (c : T AV) (n o k : Nat) (h : k < n) : (getsV c n o)[k]? = some ((c.get (o + k)).getD .junk) := getElem?_getsQ _ _ _ _ _ h
theorem get_putsV (vs : List AV) (c : T AV) (o m : Nat) : (putsV vs c o).get m = if o ≤ m ∧ m < o + vs.length then vs[m - o]? else c.get m := get_putsQ vs c o m

/-! ### Numbers -/

theorem kEq_iff {a b : IntKind} : kEq a b = true ↔ a = b := by cases a <;> cases b <;> simp [kEq, IntKind.idx] <;> decide

theorem blt_iff {a b : Nat} : Nat.blt a b = true ↔ a < b := by rw [Nat.blt_eq]
theorem ble_iff {a b : Nat} : Nat.ble a b = true ↔ a ≤ b := by rw [Nat.ble_eq]
theorem beq_iff {a b : Nat} : Nat.beq a b = true ↔ a = b := by rw [Nat.beq_eq]

theorem ltQ_eq (a b : Int) : ltQ a b = decide (a < b) := by
  cases a <;> cases b <;> simp only [ltQ] <;> rw [Bool.eq_iff_iff] <;> simp [Nat.blt_eq, Int.negSucc_eq] <;> omega

theorem eqQ_eq (a b : Int) : eqQ a b = (a == b) := by
  cases a <;> cases b <;> simp only [eqQ] <;> rw [Bool.eq_iff_iff] <;> simp [Nat.beq_eq, Int.negSucc_eq] <;> omega

theorem idxQ_some {a : Int} {n m : Nat} : idxQ a n = some m ↔ (0 ≤ a ∧ a < n ∧ m = a.toNat) := by
  cases a with
  | ofNat k =>
    simp only [idxQ]
    by_cases h : k < n
    · rw [blt_iff.2 h]; simp; omega
    · have : Nat.blt k n = false := by rw [Bool.eq_false_iff]; exact fun e => h (blt_iff.1 e)
      rw [this]; simp; omega
  | negSucc k => simp [idxQ, Int.negSucc_eq]; omega

theorem wrap_small {k : IntKind} {n : Int} (h0 : k.min ≤ n) (h1 : n ≤ k.max) : k.wrap n = n := by
  cases k <;> simp [IntKind.min, IntKind.max, IntKind.bits, IntKind.signed] at h0 h1 <;> simp [IntKind.wrap, IntKind.bits, IntKind.signed] <;> omega

theorem wrapQ_eq (k : IntKind) (n : Int) : wrapQ k n = k.wrap n := by
  cases n with
  | ofNat m =>
    simp only [wrapQ]
    cases hb : Nat.blt m (roomOf k).1 with
    | false => rfl
    | true =>
      have h := blt_iff.1 hb
      show Int.ofNat m = _
      refine (wrap_small ?_ ?_).symm <;> cases k <;> simp [roomOf] at h <;> simp [IntKind.min, IntKind.max, IntKind.bits, IntKind.signed] <;> omega
  | negSucc m =>
    simp only [wrapQ]
    cases hs : (roomOf k).2 with
    | false => rfl
    | true =>
      show ifB (Nat.blt m (roomOf k).1) (Int.negSucc m) _ = _
      cases hb : Nat.blt m (roomOf k).1 with
      | false => rfl
      | true =>
        have h := blt_iff.1 hb
        show Int.negSucc m = _
        refine (wrap_small ?_ ?_).symm
        · cases k <;> simp only [roomOf, Bool.false_eq_true] at h hs <;> simp only [IntKind.min, IntKind.bits, IntKind.signed, if_true] <;> omega
        · cases k <;> simp only [roomOf, Bool.false_eq_true] at h hs <;> simp only [IntKind.max, IntKind.bits, IntKind.signed, if_true] <;> omega

theorem b8Q_iff {a b : UInt8} : b8Q a b = true ↔ a = b := by
  unfold b8Q
  rw [beq_iff]
  exact ⟨fun h => UInt8.toNat_inj.1 h, fun h => h ▸ rfl⟩

theorem strEq_eq : ∀ (a b : List UInt8), strEq a b = (a == b)
  | [], [] => rfl
  | [], _ :: _ => rfl
  | _ :: _, [] => rfl
  | a :: s, b :: t => by
    show ifB (b8Q a b) (strEq s t) false = _
    rw [strEq_eq s t]
    cases h : b8Q a b with
    | true => rw [b8Q_iff.1 h]; simp
    | false =>
      have : ¬ a = b := fun e => by rw [b8Q_iff.2 e] at h; cases h
      simp [this]

end Go.Abs
