/- The abstract machine: how its values and its heap stand to the model's. -/
import Derived.Test.YtbojmpbccibmaaaGreatDoorBAbs3
import Derived.Calls
set_option linter.unusedVariables false
set_option linter.unusedSimpArgs false
set_option linter.unusedSectionVars false
set_option linter.deprecated false
namespace Go.Abs

/-- Which of its numbers each name stands for. -/
class Val where
  at_ : Nat → Nat
variable [Val]

/-! ### Where a block of the abstract heap lies -/

inductive PSt where
  | un                    -- nowhere yet
  | dead                  -- gone
  | at (b o n : Nat)      -- in block b, from o on, n cells

abbrev Phi := Nat → PSt

def PSt.le : PSt → PSt → Prop
  | .un, _ => True
  | .dead, s => s = .dead
  | .at b o n, s => s = .at b o n ∨ s = .dead

theorem PSt.le_refl (s : PSt) : s.le s := by cases s <;> simp [PSt.le]
theorem PSt.le_trans {a b c : PSt} (h : a.le b) (k : b.le c) : a.le c := by
  cases a with
  | un => trivial
  | dead => simp only [PSt.le] at h; subst h; exact k
  | «at» x y z =>
    simp only [PSt.le] at h
    rcases h with rfl | rfl
    · exact k
    · simp only [PSt.le] at k; exact .inr k

def Ext (φ φ' : Phi) : Prop := ∀ i, (φ i).le (φ' i)
theorem Ext.refl (φ : Phi) : Ext φ φ := fun _ => PSt.le_refl _
theorem Ext.trans {a b c : Phi} (h : Ext a b) (k : Ext b c) : Ext a c := fun i => PSt.le_trans (h i) (k i)

/-! ### Values -/

def PtrOk (φ : Phi) (i o : Nat) (a : Addr) : Prop :=
  match φ i with
  | .un => False
  | .dead => True
  | .at b p _ => a = ⟨b, p + o, none⟩

def SlOk (φ : Phi) (i o esz c : Nat) (a : Addr) : Prop :=
  match φ i with
  | .un => False
  | .dead => True
  | .at b p n => (0 < c → a = ⟨b, p + o, none⟩) ∧ o + c * esz ≤ n

def MapOk (φ : Phi) (i r : Nat) : Prop :=
  match φ i with
  | .un => False
  | .dead => True
  | .at b _ _ => r = b

mutual
def VRel (φ : Phi) : AV → Value → Prop
  | .bool b, v => v = .bool b
  | .int k n, v => v = .int k n
  | .sym k id ns, v => ∃ n, ns[Val.at_ id]? = some n ∧ v = .int k n
  | .rest k m id ns, v => ∃ n : Int, v = .int k n ∧ 0 ≤ n ∧ ns[Val.at_ id]? = some (n % m)
  | .str s, v => v = .string ⟨s.toArray⟩
  | .sstr l, v => ∃ s : List UInt8, v = .string ⟨s.toArray⟩ ∧ VRels φ l (s.map fun b => .int .u8 b.toNat)
  | .ptr none, v => v = .pointer none
  | .ptr (some (i, o)), v => ∃ a, v = .pointer (some a) ∧ PtrOk φ i o a
  | .sl none _ len cap _, v => v = .slice none 0 0 ∧ len = 0 ∧ cap = 0
  | .sl (some (i, o)) esz len cap ex, v => ∃ a c, v = .slice (some a) len c ∧ len ≤ cap ∧ cap ≤ c ∧ (ex = true → c = cap) ∧ SlOk φ i o esz c a
  | .map none, v => v = .map none
  | .map (some i), v => ∃ r, v = .map (some r) ∧ MapOk φ i r
  | .fn f x y, v => ∃ a b, v = .func (.func f) a b ∧ VRels φ x a.toList ∧ VRels φ y b.toList
  | .nilFn, v => v = .nilFunc
  | .iface t x, v => ∃ y, v = .iface t y ∧ VRel φ x y
  | .nilIface, v => v = .nilIface
  | .agg cs, v => ∃ vs, v = .agg vs ∧ VRels φ cs vs.toList
  | .tup cs, v => ∃ vs, v = .tuple vs ∧ VRels φ cs vs.toList
  | .junk, _ => True
def VRels (φ : Phi) : List AV → List Value → Prop
  | [], vs => vs = []
  | c :: cs, vs => ∃ v r, vs = v :: r ∧ VRel φ c v ∧ VRels φ cs r
end

theorem PtrOk.mono {φ φ' : Phi} (h : Ext φ φ') {i o : Nat} {a : Addr} (k : PtrOk φ i o a) : PtrOk φ' i o a := by
  have hi := h i
  unfold PtrOk at *
  cases e : φ i with
  | un => rw [e] at k; exact k.elim
  | dead => rw [e] at hi; simp only [PSt.le] at hi; rw [hi]; trivial
  | «at» b p n =>
    rw [e] at hi k
    simp only [PSt.le] at hi
    rcases hi with hi | hi <;> rw [hi]
    · exact k
    · trivial

theorem SlOk.mono {φ φ' : Phi} (h : Ext φ φ') {i o esz c : Nat} {a : Addr} (k : SlOk φ i o esz c a) : SlOk φ' i o esz c a := by
  have hi := h i
  unfold SlOk at *
  cases e : φ i with
  | un => rw [e] at k; exact k.elim
  | dead => rw [e] at hi; simp only [PSt.le] at hi; rw [hi]; trivial
  | «at» b p n =>
    rw [e] at hi k
    simp only [PSt.le] at hi
    rcases hi with hi | hi <;> rw [hi]
    · exact k
    · trivial

theorem MapOk.mono {φ φ' : Phi} (h : Ext φ φ') {i r : Nat} (k : MapOk φ i r) : MapOk φ' i r := by
  have hi := h i
  unfold MapOk at *
  cases e : φ i with
  | un => rw [e] at k; exact k.elim
  | dead => rw [e] at hi; simp only [PSt.le] at hi; rw [hi]; trivial
  | «at» b p n =>
    rw [e] at hi k
    simp only [PSt.le] at hi
    rcases hi with hi | hi <;> rw [hi]
    · exact k
    · trivial

theorem PtrOk.notUn {φ : Phi} {i o : Nat} {a : Addr} (h : PtrOk φ i o a) : φ i ≠ .un := by
  intro e; simp [PtrOk, e] at h

theorem SlOk.notUn {φ : Phi} {i o esz c : Nat} {a : Addr} (h : SlOk φ i o esz c a) : φ i ≠ .un := by
  intro e; simp [SlOk, e] at h

theorem MapOk.notUn {φ : Phi} {i r : Nat} (h : MapOk φ i r) : φ i ≠ .un := by
  intro e; simp [MapOk, e] at h

mutual
theorem VRel.mono {φ φ' : Phi} (h : Ext φ φ') : ∀ (x : AV) (v : Value), VRel φ x v → VRel φ' x v
  | .bool _, _, k => k
  | .int _ _, _, k => k
  | .sym _ _ _, _, k => k
  | .rest _ _ _ _, _, k => k
  | .str _, _, k => k
  | .sstr l, _, ⟨s, e, k⟩ => ⟨s, e, VRels.mono h l _ k⟩
  | .ptr none, _, k => k
  | .ptr (some (i, o)), _, ⟨a, e, k⟩ => ⟨a, e, k.mono h⟩
  | .sl none _ _ _ _, _, k => k
  | .sl (some (i, o)) _ _ _ _, _, ⟨a, c, e, h0, h1, h2, k⟩ => ⟨a, c, e, h0, h1, h2, k.mono h⟩
  | .map none, _, k => k
  | .map (some i), _, ⟨r, e, k⟩ => ⟨r, e, k.mono h⟩
  | .fn _ x y, _, ⟨a, b, e, k, l⟩ => ⟨a, b, e, VRels.mono h x _ k, VRels.mono h y _ l⟩
  | .nilFn, _, k => k
  | .iface _ x, _, ⟨y, e, k⟩ => ⟨y, e, VRel.mono h x y k⟩
  | .nilIface, _, k => k
  | .agg cs, _, ⟨vs, e, k⟩ => ⟨vs, e, VRels.mono h cs _ k⟩
  | .tup cs, _, ⟨vs, e, k⟩ => ⟨vs, e, VRels.mono h cs _ k⟩
  | .junk, _, _ => trivial
theorem VRels.mono {φ φ' : Phi} (h : Ext φ φ') : ∀ (x : List AV) (v : List Value), VRels φ x v → VRels φ' x v
  | [], _, k => k
  | c :: cs, _, ⟨v, r, e, k, l⟩ => ⟨v, r, e, VRel.mono h c v k, VRels.mono h cs r l⟩
end

theorem VRel.junk {φ : Phi} {v : Value} : VRel φ .junk v := trivial
theorem VRel.undef {φ : Phi} : VRel φ .undef undef := ⟨#[], rfl, rfl⟩

theorem VRels.length {φ : Phi} : ∀ {x : List AV} {v : List Value}, VRels φ x v → v.length = x.length
  | [], _, k => by simp only [VRels] at k; subst k; rfl
  | c :: cs, _, k => by
    obtain ⟨v, r, rfl, _, l⟩ := k
    simp only [List.length_cons, VRels.length l]

theorem VRels.get {φ : Phi} : ∀ {x : List AV} {v : List Value}, VRels φ x v → ∀ (i : Nat) (a : AV), x[i]? = some a → ∃ c, v[i]? = some c ∧ VRel φ a c
  | [], _, _, i, a, e => by simp at e
  | c :: cs, _, k, 0, a, e => by
    obtain ⟨v, r, rfl, l, _⟩ := k
    simp at e; subst e
    exact ⟨v, rfl, l⟩
  | c :: cs, _, k, i + 1, a, e => by
    obtain ⟨v, r, rfl, _, l⟩ := k
    exact VRels.get l i a (by simpa using e)

theorem VRels.mk {φ : Phi} : ∀ {x : List AV} {v : List Value}, v.length = x.length → (∀ (i : Nat) (a : AV) (c : Value), x[i]? = some a → v[i]? = some c → VRel φ a c) → VRels φ x v
  | [], [], _, _ => rfl
  | [], _ :: _, h, _ => by simp at h
  | _ :: _, [], h, _ => by simp at h
  | a :: x, c :: v, h, k => ⟨c, v, rfl, k 0 a c rfl rfl, VRels.mk (by simpa using h) fun i a' c' e e' => k (i + 1) a' c' (by simpa using e) (by simpa using e')⟩

theorem VRels.append {φ : Phi} : ∀ {x y : List AV} {v w : List Value}, VRels φ x v → VRels φ y w → VRels φ (x ++ y) (v ++ w)
  | [], _, _, _, h, k => by simp only [VRels] at h; subst h; exact k
  | _ :: _, _, _, _, ⟨v, r, e, h, l⟩, k => ⟨v, r ++ _, by rw [e]; rfl, h, VRels.append l k⟩

theorem VRels.take {φ : Phi} {x : List AV} {v : List Value} (h : VRels φ x v) (n : Nat) : VRels φ (x.take n) (v.take n) := by
  refine .mk (by simp [h.length]) fun i a c e e' => ?_
  simp only [List.getElem?_take] at e e'
  by_cases hi : i < n
  · rw [if_pos hi] at e e'
    obtain ⟨c', hc, hr⟩ := h.get i a e
    rw [hc] at e'; cases e'; exact hr
  · rw [if_neg hi] at e; cases e

theorem VRels.drop {φ : Phi} {x : List AV} {v : List Value} (h : VRels φ x v) (n : Nat) : VRels φ (x.drop n) (v.drop n) := by
  refine .mk (by simp [h.length]) fun i a c e e' => ?_
  simp only [List.getElem?_drop] at e e'
  obtain ⟨c', hc, hr⟩ := h.get _ a e
  rw [hc] at e'; cases e'; exact hr

theorem VRels.replicate {φ : Phi} {x : List AV} {v : List Value} (h : VRels φ x v) : ∀ n, VRels φ (List.replicate n x).flatten (List.replicate n v).flatten
  | 0 => rfl
  | n + 1 => by
    rw [List.replicate_succ, List.replicate_succ, List.flatten_cons, List.flatten_cons]
    exact VRels.append h (VRels.replicate h n)

/-- The cells of a value. -/
theorem VRel.cells {φ : Phi} {x : AV} {v : Value} (h : VRel φ x v) (hj : x.isJunk = false) : VRels φ x.cells v.cells.toList := by
  cases x with
  | agg cs => obtain ⟨vs, rfl, k⟩ := h; exact k
  | junk => cases hj
  | bool b => simp only [VRel] at h; subst h; exact ⟨_, [], rfl, rfl, rfl⟩
  | int k n => simp only [VRel] at h; subst h; exact ⟨_, [], rfl, rfl, rfl⟩
  | sym k id ns => obtain ⟨n, h1, rfl⟩ := h; exact ⟨_, [], rfl, ⟨n, h1, rfl⟩, rfl⟩
  | rest k m id ns => obtain ⟨n, rfl, h1⟩ := h; exact ⟨_, [], rfl, ⟨n, rfl, h1⟩, rfl⟩
  | str s => simp only [VRel] at h; subst h; exact ⟨_, [], rfl, rfl, rfl⟩
  | sstr l => obtain ⟨s, rfl, k⟩ := h; exact ⟨_, [], rfl, ⟨s, rfl, k⟩, rfl⟩
  | nilFn => simp only [VRel] at h; subst h; exact ⟨_, [], rfl, rfl, rfl⟩
  | nilIface => simp only [VRel] at h; subst h; exact ⟨_, [], rfl, rfl, rfl⟩
  | ptr a =>
    cases a with
    | none => simp only [VRel] at h; subst h; exact ⟨_, [], rfl, rfl, rfl⟩
    | some p => obtain ⟨i, o⟩ := p; obtain ⟨a, rfl, k⟩ := h; exact ⟨_, [], rfl, ⟨a, rfl, k⟩, rfl⟩
  | sl a e l c x =>
    cases a with
    | none => obtain ⟨rfl, rfl, rfl⟩ := h; exact ⟨_, [], rfl, ⟨rfl, rfl, rfl⟩, rfl⟩
    | some p => obtain ⟨i, o⟩ := p; obtain ⟨a, c, rfl, k⟩ := h; exact ⟨_, [], rfl, ⟨a, c, rfl, k⟩, rfl⟩
  | map r =>
    cases r with
    | none => simp only [VRel] at h; subst h; exact ⟨_, [], rfl, rfl, rfl⟩
    | some i => obtain ⟨r, rfl, k⟩ := h; exact ⟨_, [], rfl, ⟨r, rfl, k⟩, rfl⟩
  | fn f a b => obtain ⟨c, d, rfl, k⟩ := h; exact ⟨_, [], rfl, ⟨c, d, rfl, k⟩, rfl⟩
  | iface t x => obtain ⟨y, rfl, k⟩ := h; exact ⟨_, [], rfl, ⟨y, rfl, k⟩, rfl⟩
  | tup cs => obtain ⟨vs, rfl, k⟩ := h; exact ⟨_, [], rfl, ⟨vs, rfl, k⟩, rfl⟩

/-- A cell's value is no aggregate. -/
theorem VRel.isCell {φ : Phi} {x : AV} {v : Value} (h : VRel φ x v) (hc : isCell x = true) : (∀ cs, v ≠ .agg cs) ∧ ∀ cs, v ≠ .tuple cs := by
  cases x with
  | agg cs => cases hc
  | junk => cases hc
  | tup cs => cases hc
  | bool b => simp only [VRel] at h; subst h; simp
  | int k n => simp only [VRel] at h; subst h; simp
  | sym k id ns => obtain ⟨n, h1, rfl⟩ := h; simp
  | rest k m id ns => obtain ⟨n, rfl, h1⟩ := h; simp
  | str s => simp only [VRel] at h; subst h; simp
  | sstr l => obtain ⟨s, rfl, k⟩ := h; simp
  | nilFn => simp only [VRel] at h; subst h; simp
  | nilIface => simp only [VRel] at h; subst h; simp
  | ptr a =>
    cases a with
    | none => simp only [VRel] at h; subst h; simp
    | some p => obtain ⟨i, o⟩ := p; obtain ⟨a, rfl, k⟩ := h; simp
  | sl a e l c x =>
    cases a with
    | none => obtain ⟨rfl, rfl, rfl⟩ := h; simp
    | some p => obtain ⟨i, o⟩ := p; obtain ⟨a, c, rfl, k⟩ := h; simp
  | map r =>
    cases r with
    | none => simp only [VRel] at h; subst h; simp
    | some i => obtain ⟨r, rfl, k⟩ := h; simp
  | fn f a b => obtain ⟨c, d, rfl, k⟩ := h; simp
  | iface t x => obtain ⟨y, rfl, k⟩ := h; simp

theorem allCells_iff : ∀ {vs : List AV}, allCells vs = true ↔ ∀ v ∈ vs, isCell v = true
  | [] => by simp [allCells]
  | v :: vs => by
    have e : allCells (v :: vs) = ifB (isCell v) (allCells vs) false := rfl
    rw [e]
    cases h : isCell v with
    | false => simp [h]
    | true => simp [h, allCells_iff (vs := vs)]

/-! ### The heap -/

def ERel (φ : Phi) (x : AV × AV × Nat) (e : MapEntry) : Prop := VRel φ x.1 e.key ∧ VRel φ x.2.1 e.val ∧ e.born = x.2.2

def ERels (φ : Phi) : List (AV × AV × Nat) → List MapEntry → Prop
  | [], es => es = []
  | x :: xs, es => ∃ e r, es = e :: r ∧ ERel φ x e ∧ ERels φ xs r

theorem ERels.mono {φ φ' : Phi} (h : Ext φ φ') : ∀ {x : List (AV × AV × Nat)} {e : List MapEntry}, ERels φ x e → ERels φ' x e
  | [], _, k => k
  | _ :: _, _, ⟨e, r, h1, ⟨h2, h3, h4⟩, h5⟩ => ⟨e, r, h1, ⟨h2.mono h, h3.mono h, h4⟩, ERels.mono h h5⟩

def ABlk.ro : ABlk → Bool
  | .cells _ _ _ ro => ro
  | _ => false

def BRel (φ : Phi) (blk : ABlk) (b p n : Nat) (w : World) : Prop :=
  match blk with
  | .cells m c t ro => ∃ vs u fz, w.heap[b]? = some (.cells vs u fz) ∧ vs.size = p + n ∧ m ≤ n ∧
      (∀ k, k < m → ∃ v, vs[p + k]? = some v ∧ VRel φ ((c.get k).getD .junk) v) ∧ (ro = false → fz.1 = fz.2 ∨ vs.size ≤ fz.1) ∧ (t ≠ 0 → u = t ∧ p = 0)
  | .map es clock => ∃ ces, w.heap[b]? = some (.map ces clock) ∧ ERels φ es ces.toList
  | .siter s pos => w.heap[b]? = some (.stringIter ⟨s.toArray⟩ pos) ∧ p = 0

theorem BRel.mono {φ φ' : Phi} (h : Ext φ φ') {blk : ABlk} {b p n : Nat} {w : World} (k : BRel φ blk b p n w) : BRel φ' blk b p n w := by
  cases blk with
  | cells m c t ro =>
    obtain ⟨vs, u, fz, h1, h2, h3, h4, h5⟩ := k
    exact ⟨vs, u, fz, h1, h2, h3, fun j hj => let ⟨v, e, r⟩ := h4 j hj; ⟨v, e, r.mono h⟩, h5⟩
  | map es clock => obtain ⟨ces, h1, h2⟩ := k; exact ⟨ces, h1, h2.mono h⟩
  | siter s pos => exact k

theorem BRel.same {φ : Phi} {blk : ABlk} {b p n : Nat} {w w' : World} (k : BRel φ blk b p n w) (h : w'.heap[b]? = w.heap[b]?) : BRel φ blk b p n w' := by
  cases blk with
  | cells m c t ro => obtain ⟨vs, u, fz, h1, r⟩ := k; exact ⟨vs, u, fz, h.trans h1, r⟩
  | map es clock => obtain ⟨ces, h1, h2⟩ := k; exact ⟨ces, h.trans h1, h2⟩
  | siter s pos => exact ⟨h.trans k.1, k.2⟩

/-- Is a block of the model one that the abstract heap may write? -/
def RW (φ : Phi) (h : AHeap) (b : Nat) : Prop := ∃ i blk o n, h.get i = some blk ∧ blk.ro = false ∧ φ i = .at b o n

structure HRel (ng : Nat) (φ : Phi) (h : AHeap) (w : World) : Prop where
  fresh : ∀ i, h.next ≤ i → φ i = .un
  glob : ∀ g, g < ng → PtrOk φ g 0 ⟨g, 0, none⟩
  blk : ∀ i b, h.get i = some b → φ i = .un ∨ ∃ c p n, φ i = .at c p n ∧ BRel φ b c p n w
  inj : ∀ i j b b' c p n p' n', h.get i = some b → h.get j = some b' → i ≠ j → φ i = .at c p n → φ j = .at c p' n' → b.ro = true ∧ b'.ro = true
  lt : ∀ i c p n, φ i = .at c p n → c < w.heap.size
  dom : ∀ i b, h.get i = some b → i < h.next

structure Stp (φ : Phi) (h : AHeap) (w : World) (φ' : Phi) (h' : AHeap) (w' : World) : Prop where
  ext : Ext φ φ'
  os : w'.os = w.os
  tape : w'.tape = w.tape
  output : w'.output = w.output
  size : w.heap.size ≤ w'.heap.size
  same : ∀ b, b < w.heap.size → ¬ RW φ h b → w'.heap[b]? = w.heap[b]?
  own : ∀ b, RW φ' h' b → b < w.heap.size → RW φ h b
  virt : ∀ i, i < h.next → φ i = .un → h'.get i = h.get i ∧ φ' i = .un
  next : h.next ≤ h'.next

theorem Stp.refl (φ : Phi) (h : AHeap) (w : World) : Stp φ h w φ h w :=
  ⟨Ext.refl _, rfl, rfl, rfl, Nat.le_refl _, fun _ _ _ => rfl, fun _ h _ => h, fun _ _ e => ⟨rfl, e⟩, Nat.le_refl _⟩

theorem Stp.trans {φ φ' φ'' : Phi} {h h' h'' : AHeap} {w w' w'' : World} (a : Stp φ h w φ' h' w') (b : Stp φ' h' w' φ'' h'' w'') : Stp φ h w φ'' h'' w'' where
  ext := a.ext.trans b.ext
  os := b.os.trans a.os
  tape := b.tape.trans a.tape
  output := b.output.trans a.output
  size := Nat.le_trans a.size b.size
  same := fun k hk hn => (b.same k (Nat.lt_of_lt_of_le hk a.size) fun hr => hn (a.own k hr hk)).trans (a.same k hk hn)
  own := fun k hr hk => a.own k (b.own k hr (Nat.lt_of_lt_of_le hk a.size)) hk
  virt := fun i hi e => by
    obtain ⟨h1, h2⟩ := a.virt i hi e
    obtain ⟨h3, h4⟩ := b.virt i (Nat.lt_of_lt_of_le hi a.next) h2
    exact ⟨h3.trans h1, h4⟩
  next := Nat.le_trans a.next b.next

theorem AHeap.get_new (h : AHeap) (b : ABlk) (i : Nat) : (h.new b).get i = if i = h.next then some b else h.get i := T.get_put _ _ _ _
theorem AHeap.get_set (h : AHeap) (j : Nat) (b : ABlk) (i : Nat) : (h.set j b).get i = if i = j then some b else h.get i := T.get_put _ _ _ _
theorem AHeap.get_drop (h : AHeap) (j : Nat) (i : Nat) : (h.drop j).get i = if i = j then none else h.get i := T.get_put _ _ _ _
@[simp] theorem AHeap.next_new (h : AHeap) (b : ABlk) : (h.new b).next = h.next + 1 := rfl
@[simp] theorem AHeap.next_set (h : AHeap) (j : Nat) (b : ABlk) : (h.set j b).next = h.next := rfl
@[simp] theorem AHeap.next_drop (h : AHeap) (j : Nat) : (h.drop j).next = h.next := rfl

end Go.Abs
