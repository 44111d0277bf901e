/- The abstract machine: operations that write nothing old: what the abstract one tells, the model's does. -/
import Derived.Test.YtbojmpbccibmaaaGreatDoorBAbs5
import Derived.WalkKit
set_option linter.unusedVariables false
set_option linter.unusedSimpArgs false
set_option linter.unusedSectionVars false
set_option linter.deprecated false
namespace Go.Abs
variable [Val]

/-! ### Constants and operands -/

mutual
theorem ofValue_rel {φ : Phi} : ∀ (v : Value) (x : AV), ofValue v = some x → VRel φ x v
  | .bool b, x, h => by simp only [ofValue] at h; cases h; rfl
  | .int k n, x, h => by simp only [ofValue] at h; cases h; rfl
  | .string s, x, h => by simp only [ofValue] at h; cases h; rfl
  | .pointer none, x, h => by simp only [ofValue] at h; cases h; rfl
  | .pointer (some _), x, h => by simp only [ofValue] at h; cases h
  | .slice none 0 0, x, h => by simp only [ofValue] at h; cases h; exact ⟨rfl, rfl, rfl⟩
  | .slice none 0 (_ + 1), x, h => by simp only [ofValue] at h; cases h
  | .slice none (_ + 1) _, x, h => by simp only [ofValue] at h; cases h
  | .slice (some _) _ _, x, h => by simp only [ofValue] at h; cases h
  | .map none, x, h => by simp only [ofValue] at h; cases h; rfl
  | .map (some _), x, h => by simp only [ofValue] at h; cases h
  | .nilFunc, x, h => by simp only [ofValue] at h; cases h; rfl
  | .nilIface, x, h => by simp only [ofValue] at h; cases h; rfl
  | .agg ⟨cs⟩, x, h => by
    simp only [ofValue] at h
    cases hc : ofValues cs with
    | none => rw [hc] at h; cases h
    | some l => rw [hc] at h; cases h; exact ⟨_, rfl, ofValues_rel cs l hc⟩
  | .tuple ⟨cs⟩, x, h => by
    simp only [ofValue] at h
    cases hc : ofValues cs with
    | none => rw [hc] at h; cases h
    | some l => rw [hc] at h; cases h; exact ⟨_, rfl, ofValues_rel cs l hc⟩
  | .iface t v, x, h => by
    simp only [ofValue] at h
    cases hc : ofValue v with
    | none => rw [hc] at h; cases h
    | some l => rw [hc] at h; cases h; exact ⟨_, rfl, ofValue_rel v l hc⟩
  | .float _ _, x, h => by simp only [ofValue] at h; cases h
  | .complex _ _ _, x, h => by simp only [ofValue] at h; cases h
  | .chan _, x, h => by simp only [ofValue] at h; cases h
  | .func _ _ _, x, h => by simp only [ofValue] at h; cases h
theorem ofValues_rel {φ : Phi} : ∀ (v : List Value) (x : List AV), ofValues v = some x → VRels φ x v
  | [], x, h => by simp only [ofValues] at h; cases h; rfl
  | v :: vs, x, h => by
    simp only [ofValues] at h
    cases hv : ofValue v with
    | none => rw [hv] at h; cases h
    | some a =>
      rw [hv] at h
      cases hr : ofValues vs with
      | none => rw [hr] at h; cases h
      | some l => rw [hr] at h; cases h; exact ⟨v, vs, rfl, ofValue_rel v a hv, ofValues_rel vs l hr⟩
end

/-- What is known of the frame: each place's value, told by the latest result or by what the frame keeps. -/
def CtxOk (φ : Phi) (c : Ctx) (e : Env) (r : Regs) (tmps : Array Value) : Prop :=
  ∀ t, VRel φ (match locOf t c 0 with | some k => locAt e k | none => r.val t) (tmps.getD t undef)

/-- Operands are what they are. -/
def OpsOk (P : Program) (φ : Phi) (c : Ctx) (e : Env) (r : Regs) (S : Operand → Prop) (ρ : Operand → Value) : Prop :=
  ∀ x y, S x → cOpd P c x = some y → VRel φ (y.ev e r) (ρ x)

theorem opsOk {P : Program} {φ : Phi} {c : Ctx} {e : Env} {r : Regs} {a : Act} (hg : ∀ g, g < P.globals.size → PtrOk φ g 0 ⟨g, 0, none⟩) (h : CtxOk φ c e r a.tmps) (S : Operand → Prop) : OpsOk P φ c e r S a.eval := by
  intro x y _ hx
  cases x with
  | tmp t =>
    have ht := h t
    simp only [cOpd] at hx
    cases hl : locOf t c 0 with
    | some k => rw [hl] at hx ht; cases hx; simpa [Act.eval] using ht
    | none => rw [hl] at hx ht; cases hx; simpa [Act.eval] using ht
  | const v =>
    simp only [cOpd] at hx
    cases hv : ofValue v with
    | none => rw [hv] at hx; cases hx
    | some av => rw [hv] at hx; cases hx; exact ofValue_rel v av hv
  | global g =>
    simp only [cOpd] at hx
    split at hx
    · rename_i hlt
      cases hx
      exact ⟨_, rfl, hg g hlt⟩
    · cases hx
  | func f =>
    simp only [cOpd] at hx
    cases hx
    exact ⟨#[], #[], rfl, rfl, rfl⟩

section
variable {P : Program} {φ : Phi} {c : Ctx} {e : Env} {r : Regs} {S : Operand → Prop} {ρ : Operand → Value} (H : OpsOk P φ c e r S ρ)
include H

theorem evs_ok : ∀ (xs : List Operand) (ys : List Opd), (∀ x ∈ xs, S x) → cOpds P c xs = some ys → VRels φ (evs ys e r) (xs.map ρ)
  | [], ys, _, h => by simp only [cOpds] at h; cases h; rfl
  | x :: xs, ys, hS, h => by
    simp only [cOpds] at h
    cases hx : cOpd P c x with
    | none => rw [hx] at h; cases h
    | some y =>
      rw [hx] at h
      simp only [Option.bind_some] at h
      cases hr : cOpds P c xs with
      | none => rw [hr] at h; cases h
      | some l =>
        rw [hr] at h; cases h
        exact ⟨_, _, rfl, H x y (hS x (by simp)) hx, evs_ok xs l (fun z hz => hS z (by simp [hz])) hr⟩

end

/-! ### What an operation that writes nothing old owes -/

def DOk (P : Program) (φ : Phi) (s : Sem Next) : DRes → Prop
  | .val v => ∃ cv, (∀ w, s.run P w = .ok (.value cv) w) ∧ VRel φ v cv
  | .read i o n f => φ i ≠ .un ∧ ∀ (b p m : Nat) (vs : Array Value) (t : TypeId) (fz : Nat × Nat) (w : World), φ i = .at b p m → w.heap[b]? = some (.cells vs t fz) → p + o + n ≤ vs.size → o + n ≤ m →
      ∀ (cs : List AV), VRels φ cs (vs.extract (p + o) (p + o + n)).toList → ∀ v, f cs = some v → ∃ cv, s.run P w = .ok (.value cv) w ∧ VRel φ v cv
  | .readT i o ts v => φ i ≠ .un ∧ ∀ (b m : Nat) (vs : Array Value) (t s' : Nat) (fz : Nat × Nat) (w : World), φ i = .at b 0 m → w.heap[b]? = some (.cells vs t fz) → vs.size = m → o < m → (t, s') ∈ ts → s' ≤ m →
      ∃ cv, s.run P w = .ok (.value cv) w ∧ VRel φ v cv
  | .readMap i f => φ i ≠ .un ∧ ∀ (b p m : Nat) (ces : Array MapEntry) (clock : Nat) (w : World), φ i = .at b p m → w.heap[b]? = some (.map ces clock) →
      ∀ (es : List (AV × AV × Nat)), ERels φ es ces.toList → ∀ v, f es = some v → ∃ cv, s.run P w = .ok (.value cv) w ∧ VRel φ v cv
  | .new blk mk => ∀ (w : World), ∃ o n cv, s.run P w = .ok (.value cv) (w.alloc o) ∧ (∀ φ', Ext φ φ' → BRel φ' blk w.heap.size 0 n (w.alloc o)) ∧
      ∀ φ' i, φ' i = .at w.heap.size 0 n → VRel φ' (mk i) cv
  | .bad => True

/-- A value's operation as an operation. -/
abbrev valued (s : Sem Value) : Sem Next := do pure (.value (← s))

theorem run_valued (P : Program) (s : Sem Value) (w : World) : (valued s).run P w = (s.run P w).andThen fun v w' => .ok (.value v) w' := by
  simp [valued]

theorem DOk.val_of {P : Program} {φ : Phi} {s : Sem Value} {v : AV} (cv : Value) (h : ∀ w, s.run P w = .ok cv w) (k : VRel φ v cv) : DOk P φ (valued s) (.val v) :=
  ⟨cv, fun w => by rw [run_valued, h]; rfl, k⟩

theorem DOk.row {P : Program} {φ : Phi} {s : Sem Value} {cs : List AV} {t : TypeId} {mk : Nat → AV} (vs : Array Value) (cv : Nat → Value)
    (h : ∀ w, s.run P w = .ok (cv w.heap.size) (w.alloc (.cells vs t))) (k : VRels φ cs vs.toList) (hm : ∀ φ' b i, φ' i = .at b 0 vs.size → VRel φ' (mk i) (cv b)) :
    DOk P φ (valued s) (.new (rowOf cs t) mk) :=
  fun w => ⟨_, vs.size, cv w.heap.size, by rw [run_valued, h]; rfl, fun φ' he => brel_row (VRels.mono he _ _ k), fun φ' i hi => hm φ' _ i hi⟩

/-! ### Numbers -/

theorem allSome_get : ∀ {l : List (Option Int)} {r : List Int}, allSome l = some r → ∀ (j : Nat) (o : Option Int), l[j]? = some o → ∃ n, o = some n ∧ r[j]? = some n
  | [], r, h, j, o, hj => by simp at hj
  | none :: l, r, h, j, o, hj => by simp [allSome] at h
  | some n :: l, r, h, j, o, hj => by
    simp only [allSome] at h
    split at h
    · rename_i r' hr
      cases h
      cases j with
      | zero => simp at hj; exact ⟨n, hj.symm, rfl⟩
      | succ j =>
        obtain ⟨m, h1, h2⟩ := allSome_get hr j o (by simpa using hj)
        exact ⟨m, h1, by simpa using h2⟩
    · cases h

theorem allOne_get {n : Int} : ∀ {l : List Int}, allOne n l = true → ∀ (j : Nat) (m : Int), l[j]? = some m → m = n
  | [], h, j, m, hj => by simp at hj
  | x :: l, h, j, m, hj => by
    unfold allOne at h
    rw [T.ifB_eq] at h
    split at h
    · rename_i hx
      rw [eqQ_eq, beq_iff_eq] at hx
      cases j with
      | zero => simp at hj; rw [← hj]; exact hx
      | succ j => exact allOne_get h j m (by simpa using hj)
    · cases h

theorem allB_get {b : Bool} : ∀ {l : List Bool}, allB b l = true → ∀ (j : Nat) (c : Bool), l[j]? = some c → c = b
  | [], h, j, m, hj => by simp at hj
  | x :: l, h, j, m, hj => by
    unfold allB at h
    cases hx : x == b with
    | false => rw [hx] at h; cases h
    | true =>
      rw [hx] at h
      cases j with
      | zero => simp at hj; rw [← hj]; simpa using hx
      | succ j => exact allB_get h j m (by simpa using hj)

theorem symO_ok {P : Program} {φ : Phi} {s : Sem Value} {k : IntKind} {id : Nat} {l : List (Option Int)} {o : Option Int} (hl : l[Val.at_ id]? = some o) (h : ∀ n, o = some n → ∀ w, s.run P w = .ok (.int k n) w) : DOk P φ (valued s) (symO k id l) := by
  unfold symO
  split
  · rename_i r hr
    obtain ⟨n, rfl, hn⟩ := allSome_get hr _ _ hl
    unfold symV
    split
    · trivial
    · rename_i m r'
      rw [T.ifB_eq]
      refine .val_of _ (h n rfl) ?_
      split
      · rename_i h1
        have : n = m := by
          cases hj : Val.at_ id with
          | zero => rw [hj] at hn; simp at hn; exact hn.symm
          | succ j => rw [hj] at hn; exact allOne_get h1 j n (by simpa using hn)
        rw [this]; rfl
      · exact ⟨n, hn, rfl⟩
  · trivial

theorem symB_ok {P : Program} {φ : Phi} {s : Sem Value} {l : List Bool} {j : Nat} {c : Bool} (hl : l[j]? = some c) (h : ∀ w, s.run P w = .ok (.bool c) w) : DOk P φ (valued s) (symB l) := by
  unfold symB
  split
  · trivial
  · rename_i b r
    rw [T.ifB_eq]
    split
    · rename_i h1
      refine .val_of _ h ?_
      have : c = b := by
        cases j with
        | zero => simp at hl; exact hl.symm
        | succ j => exact allB_get h1 j c (by simpa using hl)
      rw [this]; rfl
    · trivial

theorem int2S_ok {P : Program} {φ : Phi} {k : IntKind} {g : Int → Int → Option Int} {va vb : AV} {cx cy : Value} (hx : VRel φ va cx) (hy : VRel φ vb cy)
    {s : Sem Value} (h : ∀ a b n, cx = .int k a → cy = .int k b → g a b = some n → ∀ w, s.run P w = .ok (.int k n) w) : DOk P φ (valued s) (int2S k g va vb) := by
  unfold int2S
  split
  · rename_i k₁ m k₂ id ns
    simp only [VRel] at hx
    obtain ⟨n, hn, hy⟩ := hy
    rw [T.ifB_eq, T.ifB_eq]
    split
    · rename_i h1
      split
      · rename_i h2
        rw [kEq_iff] at h1 h2
        subst h1; subst h2
        exact symO_ok (o := g m n) (by rw [List.getElem?_map, hn]; rfl) fun q hq w => h m n q hx hy hq w
      · trivial
    · trivial
  · rename_i k₁ id ms k₂ n
    simp only [VRel] at hy
    obtain ⟨m, hm, hx⟩ := hx
    rw [T.ifB_eq, T.ifB_eq]
    split
    · rename_i h1
      split
      · rename_i h2
        rw [kEq_iff] at h1 h2
        subst h1; subst h2
        exact symO_ok (o := g m n) (by rw [List.getElem?_map, hm]; rfl) fun q hq w => h m n q hx hy hq w
      · trivial
    · trivial
  · rename_i k₁ id ms k₂ id' ns
    obtain ⟨m, hm, hx⟩ := hx
    obtain ⟨n, hn, hy⟩ := hy
    rw [T.ifB_eq, T.ifB_eq, T.ifB_eq]
    split
    · rename_i h0
      rw [beq_iff] at h0
      subst h0
      split
      · rename_i h1
        split
        · rename_i h2
          rw [kEq_iff] at h1 h2
          subst h1; subst h2
          exact symO_ok (o := g m n) (by rw [List.getElem?_zipWith, hm, hn]) fun q hq w => h m n q hx hy hq w
        · trivial
      · trivial
    · trivial
  · trivial

theorem int2V_ok {P : Program} {φ : Phi} {k : IntKind} {g : Int → Int → Option Int} {va vb : AV} {cx cy : Value} (hx : VRel φ va cx) (hy : VRel φ vb cy)
    {s : Sem Value} (h : ∀ a b n, cx = .int k a → cy = .int k b → g a b = some n → ∀ w, s.run P w = .ok (.int k n) w) : DOk P φ (valued s) (int2V k g va vb) := by
  unfold int2V
  split
  · rename_i k₁ a k₂ b
    simp only [VRel] at hx hy
    rw [T.ifB_eq, T.ifB_eq]
    split
    · rename_i h1
      split
      · rename_i h2
        rw [kEq_iff] at h1 h2
        subst h1; subst h2
        split
        · rename_i n hn
          exact .val_of _ (h a b n hx hy hn) rfl
        · trivial
      · trivial
    · trivial
  · rename_i a b _
    exact int2S_ok hx hy h

theorem dInt2_ok {P : Program} {φ : Phi} {e : Env} {r : Regs} {k : IntKind} {g : Int → Int → Option Int} {x y : Opd} {cx cy : Value} (hx : VRel φ (x.ev e r) cx) (hy : VRel φ (y.ev e r) cy)
    {s : Sem Value} (h : ∀ a b n, cx = .int k a → cy = .int k b → g a b = some n → ∀ w, s.run P w = .ok (.int k n) w) : DOk P φ (valued s) ((dInt2 k g x y).f e r) := int2V_ok hx hy h

theorem dRem_ok {P : Program} {φ : Phi} {e : Env} {r : Regs} {k : IntKind} {x y : Opd} {cx cy : Value} (hx : VRel φ (x.ev e r) cx) (hy : VRel φ (y.ev e r) cy)
    {s : Sem Value} (h : ∀ a b n, cx = .int k a → cy = .int k b → (bif eqQ b 0 then none else some (a.tmod b)) = some n → ∀ w, s.run P w = .ok (.int k n) w) : DOk P φ (valued s) ((dRem k x y).f e r) := by
  simp only [dRem]
  unfold remV
  split
  · rename_i k₁ m id ns k₂ b ex ey
    rw [ex] at hx; rw [ey] at hy
    simp only [VRel] at hy
    obtain ⟨n, rfl, h0, hn⟩ := hx
    subst hy
    simp only [T.ifB_eq]
    split
    · rename_i h1
      split
      · rename_i h2
        split
        · rename_i h3
          split
          · rename_i h4
            rw [kEq_iff] at h1 h2
            rw [eqQ_eq, beq_iff_eq] at h3
            rw [blt_iff] at h4
            subst h1; subst h2; subst h3
            have hs : DOk P φ (valued s) (symO k₂ id (ns.map some)) := by
              refine symO_ok (o := some (n % (m : Int))) (by rw [List.getElem?_map, hn]; rfl) fun q hq w => ?_
              cases hq
              refine h n (.ofNat m) _ rfl rfl ?_ w
              rw [eqQ_eq]
              have hm0 : (Int.ofNat m == 0) = false := by
                rw [beq_eq_false_iff_ne]; intro hh; have : (m : Int) = 0 := hh; omega
              rw [hm0]
              simp only [cond_false, Option.some.injEq]
              exact Int.tmod_eq_emod_of_nonneg h0
            have he : ∀ l : List Int, allSome (l.map some) = some l := by
              intro l
              induction l with
              | nil => rfl
              | cons a l ih => simp [allSome, ih]
            unfold symO at hs
            rw [he] at hs
            exact hs
          · trivial
        · trivial
      · trivial
    · trivial
  · exact int2V_ok hx hy h

theorem dCmp_ok {P : Program} {φ : Phi} {e : Env} {r : Regs} {g : Int → Int → Bool} {x y : Opd} {cx cy : Value} (hx : VRel φ (x.ev e r) cx) (hy : VRel φ (y.ev e r) cy)
    {s : Sem Value} (h : ∀ k a b, cx = .int k a → cy = .int k b → ∀ w, s.run P w = .ok (.bool (g a b)) w) : DOk P φ (valued s) ((dCmp g x y).f e r) := by
  simp only [dCmp]
  split
  · rename_i k₁ a k₂ b ex ey
    rw [ex] at hx; rw [ey] at hy
    simp only [VRel] at hx hy
    rw [T.ifB_eq]
    split
    · rename_i h1
      rw [kEq_iff] at h1
      subst h1
      exact .val_of _ (h k₁ a b hx hy) rfl
    · trivial
  · unfold cmpS
    split
    · rename_i k₁ m k₂ id ns ex ey
      rw [ex] at hx; rw [ey] at hy
      simp only [VRel] at hx
      obtain ⟨n, hn, hy⟩ := hy
      rw [T.ifB_eq]
      split
      · rename_i h1
        rw [kEq_iff] at h1
        subst h1
        exact symB_ok (c := g m n) (j := Val.at_ id) (by rw [List.getElem?_map, hn]; rfl) (h k₁ m n hx hy)
      · trivial
    · rename_i k₁ id ms k₂ n ex ey
      rw [ex] at hx; rw [ey] at hy
      simp only [VRel] at hy
      obtain ⟨m, hm, hx⟩ := hx
      rw [T.ifB_eq]
      split
      · rename_i h1
        rw [kEq_iff] at h1
        subst h1
        exact symB_ok (c := g m n) (j := Val.at_ id) (by rw [List.getElem?_map, hm]; rfl) (h k₁ m n hx hy)
      · trivial
    · rename_i k₁ id ms k₂ id' ns ex ey
      rw [ex] at hx; rw [ey] at hy
      obtain ⟨m, hm, hx⟩ := hx
      obtain ⟨n, hn, hy⟩ := hy
      rw [T.ifB_eq, T.ifB_eq]
      split
      · rename_i h0
        rw [beq_iff] at h0
        subst h0
        split
        · rename_i h1
          rw [kEq_iff] at h1
          subst h1
          exact symB_ok (c := g m n) (j := Val.at_ id) (by rw [List.getElem?_zipWith, hm, hn]) (h k₁ m n hx hy)
        · trivial
      · trivial
    · trivial

theorem dShift_ok {P : Program} {φ : Phi} {e : Env} {r : Regs} {l : Bool} {k : IntKind} {x y : Opd} {cx cy : Value} (hx : VRel φ (x.ev e r) cx) (hy : VRel φ (y.ev e r) cy)
    {s : Sem Value} (h : ∀ a yk b, cx = .int k a → cy = .int yk b → 0 ≤ b → ∀ w, s.run P w = .ok (.int k (if l then k.wrap (a * 2 ^ min b.toNat k.bits) else a.fdiv (2 ^ min b.toNat k.bits))) w) :
    DOk P φ (valued s) ((dShift l k x y).f e r) := by
  simp only [dShift]
  split
  · rename_i k₁ a yk b ex ey
    rw [ex] at hx; rw [ey] at hy
    simp only [VRel] at hx hy
    cases h1 : (kEq k₁ k && !ltQ b 0) with
    | false => trivial
    | true =>
      simp only [Bool.and_eq_true, kEq_iff, Bool.not_eq_true', ltQ_eq, decide_eq_false_iff_not] at h1
      obtain ⟨rfl, h2⟩ := h1
      simp only [cond_true]
      refine .val_of _ (h a yk b hx hy (by omega)) ?_
      cases l <;> simp [VRel, wrapQ_eq]
  · trivial

theorem run_intArith (P : Program) (op : BinOp) (k : IntKind) (a b : Int) (w : World) (n : Int)
    (h : (op = .add ∧ n = k.wrap (a + b)) ∨ (op = .sub ∧ n = k.wrap (a - b)) ∨ (op = .mul ∧ n = k.wrap (a * b))) : (Op.intArith op k a b).run P w = .ok (.int k n) w := by
  rcases h with ⟨rfl, rfl⟩ | ⟨rfl, rfl⟩ | ⟨rfl, rfl⟩ <;> rfl

theorem bitsOp_wrap (op : BitOp) (k : IntKind) (a b : Int) : ∃ n : Int, bitsOp op k a b = n := ⟨_, rfl⟩

/-- The comparison's guard says nothing at a value that is no nil interface and no aggregate. -/
theorem guard_int (op : BinOp) (t : TypeId) (x y : Operand) (k : IntKind) (n : Int) (v : Value) : eqGuard op t x y (.int k n) v = pure () := by cases op <;> rfl

section
variable {P : Program} {φ : Phi} {c : Ctx} {e : Env} {r : Regs} {S : Operand → Prop} {ρ : Operand → Value} (H : OpsOk P φ c e r S ρ)

abbrev binSem (ρ : Operand → Value) (op : BinOp) (t : TypeId) (x y : Operand) : Sem Value := do eqGuard op t x y (ρ x) (ρ y); binOp op t (ρ x) (ρ y)

include H in
theorem cBin_int {op : BinOp} {xt : TypeId} {k : IntKind} {x y : Operand} {f : DFn} (hSx : S x) (hSy : S y) (hk : P.underlying xt = some (.int k)) (h : cBin P c op xt x y = some f) :
    DOk P φ (valued (binSem ρ op xt x y)) (f.f e r) := by
  unfold cBin at h
  rw [hk] at h
  simp only at h
  cases ha : cOpd P c x with
  | none => rw [ha] at h; cases h
  | some a =>
    cases hb : cOpd P c y with
    | none => rw [ha, hb] at h; cases h
    | some b =>
      rw [ha, hb] at h
      simp only [Option.bind_some] at h
      have hx := H x a hSx ha
      have hy := H y b hSy hb
      cases op <;> simp only [Option.some.injEq] at h <;> subst h
      case add => exact dInt2_ok hx hy fun m n q e1 e2 hq w => by cases hq; simp [binSem, e1, e2, binOp, guard_int, Op.intArith, wrapQ_eq]
      case sub => exact dInt2_ok hx hy fun m n q e1 e2 hq w => by cases hq; simp [binSem, e1, e2, binOp, guard_int, Op.intArith, wrapQ_eq]
      case mul => exact dInt2_ok hx hy fun m n q e1 e2 hq w => by cases hq; simp [binSem, e1, e2, binOp, guard_int, Op.intArith, wrapQ_eq]
      case quo =>
        refine dInt2_ok hx hy fun m n q e1 e2 hq w => ?_
        cases hz : eqQ n 0 with
        | true => rw [hz] at hq; cases hq
        | false =>
          rw [hz] at hq; cases hq
          rw [eqQ_eq] at hz
          have hn : n ≠ 0 := by simpa using hz
          simp [binSem, e1, e2, binOp, guard_int, Op.intDiv, hn, wrapQ_eq]
      case rem =>
        refine dRem_ok hx hy fun m n q e1 e2 hq w => ?_
        cases hz : eqQ n 0 with
        | true => rw [hz] at hq; cases hq
        | false =>
          rw [hz] at hq; cases hq
          rw [eqQ_eq] at hz
          have hn : n ≠ 0 := by simpa using hz
          simp [binSem, e1, e2, binOp, guard_int, Op.intDiv, hn]
      case and => exact dInt2_ok hx hy fun m n q e1 e2 hq w => by cases hq; simp [binSem, e1, e2, binOp, guard_int, Op.intBits, bitsOp]
      case or => exact dInt2_ok hx hy fun m n q e1 e2 hq w => by cases hq; simp [binSem, e1, e2, binOp, guard_int, Op.intBits, bitsOp]
      case xor => exact dInt2_ok hx hy fun m n q e1 e2 hq w => by cases hq; simp [binSem, e1, e2, binOp, guard_int, Op.intBits, bitsOp]
      case andNot => exact dInt2_ok hx hy fun m n q e1 e2 hq w => by cases hq; simp [binSem, e1, e2, binOp, guard_int, Op.intBits, bitsOp]
      case shl => exact dShift_ok hx hy fun m yk n e1 e2 hn w => by simp [binSem, e1, e2, binOp, guard_int, Op.shift, show ¬ n < 0 by omega]
      case shr => exact dShift_ok hx hy fun m yk n e1 e2 hn w => by simp [binSem, e1, e2, binOp, guard_int, Op.shift, show ¬ n < 0 by omega]
      case eql => exact dCmp_ok hx hy fun k m n e1 e2 w => by simp [binSem, e1, e2, binOp, guard_int, Op.intCmp, eqQ_eq]
      case neq => exact dCmp_ok hx hy fun k m n e1 e2 w => by simp [binSem, e1, e2, binOp, guard_int, Op.intCmp, eqQ_eq, bne]
      case lss => exact dCmp_ok hx hy fun k m n e1 e2 w => by simp [binSem, e1, e2, binOp, guard_int, Op.intCmp, ltQ_eq]
      case leq =>
        exact dCmp_ok hx hy fun k m n e1 e2 w => by
          have : decide (m ≤ n) = !decide (n < m) := by rw [← decide_not]; exact decide_eq_decide.2 (by omega)
          simp only [ltQ_eq, ← this]
          simp [binSem, e1, e2, binOp, guard_int, Op.intCmp]
      case gtr => exact dCmp_ok hx hy fun k m n e1 e2 w => by simp [binSem, e1, e2, binOp, guard_int, Op.intCmp, ltQ_eq]
      case geq =>
        exact dCmp_ok hx hy fun k m n e1 e2 w => by
          have : decide (m ≥ n) = !decide (m < n) := by rw [← decide_not]; exact decide_eq_decide.2 (by omega)
          simp only [ltQ_eq, ← this]
          simp [binSem, e1, e2, binOp, guard_int, Op.intCmp]

end
end Go.Abs
