/- The abstract machine: runs in pieces. What is known may be forgotten between them; a loop may be told round by round. -/
import Derived.Test.YtbojmpbccibmaaaGreatDoorBAbs30
set_option linter.unusedVariables false
set_option linter.unusedSimpArgs false
set_option linter.unusedSectionVars false
set_option linter.deprecated false
namespace Go.Abs

/-! ### What a value names -/

mutual
def AV.ltn (n : Nat) : AV → Bool
  | .ptr (some (i, _)) => Nat.blt i n
  | .sl (some (i, _)) _ _ _ _ => Nat.blt i n
  | .map (some i) => Nat.blt i n
  | .fn _ a b => AV.ltns n a && AV.ltns n b
  | .iface _ v => AV.ltn n v
  | .agg cs => AV.ltns n cs
  | .tup cs => AV.ltns n cs
  | .sstr cs => AV.ltns n cs
  | _ => true
def AV.ltns (n : Nat) : List AV → Bool
  | [] => true
  | v :: vs => AV.ltn n v && AV.ltns n vs
end

def cut (n : Nat) (φ : Phi) : Phi := fun i => if i < n then φ i else .un

theorem cut_lt {n i : Nat} (φ : Phi) (h : i < n) : cut n φ i = φ i := by simp [cut, h]
theorem cut_ge {n i : Nat} (φ : Phi) (h : n ≤ i) : cut n φ i = .un := by simp [cut]; intro; omega

noncomputable def ABlk.ltn (n : Nat) (b : ABlk) : Bool :=
  match b with
  | .cells m c _ _ => AV.ltns n (getsV c m 0)
  | .map es _ => es.all fun e => AV.ltn n e.1 && AV.ltn n e.2.1
  | .siter _ _ => true

section
variable [Val]

mutual
theorem ltn_cut {φ : Phi} {n : Nat} : ∀ (x : AV) (v : Value), AV.ltn n x = true → VRel φ x v → VRel (cut n φ) x v
  | .bool _, _, _, k => k
  | .int _ _, _, _, k => k
  | .sym _ _ _, _, _, k => k
  | .rest _ _ _ _, _, _, k => k
  | .str _, _, _, k => k
  | .sstr l, _, h, ⟨s, e, k⟩ => by
    simp only [AV.ltn] at h
    exact ⟨s, e, ltns_cut l _ h k⟩
  | .ptr none, _, _, k => k
  | .ptr (some (i, o)), _, h, ⟨a, e, k⟩ => by
    simp only [AV.ltn, blt_iff] at h
    exact ⟨a, e, by unfold PtrOk at *; rw [cut_lt φ h]; exact k⟩
  | .sl none _ _ _ _, _, _, k => k
  | .sl (some (i, o)) _ _ _ _, _, h, ⟨a, c, e, h0, h1, h2, k⟩ => by
    simp only [AV.ltn, blt_iff] at h
    exact ⟨a, c, e, h0, h1, h2, by unfold SlOk at *; rw [cut_lt φ h]; exact k⟩
  | .map none, _, _, k => k
  | .map (some i), _, h, ⟨r, e, k⟩ => by
    simp only [AV.ltn, blt_iff] at h
    exact ⟨r, e, by unfold MapOk at *; rw [cut_lt φ h]; exact k⟩
  | .fn _ x y, _, h, ⟨a, b, e, k, l⟩ => by
    simp only [AV.ltn, Bool.and_eq_true] at h
    exact ⟨a, b, e, ltns_cut x _ h.1 k, ltns_cut y _ h.2 l⟩
  | .nilFn, _, _, k => k
  | .iface _ x, _, h, ⟨y, e, k⟩ => by
    simp only [AV.ltn] at h
    exact ⟨y, e, ltn_cut x y h k⟩
  | .nilIface, _, _, k => k
  | .agg cs, _, h, ⟨vs, e, k⟩ => by
    simp only [AV.ltn] at h
    exact ⟨vs, e, ltns_cut cs _ h k⟩
  | .tup cs, _, h, ⟨vs, e, k⟩ => by
    simp only [AV.ltn] at h
    exact ⟨vs, e, ltns_cut cs _ h k⟩
  | .junk, _, _, _ => trivial
theorem ltns_cut {φ : Phi} {n : Nat} : ∀ (x : List AV) (v : List Value), AV.ltns n x = true → VRels φ x v → VRels (cut n φ) x v
  | [], _, _, k => k
  | c :: cs, _, h, ⟨v, r, e, k, l⟩ => by
    simp only [AV.ltns, Bool.and_eq_true] at h
    exact ⟨v, r, e, ltn_cut c v h.1 k, ltns_cut cs r h.2 l⟩
end

theorem ltns_get {n : Nat} : ∀ {l : List AV}, AV.ltns n l = true → ∀ (k : Nat) (v : AV), l[k]? = some v → AV.ltn n v = true
  | [], _, k, v, hk => by simp at hk
  | x :: l, h, k, v, hk => by
    simp only [AV.ltns, Bool.and_eq_true] at h
    cases k with
    | zero => simp at hk; rw [← hk]; exact h.1
    | succ k => exact ltns_get h.2 k v (by simpa using hk)

theorem ERels.cut {φ : Phi} {n : Nat} : ∀ {es : List (AV × AV × Nat)} {ces : List MapEntry}, (es.all fun e => AV.ltn n e.1 && AV.ltn n e.2.1) = true → ERels φ es ces → ERels (Abs.cut n φ) es ces
  | [], _, _, k => k
  | x :: es, _, h, ⟨e, r, h1, ⟨h2, h3, h4⟩, h5⟩ => by
    simp only [List.all_cons, Bool.and_eq_true] at h
    exact ⟨e, r, h1, ⟨ltn_cut _ _ h.1.1 h2, ltn_cut _ _ h.1.2 h3, h4⟩, ERels.cut h.2 h5⟩

theorem BRel.cut {φ : Phi} {n : Nat} {blk : ABlk} {b p m : Nat} {w : World} (h : blk.ltn n = true) (k : BRel φ blk b p m w) : BRel (Abs.cut n φ) blk b p m w := by
  cases blk with
  | cells q c t ro =>
    obtain ⟨vs, u, fz, h1, h2, h3, h4, h5⟩ := k
    refine ⟨vs, u, fz, h1, h2, h3, fun j hj => ?_, h5⟩
    obtain ⟨v, hv, hr⟩ := h4 j hj
    refine ⟨v, hv, ltn_cut _ _ ?_ hr⟩
    refine ltns_get h j _ ?_
    have := getElem?_getsV c q 0 j hj
    rw [Nat.zero_add] at this
    exact this
  | map es clock => obtain ⟨ces, h1, h2⟩ := k; exact ⟨ces, h1, ERels.cut h h2⟩
  | siter s pos => exact k

/-! ### What is forgotten -/

structure Wk (k : Nat) (s s' : St) : Prop where
  kn : k ≤ s'.heap.next
  next : s'.heap.next ≤ s.heap.next
  keep : ∀ i, i < k → s'.heap.get i = s.heap.get i
  blk : ∀ i b, s'.heap.get i = some b → i < s'.heap.next ∧ s.heap.get i = some b ∧ b.ltn s'.heap.next = true
  regs : ∀ t, s'.regs.val t = .junk ∨ (s'.regs.val t = s.regs.val t ∧ (s.regs.val t).ltn s'.heap.next = true)
  defers : s.defers = [] ∧ s'.defers = []
  below : s.below = none ∧ s'.below = none

theorem Wk.srel {ng k : Nat} {F : Frm} {B : Base} {φ : Phi} {s s' : St} {a : Act} {cs : List Frame} {w : World} (h : SRel ng F B φ s a cs w) (hw : Wk k s s') (hng : ng ≤ k) : SRel ng F B (cut s'.heap.next φ) s' a cs w := by
  refine ⟨⟨fun i hi => cut_ge φ hi, fun g hg => ?_, fun i b hb => ?_, fun i j b b' c p m p' m' hi hj hne ei ej => ?_, fun i c p m e => ?_, fun i b hb => (hw.blk i b hb).1⟩, fun t => ?_, fun t k hk => by simp [locOf] at hk, fun t ht => ?_, h.size, ?_, ?_⟩
  · have := h.heap.glob g hg
    unfold PtrOk at *
    rw [cut_lt φ (by have := hw.kn; omega)]; exact this
  · obtain ⟨h1, h2, h3⟩ := hw.blk i b hb
    rw [cut_lt φ h1]
    rcases h.heap.blk i b h2 with e | ⟨c, p, m, e, q⟩
    · exact .inl e
    · exact .inr ⟨c, p, m, e, q.cut h3⟩
  · obtain ⟨h1, h2, _⟩ := hw.blk i b hi
    obtain ⟨h3, h4, _⟩ := hw.blk j b' hj
    rw [cut_lt φ h1] at ei
    rw [cut_lt φ h3] at ej
    exact h.heap.inj i j b b' c p m p' m' h2 h4 hne ei ej
  · unfold cut at e
    split at e
    · exact h.heap.lt i c p m e
    · cases e
  · have := h.ctx t
    simp only [locOf] at this ⊢
    rcases hw.regs t with e | ⟨e, hl⟩
    · rw [e]; trivial
    · rw [e]; exact ltn_cut _ _ hl this
  · rcases hw.regs t with e | ⟨e, _⟩
    · exact e
    · rw [e]; exact h.live t ht
  · have := h.defers
    rw [hw.defers.1] at this
    rw [hw.defers.2]; exact this
  · have := h.below
    rw [hw.below.1] at this
    rw [hw.below.2]; exact this

theorem Wk.stp {k : Nat} {φ₀ : Phi} {h₀ : AHeap} {w₀ : World} {φ : Phi} {s s' : St} {w : World} (h : Stp φ₀ h₀ w₀ φ s.heap w) (hw : Wk k s s') (hk : h₀.next ≤ k) (hf : ∀ i, h₀.next ≤ i → φ₀ i = .un) : Stp φ₀ h₀ w₀ (cut s'.heap.next φ) s'.heap w := by
  have hkn := hw.kn
  refine ⟨fun i => ?_, h.os, h.tape, h.output, h.size, h.same, fun b ⟨i, bl, o, n, hg, hro, e⟩ hb => ?_, fun i hi e => ?_, by omega⟩
  · by_cases hi : i < s'.heap.next
    · rw [cut_lt φ hi]; exact h.ext i
    · rw [hf i (by omega)]; trivial
  · obtain ⟨h1, h2, _⟩ := hw.blk i bl hg
    rw [cut_lt φ h1] at e
    exact h.own b ⟨i, bl, o, n, h2, hro, e⟩ hb
  · obtain ⟨h1, h2⟩ := h.virt i hi e
    exact ⟨(hw.keep i (by omega)).trans h1, by rw [cut_lt φ (by omega)]; exact h2⟩

/-! ### Runs in pieces -/

inductive Der (P : Program) (ng : Nat) (F : Frm) (R : Runner) : Code → St → AEx → St → Prop
  | run {c s x s'} : (codeFn (cCode P F c)).run R s = some (x, s') → Der P ng F R c s x s'
  | weak {c s x s' s'' k} : Der P ng F R c s x s' → Wk k s' s'' → ng ≤ k → s.heap.next ≤ k → (∀ ch, x ≠ .panic ch) → Der P ng F R c s x s''
  | seq {c d s s₁ x s'} : Der P ng F R c s .normal s₁ → Der P ng F R d s₁ x s' → Der P ng F R (.seq c d) s x s'
  | seqX {c d s x s'} : Der P ng F R c s x s' → x ≠ .normal → Der P ng F R (.seq c d) s x s'
  | cond {c d e s x s' y t} : cOpd P [] c = some y → y.ev [] s.regs = .bool t → Der P ng F R (if t then d else e) s x s' → Der P ng F R (.cond c d e) s x s'
  | block {id c s s'} : Der P ng F R c s (.exit id) s' → Der P ng F R (.block id c) s .normal s'
  | blockX {id c s x s'} : Der P ng F R c s x s' → x ≠ .exit id → Der P ng F R (.block id c) s x s'
  | scope {c s x s'} : Der P ng F R c s x s' → Der P ng F R (.scope c) s x s'
  | loopS {c s s₁ x s'} : Der P ng F R c s .normal s₁ → Der P ng F R (.loop c) s₁ x s' → Der P ng F R (.loop c) s x s'
  | loopX {c s x s'} : Der P ng F R c s x s' → x ≠ .normal → Der P ng F R (.loop c) s x s'

theorem wpL_mono {P : Program} {dfd : Bool} {c : Code} {Q Q' : Post} {a : Act} {cs : List Frame} {w : World} (h : wpL P dfd c Q a cs w) (hq : ∀ e a cs w, Q e a cs w → Q' e a cs w) : wpL P dfd c Q' a cs w :=
  fun bb k hb => let ⟨e, a'', cs'', w'', q, rr⟩ := h bb k hb; ⟨e, a'', cs'', w'', hq _ _ _ _ q, rr⟩

theorem der_ok {P : Program} {ng : Nat} {R : Runner} (hP : P.globals.size = ng) (hR : CallOk P ng R) (hL : LoopOk P ng R) (hD : DrawOk P ng R) {F : Frm} {c : Code} {s : St} {x : AEx} {s' : St} (h : Der P ng F R c s x s') :
    ∀ (B : Base) (φ : Phi) (a : Act) (cs : List Frame) (w : World), SRel ng F B φ s a cs w →
      wpG P s.below.isSome c (PostRel ng F B φ s.heap w s.below.isSome x s') a cs w ∧ ∀ b, c = .loop b → wpL P s.below.isSome b (PostRel ng F B φ s.heap w s.below.isSome x s') a cs w := by
  induction h with
  | run hr =>
    intro B φ a cs w hs
    refine ⟨code_ok hP hR hL hD F B _ _ _ _ hr φ a cs w hs, ?_⟩
    rintro b rfl
    simp only [cCode, codeFn] at hr
    exact (hL F b _ _ _ hr B φ a cs w hs).1
  | @weak c s x s' s'' k _ hw hng hk hx ih =>
    intro B φ a cs w hs
    obtain ⟨h1, h2⟩ := ih B φ a cs w hs
    have key : ∀ e a' cs' w', PostRel ng F B φ s.heap w s.below.isSome x s' e a' cs' w' → PostRel ng F B φ s.heap w s.below.isSome x s'' e a' cs' w' := by
      intro e a' cs' w' hq
      obtain ⟨φ', k1, k2, k3, k4⟩ := hq
      refine ⟨_, hw.srel k1 hng, hw.stp k2 hk hs.heap.fresh, ?_, ?_⟩
      · cases x with
        | panic ch => exact absurd rfl (hx ch)
        | _ => cases e <;> exact k3
      · rw [hw.below.2]; rw [hw.below.1] at k4; exact k4
    exact ⟨h1.mono key, fun b hb => wpL_mono (h2 b hb) key⟩
  | seq _ _ ih1 ih2 =>
    intro B φ a cs w hs
    refine ⟨wpG_seq ((ih1 B φ a cs w hs).1.mono fun ex a' cs' w' hq => ?_), by intro b hb; cases hb⟩
    obtain ⟨φ', k1, k2, k3, k4⟩ := hq
    cases ex <;> simp only [ExRel] at k3
    simp only [Exit.thenS]
    have := (ih2 B φ' a' cs' w' k1).1
    rw [k4] at this
    exact this.mono fun _ _ _ _ hq => PostRel.trans k2 hq
  | @seqX c d s x s' _ hx ih =>
    intro B φ a cs w hs
    refine ⟨wpG_seq ((ih B φ a cs w hs).1.mono fun ex a' cs' w' hq => ?_), by intro b hb; cases hb⟩
    obtain ⟨φ', k1, k2, k3, k4⟩ := hq
    cases ex with
    | normal => cases x <;> simp only [ExRel] at k3; exact absurd rfl hx
    | _ => exact ⟨φ', k1, k2, k3, k4⟩
  | cond hc hy _ ih =>
    intro B φ a cs w hs
    refine ⟨?_, by intro b hb; cases hb⟩
    have hglob : ∀ g, g < P.globals.size → PtrOk φ g 0 ⟨g, 0, none⟩ := fun g hg => hs.heap.glob g (hP ▸ hg)
    have hv := opsOk hglob hs.ctx (fun _ => True) _ _ trivial hc
    rw [hy] at hv
    exact wpG_cond hv (ih B φ a cs w hs).1
  | block _ ih =>
    intro B φ a cs w hs
    refine ⟨wpG_block ((ih B φ a cs w hs).1.mono fun ex a' cs' w' hq => ?_), by intro b hb; cases hb⟩
    obtain ⟨φ', k1, k2, k3, k4⟩ := hq
    cases ex <;> simp only [ExRel] at k3
    subst k3
    simp only [inBlockS, if_pos]
    exact ⟨φ', k1, k2, trivial, k4⟩
  | @blockX id c s x s' _ hx ih =>
    intro B φ a cs w hs
    refine ⟨wpG_block ((ih B φ a cs w hs).1.mono fun ex a' cs' w' hq => ?_), by intro b hb; cases hb⟩
    obtain ⟨φ', k1, k2, k3, k4⟩ := hq
    cases ex with
    | exit j =>
      cases x <;> simp only [ExRel] at k3
      subst k3
      simp only [inBlockS]
      rw [if_neg (fun e => hx (by rw [e]))]
      exact ⟨φ', k1, k2, rfl, k4⟩
    | _ => exact ⟨φ', k1, k2, k3, k4⟩
  | @scope c s x s' _ ih =>
    intro B φ a cs w hs
    refine ⟨wpG_scope ((ih B φ a cs w hs).1.mono fun ex a' cs' w' hq => ?_), by intro b hb; cases hb⟩
    obtain ⟨φ', k1, k2, k3, k4⟩ := hq
    cases ex <;> first | exact ⟨φ', k1, k2, k3, k4⟩ | (cases x <;> exact k3.elim)
  | @loopS c s s₁ x s' _ _ ih1 ih2 =>
    intro B φ a cs w hs
    have key : wpG P s.below.isSome c (Exit.thenS (wpL P s.below.isSome c (PostRel ng F B φ s.heap w s.below.isSome x s')) (PostRel ng F B φ s.heap w s.below.isSome x s')) a cs w := by
      refine (ih1 B φ a cs w hs).1.mono fun ex a' cs' w' hq => ?_
      obtain ⟨φ', k1, k2, k3, k4⟩ := hq
      cases ex <;> simp only [ExRel] at k3
      simp only [Exit.thenS]
      have := (ih2 B φ' a' cs' w' k1).2 c rfl
      rw [k4] at this
      exact wpL_mono this fun _ _ _ _ hq => PostRel.trans k2 hq
    exact ⟨wpG_loop key, fun b hb => by cases hb; exact wpL_loop key⟩
  | @loopX c s x s' _ hx ih =>
    intro B φ a cs w hs
    have key : wpG P s.below.isSome c (Exit.thenS (wpL P s.below.isSome c (PostRel ng F B φ s.heap w s.below.isSome x s')) (PostRel ng F B φ s.heap w s.below.isSome x s')) a cs w := by
      refine (ih B φ a cs w hs).1.mono fun ex a' cs' w' hq => ?_
      obtain ⟨φ', k1, k2, k3, k4⟩ := hq
      cases ex with
      | normal => cases x <;> simp only [ExRel] at k3; exact absurd rfl hx
      | _ => exact ⟨φ', k1, k2, k3, k4⟩
    exact ⟨wpG_loop key, fun b hb => by cases hb; exact wpL_loop key⟩

end
end Go.Abs
