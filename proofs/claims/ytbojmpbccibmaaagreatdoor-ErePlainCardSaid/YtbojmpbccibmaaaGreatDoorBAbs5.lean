/- The abstract machine: what becomes of the relation when a block is made, written or given up; loads and stores of the model. -/
import Derived.Test.YtbojmpbccibmaaaGreatDoorBAbs4
import Derived.Laws.Cells
import Derived.Laws.Entries
import Derived.Laws.NewBlocks
import Derived.Laws.Rows
set_option linter.unusedVariables false
set_option linter.unusedSimpArgs false
set_option linter.unusedSectionVars false
set_option linter.deprecated false
namespace Go.Abs
variable [Val]

def upd (φ : Phi) (i : Nat) (s : PSt) : Phi := fun j => if j = i then s else φ j

@[simp] theorem upd_same (φ : Phi) (i : Nat) (s : PSt) : upd φ i s i = s := by simp [upd]
theorem upd_other (φ : Phi) {i j : Nat} (s : PSt) (h : j ≠ i) : upd φ i s j = φ j := by simp [upd, h]

theorem Ext.upd {φ : Phi} {i : Nat} {s : PSt} (h : (φ i).le s) : Ext φ (upd φ i s) := by
  intro j
  by_cases e : j = i
  · subst e; rw [upd_same]; exact h
  · rw [upd_other φ s e]; exact PSt.le_refl _

/-! ### A new block -/

theorem heap_alloc_lt {w : World} {o : Obj} {b : Nat} (h : b < w.heap.size) : (w.alloc o).heap[b]? = w.heap[b]? := heap_alloc_old w o b h

theorem step_new {ng : Nat} {φ : Phi} {h : AHeap} {w : World} (H : HRel ng φ h w) (blk : ABlk) (o : Obj) (n : Nat)
    (hb : BRel (upd φ h.next (.at w.heap.size 0 n)) blk w.heap.size 0 n (w.alloc o)) :
    HRel ng (upd φ h.next (.at w.heap.size 0 n)) (h.new blk) (w.alloc o) ∧ Stp φ h w (upd φ h.next (.at w.heap.size 0 n)) (h.new blk) (w.alloc o) := by
  have hun : φ h.next = .un := H.fresh _ (Nat.le_refl _)
  have hext : Ext φ (upd φ h.next (.at w.heap.size 0 n)) := Ext.upd (by rw [hun]; trivial)
  have hat : ∀ i c p m, upd φ h.next (.at w.heap.size 0 n) i = .at c p m → (i = h.next ∧ c = w.heap.size) ∨ (i ≠ h.next ∧ φ i = .at c p m ∧ c < w.heap.size) := by
    intro i c p m e
    by_cases hi : i = h.next
    · subst hi; rw [upd_same] at e; cases e; exact .inl ⟨rfl, rfl⟩
    · rw [upd_other φ _ hi] at e; exact .inr ⟨hi, e, H.lt _ _ _ _ e⟩
  constructor
  · refine ⟨fun i hi => ?_, fun g hg => (H.glob g hg).mono hext, fun i b hget => ?_, fun i j b b' c p m p' m' hi hj hne ei ej => ?_, fun i c p m e => ?_, fun i b hget => ?_⟩
    · simp only [AHeap.next_new] at hi
      rw [upd_other φ _ (by omega)]; exact H.fresh i (by omega)
    · rw [AHeap.get_new] at hget
      by_cases hi : i = h.next
      · rw [if_pos hi] at hget; cases hget
        subst hi
        exact .inr ⟨w.heap.size, 0, n, upd_same _ _ _, hb⟩
      · rw [if_neg hi] at hget
        rcases H.blk i b hget with e | ⟨c, p, m, e, k⟩
        · exact .inl (by rw [upd_other φ _ hi]; exact e)
        · exact .inr ⟨c, p, m, by rw [upd_other φ _ hi]; exact e, (k.mono hext).same (heap_alloc_lt (H.lt _ _ _ _ e))⟩
    · rw [AHeap.get_new] at hi hj
      rcases hat _ _ _ _ ei with ⟨rfl, rfl⟩ | ⟨h1, h2, h3⟩ <;> rcases hat _ _ _ _ ej with ⟨rfl, h4⟩ | ⟨h4, h5, h6⟩
      · exact absurd rfl hne
      · omega
      · omega
      · rw [if_neg h1] at hi; rw [if_neg h4] at hj
        exact H.inj i j b b' c p m p' m' hi hj hne h2 h5
    · rcases hat _ _ _ _ e with ⟨_, rfl⟩ | ⟨_, _, h3⟩ <;> simp <;> omega
    · rw [AHeap.get_new] at hget
      simp only [AHeap.next_new]
      by_cases hi : i = h.next
      · omega
      · rw [if_neg hi] at hget; have := H.dom i b hget; omega
  · refine ⟨hext, rfl, rfl, rfl, by simp, fun b hbl _ => heap_alloc_lt hbl, fun b ⟨i, bl, p, m, hget, hro, e⟩ hbl => ?_, fun i hi e => ?_, by simp⟩
    · rcases hat _ _ _ _ e with ⟨_, rfl⟩ | ⟨h1, h2, h3⟩
      · omega
      · rw [AHeap.get_new, if_neg h1] at hget
        exact ⟨i, bl, p, m, hget, hro, h2⟩
    · exact ⟨by rw [AHeap.get_new, if_neg (by omega)], by rw [upd_other φ _ (by omega)]; exact e⟩

theorem brel_row {φ : Phi} {cs : List AV} {vs : Array Value} {t : TypeId} {w : World} (h : VRels φ cs vs.toList) :
    BRel φ (rowOf cs t) w.heap.size 0 vs.size (w.alloc (.cells vs t)) := by
  refine ⟨vs, t, (0, 0), heap_alloc_new _ _, by omega, ?_, fun k hk => ?_, fun _ => .inl rfl, fun _ => ⟨rfl, rfl⟩⟩
  · have := h.length; simp at this; simp [this]
  · simp only [lenQ_eq] at hk
    rw [get_putsV, if_pos ⟨by omega, by omega⟩]
    obtain ⟨v, hv, hr⟩ := h.get k cs[k] (List.getElem?_eq_getElem hk)
    refine ⟨v, by rw [Nat.zero_add, ← Array.getElem?_toList]; exact hv, ?_⟩
    rw [Nat.sub_zero, List.getElem?_eq_getElem hk]; exact hr

/-- As 'step_new', for a row of cells. -/
theorem step_row {ng : Nat} {φ : Phi} {h : AHeap} {w : World} (H : HRel ng φ h w) {cs : List AV} {vs : Array Value} (t : TypeId) (k : VRels φ cs vs.toList) :
    HRel ng (upd φ h.next (.at w.heap.size 0 vs.size)) (h.new (rowOf cs t)) (w.alloc (.cells vs t)) ∧
      Stp φ h w (upd φ h.next (.at w.heap.size 0 vs.size)) (h.new (rowOf cs t)) (w.alloc (.cells vs t)) :=
  step_new H _ _ _ (brel_row (VRels.mono (Ext.upd (by rw [H.fresh _ (Nat.le_refl _)]; trivial)) _ _ k))

/-! ### A block that is there -/

/-- A block's content is turned: the model's block b becomes o. -/
theorem step_set {ng : Nat} {φ : Phi} {h : AHeap} {w : World} (H : HRel ng φ h w) {i b p n : Nat} {blk blk' : ABlk} {o : Obj}
    (hget : h.get i = some blk) (hro : blk.ro = false) (hro' : blk'.ro = false) (hφ : φ i = .at b p n) {w' : World}
    (hw : w'.heap[b]? = some o) (hsz : w'.heap.size = w.heap.size) (hoth : ∀ k, k ≠ b → w'.heap[k]? = w.heap[k]?)
    (hos : w'.os = w.os) (htp : w'.tape = w.tape) (hout : w'.output = w.output)
    (hb : BRel φ blk' b p n w') : HRel ng φ (h.set i blk') w' ∧ Stp φ h w φ (h.set i blk') w' := by
  have hi : i < h.next := by
    rcases Nat.lt_or_ge i h.next with hl | hl
    · exact hl
    · rw [H.fresh i hl] at hφ; cases hφ
  constructor
  · refine ⟨H.fresh, H.glob, fun j bl hj => ?_, fun j k bj bk c q m q' m' hj hk hne ej ek => ?_, fun j c q m e => by rw [hsz]; exact H.lt _ _ _ _ e, fun j bl hj => by
      rw [AHeap.get_set] at hj
      by_cases e : j = i
      · rw [e]; exact hi
      · rw [if_neg e] at hj; exact H.dom j bl hj⟩
    · rw [AHeap.get_set] at hj
      by_cases e : j = i
      · rw [if_pos e] at hj; cases hj; subst e
        exact .inr ⟨b, p, n, hφ, hb⟩
      · rw [if_neg e] at hj
        rcases H.blk j bl hj with e' | ⟨c, q, m, e', k⟩
        · exact .inl e'
        · refine .inr ⟨c, q, m, e', k.same (hoth c fun hc => ?_)⟩
          subst hc
          have := (H.inj j i bl blk c q m p n hj hget e e' hφ).2
          rw [hro] at this; cases this
    · rw [AHeap.get_set] at hj hk
      by_cases e1 : j = i
      · subst e1
        rw [if_neg (Ne.symm hne)] at hk
        rw [hφ] at ej; cases ej
        have := (H.inj j k blk bk b p n q' m' hget hk hne hφ ek).1
        rw [hro] at this; cases this
      · rw [if_neg e1] at hj
        by_cases e2 : k = i
        · subst e2
          rw [hφ] at ek; cases ek
          have := (H.inj j k bj blk b q m p n hj hget e1 ej hφ).2
          rw [hro] at this; cases this
        · rw [if_neg e2] at hk
          exact H.inj j k bj bk c q m q' m' hj hk hne ej ek
  · refine ⟨Ext.refl _, hos, htp, hout, by omega, fun k _ hn => hoth k fun e => hn ⟨i, blk, p, n, hget, hro, by rw [hφ, e]⟩, fun k ⟨j, bj, q, m, hj, hr, ej⟩ hk => ?_, fun j hj e => ⟨?_, e⟩, by simp⟩
    · rw [AHeap.get_set] at hj
      by_cases e : j = i
      · subst e; rw [hφ] at ej; cases ej; exact ⟨j, blk, p, n, hget, hro, hφ⟩
      · rw [if_neg e] at hj; exact ⟨j, bj, q, m, hj, hr, ej⟩
    · rw [AHeap.get_set, if_neg]
      rintro rfl; rw [hφ] at e; cases e

/-- A block is given up: nothing that leads to it is used any more. The model's block may be anything henceforth. -/
theorem step_drop {ng : Nat} {φ : Phi} {h : AHeap} {w : World} (H : HRel ng φ h w) {i b p n : Nat} {blk : ABlk}
    (hget : h.get i = some blk) (hro : blk.ro = false) (hφ : φ i = .at b p n) {w' : World}
    (hsz : w'.heap.size = w.heap.size) (hoth : ∀ k, k ≠ b → w'.heap[k]? = w.heap[k]?)
    (hos : w'.os = w.os) (htp : w'.tape = w.tape) (hout : w'.output = w.output) :
    HRel ng (upd φ i .dead) (h.drop i) w' ∧ Stp φ h w (upd φ i .dead) (h.drop i) w' := by
  have hi : i < h.next := by
    rcases Nat.lt_or_ge i h.next with hl | hl
    · exact hl
    · rw [H.fresh i hl] at hφ; cases hφ
  have hext : Ext φ (upd φ i .dead) := Ext.upd (by rw [hφ]; exact .inr rfl)
  have hat : ∀ j c q m, upd φ i .dead j = .at c q m → j ≠ i ∧ φ j = .at c q m := by
    intro j c q m e
    by_cases hj : j = i
    · subst hj; rw [upd_same] at e; cases e
    · rw [upd_other φ _ hj] at e; exact ⟨hj, e⟩
  constructor
  · refine ⟨fun j hj => ?_, fun g hg => (H.glob g hg).mono hext, fun j bl hj => ?_, fun j k bj bk c q m q' m' hj hk hne ej ek => ?_, fun j c q m e => by rw [hsz]; exact H.lt _ _ _ _ (hat _ _ _ _ e).2, fun j bl hj => by
      rw [AHeap.get_drop] at hj
      by_cases e : j = i
      · rw [if_pos e] at hj; cases hj
      · rw [if_neg e] at hj; exact H.dom j bl hj⟩
    · rw [upd_other φ _ (by simp at hj; omega)]; exact H.fresh j hj
    · rw [AHeap.get_drop] at hj
      by_cases e : j = i
      · rw [if_pos e] at hj; cases hj
      · rw [if_neg e] at hj
        rcases H.blk j bl hj with e' | ⟨c, q, m, e', k⟩
        · exact .inl (by rw [upd_other φ _ e]; exact e')
        · refine .inr ⟨c, q, m, by rw [upd_other φ _ e]; exact e', (k.mono hext).same (hoth c fun hc => ?_)⟩
          subst hc
          have := (H.inj j i bl blk c q m p n hj hget e e' hφ).2
          rw [hro] at this; cases this
    · rw [AHeap.get_drop] at hj hk
      obtain ⟨h1, h2⟩ := hat _ _ _ _ ej
      obtain ⟨h3, h4⟩ := hat _ _ _ _ ek
      rw [if_neg h1] at hj; rw [if_neg h3] at hk
      exact H.inj j k bj bk c q m q' m' hj hk hne h2 h4
  · refine ⟨hext, hos, htp, hout, by omega, fun k _ hn => hoth k fun e => hn ⟨i, blk, p, n, hget, hro, by rw [hφ, e]⟩, fun k ⟨j, bj, q, m, hj, hr, ej⟩ hk => ?_, fun j hj e => ⟨?_, ?_⟩, by simp⟩
    · obtain ⟨h1, h2⟩ := hat _ _ _ _ ej
      rw [AHeap.get_drop, if_neg h1] at hj
      exact ⟨j, bj, q, m, hj, hr, h2⟩
    · rw [AHeap.get_drop, if_neg]
      rintro rfl; rw [hφ] at e; cases e
    · rw [upd_other φ]
      · exact e
      · rintro rfl; rw [hφ] at e; cases e

/-- A row that is moved in place: the old number is gone, a new one stands for the same block of the model. -/
theorem step_move {ng : Nat} {φ : Phi} {h : AHeap} {w : World} (H : HRel ng φ h w) {i b p n p' n' : Nat} {blk blk' : ABlk}
    (hget : h.get i = some blk) (hro : blk.ro = false) (hro' : blk'.ro = false) (hφ : φ i = .at b p n) {w' : World}
    (hsz : w'.heap.size = w.heap.size) (hoth : ∀ k, k ≠ b → w'.heap[k]? = w.heap[k]?)
    (hos : w'.os = w.os) (htp : w'.tape = w.tape) (hout : w'.output = w.output)
    (hb : BRel (upd (upd φ i .dead) h.next (.at b p' n')) blk' b p' n' w') :
    HRel ng (upd (upd φ i .dead) h.next (.at b p' n')) ((h.drop i).new blk') w' ∧ Stp φ h w (upd (upd φ i .dead) h.next (.at b p' n')) ((h.drop i).new blk') w' := by
  have hi : i < h.next := by
    rcases Nat.lt_or_ge i h.next with hl | hl
    · exact hl
    · rw [H.fresh i hl] at hφ; cases hφ
  have hun : φ h.next = .un := H.fresh _ (Nat.le_refl _)
  have hext : Ext φ (upd (upd φ i .dead) h.next (.at b p' n')) :=
    Ext.trans (Ext.upd (s := .dead) (by rw [hφ]; exact .inr rfl)) (Ext.upd (by rw [upd_other φ _ (by omega), hun]; trivial))
  have hat : ∀ j c q m, upd (upd φ i .dead) h.next (.at b p' n') j = .at c q m → (j = h.next ∧ c = b ∧ q = p' ∧ m = n') ∨ (j ≠ h.next ∧ j ≠ i ∧ φ j = .at c q m) := by
    intro j c q m e
    by_cases hj : j = h.next
    · subst hj; rw [upd_same] at e; cases e; exact .inl ⟨rfl, rfl, rfl, rfl⟩
    · rw [upd_other _ _ hj] at e
      by_cases hj' : j = i
      · subst hj'; rw [upd_same] at e; cases e
      · rw [upd_other φ _ hj'] at e; exact .inr ⟨hj, hj', e⟩
  have gets : ∀ j, ((h.drop i).new blk').get j = if j = h.next then some blk' else if j = i then none else h.get j := by
    intro j; rw [AHeap.get_new, AHeap.get_drop]; rfl
  constructor
  · refine ⟨fun j hj => ?_, fun g hg => (H.glob g hg).mono hext, fun j bl hj => ?_, fun j k bj bk c q m q' m' hj hk hne ej ek => ?_, fun j c q m e => ?_, fun j bl hj => by
      rw [gets] at hj
      simp only [AHeap.next_new, AHeap.next_drop]
      by_cases e : j = h.next
      · omega
      · rw [if_neg e] at hj
        by_cases e2 : j = i
        · omega
        · rw [if_neg e2] at hj; have := H.dom j bl hj; omega⟩
    · simp only [AHeap.next_new, AHeap.next_drop] at hj
      rw [upd_other _ _ (by omega), upd_other _ _ (by omega)]; exact H.fresh j (by omega)
    · rw [gets] at hj
      by_cases e : j = h.next
      · rw [if_pos e] at hj; cases hj; subst e
        exact .inr ⟨b, p', n', upd_same _ _ _, hb⟩
      · rw [if_neg e] at hj
        by_cases e2 : j = i
        · rw [if_pos e2] at hj; cases hj
        · rw [if_neg e2] at hj
          rcases H.blk j bl hj with e' | ⟨c, q, m, e', k⟩
          · exact .inl (by rw [upd_other _ _ e, upd_other _ _ e2]; exact e')
          · refine .inr ⟨c, q, m, by rw [upd_other _ _ e, upd_other _ _ e2]; exact e', (k.mono hext).same (hoth c fun hc => ?_)⟩
            subst hc
            have := (H.inj j i bl blk c q m p n hj hget e2 e' hφ).2
            rw [hro] at this; cases this
    · rw [gets] at hj hk
      rcases hat _ _ _ _ ej with ⟨rfl, rfl, _, _⟩ | ⟨h1, h2, h3⟩ <;> rcases hat _ _ _ _ ek with ⟨rfl, h4, _, _⟩ | ⟨h4, h5, h6⟩
      · exact absurd rfl hne
      · rw [if_neg h4, if_neg h5] at hk
        have := (H.inj k i bk blk c q' m' p n hk hget h5 h6 hφ).2
        rw [hro] at this; cases this
      · subst h4
        rw [if_neg h1, if_neg h2] at hj
        have := (H.inj j i bj blk c q m p n hj hget h2 h3 hφ).2
        rw [hro] at this; cases this
      · rw [if_neg h1, if_neg h2] at hj; rw [if_neg h4, if_neg h5] at hk
        exact H.inj j k bj bk c q m q' m' hj hk hne h3 h6
    · rw [hsz]
      rcases hat _ _ _ _ e with ⟨_, rfl, _, _⟩ | ⟨_, _, h3⟩
      · exact H.lt _ _ _ _ hφ
      · exact H.lt _ _ _ _ h3
  · refine ⟨hext, hos, htp, hout, by omega, fun k _ hn => hoth k fun e => hn ⟨i, blk, p, n, hget, hro, by rw [hφ, e]⟩, fun k ⟨j, bj, q, m, hj, hr, ej⟩ hk => ?_, fun j hj e => ⟨?_, ?_⟩, by simp⟩
    · rcases hat _ _ _ _ ej with ⟨_, rfl, _, _⟩ | ⟨h1, h2, h3⟩
      · exact ⟨i, blk, p, n, hget, hro, hφ⟩
      · rw [gets, if_neg h1, if_neg h2] at hj
        exact ⟨j, bj, q, m, hj, hr, h3⟩
    · rw [gets, if_neg (by omega), if_neg]
      rintro rfl; rw [hφ] at e; cases e
    · rw [upd_other _ _ (by omega), upd_other φ]
      · exact e
      · rintro rfl; rw [hφ] at e; cases e

/-! ### Loads -/

theorem cell_row {w : World} {b : Nat} {vs : Array Value} {t : TypeId} {fz : Nat × Nat} (h : w.heap[b]? = some (.cells vs t fz)) (k : Nat) :
    w.cell? ⟨b, k, none⟩ = vs[k]? := by simp [World.cell?, h]

theorem add_none (b o k : Nat) : Addr.add ⟨b, o, none⟩ k = ⟨b, o + k, none⟩ := Addr.add_lit b o k

theorem run_loads (P : Program) {w : World} {b o : Nat} {vs : Array Value} {t : TypeId} {fz : Nat × Nat} (h : w.heap[b]? = some (.cells vs t fz)) (n : Nat) (hn : o + n ≤ vs.size) :
    (loadCells ⟨b, o, none⟩ n).run P w = .ok (vs.extract o (o + n)) w := by
  have hl : (vs.extract o (o + n)).toList.length = n := by simp; omega
  have := run_loadCells_list (P := P) (w := w) ⟨b, o, none⟩ (vs.extract o (o + n)).toList fun j v hj => by
    rw [add_none, cell_row h]
    rw [Array.getElem?_toList, Array.getElem?_extract] at hj
    split at hj
    · exact hj
    · cases hj
  rw [hl] at this
  rw [this]

/-- What the abstract heap tells of cells, the model's have. -/
theorem loads_of {ng : Nat} {φ : Phi} {h : AHeap} {w : World} (H : HRel ng φ h w) {i o n : Nat} {cs : List AV} (hc : h.cellsAt i o n = some cs) {b p m : Nat} (hφ : φ i = .at b p m) :
    ∃ vs t fz, w.heap[b]? = some (.cells vs t fz) ∧ p + o + n ≤ vs.size ∧ VRels φ cs (vs.extract (p + o) (p + o + n)).toList ∧ o + n ≤ m := by
  unfold AHeap.cellsAt at hc
  cases hg : h.get i with
  | none => rw [hg] at hc; cases hc
  | some blk =>
    rw [hg] at hc
    cases blk with
    | map es c => cases hc
    | siter s c => cases hc
    | cells k c t ro =>
      simp only [T.ifB_eq, ble_iff] at hc
      split at hc
      · rename_i hle
        simp only [Nat.add_eq] at hle
        cases hc
        rcases H.blk i _ hg with e | ⟨b', p', m', e, vs, u, fz, h1, h2, h3, h4, h5, h6⟩
        · rw [e] at hφ; cases hφ
        · rw [e] at hφ; cases hφ
          refine ⟨vs, u, fz, h1, by omega, ?_, by omega⟩
          refine VRels.mk ?_ fun j a v ha hv => ?_
          · simp [length_getsV]; omega
          · have hj : j < n := by
              rcases Nat.lt_or_ge j n with hl | hl
              · exact hl
              · rw [List.getElem?_eq_none (by rw [length_getsV]; exact hl)] at ha; cases ha
            rw [getElem?_getsV _ _ _ _ hj] at ha; cases ha
            rw [Array.getElem?_toList, Array.getElem?_extract] at hv
            split at hv
            · obtain ⟨v', hv', hr⟩ := h4 (o + j) (by omega)
              rw [show p + o + j = p + (o + j) by omega, hv'] at hv; cases hv
              exact hr
            · cases hv
      · cases hc

/-! ### Stores -/

/-- A row's cells overwritten from a place on. -/
def overwrite (vs : Array Value) (o : Nat) : List Value → Array Value
  | [] => vs
  | v :: r => overwrite (vs.setIfInBounds o v) (o + 1) r

theorem size_overwrite : ∀ (l : List Value) (vs : Array Value) (o : Nat), (overwrite vs o l).size = vs.size
  | [], _, _ => rfl
  | v :: r, vs, o => by rw [overwrite, size_overwrite r]; simp

theorem get_overwrite : ∀ (l : List Value) (vs : Array Value) (o k : Nat), o + l.length ≤ vs.size →
    (overwrite vs o l)[k]? = if o ≤ k ∧ k < o + l.length then l[k - o]? else vs[k]?
  | [], vs, o, k, _ => by simp only [overwrite, List.length_nil, Nat.add_zero]; rw [if_neg (by omega)]
  | v :: r, vs, o, k, h => by
    simp only [List.length_cons] at h
    rw [overwrite, get_overwrite r _ _ _ (by simp; omega)]
    simp only [List.length_cons]
    by_cases e : k = o
    · subst e
      rw [if_neg (by omega), if_pos ⟨Nat.le_refl _, by omega⟩]
      have : k < vs.size := by omega
      simp [this]
    · by_cases e2 : o + 1 ≤ k ∧ k < o + 1 + r.length
      · rw [if_pos e2, if_pos ⟨by omega, by omega⟩, show k - o = (k - (o + 1)) + 1 by omega, List.getElem?_cons_succ]
      · rw [if_neg e2, if_neg (by omega), Array.getElem?_setIfInBounds_ne (by omega)]

def World.setRowAt (w : World) (b : Nat) (vs : Array Value) (t : TypeId) (fz : Nat × Nat) : World := { w with heap := w.heap.setIfInBounds b (.cells vs t fz) }

theorem setCell_row {w : World} {b o : Nat} {vs : Array Value} {t : TypeId} {fz : Nat × Nat} (h : w.heap[b]? = some (.cells vs t fz)) (v : Value) :
    w.setCell ⟨b, o, none⟩ v = World.setRowAt w b (vs.setIfInBounds o v) t fz := by
  simp only [World.setCell, World.setRowAt, World.mk.injEq, and_true]
  refine Array.ext_getElem? fun k => ?_
  rw [Array.getElem?_modify, Array.getElem?_setIfInBounds]
  have hb : b < w.heap.size := (Array.getElem?_eq_some_iff.1 h).1
  by_cases e : b = k
  · subst e
    rw [if_pos rfl, if_pos rfl, if_pos hb, h]
    rfl
  · simp [e]

theorem setRowAt_same {w : World} {b : Nat} {vs : Array Value} {t : TypeId} {fz : Nat × Nat} (h : w.heap[b]? = some (.cells vs t fz)) : World.setRowAt w b vs t fz = w := by
  have : w.heap.setIfInBounds b (.cells vs t fz) = w.heap := by
    refine Array.ext_getElem? fun k => ?_
    rw [Array.getElem?_setIfInBounds]
    by_cases e : b = k
    · subst e; simp [h]; exact (Array.getElem?_eq_some_iff.1 h).1
    · simp [e]
  unfold World.setRowAt
  rw [this]

theorem setRowAt_twice (w : World) (b : Nat) (vs vs' : Array Value) (t : TypeId) (fz : Nat × Nat) : World.setRowAt (World.setRowAt w b vs t fz) b vs' t fz = World.setRowAt w b vs' t fz := by
  simp [World.setRowAt]

theorem heap_setRowAt {w : World} {b : Nat} (hb : b < w.heap.size) (vs : Array Value) (t : TypeId) (fz : Nat × Nat) : (World.setRowAt w b vs t fz).heap[b]? = some (.cells vs t fz) := by
  simp [World.setRowAt, hb]

theorem heap_setRowAt_other (w : World) {b k : Nat} (h : k ≠ b) (vs : Array Value) (t : TypeId) (fz : Nat × Nat) : (World.setRowAt w b vs t fz).heap[k]? = w.heap[k]? := by
  simp [World.setRowAt, Array.getElem?_setIfInBounds_ne (Ne.symm h)]

theorem notFrozen {w : World} {b o : Nat} {vs : Array Value} {t : TypeId} {fz : Nat × Nat} (h : w.heap[b]? = some (.cells vs t fz)) (hf : fz.1 = fz.2 ∨ vs.size ≤ fz.1) (ho : o < vs.size) :
    w.frozen? ⟨b, o, none⟩ = false := by
  obtain ⟨lo, hi⟩ := fz
  simp only [World.frozen?, h]
  simp only [Bool.and_eq_false_imp, decide_eq_true_eq, decide_eq_false_iff_not]
  intro hl
  rcases hf with hf | hf <;> simp at hf <;> omega

theorem run_stores (P : Program) : ∀ (l : List Value) {w : World} {b o i : Nat} {vs : Array Value} {t : TypeId} {fz : Nat × Nat}, w.heap[b]? = some (.cells vs t fz) →
    (fz.1 = fz.2 ∨ vs.size ≤ fz.1) → o + i + l.length ≤ vs.size → (∀ v ∈ l, v.oneCell' = true) →
    (storeCells ⟨b, o, none⟩ l i).run P w = .ok () (World.setRowAt w b (overwrite vs (o + i) l) t fz)
  | [], w, b, o, i, vs, t, fz, h, _, _, _ => by
    simp only [storeCells, Sem.run_pure, overwrite]
    rw [setRowAt_same h]
  | v :: r, w, b, o, i, vs, t, fz, h, hf, hl, hv => by
    simp only [List.length_cons] at hl
    have hb : b < w.heap.size := (Array.getElem?_eq_some_iff.1 h).1
    simp only [storeCells, Sem.run_bind, add_none]
    rw [run_store P w ⟨b, o + i, none⟩ v .plain (hv v (List.mem_cons_self ..)), cell_row h]
    rw [Array.getElem?_eq_getElem (show o + i < vs.size by omega)]
    simp only [notFrozen h hf (show o + i < vs.size by omega), Bool.false_eq_true, if_false, Result.andThen_ok]
    rw [setCell_row h]
    rw [run_stores P r (heap_setRowAt hb _ _ _) (by simpa using hf) (by simp; omega) (fun u hu => hv u (List.mem_cons_of_mem _ hu)), setRowAt_twice]
    rw [overwrite, Nat.add_assoc]

theorem oneCell_of {φ : Phi} {x : AV} {v : Value} (h : VRel φ x v) (hc : isCell x = true) : v.oneCell' = true := by
  obtain ⟨h1, h2⟩ := h.isCell hc
  cases v <;> simp_all [Value.oneCell']

/-- A store that the abstract heap carries out, the model does. -/
theorem stores_of (P : Program) {ng : Nat} {φ : Phi} {h h' : AHeap} {w : World} (H : HRel ng φ h w) {i o : Nat} {vs : List AV} {cvs : List Value} (hs : h.store i o vs = some h')
    {b p m : Nat} (hφ : φ i = .at b p m) (hv : VRels φ vs cvs) :
    ∃ w', (storeCells ⟨b, p + o, none⟩ cvs).run P w = .ok () w' ∧ HRel ng φ h' w' ∧ Stp φ h w φ h' w' := by
  unfold AHeap.store at hs
  cases hg : h.get i with
  | none => rw [hg] at hs; cases hs
  | some blk =>
    rw [hg] at hs
    cases blk with
    | map es c => cases hs
    | siter s c => cases hs
    | cells k c t ro =>
      simp only [T.ifB_eq, Bool.and_eq_true, Bool.not_eq_true', ble_iff, lenQ_eq] at hs
      split at hs
      · rename_i hcond
        obtain ⟨⟨hro, hle⟩, hall⟩ := hcond
        subst hro
        simp only [Nat.add_eq] at hle
        cases hs
        rcases H.blk i _ hg with e | ⟨b', p', m', e, ws, u, fz, h1, h2, h3, h4, h5, h6⟩
        · rw [e] at hφ; cases hφ
        · rw [e] at hφ; cases hφ
          have hb : b < w.heap.size := (Array.getElem?_eq_some_iff.1 h1).1
          have hlen := hv.length
          have hone : ∀ v ∈ cvs, v.oneCell' = true := by
            intro v hvm
            obtain ⟨j, hj⟩ := List.getElem?_of_mem hvm
            have hj' : j < vs.length := by
              have := (List.getElem?_eq_some_iff.1 hj).1; omega
            obtain ⟨v', hv', hr⟩ := hv.get j vs[j] (List.getElem?_eq_getElem hj')
            rw [hj] at hv'; cases hv'
            exact oneCell_of hr (allCells_iff.1 hall _ (List.getElem_mem _))
          refine ⟨_, run_stores P cvs (i := 0) h1 (h5 rfl) (by omega) hone, ?_⟩
          rw [Nat.add_zero]
          refine step_set H hg rfl rfl e (heap_setRowAt hb _ _ _) (by simp [World.setRowAt]) (fun k hk => heap_setRowAt_other w hk _ _ _) rfl rfl rfl ?_
          refine ⟨_, u, fz, heap_setRowAt hb _ _ _, by rw [size_overwrite]; exact h2, h3, fun q hq => ?_, fun _ => by rw [size_overwrite]; exact h5 rfl, h6⟩
          rw [get_overwrite _ _ _ _ (by omega), get_putsV]
          by_cases hq2 : o ≤ q ∧ q < o + vs.length
          · rw [if_pos (by omega), if_pos hq2, show p + q - (p + o) = q - o by omega]
            obtain ⟨v', hv', hr⟩ := hv.get (q - o) vs[q - o] (List.getElem?_eq_getElem (by omega))
            refine ⟨v', hv', ?_⟩
            rw [List.getElem?_eq_getElem (by omega)]; exact hr
          · rw [if_neg (by omega), if_neg hq2]
            exact h4 q hq
      · cases hs

end Go.Abs
