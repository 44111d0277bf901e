/- The abstract machine: append. -/
import Derived.Test.YtbojmpbccibmaaaGreatDoorBAbs18
set_option linter.unusedVariables false
set_option linter.unusedSimpArgs false
set_option linter.unusedSectionVars false
set_option linter.deprecated false
namespace Go.Abs
variable [Val]

section
variable {P : Program} {ng : Nat} {φ : Phi} {h : AHeap} {w : World} {e : Env} {r : Regs}

/-- What is appended: so many elements, that are these cells, in every world with this heap. -/
structure Appended (P : Program) (size : Nat) (w : World) (x : Value) (n : Nat) (news : Array Value) : Prop where
  len : ∀ w', (Builtin.lenOf x).run P w' = .ok n w'
  first : ∀ w', w'.heap = w.heap → (Builtin.firstCells size n x).run P w' = .ok news w'
  size : news.size = n * size

section
variable {ts : Array TypeId} {t u ty el : TypeId} {i : TypeInfo} {z : Value} (hts0 : ts[0]? = some t) (hts1 : ts[1]? = some u) (ht : P.underlying t = some (.slice el)) (hu : (∃ e2, P.underlying u = some (.slice e2)) ∨ P.underlying u = some .string) (hi : P.info? el = some i) (hz : i.zero = some z)
include hts0 hts1 ht hu hi hz

theorem append_room {base : Option Addr} {sLen sCap n : Nat} {x : Value} {news : Array Value} (hx : Appended P i.size w x n news) (hr : sLen + n ≤ sCap) :
    (Builtin.append_ ts ty #[.slice base sLen sCap, x]).run P w =
      ((match base with | some a => storeCells (a.add (sLen * i.size)) news.toList | none => pure () : Sem Unit).run P w).andThen fun _ w' => .ok (.slice base (sLen + n) sCap) w' := by
  rcases hu with ⟨e2, hd⟩ | hd <;> cases base <;>
    simp [Builtin.append_, hts0, hts1, run_underlying ht, run_underlying hd, sizeOf, typeInfo, hi, hx.len, hr, hx.first w rfl]

theorem append_grow {base : Option Addr} {sLen sCap n : Nat} {x : Value} {olds news : Array Value} (hx : Appended P i.size w x n news)
    (ho : ∀ w', w'.heap = w.heap → (Builtin.firstCells i.size sLen (.slice base sLen sCap)).run P w' = .ok olds w')
    (hg : sCap < sLen + n) (h63 : sLen + n ≤ 1099511627776) (hfit : (sLen + n) * i.bytes ≤ 1099511627776) :
    (Builtin.append_ ts ty #[.slice base sLen sCap, x]).run P w =
      .ok (.slice (some ⟨w.heap.size, 0, none⟩) (sLen + n) (grownCap w (sLen + n) sCap el))
        (w.drew.alloc (.cells (olds ++ news ++ Builtin.zeroCells z.cells (grownCap w (sLen + n) sCap el - (sLen + n))) el)) := by
  have hn : ¬ (sLen + n ≤ sCap) := by omega
  have h63' : ¬ (9223372036854775807 < ((sLen : Int) + (n : Int))) := by omega
  have hfit' := growslice_fits (need := sLen + n) (old := sCap) (bytes := i.bytes) hg (by omega)
  have h48' : ¬ (281474976710656 < Builtin.nextslicecap (sLen + n) sCap * i.bytes) := by omega
  have h1 := hx.first w.drew rfl
  have h2 := ho w.drew rfl
  rcases hu with ⟨e2, hd⟩ | hd <;> (simp [Builtin.append_, hts0, hts1, run_underlying ht, run_underlying hd, sizeOf, typeInfo, zeroValue, hi, hz, hx.len, hn, h63', h48', Question.forced, h1, h2, newRow, grownCap]; done)

end

theorem grownCap_ge (w : World) (need old : Nat) (el : TypeId) : need ≤ grownCap w need old el := by
  simp [grownCap, Question.cut]

theorem grown_size {z : Value} {size : Nat} (hz : z.cells.size = size) {olds news : Array Value} {a b c : Nat} (ho : olds.size = a * size) (hn : news.size = b * size) (hc : a + b ≤ c) :
    (olds ++ news ++ Builtin.zeroCells z.cells (c - (a + b))).size = c * size := by
  have : (Builtin.zeroCells z.cells (c - (a + b))).size = (c - (a + b)) * size := by simp [Builtin.zeroCells, hz]
  rw [Array.size_append, Array.size_append, ho, hn, this, ← Nat.add_mul, ← Nat.add_mul]
  congr 1; omega

/-- A row of the model that is longer than the abstract one. -/
theorem brel_longer {φ : Phi} {cs : List AV} {vs rest : Array Value} {t : TypeId} {w : World} (h : VRels φ cs vs.toList) :
    BRel φ (rowOf cs t) w.heap.size 0 (vs ++ rest).size (w.alloc (.cells (vs ++ rest) t)) := by
  refine ⟨vs ++ rest, t, (0, 0), heap_alloc_new _ _, by omega, ?_, fun k hk => ?_, fun _ => .inl rfl, fun _ => ⟨rfl, rfl⟩⟩
  · have := h.length; simp at this; simp; omega
  · simp only [lenQ_eq] at hk
    rw [get_putsV, if_pos ⟨by omega, by omega⟩]
    obtain ⟨v, hv, hr⟩ := h.get k cs[k] (List.getElem?_eq_getElem hk)
    have hk2 : k < vs.size := by have := h.length; simp at this; omega
    refine ⟨v, ?_, ?_⟩
    · rw [Nat.zero_add, Array.getElem?_append_left hk2, ← Array.getElem?_toList]; exact hv
    · rw [Nat.sub_zero, List.getElem?_eq_getElem hk]; exact hr

theorem brel_longer0 {φ : Phi} {cs : List AV} {vs rest : Array Value} {t : TypeId} {w : World} (h : VRels φ cs vs.toList) :
    BRel φ (rowOf cs 0) w.heap.size 0 (vs ++ rest).size (w.alloc (.cells (vs ++ rest) t)) := by
  obtain ⟨a, b, c, h1, h2, h3, h4, h5, h6⟩ := brel_longer (rest := rest) (t := t) (w := w) h
  exact ⟨a, b, c, h1, h2, h3, h4, h5, fun h0 => absurd rfl h0⟩

/-- The model grows: a new row, of cells that are known, then of zeros. -/
theorem grow_step (H : HRel ng φ h w) {cs : List AV} {vs rest : Array Value} {t : TypeId} (k : VRels φ cs vs.toList) {blk : ABlk} (hb : ∀ φ', Ext φ φ' → BRel φ' blk w.heap.size 0 (vs ++ rest).size (w.drew.alloc (.cells (vs ++ rest) t))) :
    HRel ng (upd φ h.next (.at w.heap.size 0 (vs ++ rest).size)) (h.new blk) (w.drew.alloc (.cells (vs ++ rest) t)) ∧
      Stp φ h w (upd φ h.next (.at w.heap.size 0 (vs ++ rest).size)) (h.new blk) (w.drew.alloc (.cells (vs ++ rest) t)) := by
  have H' : HRel ng φ h w.drew := H.heap_eq rfl
  have hext : Ext φ (upd φ h.next (.at w.heap.size 0 (vs ++ rest).size)) := Ext.upd (by rw [H.fresh _ (Nat.le_refl _)]; trivial)
  have := step_new H' blk (.cells (vs ++ rest) t) (vs ++ rest).size (hb _ hext)
  exact ⟨this.1, (Stp.heap_eq (w := w) (w' := w.drew) rfl rfl rfl rfl).trans this.2⟩

/-- What the cells of the slice's first elements are, where the abstract heap tells. -/
theorem olds_of (H : HRel ng φ h w) {i o esz len c sCap : Nat} {a : Addr} (hsl : SlOk φ i o esz c a) (hlc : len ≤ c) {cs : List AV} (hcs : h.cellsAt i o (len * esz) = some cs) {b p nn : Nat} (hφ : φ i = .at b p nn) :
    ∃ olds : Array Value, VRels φ cs olds.toList ∧ olds.size = len * esz ∧ (∀ vs t fz, w.heap[b]? = some (.cells vs t fz) → olds = vs.extract (p + o) (p + o + len * esz)) ∧ (∀ w', w'.heap = w.heap → (Builtin.firstCells esz len (.slice (some a) len sCap)).run P w' = .ok olds w') := by
  obtain ⟨vs, t, fz, h1, h2, h3, h4⟩ := loads_of H hcs hφ
  refine ⟨vs.extract (p + o) (p + o + len * esz), h3, by simp; omega, fun vs' t' fz' h1' => (by rw [h1] at h1'; cases h1'; rfl), fun w' hw => ?_⟩
  rcases Nat.eq_zero_or_pos len with hz | hz
  · subst hz
    simp [Builtin.firstCells, loadCells, loadCellsFrom]
    omega
  · have ha := hsl.ptr (show 0 < c by omega)
    simp only [PtrOk, hφ] at ha
    subst ha
    have := run_loads P (w := w') (b := b) (o := p + o) (by rw [hw]; exact h1) (len * esz) h2
    simpa [Builtin.firstCells] using this

/-- A block of the abstract heap that holds certain cells, and the model's row that holds theirs. -/
theorem brel_of {φ : Phi} {cs : List AV} {cvs : List Value} {vs : Array Value} {u t : TypeId} {fz : Nat × Nat} {b p n M : Nat} {c : T AV} {w : World} (k : VRels φ cs cvs) (hw : w.heap[b]? = some (.cells vs u fz)) (hsz : vs.size = p + n)
    (hM : M = cs.length) (hle : M ≤ n) (hc : ∀ k a, cs[k]? = some a → (c.get k).getD .junk = a) (hv : ∀ k, k < cs.length → vs[p + k]? = cvs[k]?) (hfz : fz.1 = fz.2 ∨ vs.size ≤ fz.1) (ht : t ≠ 0 → u = t ∧ p = 0) :
    BRel φ (.cells M c t false) b p n w := by
  subst hM
  refine ⟨vs, u, fz, hw, hsz, hle, fun q hq => ?_, fun _ => hfz, ht⟩
  obtain ⟨v, h1, h2⟩ := k.get q cs[q] (List.getElem?_eq_getElem hq)
  refine ⟨v, by rw [hv q hq, h1], ?_⟩
  rw [hc q cs[q] (List.getElem?_eq_getElem hq)]; exact h2

theorem getsV_append_puts (c : T AV) (m : Nat) (new : List AV) (k : Nat) : ((putsV new c m).get k).getD .junk = if m ≤ k ∧ k < m + new.length then (new[k - m]?).getD .junk else (c.get k).getD .junk := by
  rw [get_putsV]; split <;> rfl

theorem SlOk_zero {φ : Phi} {i esz c b n : Nat} (hφ : φ i = .at b 0 n) (h : c * esz ≤ n) : SlOk φ i 0 esz c ⟨b, 0, none⟩ := by
  simp only [SlOk, hφ]; exact ⟨fun _ => by simp, by omega⟩

theorem nat_beq_false {a b : Nat} (h : Nat.beq a b = false) : a ≠ b := by
  intro hh; rw [← beq_iff] at hh; rw [h] at hh; cases hh

theorem nat_blt_false {a b : Nat} (h : Nat.blt a b = false) : b ≤ a := by
  rcases Nat.lt_or_ge a b with hl | hl
  · rw [← blt_iff, h] at hl; cases hl
  · exact hl

theorem nat_ble_false {a b : Nat} (h : Nat.ble a b = false) : b < a := by
  rcases Nat.lt_or_ge b a with hl | hl
  · exact hl
  · rw [ge_iff_le, ← ble_iff, h] at hl; cases hl

theorem aAppend_ok (H : HRel ng φ h w) {ts : Array TypeId} {t u ty el : TypeId} {i : TypeInfo} {z : Value} (hts0 : ts[0]? = some t) (hts1 : ts[1]? = some u) (ht : P.underlying t = some (.slice el))
    (hu : (∃ e2, P.underlying u = some (.slice e2)) ∨ P.underlying u = some .string) (hi : P.info? el = some i) (hz : i.zero = some z) (hzs : z.cells.size = i.size) (hpos : 0 < i.size)
    {s : AV} {cs x : Value} {n : Nat} {news : Array Value} {new : List AV} (hs : VRel φ s cs) (hx : Appended P i.size w x n news) (hnew : VRels φ new news.toList) :
    WOk P ng φ h w (valued (Builtin.append_ ts ty #[cs, x])) (aAppend h el i.size i.bytes s new n) := by
  have room := fun (base : Option Addr) (sLen sCap : Nat) hr => append_room (ty := ty) hts0 hts1 ht hu hi hz (base := base) (sLen := sLen) (sCap := sCap) hx hr
  have grow := fun (base : Option Addr) (sLen sCap : Nat) (olds : Array Value) ho hg h63 hfit => append_grow (ty := ty) hts0 hts1 ht hu hi hz (base := base) (sLen := sLen) (sCap := sCap) (olds := olds) hx ho hg h63 hfit
  have hnl : new.length = n * i.size := by
    have := hnew.length; simp at this; rw [← this]; exact hx.size
  unfold aAppend
  split
  · rename_i a es len cap ex
    cases hbig : (Nat.blt 1099511627776 ((len + n) * i.bytes) || Nat.blt 1099511627776 (len + n)) with
    | true => trivial
    | false =>
      simp only [Bool.or_eq_false_iff] at hbig
      have hfit := nat_blt_false hbig.1
      have h63 := nat_blt_false hbig.2
      simp only [cond_false]
      cases hn0 : Nat.beq n 0 with
      | true =>
        rw [beq_iff] at hn0
        subst hn0
        have hnews : news.toList = [] := by
          have := hx.size; rw [Nat.zero_mul] at this
          rw [← List.length_eq_zero_iff, Array.length_toList]; exact this
        simp only [cond_true]
        cases a with
        | none =>
          obtain ⟨rfl, rfl, rfl⟩ := hs
          refine ⟨_, w, φ, run_valued_ok (v := .slice none 0 0) ?_, .inl ⟨_, rfl, ⟨rfl, rfl, rfl⟩⟩, H, Stp.refl _ _ _⟩
          rw [room none 0 0 (by omega)]; rfl
        | some p =>
          obtain ⟨i0, o⟩ := p
          have hs' := hs
          obtain ⟨ad, c, rfl, h1, h2, h3, hsl⟩ := hs
          refine ⟨_, w, φ, run_valued_ok (v := .slice (some ad) len c) ?_, .inl ⟨_, rfl, hs'⟩, H, Stp.refl _ _ _⟩
          rw [room (some ad) len c (by omega), hnews]; rfl
      | false =>
        have hn : n ≠ 0 := nat_beq_false hn0
        simp only [cond_false]
        cases a with
        | none =>
          obtain ⟨rfl, rfl, rfl⟩ := hs
          simp only [Nat.zero_add] at h63 hfit
          have hrun := grow none 0 0 #[] (fun w' _ => run_firstCells_none w' i.size 0 0 0) (by omega) (by omega) (by simpa using hfit)
          simp only [Nat.zero_add, Array.empty_append] at hrun
          have hstep := grow_step (rest := Builtin.zeroCells z.cells (grownCap w n 0 el - n)) (t := el) H hnew (fun φ' he => brel_longer (w := w.drew) (VRels.mono he _ _ hnew))
          refine ⟨_, _, _, run_valued_ok hrun, .inl ⟨_, rfl, _, _, rfl, Nat.le_refl _, grownCap_ge _ _ _ _, by simp, SlOk_zero (upd_same _ _ _) ?_⟩, hstep⟩
          have := grown_size (z := z) hzs (olds := #[]) (news := news) (a := 0) (b := n) (c := grownCap w n 0 el) (by simp) hx.size (by have := grownCap_ge w n 0 el; omega)
          simp only [Nat.zero_add, Array.empty_append] at this
          omega
        | some p =>
          obtain ⟨i0, o⟩ := p
          obtain ⟨ad, c, rfl, h1, h2, h3, hsl⟩ := hs
          simp only
          cases hes : Nat.beq es i.size with
          | false => trivial
          | true =>
            rw [beq_iff] at hes
            subst hes
            simp only [cond_true]
            split
            · rename_i m cc t0 ro hg
              obtain ⟨b, p, nn, hφ, hb⟩ := at_of H hg hsl.notUn
              cases hroom : Nat.ble (len + n) cap with
              | true =>
                rw [ble_iff] at hroom
                simp only [cond_true]
                cases hst : h.store i0 (o + len * i.size) new with
                | none => trivial
                | some h' =>
                  have ha := hsl.ptr (show 0 < c by omega)
                  have ha2 : PtrOk φ i0 (o + len * i.size) (ad.add (len * i.size)) := ha.add _
                  obtain ⟨w', k1, k2, k3⟩ := store_ptr (P := P) H ha2 hnew hst
                  refine ⟨_, w', φ, run_valued_ok (v := .slice (some ad) (len + n) c) ?_, .inl ⟨_, rfl, _, _, rfl, hroom, h2, h3, hsl⟩, k2, k3⟩
                  rw [room (some ad) len c (by omega)]
                  simp only [k1, Result.andThen_ok]
              | false =>
                have hnr := nat_ble_false hroom
                simp only [cond_false]
                cases ex with
                | true =>
                  have hcc : c = cap := h3 rfl
                  simp only [cond_true]
                  cases hle : Nat.ble (o + len * i.size) m with
                  | false => trivial
                  | true =>
                    simp only [cond_true]
                    have hcs : h.cellsAt i0 o (len * i.size) = some (getsV cc (len * i.size) o) := by
                      simp only [AHeap.cellsAt, hg, T.ifB_eq]
                      rw [if_pos (show Nat.ble (Nat.add o (len * i.size)) m = true from hle)]
                    obtain ⟨olds, ho1, ho2, ho4, ho3⟩ := olds_of (P := P) (sCap := c) H hsl (by omega) hcs hφ
                    have hrun := grow (some ad) len c olds ho3 (by omega) h63 hfit
                    have hall : VRels φ (getsV cc (len * i.size) o ++ new) (olds ++ news).toList := by rw [Array.toList_append]; exact ho1.append hnew
                    have hstep := grow_step (rest := Builtin.zeroCells z.cells (grownCap w (len + n) c el - (len + n))) (t := el) H hall (fun φ' he => brel_longer (w := w.drew) (VRels.mono he _ _ hall))
                    refine ⟨_, _, _, run_valued_ok hrun, .inl ⟨_, rfl, _, _, rfl, Nat.le_refl _, grownCap_ge _ _ _ _, by simp, SlOk_zero (upd_same _ _ _) ?_⟩, hstep⟩
                    have := grown_size (z := z) hzs ho2 hx.size (grownCap_ge w (len + n) c el)
                    omega
                | false =>
                  simp only [cond_false]
                  cases hcond : (!ro && Nat.beq m (o + len * i.size) && allCells new) with
                  | false => trivial
                  | true =>
                    simp only [Bool.and_eq_true, Bool.not_eq_true', beq_iff] at hcond
                    obtain ⟨⟨rfl, hm⟩, hallc⟩ := hcond
                    have hcs : h.cellsAt i0 o (len * i.size) = some (getsV cc (len * i.size) o) := by
                      simp only [AHeap.cellsAt, hg, T.ifB_eq]
                      rw [if_pos (show Nat.ble (Nat.add o (len * i.size)) m = true from ble_iff.2 (by simp only [Nat.add_eq]; omega))]
                    obtain ⟨olds, ho1, ho2, ho4, ho3⟩ := olds_of (P := P) (sCap := c) H hsl (by omega) hcs hφ
                    have hall : VRels φ (getsV cc (len * i.size) o ++ new) (olds ++ news).toList := by rw [Array.toList_append]; exact ho1.append hnew
                    simp only [cond_true]
                    obtain ⟨vs, ut, fz, hb1, hb2, hb3, hb4, hb5, hb6⟩ := hb
                    have hblt : b < w.heap.size := (Array.getElem?_eq_some_iff.1 hb1).1
                    have hslφ := hsl
                    simp only [SlOk, hφ] at hslφ
                    have hlen0 : (getsV cc (len * i.size) o ++ new).length = (len + n) * i.size := by
                      rw [List.length_append, length_getsV, hnl, Nat.add_mul]
                    -- the abstract block, in two forms
                    have form0 : o = 0 → ∀ k a, (getsV cc (len * i.size) o ++ new)[k]? = some a → ((putsV new cc m).get k).getD .junk = a := by
                      intro h0 k a hk
                      subst h0
                      rw [get_putsV]
                      rcases Nat.lt_or_ge k (len * i.size) with hkl | hkl
                      · rw [if_neg (by omega)]
                        rw [List.getElem?_append_left (by rw [length_getsV]; exact hkl), getElem?_getsV _ _ _ _ hkl, Nat.zero_add] at hk
                        exact Option.some.inj hk
                      · rw [List.getElem?_append_right (by rw [length_getsV]; exact hkl), length_getsV] at hk
                        have hkn : k - len * i.size < new.length := (List.getElem?_eq_some_iff.1 hk).1
                        rw [if_pos (by omega), show k - m = k - len * i.size by omega, hk]; rfl
                    have form1 : ∀ k a, (getsV cc (len * i.size) o ++ new)[k]? = some a → ((putsV (getsV cc (len * i.size) o ++ new) .nil 0).get k).getD .junk = a := by
                      intro k a hk
                      have hkn := (List.getElem?_eq_some_iff.1 hk).1
                      rw [get_putsV, if_pos (by omega), Nat.sub_zero, hk]; rfl
                    rcases Nat.lt_or_ge c (len + n) with hgrow | hin
                    · -- a new row
                      have hrun := grow (some ad) len c olds ho3 hgrow h63 hfit
                      have hdrop := step_drop H hg rfl hφ (w' := w) rfl (fun _ _ => rfl) rfl rfl rfl
                      have hrow := grown_size (z := z) hzs ho2 hx.size (grownCap_ge w (len + n) c el)
                      have hallm := VRels.mono hdrop.2.ext _ _ hall
                      have hcvs : ∀ rest : Array Value, ∀ k, k < (getsV cc (len * i.size) o ++ new).length → (olds ++ news ++ rest)[0 + k]? = (olds ++ news).toList[k]? := by
                        intro rest k hk
                        rw [Nat.zero_add, Array.getElem?_append_left (by rw [Array.size_append, ho2, hx.size, ← Nat.add_mul]; omega), Array.getElem?_toList]
                      cases hoz : Nat.beq o 0 with
                      | true =>
                        rw [beq_iff] at hoz
                        simp only [cond_true]
                        have hstep := grow_step (rest := Builtin.zeroCells z.cells (grownCap w (len + n) c el - (len + n))) (t := el) hdrop.1 hallm
                          (blk := .cells ((len + n) * i.size) (putsV new cc m) (ifB (Nat.beq t0 el) el 0) false)
                          (fun φ' he => brel_of (VRels.mono he _ _ hallm) (heap_alloc_new _ _) (by omega) hlen0.symm (by rw [hrow]; exact Nat.mul_le_mul_right _ (grownCap_ge _ _ _ _)) (form0 hoz) (hcvs _) (.inl rfl)
                            (fun hne => by
                              rw [T.ifB_eq] at hne ⊢
                              split at hne
                              · rename_i hh; rw [if_pos hh]; exact ⟨rfl, rfl⟩
                              · exact absurd rfl hne))
                        refine ⟨_, _, _, run_valued_ok hrun, .inl ⟨_, rfl, _, _, rfl, Nat.le_refl _, grownCap_ge _ _ _ _, by simp, SlOk_zero (upd_same _ _ _) ?_⟩, hstep.1, hdrop.2.trans hstep.2⟩
                        omega
                      | false =>
                        simp only [cond_false]
                        have hstep := grow_step (rest := Builtin.zeroCells z.cells (grownCap w (len + n) c el - (len + n))) (t := el) hdrop.1 hallm
                          (blk := rowOf (getsV cc (len * i.size) o ++ new) 0)
                          (fun φ' he => brel_longer0 (w := w.drew) (VRels.mono he _ _ hallm))
                        refine ⟨_, _, _, run_valued_ok hrun, .inl ⟨_, rfl, _, _, rfl, Nat.le_refl _, grownCap_ge _ _ _ _, by simp, SlOk_zero (upd_same _ _ _) ?_⟩, hstep.1, hdrop.2.trans hstep.2⟩
                        omega
                    · -- in place
                      have had := hslφ.1 (by omega)
                      subst had
                      have hcn : (len + n) * i.size ≤ c * i.size := Nat.mul_le_mul_right _ hin
                      have hone : ∀ v ∈ news.toList, v.oneCell' = true := by
                        intro v hvm
                        obtain ⟨j, hj⟩ := List.getElem?_of_mem hvm
                        have hjl := (List.getElem?_eq_some_iff.1 hj).1
                        have hj' : j < new.length := by rw [hnl, ← hx.size]; simpa using hjl
                        obtain ⟨v', hv', hr⟩ := hnew.get j new[j] (List.getElem?_eq_getElem hj')
                        rw [hj] at hv'; cases hv'
                        exact oneCell_of hr (allCells_iff.1 hallc _ (List.getElem_mem _))
                      have hnlist : news.toList.length = n * i.size := by simpa using hx.size
                      have hmul : (len + n) * i.size = len * i.size + n * i.size := Nat.add_mul _ _ _
                      have hstr := run_stores P news.toList (i := 0) (o := p + o + len * i.size) hb1 (hb5 rfl) (by rw [hnlist]; omega) hone
                      rw [Nat.add_zero] at hstr
                      have hrun : (Builtin.append_ ts ty #[.slice (some ⟨b, p + o, none⟩) len c, x]).run P w = .ok (.slice (some ⟨b, p + o, none⟩) (len + n) c) (World.setRowAt w b (overwrite vs (p + o + len * i.size) news.toList) ut fz) := by
                        rw [room (some ⟨b, p + o, none⟩) len c hin]
                        simp only [add_none, hstr, Result.andThen_ok]
                      have hoe := ho4 vs ut fz hb1
                      have hcvs : ∀ k, k < (getsV cc (len * i.size) o ++ new).length → (overwrite vs (p + o + len * i.size) news.toList)[p + o + k]? = (olds ++ news).toList[k]? := by
                        intro k hk
                        rw [hlen0] at hk
                        rw [get_overwrite _ _ _ _ (by rw [hnlist]; omega), show (olds ++ news).toList[k]? = (olds ++ news)[k]? from Array.getElem?_toList]
                        rcases Nat.lt_or_ge k (len * i.size) with hkl | hkl
                        · rw [if_neg (by omega), Array.getElem?_append_left (by omega), hoe, Array.getElem?_extract]
                          rw [if_pos (by omega)]
                        · rw [if_pos (by rw [hnlist]; omega), Array.getElem?_append_right (by omega), ho2, Array.getElem?_toList]
                          congr 1; omega
                      have hsame := fun k hk => heap_setRowAt_other w (b := b) (k := k) hk (overwrite vs (p + o + len * i.size) news.toList) ut fz
                      have hhere := heap_setRowAt hblt (overwrite vs (p + o + len * i.size) news.toList) ut fz
                      have hext : ∀ p' n', Ext φ (upd (upd φ i0 .dead) h.next (.at b p' n')) := by
                        intro p' n'
                        have hi0 : i0 ≠ h.next := by
                          intro hh; subst hh; rw [H.fresh _ (Nat.le_refl _)] at hφ; cases hφ
                        exact Ext.trans (Ext.upd (s := .dead) (by rw [hφ]; exact .inr rfl)) (Ext.upd (by rw [upd_other φ _ (Ne.symm hi0), H.fresh _ (Nat.le_refl _)]; trivial))
                      cases hoz : Nat.beq o 0 with
                      | true =>
                        rw [beq_iff] at hoz
                        subst hoz
                        simp only [cond_true]
                        have hstep := step_move H hg rfl (blk' := .cells ((len + n) * i.size) (putsV new cc m) (ifB (Nat.beq t0 el) el 0) false) rfl hφ (p' := p) (n' := nn) (w' := World.setRowAt w b (overwrite vs (p + 0 + len * i.size) news.toList) ut fz)
                          (by simp [World.setRowAt]) hsame rfl rfl rfl
                          (brel_of (VRels.mono (hext _ _) _ _ hall) hhere (by rw [size_overwrite]; exact hb2) hlen0.symm (by omega) (form0 rfl) (by simpa using hcvs) (by rw [size_overwrite]; exact hb5 rfl)
                            (fun hne => by
                              rw [T.ifB_eq] at hne ⊢
                              split at hne
                              · rename_i hh; rw [if_pos hh]; rw [beq_iff] at hh; subst hh; exact hb6 hne
                              · exact absurd rfl hne))
                        refine ⟨_, _, _, run_valued_ok hrun, .inl ⟨_, rfl, _, _, rfl, Nat.le_refl _, hin, by simp, ?_⟩, hstep.1, hstep.2⟩
                        simp only [SlOk, upd_same]
                        exact ⟨fun _ => by simp, by omega⟩
                      | false =>
                        simp only [cond_false]
                        have hstep := step_move H hg rfl (blk' := rowOf (getsV cc (len * i.size) o ++ new) 0) rfl hφ (p' := p + o) (n' := nn - o) (w' := World.setRowAt w b (overwrite vs (p + o + len * i.size) news.toList) ut fz)
                          (by simp [World.setRowAt]) hsame rfl rfl rfl
                          (brel_of (VRels.mono (hext _ _) _ _ hall) hhere (by rw [size_overwrite]; omega) (by rw [lenQ_eq]) (by rw [lenQ_eq, hlen0]; omega) form1 hcvs (by rw [size_overwrite]; exact hb5 rfl)
                            (fun hne => absurd rfl hne))
                        refine ⟨_, _, _, run_valued_ok hrun, .inl ⟨_, rfl, _, _, rfl, Nat.le_refl _, hin, by simp, ?_⟩, hstep.1, hstep.2⟩
                        simp only [SlOk, upd_same]
                        exact ⟨fun _ => by simp, by omega⟩
            · trivial
  · trivial

end
end Go.Abs
