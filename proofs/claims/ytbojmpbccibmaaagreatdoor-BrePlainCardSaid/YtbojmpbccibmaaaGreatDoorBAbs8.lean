/- The abstract machine: operations that write nothing old: places, slices, conversions. -/
import Derived.Test.YtbojmpbccibmaaaGreatDoorBAbs7
set_option linter.unusedVariables false
set_option linter.unusedSimpArgs false
set_option linter.unusedSectionVars false
set_option linter.deprecated false
namespace Go.Abs
variable [Val]

theorem add_at (b o k : Nat) : Addr.add ⟨b, o, none⟩ k = ⟨b, o + k, none⟩ := add_none b o k

theorem PtrOk.add {φ : Phi} {i o : Nat} {a : Addr} (k : Nat) (h : PtrOk φ i o a) : PtrOk φ i (o + k) (a.add k) := by
  unfold PtrOk at *
  split at h
  · exact h.elim
  · trivial
  · subst h; rw [add_at, Nat.add_assoc]

section
variable {P : Program} {φ : Phi} {e : Env} {r : Regs}

/-! ### Loads -/

theorem cells_one {cs : List AV} {vs : Array Value} {o : Nat} (h : o + 1 ≤ vs.size) (k : VRels φ cs (vs.extract o (o + 1)).toList) {v : AV} (hv : aggOf false cs = some v) : ∃ cv, vs[o]? = some cv ∧ VRel φ v cv := by
  cases cs with
  | nil => cases hv
  | cons c cs =>
    simp only [aggOf, Option.some.injEq] at hv
    subst hv
    obtain ⟨cv, h1, h2⟩ := k.get 0 c rfl
    rw [Array.getElem?_toList, Array.getElem?_extract] at h1
    split at h1
    · exact ⟨cv, by simpa using h1, h2⟩
    · cases h1

theorem dLoad_ok {t : TypeId} {n : Nat} {g : Bool} {a : Opd} {ca : Value} (hn : sizeT P t = some n) (hg : isAggT P t = some g) (hc : (g || n == 1) = true) (ha : VRel φ (a.ev e r) ca) :
    DOk P φ (valued (Instr.loadAt t ca)) ((dLoad n g a).f e r) := by
  simp only [dLoad]
  split
  · rename_i i o ea
    rw [ea] at ha
    obtain ⟨ad, rfl, hp⟩ := ha
    refine ⟨hp.notUn, ?_⟩
    intro b p m vs u fz w hφ hb hsz hm cs hcs v hv
    simp only [PtrOk, hφ] at hp
    subst hp
    cases g with
    | true =>
      simp only [aggOf, Option.some.injEq] at hv
      subst hv
      refine ⟨.agg (vs.extract (p + o) (p + o + n)), run_valued_ok ?_, _, rfl, hcs⟩
      simp [Instr.loadAt, Instr.sureAddr, loadVar, run_isAggT hg, run_sizeT hn, run_loads P hb n hsz]
    | false =>
      simp only [Bool.false_or, beq_iff_eq] at hc
      subst hc
      obtain ⟨cv, h1, h2⟩ := cells_one hsz hcs hv
      refine ⟨cv, run_valued_ok ?_, h2⟩
      have : w.cell? ⟨b, p + o, none⟩ = some cv := by rw [cell_row hb]; exact h1
      simp [Instr.loadAt, Instr.sureAddr, loadVar, run_isAggT hg, this]
  · trivial

theorem dAddOff_ok {s : TypeId} {fs : Array Field} {f : Nat} {fld : Field} {n : Nat} {x : Opd} {cx : Value} (hu : P.underlying s = some (.struct fs)) (hf : fs[f]? = some fld) (hn : sizeT P fld.type = some n) (h0 : n ≠ 0)
    (hx : VRel φ (x.ev e r) cx) : DOk P φ (valued (Instr.fieldAt s cx f)) ((dAddOff fld.offset x).f e r) := by
  simp only [dAddOff]
  split
  · rename_i i o ex
    rw [ex] at hx
    obtain ⟨a, rfl, hp⟩ := hx
    refine .val_of (.pointer (some (a.add fld.offset))) (fun w => ?_) ⟨_, rfl, hp.add _⟩
    simp [Instr.fieldAt, run_underlying hu, hf, Instr.sureAddr, fieldPlace, run_sizeT hn, h0]
  · trivial

theorem dField_ok {t : TypeId} {fs : Array Field} {f : Nat} {fld : Field} {n : Nat} {g : Bool} {x : Opd} {cx : Value} (hu : P.underlying t = some (.struct fs)) (hf : fs[f]? = some fld) (hn : sizeT P fld.type = some n)
    (hg : isAggT P fld.type = some g) (hc : (g || n == 1) = true) (hx : VRel φ (x.ev e r) cx) : DOk P φ (valued (Instr.field t cx f)) ((dField fld.offset n g x).f e r) := by
  simp only [dField]
  split
  · rename_i cs ex
    rw [ex] at hx
    obtain ⟨vs, rfl, hcs⟩ := hx
    cases hle : Nat.ble (fld.offset + n) cs.length with
    | false => trivial
    | true =>
      rw [ble_iff] at hle
      have hl := hcs.length
      have hsz : vs.size = cs.length := by simpa using hl
      have hk : VRels φ ((cs.drop fld.offset).take n) (vs.extract fld.offset (fld.offset + n)).toList := by
        have := (hcs.drop fld.offset).take n
        rwa [show (vs.extract fld.offset (fld.offset + n)).toList = (vs.toList.drop fld.offset).take n by simp [Array.toList_extract, List.extract]]
      cases g with
      | true =>
        refine .val_of (.agg (vs.extract fld.offset (fld.offset + n))) (fun w => ?_) ⟨_, rfl, hk⟩
        simp [Instr.field, run_underlying hu, hf, part, asAgg, run_isAggT hg, run_sizeT hn]
      | false =>
        simp only [Bool.false_or, beq_iff_eq] at hc
        subst hc
        cases hv : aggOf false ((cs.drop fld.offset).take 1) with
        | none => simp [hv, ofOpt, DOk]
        | some v =>
          obtain ⟨cv, h1, h2⟩ := cells_one (by omega) hk hv
          simp only [cond_true, hv, ofOpt]
          refine .val_of cv (fun w => ?_) h2
          simp [Instr.field, run_underlying hu, hf, part, asAgg, run_isAggT hg, h1]
  · trivial

/-! ### Indices -/

theorem dIdxSl_ok {t el : TypeId} {sz : Nat} {x i : Opd} {cx ci : Value} (hu : P.underlying t = some (.slice el)) (hs : sizeT P el = some sz) (hx : VRel φ (x.ev e r) cx) (hi : VRel φ (i.ev e r) ci) :
    DOk P φ (valued (Instr.indexAt t cx ci)) ((dIdxSl sz x i).f e r) := by
  simp only [dIdxSl]
  split
  · rename_i b o esz len cap ex k n ex' ei
    rw [ex'] at hx; rw [ei] at hi
    simp only [VRel] at hi
    subst hi
    obtain ⟨a, c, rfl, h1, h2, h3, hsl⟩ := hx
    split
    · rename_i m hm
      rw [idxQ_some] at hm
      obtain ⟨hm0, hm1, rfl⟩ := hm
      rw [T.ifB_eq]
      split
      · rename_i he
        rw [beq_iff] at he
        subst he
        refine .val_of (.pointer (some (a.add (n.toNat * esz)))) (fun w => ?_) ⟨_, rfl, ?_⟩
        · simp [Instr.indexAt, asIntOf, run_underlying hu, hm0, hm1, run_sizeT hs]
        · refine PtrOk.add _ ?_
          unfold SlOk at hsl
          unfold PtrOk
          split at hsl
          · exact hsl.elim
          · trivial
          · exact hsl.1 (by omega)
      · trivial
    · trivial
  · trivial

theorem dIdxArr_ok {t el : TypeId} {len sz : Nat} {x i : Opd} {cx ci : Value} (hu : P.underlying t = some (.array len el)) (hs : sizeT P el = some sz) (hx : VRel φ (x.ev e r) cx) (hi : VRel φ (i.ev e r) ci) :
    DOk P φ (valued (Instr.indexAt t cx ci)) ((dIdxArr len sz x i).f e r) := by
  simp only [dIdxArr]
  split
  · rename_i b o k n ex ei
    rw [ex] at hx; rw [ei] at hi
    simp only [VRel] at hi
    subst hi
    obtain ⟨a, rfl, hp⟩ := hx
    split
    · rename_i m hm
      rw [idxQ_some] at hm
      obtain ⟨hm0, hm1, rfl⟩ := hm
      refine .val_of (.pointer (some (a.add (n.toNat * sz)))) (fun w => ?_) ⟨_, rfl, PtrOk.add _ hp⟩
      simp [Instr.indexAt, Instr.sureAddr, asIntOf, run_underlying hu, hm0, hm1, run_sizeT hs]
    · trivial
  · trivial

theorem atQ_eq : ∀ (s : List UInt8) (n : Nat), atQ s n = s[n]?
  | [], n => by simp [atQ]
  | b :: s, 0 => by simp [atQ]
  | b :: s, n + 1 => by simp [atQ, atQ_eq s n]

theorem ba_get? (s : List UInt8) (n : Nat) : (⟨s.toArray⟩ : ByteArray)[n]? = s[n]? := by
  by_cases h : n < s.length
  · rw [List.getElem?_eq_getElem h]
    have hn : n < (⟨s.toArray⟩ : ByteArray).size := by simpa [ByteArray.size] using h
    exact (getElem?_pos (⟨s.toArray⟩ : ByteArray) n hn).trans rfl
  · rw [List.getElem?_eq_none (by omega)]
    have hn : ¬ n < (⟨s.toArray⟩ : ByteArray).size := by simpa [ByteArray.size] using h
    exact getElem?_neg (⟨s.toArray⟩ : ByteArray) n hn

theorem dIdxStr_ok {t : TypeId} {x i : Opd} {cx ci : Value} (hu : P.underlying t = some .string) (hx : VRel φ (x.ev e r) cx) (hi : VRel φ (i.ev e r) ci) :
    DOk P φ (valued (Instr.index t cx ci)) ((dIdxStr x i).f e r) := by
  simp only [dIdxStr]
  split
  · rename_i s k n ex ei
    rw [ex] at hx; rw [ei] at hi
    simp only [VRel] at hi hx
    subst hi; subst hx
    split
    · rename_i m hm
      rw [idxQ_some] at hm
      obtain ⟨hm0, hm1, rfl⟩ := hm
      split
      · rename_i b hb
        rw [atQ_eq] at hb
        refine .val_of (.int .u8 b.toNat) (fun w => ?_) rfl
        simp [Instr.index, asIntOf, run_underlying hu, hm0, ba_get?, hb]
      · trivial
    · trivial
  · rename_i l k n ex ei
    rw [ex] at hx; rw [ei] at hi
    simp only [VRel] at hi
    obtain ⟨s, rfl, hl⟩ := hx
    subst hi
    split
    · rename_i m hm
      rw [idxQ_some] at hm
      obtain ⟨hm0, hm1, rfl⟩ := hm
      split
      · rename_i v hv
        obtain ⟨cv, h1, h2⟩ := hl.get _ _ hv
        rw [List.getElem?_map, Option.map_eq_some_iff] at h1
        obtain ⟨b, hb, rfl⟩ := h1
        refine .val_of (.int .u8 b.toNat) (fun w => ?_) h2
        simp [Instr.index, asIntOf, run_underlying hu, hm0, ba_get?, hb]
      · trivial
    · trivial
  · rename_i s k id ns ex ei
    rw [ex] at hx; rw [ei] at hi
    simp only [VRel] at hx
    obtain ⟨n, hn, rfl⟩ := hi
    subst hx
    refine symO_ok (by rw [List.getElem?_map, hn]; rfl) fun q hq w => ?_
    simp only at hq
    split at hq
    · rename_i m hm
      rw [idxQ_some] at hm
      obtain ⟨hm0, hm1, rfl⟩ := hm
      split at hq
      · rename_i b hb
        cases hq
        rw [atQ_eq] at hb
        simp [Instr.index, asIntOf, run_underlying hu, hm0, ba_get?, hb]
      · cases hq
    · cases hq
  · trivial

end
end Go.Abs
