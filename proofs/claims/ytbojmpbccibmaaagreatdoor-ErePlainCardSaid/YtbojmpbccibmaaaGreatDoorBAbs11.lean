/- The abstract machine: operations that write nothing old: composite values, rows, pointers of no type, functions without a body. -/
import Derived.Test.YtbojmpbccibmaaaGreatDoorBAbs10
import Derived.Laws.MakeOwn
import Derived.Laws.Tables
set_option linter.unusedVariables false
set_option linter.unusedSimpArgs false
set_option linter.unusedSectionVars false
set_option linter.deprecated false
namespace Go.Abs
variable [Val]

/-! ### Rows of zero values -/

theorem made_list (z : Array Value) (n : Nat) : (madeCells z n).toList = (List.range n).map fun i => z[i % z.size]! := by
  simp [madeCells]

theorem range_block (z : Array Value) : ∀ c, ((List.range (c * z.size)).map fun i => z[i % z.size]!) = (List.replicate c z.toList).flatten
  | 0 => by simp
  | c + 1 => by
    rw [List.replicate_succ', List.flatten_append, ← range_block z c, Nat.add_mul, Nat.one_mul, List.range_add, List.map_append]
    congr 1
    rw [List.flatten_singleton, List.map_map]
    apply List.ext_getElem (by simp)
    intro i h1 h2
    have hi : i < z.size := by simpa using h2
    simp only [List.getElem_map, List.getElem_range, Function.comp]
    rw [Nat.add_comm, Nat.add_mul_mod_self_right, Nat.mod_eq_of_lt hi, getElem!_pos z i hi]
    simp

theorem made_block (z : Array Value) (c : Nat) : (madeCells z (c * z.size)).toList = (List.replicate c z.toList).flatten := by
  rw [made_list, range_block]

/-! ### Parts laid over cells -/

theorem lay_list : ∀ (v : List Value) (off : Nat) (cells : Array Value), off + v.length ≤ cells.size →
    ((v.zipIdx.foldl (fun (cs : Array Value) (p : Value × Nat) => cs.setIfInBounds (off + p.2) p.1) cells)).toList = cells.toList.take off ++ v ++ cells.toList.drop (off + v.length) := by
  suffices h : ∀ (v : List Value) (off j : Nat) (cells : Array Value), off + j + v.length ≤ cells.size →
      (((v.zipIdx j).foldl (fun (cs : Array Value) (p : Value × Nat) => cs.setIfInBounds (off + p.2) p.1) cells)).toList = cells.toList.take (off + j) ++ v ++ cells.toList.drop (off + j + v.length) by
    intro v off cells hl
    exact h v off 0 cells hl
  intro v
  induction v with
  | nil => intro off j cells hl; simp
  | cons x v ih =>
    intro off j cells hl
    simp only [List.length_cons] at hl
    rw [List.zipIdx_cons, List.foldl_cons, ih off (j + 1) _ (by simp; omega)]
    have hj : off + j < cells.toList.length := by rw [Array.length_toList]; omega
    have hset : (cells.setIfInBounds (off + j) x).toList = cells.toList.take (off + j) ++ x :: cells.toList.drop (off + j + 1) := by
      rw [Array.toList_setIfInBounds, List.set_eq_take_append_cons_drop, if_pos hj]
    have hlen : (cells.toList.take (off + j)).length = off + j := by rw [List.length_take]; omega
    rw [hset, show off + (j + 1) = off + j + 1 by omega, List.take_append, List.drop_append, hlen, List.take_of_length_le (show (cells.toList.take (off + j)).length ≤ off + j + 1 by omega), List.drop_eq_nil_of_le (show (cells.toList.take (off + j)).length ≤ off + j + 1 + v.length by omega)]
    rw [show off + j + 1 - (off + j) = 1 by omega, show off + j + 1 + v.length - (off + j) = v.length + 1 by omega]
    simp [Nat.add_assoc, Nat.add_comm 1]

/-- Parts are what they are, and each has its place. -/
def PartsOk (φ : Phi) (place : Nat → Option (Nat × Nat)) : List (Nat × Nat × AV) → List (Nat × Value) → Prop
  | [], vs => vs = []
  | p :: ps, vs => ∃ v r, vs = v :: r ∧ place v.1 = some (p.1, p.2.1) ∧ VRel φ p.2.2 v.2 ∧ PartsOk φ place ps r

theorem fill_ok {φ : Phi} (place : Nat → Option (Nat × Nat)) : ∀ (ps : List (Nat × Nat × AV)) (vs : List (Nat × Value)) (cells : List AV) (cc : Array Value) (out : List AV),
    PartsOk φ place ps vs → VRels φ cells cc.toList → fill ps cells = some out → ∃ oc, Instr.fill place cc vs = some oc ∧ VRels φ out oc.toList
  | [], vs, cells, cc, out, hp, hc, hf => by
    simp only [fill, Option.some.injEq] at hf
    subst hf
    simp only [PartsOk] at hp
    subst hp
    exact ⟨cc, rfl, hc⟩
  | (off, n, v) :: ps, vs', cells, cc, out, hps, hc, hf => by
    obtain ⟨⟨i, cv⟩, vs, rfl, hp, hv, hrest⟩ := hps
    simp only at hp hv
    simp only [fill] at hf
    cases hcond : (!v.isJunk && Nat.beq v.cells.length n && Nat.ble (off + n) cells.length) with
    | false => rw [hcond] at hf; cases hf
    | true =>
      rw [hcond, cond_true] at hf
      simp only [Bool.and_eq_true, Bool.not_eq_true', beq_iff, ble_iff] at hcond
      obtain ⟨⟨hj, hn⟩, hle⟩ := hcond
      have hvc := hv.cells hj
      have hlen : cv.cells.size = n := by have := hvc.length; simp at this; omega
      have hcl : cc.size = cells.length := by have := hc.length; simpa using this
      have hlay := lay_list cv.cells.toList off cc (by simp; omega)
      have hrel : VRels φ (cells.take off ++ v.cells ++ cells.drop (off + n)) ((cv.cells.zipIdx.foldl (fun cs (c, j) => cs.setIfInBounds (off + j) c) cc)).toList := by
        rw [← Array.foldl_toList, Array.toList_zipIdx, hlay]
        have := ((hc.take off).append hvc).append (hc.drop (off + n))
        rwa [show off + cv.cells.toList.length = off + n by simp [hlen]]
      obtain ⟨oc, ho, hr⟩ := fill_ok place ps vs _ _ out hrest hrel hf
      refine ⟨oc, ?_, hr⟩
      simp only [Instr.fill, hp, hlen]
      rw [if_neg (by simp; omega)]
      exact ho

section
variable {P : Program} {φ : Phi} {c : Ctx} {e : Env} {r : Regs} {S : Operand → Prop} {ρ : Operand → Value} (H : OpsOk P φ c e r S ρ)
include H

theorem cElems_ok (n : Nat) : ∀ (ps : List (Nat × Operand)) (qs : List (Nat × Nat × Opd)), (∀ p ∈ ps, S p.2) → cElems P c n ps = some qs →
    PartsOk φ (fun i => some (i * n, n)) (evParts qs e r) (ps.map fun p => (p.1, ρ p.2))
  | [], qs, _, h => by
    simp only [cElems] at h; cases h
    rfl
  | p :: ps, qs, hS, h => by
    simp only [cElems] at h
    cases hx : cOpd P c p.2 with
    | none => rw [hx] at h; cases h
    | some x =>
      rw [hx] at h
      simp only [Option.bind_some, Option.map_eq_some_iff] at h
      obtain ⟨qs', hq, rfl⟩ := h
      exact ⟨_, _, rfl, rfl, H _ _ (hS p (by simp)) hx, cElems_ok n ps qs' (fun z hz => hS z (by simp [hz])) hq⟩

theorem cParts_ok (fs : Array Field) (places : Array (Nat × Nat)) (hpl : ∀ (i : Nat) (f : Field) (n : Nat), fs[i]? = some f → sizeT P f.type = some n → places[i]? = some (f.offset, n)) : ∀ (ps : List (Nat × Operand)) (qs : List (Nat × Nat × Opd)), (∀ p ∈ ps, S p.2) → cParts P c fs ps = some qs →
    PartsOk φ (places[·]?) (evParts qs e r) (ps.map fun p => (p.1, ρ p.2))
  | [], qs, _, h => by
    simp only [cParts] at h; cases h
    rfl
  | p :: ps, qs, hS, h => by
    simp only [cParts] at h
    cases hf : fs[p.1]? with
    | none => rw [hf] at h; cases h
    | some f =>
      rw [hf, Option.bind_some] at h
      cases hn : sizeT P f.type with
      | none => rw [hn] at h; cases h
      | some n =>
        rw [hn, Option.bind_some] at h
        cases hx : cOpd P c p.2 with
        | none => rw [hx] at h; cases h
        | some x =>
          rw [hx] at h
          simp only [Option.bind_some, Option.map_eq_some_iff] at h
          obtain ⟨qs', hq, rfl⟩ := h
          exact ⟨_, _, rfl, hpl _ _ _ hf hn, H _ _ (hS p (by simp)) hx, cParts_ok fs places hpl ps qs' (fun z hz => hS z (by simp [hz])) hq⟩

theorem dBuildArr_ok {t el : TypeId} {len n : Nat} {z : AV} {parts : Array (Nat × Operand)} {qs : List (Nat × Nat × Opd)} (hS : ∀ p ∈ parts.toList, S p.2) (hz : zeroT P t = some z) (hu : P.underlying t = some (.array len el)) (hn : sizeT P el = some n)
    (hq : cElems P c n parts.toList = some qs) : DOk P φ (valued (Instr.build t (parts.map fun (i, x) => (i, ρ x)))) ((dBuild z.cells qs).f e r) := by
  obtain ⟨cz, h1, h2⟩ := run_zeroT hz
  simp only [dBuild]
  split
  · rename_i cs hf
    obtain ⟨oc, ho, hr⟩ := fill_ok _ _ _ _ _ _ (cElems_ok H n _ _ hS hq) ((ofValue_rel (φ := φ) cz z h1).cells (ofValue_notJunk cz z h1)) hf
    refine .val_of (.agg oc) (fun w => ?_) ⟨_, rfl, hr⟩
    have hp : (parts.map fun (i, x) => (i, ρ x)).toList = parts.toList.map fun p => (p.1, ρ p.2) := by simp
    simp [Instr.build, h2, run_underlying hu, run_sizeT hn, ho]
  · trivial

theorem dBuildStruct_ok {t : TypeId} {fs : Array Field} {z : AV} {parts : Array (Nat × Operand)} {qs : List (Nat × Nat × Opd)} (hS : ∀ p ∈ parts.toList, S p.2) (hz : zeroT P t = some z) (hu : P.underlying t = some (.struct fs))
    (hall : (fs.toList.all fun f => (sizeT P f.type).isSome) = true)
    (hq : cParts P c fs parts.toList = some qs) : DOk P φ (valued (Instr.build t (parts.map fun (i, x) => (i, ρ x)))) ((dBuild z.cells qs).f e r) := by
  obtain ⟨cz, h1, h2⟩ := run_zeroT hz
  have key : ∀ (w : World) (l : List Field), (l.all fun f => (sizeT P f.type).isSome) = true → (l.mapM fun f => Prod.mk f.offset <$> sizeOf f.type).run P w = .ok (l.map fun f => (f.offset, P.cellsOf f.type)) w := by
    intro w l
    induction l with
    | nil => intro _; simp
    | cons f l ih =>
      intro h
      simp only [List.all_cons, Bool.and_eq_true] at h
      obtain ⟨n, hn⟩ := Option.isSome_iff_exists.1 h.1
      rw [List.mapM_cons]
      simp [run_sizeT hn, cellsOf_sizeT hn, ih h.2]
  have hplaces : ∀ w, (fs.toList.mapM fun f => Prod.mk f.offset <$> sizeOf f.type).run P w = .ok (fs.toList.map fun f => (f.offset, P.cellsOf f.type)) w := fun w => key w _ hall
  simp only [dBuild]
  split
  · rename_i cs hf
    have hpl : ∀ (i : Nat) (f : Field) (n : Nat), fs[i]? = some f → sizeT P f.type = some n → (fs.map fun f => (f.offset, P.cellsOf f.type))[i]? = some (f.offset, n) := by
      intro i f n h h'
      simp [h, cellsOf_sizeT h']
    obtain ⟨oc, ho, hr⟩ := fill_ok _ _ _ _ _ _ (cParts_ok H fs _ hpl _ _ hS hq) ((ofValue_rel (φ := φ) cz z h1).cells (ofValue_notJunk cz z h1)) hf
    refine .val_of (.agg oc) (fun w => ?_) ⟨_, rfl, hr⟩
    have ho' : Instr.fill (fun x => Option.map (fun f => (f.offset, P.cellsOf f.type)) fs[x]?) cz.cells (parts.toList.map fun p => (p.1, ρ p.2)) = some oc := by simpa using ho
    simp only [Instr.build, Sem.run_bind, h2, run_underlying hu, Result.andThen_ok, Array.mapM_eq_mapM_toList]
    simp [hplaces, ho']
  · trivial

theorem dBuildSlice_ok {t el : TypeId} {len n : Nat} {z : AV} {parts : Array (Nat × Operand)} {qs : List (Nat × Nat × Opd)} (hS : ∀ p ∈ parts.toList, S p.2) (hz : zeroT P el = some z) (hu : P.underlying t = some (.slice el)) (hn : sizeT P el = some n)
    (hsz : len * n ≤ 2 ^ 24 ∧ z.cells.length = n ∧ 0 < n) (hq : cElems P c n parts.toList = some qs) :
    DOk P φ (valued (Instr.buildSlice t len (parts.map fun (i, x) => (i, ρ x)))) ((dBuildSlice el n len (List.replicate len z.cells).flatten qs).f e r) := by
  obtain ⟨cz, h1, h2⟩ := run_zeroT hz
  have hzc := (ofValue_rel (φ := φ) cz z h1).cells (ofValue_notJunk cz z h1)
  have hzs : cz.cells.size = n := by have := hzc.length; simp at this; omega
  simp only [dBuildSlice]
  split
  · rename_i cs hf
    have hz0 : VRels φ (List.replicate len z.cells).flatten (madeCells (if len * n = 0 then #[] else cz.cells) (len * n)).toList := by
      by_cases h0 : len = 0
      · subst h0; rw [Nat.zero_mul]; show (madeCells _ 0).toList = []; simp [madeCells]
      · rw [if_neg (by have := Nat.mul_pos (Nat.pos_of_ne_zero h0) hsz.2.2; omega)]
        have := made_block cz.cells len
        rw [hzs] at this
        rw [this]
        exact hzc.replicate len
    obtain ⟨oc, ho, hr⟩ := fill_ok _ _ _ _ _ _ (cElems_ok H n _ _ hS hq) hz0 hf
    have hocs : oc.size = len * n := by
      have a := hr.length
      have fl : ∀ (ps : List (Nat × Nat × AV)) (cells out : List AV), fill ps cells = some out → out.length = cells.length := by
        intro ps
        induction ps with
        | nil => intro cells out h; simp only [fill, Option.some.injEq] at h; rw [h]
        | cons p ps ih =>
          intro cells out h
          obtain ⟨off, k, v⟩ := p
          simp only [fill] at h
          cases hcond : (!v.isJunk && Nat.beq v.cells.length k && Nat.ble (off + k) cells.length) with
          | false => rw [hcond] at h; cases h
          | true =>
            rw [hcond, cond_true] at h
            simp only [Bool.and_eq_true, Bool.not_eq_true', beq_iff, ble_iff] at hcond
            rw [ih _ _ h]; simp; omega
      have b := fl _ _ _ hf
      have cc : ((List.replicate len z.cells).flatten).length = len * n := by simp [hsz.2.1]
      simp at a
      omega
    refine .row oc (fun b => .slice (some ⟨b, 0, none⟩) len len) (fun w => ?_) hr fun φ' b i hi => ⟨_, len, rfl, Nat.le_refl _, Nat.le_refl _, fun _ => rfl, ?_⟩
    · have ho' : Instr.fill (fun i => some (i * n, n)) ((Array.range (len * n)).map ((if len * n = 0 then #[] else cz.cells)[· % (if len * n = 0 then #[] else cz.cells).size]!)) (parts.map fun (i, x) => (i, ρ x)).toList = some oc := by
        have : (parts.map fun (i, x) => (i, ρ x)).toList = parts.toList.map fun p => (p.1, ρ p.2) := by simp
        rw [this]; exact ho
      by_cases h0 : len * n = 0
      · simp only [h0, if_true] at ho'
        simp only [Instr.buildSlice, Sem.run_bind, run_underlying hu, Result.andThen_ok, run_sizeT hn, h0]
        simp only [Array.size_empty, List.size_toArray, List.length_nil, Array.toList_map] at ho'
        simp at ho' ⊢
        simp [ho', newRow]
      · simp only [h0, if_false] at ho'
        simp only [Instr.buildSlice, Sem.run_bind, run_underlying hu, Result.andThen_ok, run_sizeT hn, h0, if_false, h2]
        rw [if_neg (by omega)]
        simp at ho' ⊢
        simp [ho', newRow, h2]
    · simp [SlOk, hi, hocs]
  · trivial

end
end Go.Abs
