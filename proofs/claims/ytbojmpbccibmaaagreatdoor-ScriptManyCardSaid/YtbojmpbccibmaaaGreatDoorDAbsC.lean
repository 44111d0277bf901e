/- The abstract machine: operations that write nothing old: composite values, rows, pointers of no type, functions without a body. -/
import Derived.Test.YtbojmpbccibmaaaGreatDoorDAbsB
import Derived.Laws.MakeOwn
import Derived.Laws.Tables
import Derived.Laws.LoneSync
set_option linter.unusedVariables false
set_option linter.unusedSimpArgs false
set_option linter.unusedSectionVars false
set_option linter.deprecated false
namespace Go.Abs
variable [Fct] [Val]

/-! ### Rows of zero values -/

theorem made_list (z : Array Value) (n : Nat) : (madeCells z n).toList = (List.range n).map fun i => z[i % z.size]! := by
  simp [madeCells]

theorem range_block (z : Array Value) : ∀ c, ((List.range (c * z.size)).map fun i => z[i % z.size]!) = (List.replicate c z.toList).flatten
  | 0 => by simp
  | c + 1 => by
    rw [List.replicate_succ', List.flatten_append, ← range_block z c, Nat.add_mul, Nat.one_mul, List.range_add, List.map_append]
    congr 1
    rw [List.flatten_singleton, List.map_map]
    apply List.ext_getElem (by simp)
    intro i h1 h2
    have hi : i < z.size := by simpa using h2
    simp only [List.getElem_map, List.getElem_range, Function.comp]
    rw [Nat.add_comm, Nat.add_mul_mod_self_right, Nat.mod_eq_of_lt hi, getElem!_pos z i hi]
    simp

theorem made_block (z : Array Value) (c : Nat) : (madeCells z (c * z.size)).toList = (List.replicate c z.toList).flatten := by
  rw [made_list, range_block]

/-! ### Parts laid over cells -/

theorem lay_list : ∀ (v : List Value) (off : Nat) (cells : Array Value), off + v.length ≤ cells.size →
    ((v.zipIdx.foldl (fun (cs : Array Value) (p : Value × Nat) => cs.setIfInBounds (off + p.2) p.1) cells)).toList = cells.toList.take off ++ v ++ cells.toList.drop (off + v.length) := by
  suffices h : ∀ (v : List Value) (off j : Nat) (cells : Array Value), off + j + v.length ≤ cells.size →
      (((v.zipIdx j).foldl (fun (cs : Array Value) (p : Value × Nat) => cs.setIfInBounds (off + p.2) p.1) cells)).toList = cells.toList.take (off + j) ++ v ++ cells.toList.drop (off + j + v.length) by
    intro v off cells hl
    exact h v off 0 cells hl
  intro v
  induction v with
  | nil => intro off j cells hl; simp
  | cons x v ih =>
    intro off j cells hl
    simp only [List.length_cons] at hl
    rw [List.zipIdx_cons, List.foldl_cons, ih off (j + 1) _ (by simp; omega)]
    have hj : off + j < cells.toList.length := by rw [Array.length_toList]; omega
    have hset : (cells.setIfInBounds (off + j) x).toList = cells.toList.take (off + j) ++ x :: cells.toList.drop (off + j + 1) := by
      rw [Array.toList_setIfInBounds, List.set_eq_take_append_cons_drop, if_pos hj]
    have hlen : (cells.toList.take (off + j)).length = off + j := by rw [List.length_take]; omega
    rw [hset, show off + (j + 1) = off + j + 1 by omega, List.take_append, List.drop_append, hlen, List.take_of_length_le (show (cells.toList.take (off + j)).length ≤ off + j + 1 by omega), List.drop_eq_nil_of_le (show (cells.toList.take (off + j)).length ≤ off + j + 1 + v.length by omega)]
    rw [show off + j + 1 - (off + j) = 1 by omega, show off + j + 1 + v.length - (off + j) = v.length + 1 by omega]
    simp [Nat.add_assoc, Nat.add_comm 1]

/-- Parts are what they are, and each has its place. -/
def PartsOk (φ : Phi) (place : Nat → Option (Nat × Nat)) : List (Nat × Nat × AV) → List (Nat × Value) → Prop
  | [], vs => vs = []
  | p :: ps, vs => ∃ v r, vs = v :: r ∧ place v.1 = some (p.1, p.2.1) ∧ VRel φ p.2.2 v.2 ∧ PartsOk φ place ps r

theorem fill_ok {φ : Phi} (place : Nat → Option (Nat × Nat)) : ∀ (ps : List (Nat × Nat × AV)) (vs : List (Nat × Value)) (cells : List AV) (cc : Array Value) (out : List AV),
    PartsOk φ place ps vs → VRels φ cells cc.toList → fill ps cells = some out → ∃ oc, Instr.fill place cc vs = some oc ∧ VRels φ out oc.toList
  | [], vs, cells, cc, out, hp, hc, hf => by
    simp only [fill, Option.some.injEq] at hf
    subst hf
    simp only [PartsOk] at hp
    subst hp
    exact ⟨cc, rfl, hc⟩
  | (off, n, v) :: ps, vs', cells, cc, out, hps, hc, hf => by
    obtain ⟨⟨i, cv⟩, vs, rfl, hp, hv, hrest⟩ := hps
    simp only at hp hv
    simp only [fill] at hf
    cases hcond : (!v.isJunk && Nat.beq v.cells.length n && Nat.ble (off + n) cells.length) with
    | false => rw [hcond] at hf; cases hf
    | true =>
      rw [hcond, cond_true] at hf
      simp only [Bool.and_eq_true, Bool.not_eq_true', beq_iff, ble_iff] at hcond
      obtain ⟨⟨hj, hn⟩, hle⟩ := hcond
      have hvc := hv.cells hj
      have hlen : cv.cells.size = n := by have := hvc.length; simp at this; omega
      have hcl : cc.size = cells.length := by have := hc.length; simpa using this
      have hlay := lay_list cv.cells.toList off cc (by simp; omega)
      have hrel : VRels φ (cells.take off ++ v.cells ++ cells.drop (off + n)) ((cv.cells.zipIdx.foldl (fun cs (c, j) => cs.setIfInBounds (off + j) c) cc)).toList := by
        rw [← Array.foldl_toList, Array.toList_zipIdx, hlay]
        have := ((hc.take off).append hvc).append (hc.drop (off + n))
        rwa [show off + cv.cells.toList.length = off + n by simp [hlen]]
      obtain ⟨oc, ho, hr⟩ := fill_ok place ps vs _ _ out hrest hrel hf
      refine ⟨oc, ?_, hr⟩
      simp only [Instr.fill, hp, hlen]
      rw [if_neg (by simp; omega)]
      exact ho

section
variable {P : Program} {φ : Phi} {c : Ctx} {e : Env} {r : Regs} {S : Operand → Prop} {ρ : Operand → Value} (H : OpsOk P φ c e r S ρ)
include H

theorem cElems_ok (n : Nat) : ∀ (ps : List (Nat × Operand)) (qs : List (Nat × Nat × Opd)), (∀ p ∈ ps, S p.2) → cElems P c n ps = some qs →
    PartsOk φ (fun i => some (i * n, n)) (evParts qs e r) (ps.map fun p => (p.1, ρ p.2))
  | [], qs, _, h => by
    simp only [cElems] at h; cases h
    rfl
  | p :: ps, qs, hS, h => by
    simp only [cElems] at h
    cases hx : cOpd P c p.2 with
    | none => rw [hx] at h; cases h
    | some x =>
      rw [hx] at h
      simp only [Option.bind_some, Option.map_eq_some_iff] at h
      obtain ⟨qs', hq, rfl⟩ := h
      exact ⟨_, _, rfl, rfl, H _ _ (hS p (by simp)) hx, cElems_ok n ps qs' (fun z hz => hS z (by simp [hz])) hq⟩

theorem cParts_ok (fs : Array Field) (places : Array (Nat × Nat)) (hpl : ∀ (i : Nat) (f : Field) (n : Nat), fs[i]? = some f → sizeT P f.type = some n → places[i]? = some (f.offset, n)) : ∀ (ps : List (Nat × Operand)) (qs : List (Nat × Nat × Opd)), (∀ p ∈ ps, S p.2) → cParts P c fs ps = some qs →
    PartsOk φ (places[·]?) (evParts qs e r) (ps.map fun p => (p.1, ρ p.2))
  | [], qs, _, h => by
    simp only [cParts] at h; cases h
    rfl
  | p :: ps, qs, hS, h => by
    simp only [cParts] at h
    cases hf : fs[p.1]? with
    | none => rw [hf] at h; cases h
    | some f =>
      rw [hf, Option.bind_some] at h
      cases hn : sizeT P f.type with
      | none => rw [hn] at h; cases h
      | some n =>
        rw [hn, Option.bind_some] at h
        cases hx : cOpd P c p.2 with
        | none => rw [hx] at h; cases h
        | some x =>
          rw [hx] at h
          simp only [Option.bind_some, Option.map_eq_some_iff] at h
          obtain ⟨qs', hq, rfl⟩ := h
          exact ⟨_, _, rfl, hpl _ _ _ hf hn, H _ _ (hS p (by simp)) hx, cParts_ok fs places hpl ps qs' (fun z hz => hS z (by simp [hz])) hq⟩

theorem dBuildArr_ok {t el : TypeId} {len n : Nat} {z : AV} {parts : Array (Nat × Operand)} {qs : List (Nat × Nat × Opd)} (hS : ∀ p ∈ parts.toList, S p.2) (hz : zeroT P t = some z) (hu : P.underlying t = some (.array len el)) (hn : sizeT P el = some n)
    (hq : cElems P c n parts.toList = some qs) : DOk P φ (valued (Instr.build t (parts.map fun (i, x) => (i, ρ x)))) ((dBuild z.cells qs).f e r) := by
  obtain ⟨cz, h1, h2⟩ := run_zeroT hz
  simp only [dBuild]
  split
  · rename_i cs hf
    obtain ⟨oc, ho, hr⟩ := fill_ok _ _ _ _ _ _ (cElems_ok H n _ _ hS hq) ((ofValue_rel (φ := φ) cz z h1).cells (ofValue_notJunk cz z h1)) hf
    refine .val_of (.agg oc) (fun w => ?_) ⟨_, rfl, hr⟩
    have hp : (parts.map fun (i, x) => (i, ρ x)).toList = parts.toList.map fun p => (p.1, ρ p.2) := by simp
    simp [Instr.build, h2, run_underlying hu, run_sizeT hn, ho]
  · trivial

theorem dBuildStruct_ok {t : TypeId} {fs : Array Field} {z : AV} {parts : Array (Nat × Operand)} {qs : List (Nat × Nat × Opd)} (hS : ∀ p ∈ parts.toList, S p.2) (hz : zeroT P t = some z) (hu : P.underlying t = some (.struct fs))
    (hall : (fs.toList.all fun f => (sizeT P f.type).isSome) = true)
    (hq : cParts P c fs parts.toList = some qs) : DOk P φ (valued (Instr.build t (parts.map fun (i, x) => (i, ρ x)))) ((dBuild z.cells qs).f e r) := by
  obtain ⟨cz, h1, h2⟩ := run_zeroT hz
  have key : ∀ (w : World) (l : List Field), (l.all fun f => (sizeT P f.type).isSome) = true → (l.mapM fun f => Prod.mk f.offset <$> sizeOf f.type).run P w = .ok (l.map fun f => (f.offset, P.cellsOf f.type)) w := by
    intro w l
    induction l with
    | nil => intro _; simp
    | cons f l ih =>
      intro h
      simp only [List.all_cons, Bool.and_eq_true] at h
      obtain ⟨n, hn⟩ := Option.isSome_iff_exists.1 h.1
      rw [List.mapM_cons]
      simp [run_sizeT hn, cellsOf_sizeT hn, ih h.2]
  have hplaces : ∀ w, (fs.toList.mapM fun f => Prod.mk f.offset <$> sizeOf f.type).run P w = .ok (fs.toList.map fun f => (f.offset, P.cellsOf f.type)) w := fun w => key w _ hall
  simp only [dBuild]
  split
  · rename_i cs hf
    have hpl : ∀ (i : Nat) (f : Field) (n : Nat), fs[i]? = some f → sizeT P f.type = some n → (fs.map fun f => (f.offset, P.cellsOf f.type))[i]? = some (f.offset, n) := by
      intro i f n h h'
      simp [h, cellsOf_sizeT h']
    obtain ⟨oc, ho, hr⟩ := fill_ok _ _ _ _ _ _ (cParts_ok H fs _ hpl _ _ hS hq) ((ofValue_rel (φ := φ) cz z h1).cells (ofValue_notJunk cz z h1)) hf
    refine .val_of (.agg oc) (fun w => ?_) ⟨_, rfl, hr⟩
    have ho' : Instr.fill (fun x => Option.map (fun f => (f.offset, P.cellsOf f.type)) fs[x]?) cz.cells (parts.toList.map fun p => (p.1, ρ p.2)) = some oc := by simpa using ho
    simp only [Instr.build, Sem.run_bind, h2, run_underlying hu, Result.andThen_ok, Array.mapM_eq_mapM_toList]
    simp [hplaces, ho']
  · trivial

theorem dBuildSlice_ok {t el : TypeId} {len n : Nat} {z : AV} {parts : Array (Nat × Operand)} {qs : List (Nat × Nat × Opd)} (hS : ∀ p ∈ parts.toList, S p.2) (hz : zeroT P el = some z) (hu : P.underlying t = some (.slice el)) (hn : sizeT P el = some n)
    (hsz : len * n ≤ 2 ^ 24 ∧ z.cells.length = n ∧ 0 < n) (hq : cElems P c n parts.toList = some qs) :
    DOk P φ (valued (Instr.buildSlice t len (parts.map fun (i, x) => (i, ρ x)))) ((dBuildSlice el n len (List.replicate len z.cells).flatten qs).f e r) := by
  obtain ⟨cz, h1, h2⟩ := run_zeroT hz
  have hzc := (ofValue_rel (φ := φ) cz z h1).cells (ofValue_notJunk cz z h1)
  have hzs : cz.cells.size = n := by have := hzc.length; simp at this; omega
  simp only [dBuildSlice]
  split
  · rename_i cs hf
    have hz0 : VRels φ (List.replicate len z.cells).flatten (madeCells (if len * n = 0 then #[] else cz.cells) (len * n)).toList := by
      by_cases h0 : len = 0
      · subst h0; rw [Nat.zero_mul]; show (madeCells _ 0).toList = []; simp [madeCells]
      · rw [if_neg (by have := Nat.mul_pos (Nat.pos_of_ne_zero h0) hsz.2.2; omega)]
        have := made_block cz.cells len
        rw [hzs] at this
        rw [this]
        exact hzc.replicate len
    obtain ⟨oc, ho, hr⟩ := fill_ok _ _ _ _ _ _ (cElems_ok H n _ _ hS hq) hz0 hf
    have hocs : oc.size = len * n := by
      have a := hr.length
      have fl : ∀ (ps : List (Nat × Nat × AV)) (cells out : List AV), fill ps cells = some out → out.length = cells.length := by
        intro ps
        induction ps with
        | nil => intro cells out h; simp only [fill, Option.some.injEq] at h; rw [h]
        | cons p ps ih =>
          intro cells out h
          obtain ⟨off, k, v⟩ := p
          simp only [fill] at h
          cases hcond : (!v.isJunk && Nat.beq v.cells.length k && Nat.ble (off + k) cells.length) with
          | false => rw [hcond] at h; cases h
          | true =>
            rw [hcond, cond_true] at h
            simp only [Bool.and_eq_true, Bool.not_eq_true', beq_iff, ble_iff] at hcond
            rw [ih _ _ h]; simp; omega
      have b := fl _ _ _ hf
      have cc : ((List.replicate len z.cells).flatten).length = len * n := by simp [hsz.2.1]
      simp at a
      omega
    refine .row oc (fun b => .slice (some ⟨b, 0, none⟩) len len) (fun w => ?_) hr fun φ' b i hi => ⟨_, len, rfl, Nat.le_refl _, Nat.le_refl _, fun _ => rfl, ?_⟩
    · have ho' : Instr.fill (fun i => some (i * n, n)) ((Array.range (len * n)).map ((if len * n = 0 then #[] else cz.cells)[· % (if len * n = 0 then #[] else cz.cells).size]!)) (parts.map fun (i, x) => (i, ρ x)).toList = some oc := by
        have : (parts.map fun (i, x) => (i, ρ x)).toList = parts.toList.map fun p => (p.1, ρ p.2) := by simp
        rw [this]; exact ho
      by_cases h0 : len * n = 0
      · simp only [h0, if_true] at ho'
        simp only [Instr.buildSlice, Sem.run_bind, run_underlying hu, Result.andThen_ok, run_sizeT hn, h0]
        simp only [Array.size_empty, List.size_toArray, List.length_nil, Array.toList_map] at ho'
        simp at ho' ⊢
        simp [ho', newRow]
      · simp only [h0, if_false] at ho'
        simp only [Instr.buildSlice, Sem.run_bind, run_underlying hu, Result.andThen_ok, run_sizeT hn, h0, if_false, h2]
        rw [if_neg (by omega)]
        simp at ho' ⊢
        simp [ho', newRow, h2]
    · simp [SlOk, hi, hocs]
  · trivial

end
end Go.Abs

/- The abstract machine: operations that write nothing old: rows made, pointers of no type, functions without a body; and all of them together. -/
namespace Go.Abs
variable [Fct] [Val]

theorem DOk.congr {P : Program} {φ : Phi} {s s' : Sem Next} {d : DRes} (h : ∀ w, s.run P w = s'.run P w) (k : DOk P φ s' d) : DOk P φ s d := by
  cases d <;> simp only [DOk, h] at * <;> exact k

theorem rowAt_mono (p : Program) (fits : TypeId → Bool) : ∀ (d : Nat) (e : TypeId) (c c' off n : Nat), c ≤ c' → rowAt p fits d e c off n = true → rowAt p fits d e c' off n = true
  | 0, _, _, _, _, _, _, h => by simp [rowAt] at h
  | d + 1, e, c, c', off, n, hc, h => by
    simp only [rowAt] at h ⊢
    split
    · rename_i h0; rw [if_pos h0] at h; exact h
    · rename_i h0
      rw [if_neg h0] at h
      simp only [Bool.or_eq_true, Bool.and_eq_true, decide_eq_true_eq] at h ⊢
      rcases h with ⟨⟨h1, h2⟩, h3⟩ | ⟨h1, h2⟩
      · exact .inl ⟨⟨h1, by omega⟩, h3⟩
      · exact .inr ⟨by omega, h2⟩

theorem liesAt_mono (p : Program) : ∀ (d : Nat) (e : TypeId) (c c' off : Nat) (u : TypeId) (n : Nat), c ≤ c' → liesAt p d e c off u n = true → liesAt p d e c' off u n = true
  | 0, _, _, _, _, _, _, _, h => by simp [liesAt] at h
  | d + 1, e, c, c', off, u, n, hc, h => by
    simp only [liesAt, Bool.or_eq_true] at h ⊢
    rcases h with h | h
    · exact .inl (rowAt_mono p _ _ _ _ _ _ _ hc h)
    · refine .inr ?_
      split at h
      · exact liesAt_mono p d e c c' off _ _ hc h
      · cases h

section
variable {P : Program} {φ : Phi} {e : Env} {r : Regs}

theorem dMkSlice_ok {t el : TypeId} {n b : Nat} {z : AV} {x y : Opd} {cx cy : Value} (hu : P.underlying t = some (.slice el)) (hn : sizeT P el = some n) (hb : bytesT P el = some b) (hz : zeroT P el = some z)
    (hzl : z.cells.length = n) (hn0 : 0 < n) (hx : VRel φ (x.ev e r) cx) (hy : VRel φ (y.ev e r) cy) : DOk P φ (valued (Instr.makeSlice t cx cy)) ((dMkSlice el n b z.cells x y).f e r) := by
  simp only [dMkSlice]
  split
  · rename_i k1 a k2 c ex ey
    rw [ex] at hx; rw [ey] at hy
    simp only [VRel] at hx hy
    subst hx; subst hy
    split
    · rename_i cn hcn
      split
      · rename_i m hm
        rw [idxQ_some] at hcn hm
        obtain ⟨hc0, hc1, rfl⟩ := hcn
        obtain ⟨ha0, ha1, rfl⟩ := hm
        cases hle : Nat.ble (c.toNat * b) 1099511627776 with
        | false => trivial
        | true =>
          rw [ble_iff] at hle
          simp only [cond_true]
          cases hi : P.info? el with
          | none => simp [sizeT, hi] at hn
          | some i =>
            have hsz : i.size = n := by simpa [sizeT, hi] using hn
            have hby : i.bytes = b := by simpa [bytesT, hi] using hb
            cases hzz : i.zero with
            | none => simp [zeroT, hi, hzz] at hz
            | some cz =>
              have hov : ofValue cz = some z := by simpa [zeroT, hi, hzz] using hz
              have hzc := (ofValue_rel (φ := φ) cz z hov).cells (ofValue_notJunk cz z hov)
              have hzs : cz.cells.size = n := by have := hzc.length; simp at this; omega
              have hbc : (b : Int) * c ≤ 281474976710656 := by
                have : ((c.toNat * b : Nat) : Int) ≤ 1099511627776 := by omega
                rw [Int.natCast_mul, Int.toNat_of_nonneg hc0, Int.mul_comm] at this
                omega
              have hrun := fun w => run_make (P := P) w t el i cz hu hi hzz k1 k2 a c ha0 (by omega) (by rw [hby]; exact hbc) (by omega)
              rw [hsz] at hrun
              refine .row (madeCells cz.cells (c.toNat * n)) (fun bb => .slice (some ⟨bb, 0, none⟩) a.toNat c.toNat) hrun ?_ fun φ' bb i' hi' => ⟨_, c.toNat, rfl, by omega, Nat.le_refl _, fun _ => rfl, ?_⟩
              · have := made_block cz.cells c.toNat
                rw [hzs] at this
                rw [this]
                exact hzc.replicate _
              · simp [SlOk, hi', size_madeCells]
      · trivial
    · trivial
  · trivial

theorem shape_row {w : World} {b : Nat} {vs : Array Value} {t : TypeId} {fz : Nat × Nat} (h : w.heap[b]? = some (.cells vs t fz)) : w.shape? b = some (t, vs.size) := by
  simp [World.shape?, h]

theorem toUnsafe_ok {s d t : TypeId} {n : Nat} {x : Opd} {cx : Value} (hs : P.underlying s = some (.pointer t)) (hd : P.underlying d = some .unsafePointer) (hn : sizeT P t = some n) (h0 : n ≠ 0) (hx : VRel φ (x.ev e r) cx) :
    DOk P φ (valued (convert s d cx)) ((toUnsafe x).f e r) := by
  simp only [toUnsafe]
  split
  · rename_i ex
    rw [ex] at hx
    simp only [VRel] at hx
    subst hx
    refine .val_of (.pointer none) (fun w => ?_) rfl
    simp [convert, Conv.unsafePointer, run_underlying hs, run_underlying hd]
  · rename_i i o ex
    rw [ex] at hx
    obtain ⟨a, rfl, hp⟩ := hx
    refine ⟨hp.notUn, ?_⟩
    intro b p m vs u fz w hφ hb hsz hm cs hcs v hv
    simp only [Option.some.injEq] at hv
    subst hv
    have hp' := hp
    simp only [PtrOk, hφ] at hp
    subst hp
    refine ⟨.pointer (some ⟨b, p + o, none⟩), run_valued_ok ?_, _, rfl, hp'⟩
    have hi : (P.info? t).map (fun i => decide (i.size = 0)) = some false := by
      unfold sizeT at hn
      cases hi : P.info? t with
      | none => rw [hi] at hn; cases hn
      | some i => rw [hi] at hn; cases hn; simp [h0]
    exact run_convert_to_unsafe hs hd hi (v := vs[p + o]) (by rw [cell_row hb]; exact Array.getElem?_eq_getElem (by omega))
  · trivial

theorem ofUnsafe_ok {s d t : TypeId} {n : Nat} {x : Opd} {cx : Value} (hs : P.underlying s = some .unsafePointer) (hd : P.underlying d = some (.pointer t)) (hn : sizeT P t = some n) (h0 : n ≠ 0) (hx : VRel φ (x.ev e r) cx) :
    DOk P φ (valued (convert s d cx)) ((ofUnsafe (fitsOf P t) x).f e r) := by
  simp only [ofUnsafe]
  split
  · rename_i ex
    rw [ex] at hx
    simp only [VRel] at hx
    subst hx
    refine .val_of (.pointer none) (fun w => ?_) rfl
    simp [convert, Conv.unsafePointer, run_underlying hs, run_underlying hd]
  · rename_i i o ex
    rw [ex] at hx
    obtain ⟨a, rfl, hp⟩ := hx
    refine ⟨hp.notUn, ?_⟩
    intro b m vs u sz fz w hφ hb hsz ho hmem hle
    have hp' := hp
    simp only [PtrOk, hφ, Nat.zero_add] at hp
    subst hp
    refine ⟨.pointer (some ⟨b, o, none⟩), run_valued_ok ?_, _, rfl, hp'⟩
    simp only [List.mem_filterMap] at hmem
    obtain ⟨q, hq, hqe⟩ := hmem
    split at hqe
    · rename_i hqo
      cases hqe
      unfold fitsOf at hq
      rw [List.mem_filter] at hq
      obtain ⟨_, hq⟩ := hq
      simp only [Bool.and_eq_true, blt_iff, beq_iff] at hq
      obtain ⟨h1, h2, h3⟩ := hq
      rw [hqo] at h3
      have hcount : 1 ≤ vs.size / P.cellsOf q.1 := by
        rw [Nat.le_div_iff_mul_le h1]; omega
      have hl := liesAt_mono P P.depth q.1 1 (vs.size / P.cellsOf q.1) o t 1 hcount h3
      simp [convert, Conv.unsafePointer, run_underlying hs, run_underlying hd, Conv.seenAt, viewAt, shape_row hb, run_sizeT hn, h0, variablesAt, hl]
    · cases hqe
  · trivial

theorem dSliceData_ok {ts : Array TypeId} {ty : TypeId} {x : Opd} {cx : Value} (hx : VRel φ (x.ev e r) cx) : DOk P φ (valued (Builtin.unsafeSliceData_ ts ty #[cx])) ((dSliceData x).f e r) := by
  simp only [dSliceData]
  split
  · rename_i ex
    rw [ex] at hx
    obtain ⟨rfl, _⟩ := hx
    exact .val_of (.pointer none) (fun w => rfl) rfl
  · rename_i p esz len cap exx ex
    obtain ⟨i, o⟩ := p
    rw [ex] at hx
    obtain ⟨a, c, rfl, h1, h2, _, hsl⟩ := hx
    cases hl : Nat.blt 0 len with
    | false => trivial
    | true =>
      rw [blt_iff] at hl
      refine .val_of (.pointer (some a)) (fun w => ?_) ⟨_, rfl, hsl.ptr (by omega)⟩
      have hc : c ≠ 0 := by omega
      change (Sem.run P (if c ≠ 0 then pure (Value.pointer (some a)) else _) w) = _
      rw [if_pos hc]; rfl
  · trivial

theorem dMin_ok {ts : Array TypeId} {ty : TypeId} {x y : Opd} {cx cy : Value} (hx : VRel φ (x.ev e r) cx) (hy : VRel φ (y.ev e r) cy) : DOk P φ (valued (Builtin.min_ ts ty #[cx, cy])) ((dMin x y).f e r) := by
  simp only [dMin]
  split
  · rename_i k a k' b ex ey
    rw [ex] at hx; rw [ey] at hy
    simp only [VRel] at hx hy
    subst hx; subst hy
    cases hk : kEq k k' with
    | false => trivial
    | true =>
      refine .val_of (.int k (if b < a then b else a)) (fun w => ?_) ?_
      · simp [Builtin.min_, Builtin.min2]
      · simp only [VRel, ltQ_eq]; by_cases h : b < a <;> simp [h]
  · unfold minS
    split
    · refine int2S_ok hx hy fun a b n e1 e2 hn w => ?_
      subst e1; subst e2
      cases hn
      simp only [ltQ_eq]
      by_cases h : b < a <;> simp [Builtin.min_, Builtin.min2, h]
    · trivial

theorem dMax_ok {ts : Array TypeId} {ty : TypeId} {x y : Opd} {cx cy : Value} (hx : VRel φ (x.ev e r) cx) (hy : VRel φ (y.ev e r) cy) : DOk P φ (valued (Builtin.max_ ts ty #[cx, cy])) ((dMax x y).f e r) := by
  simp only [dMax]
  split
  · rename_i k a k' b ex ey
    rw [ex] at hx; rw [ey] at hy
    simp only [VRel] at hx hy
    subst hx; subst hy
    cases hk : kEq k k' with
    | false => trivial
    | true =>
      refine .val_of (.int k (if b > a then b else a)) (fun w => ?_) ?_
      · simp [Builtin.max_, Builtin.max2]
      · simp only [VRel, ltQ_eq]; by_cases h : a < b <;> simp [h]
  · unfold minS
    split
    · refine int2S_ok hx hy fun a b n e1 e2 hn w => ?_
      subst e1; subst e2
      cases hn
      simp only [ltQ_eq]
      by_cases h : a < b <;> simp [Builtin.max_, Builtin.max2, h]
    · trivial

/-! ### Functions without a body -/

theorem find_mark0 (fn : Func) (h : fn.name = "internal/race.Disable" ∨ fn.name = "internal/race.Enable") : ∃ m, Extern.find fn = some (fun _ => do mark m; pure Extern.Race.none_) := by
  rcases h with h | h <;> unfold Extern.find <;> rw [h]
  · exact ⟨.disable, rfl⟩
  · exact ⟨.enable, rfl⟩

theorem find_marked (fn : Func) (h : fn.name = "internal/race.Acquire" ∨ fn.name = "internal/race.ReleaseMerge") : ∃ m, Extern.find fn = some (Extern.Race.marked m) := by
  rcases h with h | h <;> unfold Extern.find <;> rw [h]
  · exact ⟨.acquire, rfl⟩
  · exact ⟨.releaseMerge, rfl⟩

theorem find_load64 (fn : Func) (h : fn.name = "sync/atomic.LoadInt64") : Extern.find fn = some (Extern.Atomic.loadT (.int .i64)) := by
  unfold Extern.find; rw [h]; rfl

theorem find_loadU32 (fn : Func) (h : fn.name = "sync/atomic.LoadUint32") : Extern.find fn = some (Extern.Atomic.loadT (.int .u32)) := by
  unfold Extern.find; rw [h]; rfl

theorem find_load32 (fn : Func) (h : fn.name = "sync/atomic.LoadInt32") : Extern.find fn = some (Extern.Atomic.loadT (.int .i32)) := by
  unfold Extern.find; rw [h]; rfl

theorem find_store (fn : Func) (h : fn.name = "sync/atomic.StoreUint32") : Extern.find fn = some Extern.Atomic.storeT := by
  unfold Extern.find; rw [h]; rfl

theorem find_add64 (fn : Func) (h : fn.name = "sync/atomic.AddInt64") : Extern.find fn = some (Extern.Atomic.update (Op.intArith .add) .i64 true) := by
  unfold Extern.find; rw [h]; rfl

theorem find_add32 (fn : Func) (h : fn.name = "sync/atomic.AddInt32") : Extern.find fn = some (Extern.Atomic.update (Op.intArith .add) .i32 true) := by
  unfold Extern.find; rw [h]; rfl

theorem find_cas (fn : Func) (h : fn.name = "sync/atomic.CompareAndSwapInt32") : Extern.find fn = some (Extern.Atomic.casT (.int .i32)) := by
  unfold Extern.find; rw [h]; rfl

theorem find_indexByte (fn : Func) (h : fn.name = "internal/bytealg.IndexByteString") : Extern.find fn = some Extern.BytealgIndexByte.indexByte := by
  unfold Extern.find; rw [h]; rfl

theorem find_same (fn : Func) (h : fn.name = "internal/abi.NoEscape") : Extern.find fn = some Extern.AbiNoEscape.same := by
  unfold Extern.find; rw [h]; rfl

theorem indexByte_eq (b : UInt8) : ∀ (s : List UInt8) (i : Nat), indexByte b s i = (match s.findIdx? (· == b) with | some k => ((i + k : Nat) : Int) | none => -1)
  | [], i => by simp [indexByte]
  | c :: s, i => by
    simp only [indexByte, T.ifB_eq, List.findIdx?_cons]
    by_cases h : c = b
    · subst h
      rw [if_pos (b8Q_iff.2 rfl)]; simp
    · rw [if_neg (fun hh => h (b8Q_iff.1 hh)), indexByte_eq b s (i + 1)]
      simp only [beq_iff_eq, h, if_false]
      cases s.findIdx? (· == b) with
      | none => rfl
      | some k => show ((i + 1 + k : Nat) : Int) = ((i + (k + 1) : Nat) : Int); congr 1; omega

theorem firstIdx_eq (s : List UInt8) (b : UInt8) : firstIdx ⟨s.toArray⟩ b = indexByte b s 0 := by
  rw [indexByte_eq]
  unfold firstIdx
  rw [ba_size]
  have key : (List.range s.length).find? (fun i => (⟨s.toArray⟩ : ByteArray)[i]! == b) = s.findIdx? (· == b) := by
    cases h : s.findIdx? (· == b) with
    | none =>
      rw [List.find?_eq_none]
      intro i hi
      rw [List.mem_range] at hi
      rw [List.findIdx?_eq_none_iff] at h
      have := h s[i] (List.getElem_mem hi)
      have e : (⟨s.toArray⟩ : ByteArray)[i]! = s[i] := by
        have hn : i < (⟨s.toArray⟩ : ByteArray).size := by rw [ba_size]; exact hi
        rw [getElem!_pos (⟨s.toArray⟩ : ByteArray) i hn]; rfl
      rw [e]; simpa using this
    | some k =>
      rw [List.findIdx?_eq_some_iff_getElem] at h
      obtain ⟨hk, h1, h2⟩ := h
      have e : ∀ j (hj : j < s.length), (⟨s.toArray⟩ : ByteArray)[j]! = s[j] := by
        intro j hj
        have hn : j < (⟨s.toArray⟩ : ByteArray).size := by rw [ba_size]; exact hj
        rw [getElem!_pos (⟨s.toArray⟩ : ByteArray) j hn]; rfl
      rw [List.find?_range_eq_some]
      refine ⟨by rw [e k hk]; exact h1, by simpa using hk, fun j hj => ?_⟩
      rw [e j (by omega)]
      simpa using h2 j hj
  rw [key]
  cases s.findIdx? (· == b) <;> simp

end
end Go.Abs

/- The abstract machine: all operations that write nothing old. -/
namespace Go.Abs
variable [Fct] [Val]

/-- The literal nil of a kind. -/
def NK.nilV : NK → Value
  | .ptr => .pointer none
  | .sl => .slice none 0 0
  | .map => .map none
  | .fn => .nilFunc
  | .iface => .nilIface

theorem nilOpd_eq {k : NK} {x : Operand} (h : nilOpd k x = true) : x = .const k.nilV := by
  cases k <;> simp only [nilOpd] at h <;> split at h <;> first | rfl | cases h

theorem equalIn_nilR {P : Program} {t : TypeId} {d : TypeDesc} {k : NK} (hu : P.underlying t = some d) (hk : nkOf d = some k) {v : Value} {b : Bool} (hv : cvNil k v = some b) (n : Nat) (w : World) :
    (Op.equalIn (n + 1) t v k.nilV).run P w = .ok b w := by
  cases d <;> simp only [nkOf] at hk <;> cases hk <;> cases v <;> simp only [cvNil] at hv <;> cases hv
  case pointer a => cases a <;> simp [Op.equalIn, run_underlying hu, NK.nilV]
  case slice a l c => cases a <;> simp [Op.equalIn, run_underlying hu, NK.nilV]
  case map a => cases a <;> simp [Op.equalIn, run_underlying hu, NK.nilV]
  all_goals simp [Op.equalIn, run_underlying hu, NK.nilV]

theorem equalIn_nilL {P : Program} {t : TypeId} {d : TypeDesc} {k : NK} (hu : P.underlying t = some d) (hk : nkOf d = some k) {v : Value} {b : Bool} (hv : cvNil k v = some b) (n : Nat) (w : World) :
    (Op.equalIn (n + 1) t k.nilV v).run P w = .ok b w := by
  cases d <;> simp only [nkOf] at hk <;> cases hk <;> cases v <;> simp only [cvNil] at hv <;> cases hv
  case pointer a => cases a <;> simp [Op.equalIn, run_underlying hu, NK.nilV]
  case slice a l c => cases a <;> simp [Op.equalIn, run_underlying hu, NK.nilV]
  case map a => cases a <;> simp [Op.equalIn, run_underlying hu, NK.nilV]
  all_goals simp [Op.equalIn, run_underlying hu, NK.nilV]

section
variable {P : Program} {φ : Phi} {c : Ctx} {e : Env} {r : Regs} {S : Operand → Prop} {ρ : Operand → Value}

/-- A nil on one side: no guard. -/
theorem guard_nilR {k : NK} {v : Value} {b : Bool} (hv : cvNil k v = some b) (op : BinOp) (t : TypeId) (x : Operand) : eqGuard op t x (.const k.nilV) v k.nilV = pure () := by
  cases op <;> cases k <;> cases v <;> simp only [cvNil] at hv <;> cases hv <;> first | rfl | (cases x <;> rfl)

theorem guard_nilL {k : NK} {v : Value} {b : Bool} (hv : cvNil k v = some b) (op : BinOp) (t : TypeId) (y : Operand) : eqGuard op t (.const k.nilV) y k.nilV v = pure () := by
  cases op <;> cases k <;> cases v <;> simp only [cvNil] at hv <;> cases hv <;> rfl

theorem binOp_nilR {k : NK} {v : Value} {b : Bool} (hv : cvNil k v = some b) (t : TypeId) (n : Bool) : binOp (if n then .neq else .eql) t v k.nilV = (do let b ← Op.equal t v k.nilV; pure (.bool (if n then !b else b))) := by
  cases n <;> cases k <;> cases v <;> simp only [cvNil] at hv <;> cases hv <;> rfl

theorem binOp_nilL {k : NK} {v : Value} {b : Bool} (hv : cvNil k v = some b) (t : TypeId) (n : Bool) : binOp (if n then .neq else .eql) t k.nilV v = (do let b ← Op.equal t k.nilV v; pure (.bool (if n then !b else b))) := by
  cases n <;> cases k <;> cases v <;> simp only [cvNil] at hv <;> cases hv <;> rfl

theorem cNil_ok (hρ : ∀ v, ρ (.const v) = v) {k : NK} {op : BinOp} {xt : TypeId} {d : TypeDesc} {x y : Operand} {f : DFn} (hSx : S x) (hSy : S y) (hu : P.underlying xt = some d) (hk : nkOf d = some k) (H : OpsOk P φ c e r S ρ) (h : cNil P c k op x y = some f) :
    DOk P φ (valued (binSem ρ op xt x y)) (f.f e r) := by
  simp only [cNil] at h
  cases hz : againstNil k x y with
  | none => rw [hz] at h; cases h
  | some z =>
    rw [hz, Option.bind_some] at h
    cases ha : cOpd P c z with
    | none => rw [ha] at h; cases h
    | some a =>
      rw [ha, Option.bind_some] at h
      have hSz : S z := by
        unfold againstNil at hz
        split at hz
        · cases hz; exact hSx
        · split at hz
          · cases hz; exact hSy
          · cases hz
      have hzv := H z a hSz ha
      have main : ∀ n : Bool, op = (if n then .neq else .eql) → f = dNil k n a → DOk P φ (valued (binSem ρ op xt x y)) (f.f e r) := by
        intro n hop hf
        subst hf
        refine dNil_ok hzv fun b hb w => ?_
        unfold againstNil at hz
        split at hz
        · rename_i hny
          cases hz
          have := nilOpd_eq hny
          subst this
          simp only [binSem, hρ, guard_nilR hb, pure_bind]
          rw [hop, binOp_nilR hb]
          exact run_equal_of (equalIn_nilR hu hk hb 9999 w) n
        · split at hz
          · rename_i hnx
            cases hz
            have := nilOpd_eq hnx
            subst this
            simp only [binSem, hρ, guard_nilL hb, pure_bind]
            rw [hop, binOp_nilL hb]
            exact run_equal_of (equalIn_nilL hu hk hb 9999 w) n
          · cases hz
      cases op <;> simp only at h <;> cases h
      · exact main false rfl rfl
      · exact main true rfl rfl

theorem guard_bool (op : BinOp) (t : TypeId) (x y : Operand) (b : Bool) (v : Value) : eqGuard op t x y (.bool b) v = pure () := by cases op <;> rfl
theorem guard_str (op : BinOp) (t : TypeId) (x y : Operand) (b : ByteArray) (v : Value) : eqGuard op t x y (.string b) v = pure () := by cases op <;> rfl
theorem guard_ptr (op : BinOp) (t : TypeId) (x y : Operand) (b : Option Addr) (v : Value) : eqGuard op t x y (.pointer b) v = pure () := by cases op <;> rfl

theorem ptr_val {φ : Phi} {x : AV} {v : Value} (h : VRel φ x v) (hp : ∃ a, x = .ptr a) : ∃ a, v = .pointer a := by
  obtain ⟨a, rfl⟩ := hp
  cases a with
  | none => exact ⟨none, h⟩
  | some p => obtain ⟨i, o⟩ := p; obtain ⟨a, rfl, _⟩ := h; exact ⟨_, rfl⟩

theorem cBin_ok (hρ : ∀ v, ρ (.const v) = v) (H : OpsOk P φ c e r S ρ) {op : BinOp} {xt : TypeId} {x y : Operand} {f : DFn} (hSx : S x) (hSy : S y) (h : cBin P c op xt x y = some f) :
    DOk P φ (valued (binSem ρ op xt x y)) (f.f e r) := by
  cases hu : P.underlying xt with
  | none => simp [cBin, hu] at h
  | some d =>
    cases d with
    | int k => exact cBin_int H hSx hSy hu h
    | string =>
      simp only [cBin, hu] at h
      cases ha : cOpd P c x with
      | none => rw [ha] at h; cases h
      | some a =>
        cases hb : cOpd P c y with
        | none => rw [ha, hb] at h; cases h
        | some b =>
          rw [ha, hb] at h
          simp only [Option.bind_some] at h
          have hx := H x a hSx ha
          have hy := H y b hSy hb
          cases op <;> simp only at h <;> cases h
          · exact dCat_ok hx hy fun s t e1 e2 => by simp [binSem, e1, e2, guard_str, binOp]
          · exact dStrEq_ok hx hy fun s t e1 e2 w => by simp [binSem, e1, e2, guard_str, binOp, Op.stringOp]
          · exact dStrEq_ok hx hy fun s t e1 e2 w => by simp [binSem, e1, e2, guard_str, binOp, Op.stringOp]
    | bool =>
      simp only [cBin, hu] at h
      cases ha : cOpd P c x with
      | none => rw [ha] at h; cases h
      | some a =>
        cases hb : cOpd P c y with
        | none => rw [ha, hb] at h; cases h
        | some b =>
          rw [ha, hb] at h
          simp only [Option.bind_some] at h
          have hx := H x a hSx ha
          have hy := H y b hSy hb
          cases op <;> simp only at h <;> cases h
          · refine dBoolEq_ok hx hy fun s t e1 e2 w => ?_
            simp only [binSem, e1, e2, guard_bool, binOp, pure_bind]
            exact run_equal_of (run_equalIn_bool w 9999 xt s t hu) false
          · refine dBoolEq_ok hx hy fun s t e1 e2 w => ?_
            simp only [binSem, e1, e2, guard_bool, binOp, pure_bind]
            exact run_equal_of (run_equalIn_bool w 9999 xt s t hu) true
    | pointer el =>
      simp only [cBin, hu] at h
      split at h
      · exact cNil_ok hρ hSx hSy hu rfl H h
      · cases hn : sizeT P el with
        | none => rw [hn] at h; cases h
        | some n =>
          rw [hn, Option.bind_some] at h
          split at h
          · cases h
          · rename_i h0
            cases ha : cOpd P c x with
            | none => rw [ha] at h; cases h
            | some a =>
              cases hb : cOpd P c y with
              | none => rw [ha, hb] at h; cases h
              | some b =>
                rw [ha, hb] at h
                simp only [Option.bind_some] at h
                have hx := H x a hSx ha
                have hy := H y b hSy hb
                have key : ∀ q : Bool, op = (if q then .neq else .eql) → f = dPtrEq q a b → DOk P φ (valued (binSem ρ op xt x y)) (f.f e r) := by
                  intro q hop hf
                  subst hf
                  by_cases hpx : ∃ p, a.ev e r = .ptr p
                  · by_cases hpy : ∃ p, b.ev e r = .ptr p
                    · obtain ⟨p1, e1⟩ := ptr_val hx hpx
                      obtain ⟨p2, e2⟩ := ptr_val hy hpy
                      refine dPtrEq_ok hu hn h0 hx hy ?_
                      simp only [binSem, e1, e2, guard_ptr, pure_bind, hop]
                      cases q <;> rfl
                    · have : (dPtrEq q a b).f e r = .bad := by
                        simp only [dPtrEq]
                        obtain ⟨p1, e1⟩ := hpx
                        rw [e1]
                        cases e2 : b.ev e r <;> first | (cases p1 <;> rfl; done) | exact (hpy ⟨_, e2⟩).elim
                      rw [this]; trivial
                  · have : (dPtrEq q a b).f e r = .bad := by
                      simp only [dPtrEq]
                      cases e1 : a.ev e r <;> first | (rfl; done) | exact (hpx ⟨_, e1⟩).elim
                    rw [this]; trivial
                cases op <;> simp only at h <;> cases h
                · exact key false rfl rfl
                · exact key true rfl rfl
    | slice el => simp only [cBin, hu] at h; exact cNil_ok hρ hSx hSy hu rfl H h
    | map kt el => simp only [cBin, hu] at h; exact cNil_ok hρ hSx hSy hu rfl H h
    | func a b v => simp only [cBin, hu] at h; exact cNil_ok hρ hSx hSy hu rfl H h
    | interface ms => simp only [cBin, hu] at h; exact cNil_ok hρ hSx hSy hu rfl H h
    | struct fs =>
      simp only [cBin, hu] at h
      cases hp : plainStruct P xt with
      | none => rw [hp] at h; cases h
      | some ks =>
        rw [hp, Option.bind_some] at h
        cases ha : cOpd P c x with
        | none => rw [ha] at h; cases h
        | some a =>
          cases hb : cOpd P c y with
          | none => rw [ha, hb] at h; cases h
          | some b =>
            rw [ha, hb] at h
            simp only [Option.bind_some] at h
            have hx := H x a hSx ha
            have hy := H y b hSy hb
            cases op <;> simp only at h <;> cases h
            · refine dStructEq_ok hp hx hy fun xs ys e1 e2 hg w => ?_
              rw [e1, e2]
              simp only [binSem, e1, e2, eqGuard, binOp]
              simp [hg]
            · refine dStructEq_ok hp hx hy fun xs ys e1 e2 hg w => ?_
              rw [e1, e2]
              simp only [binSem, e1, e2, eqGuard, binOp]
              simp [hg]
    | _ => simp [cBin, hu] at h

end
end Go.Abs

/- The abstract machine: all operations that write nothing old, together. -/
namespace Go.Abs
variable [Fct] [Val]

section
variable {P : Program} {φ : Phi} {c : Ctx} {e : Env} {r : Regs} {S : Operand → Prop} {ρ : Operand → Value}

theorem opdO_ok (H : OpsOk P φ c e r S ρ) {x : Option Operand} {y : Option Opd} (hS : ∀ z, x = some z → S z) (h : cOpdO P c x = some y) : ORel φ e r y (x.map ρ) := by
  cases x with
  | none => simp only [cOpdO, Option.some.injEq] at h; subst h; rfl
  | some x =>
    simp only [cOpdO, Option.map_eq_some_iff] at h
    obtain ⟨z, hz, rfl⟩ := h
    exact ⟨_, rfl, H _ _ (hS _ rfl) hz⟩

/-- What a call of a function without a body comes to. -/
theorem run_call_prim (H : OpsOk P φ c e r S ρ) {o : Oper} {k : Call} {f : FuncId} (hS0 : S (.func f)) {fn : Func} {E : Array Value → Sem Value} (ho : o.op = .call k) (hc : k.callee = .value (.func f)) (hf : P.funcs[f]? = some fn)
    (hname : fn.name ≠ "runtime.NumGoroutine") (hb : fn.body.isSome = false) (hn : (Extern.findNext fn).isNone = true) (he : Extern.find fn = some E) (w : World) :
    (execOp ρ o).run P w = (valued (E (k.args.map ρ))).run P w := by
  have hv := H (.func f) (.func f) hS0 rfl
  obtain ⟨a, b, hfv, ha, hb'⟩ := hv
  simp only [VRels] at ha hb'
  have ha' : a = #[] := Array.toList_eq_nil_iff.1 ha
  have hb'' : b = #[] := Array.toList_eq_nil_iff.1 hb'
  subst ha'; subst hb''
  have hrun := run_callFunc_extern (P := P) (f := f) hf (by simpa using hname) (by simpa using hb) (by simpa using hn) he (k.args.map ρ) w
  simp only [execOp, ho, resolve, hc, hfv, Deferred.ofValue]
  simp [invoke, hrun]

set_option maxHeartbeats 2000000 in
theorem prim_ok (H : OpsOk P φ c e r S ρ) {o : Oper} {k : Call} {f : FuncId} {fn : Func} {p : APrim} {xs : List Opd} {d : DFn} (hS0 : S (.func f)) (hSa : ∀ x ∈ k.args.toList, S x) (ho : o.op = .call k) (hc : k.callee = .value (.func f)) (hf : P.funcs[f]? = some fn)
    (hname : fn.name ≠ "runtime.NumGoroutine") (hb : fn.body.isSome = false) (hn : (Extern.findNext fn).isNone = true) (hp : cPrim fn.name = some p) (hxs : cOpds P c k.args.toList = some xs) (h : primOp p xs = some (.d d)) :
    DOk P φ (execOp ρ o) (d.f e r) := by
  have hargs := evs_ok H _ _ hSa hxs
  have hlen : ∀ {cs : List Value} {x : AV}, VRels φ [x] cs → ∃ cv, cs = [cv] ∧ VRel φ x cv := by
    intro cs x hh
    obtain ⟨v, rr, rfl, h1, h2⟩ := hh
    simp only [VRels] at h2
    subst h2
    exact ⟨v, rfl, h1⟩
  have hone : ∀ {x : Opd}, xs = [x] → ∃ cv, k.args.map ρ = #[cv] ∧ VRel φ (x.ev e r) cv := by
    intro x hx
    subst hx
    obtain ⟨cv, h1, h2⟩ := hlen hargs
    refine ⟨cv, ?_, h2⟩
    apply Array.toList_inj.1
    simpa using h1
  have htwo : ∀ {x y : Opd}, xs = [x, y] → ∃ cv cw, k.args.map ρ = #[cv, cw] ∧ VRel φ (x.ev e r) cv ∧ VRel φ (y.ev e r) cw := by
    intro x y hx
    subst hx
    obtain ⟨cv, rr, h1, h2, h3⟩ := hargs
    obtain ⟨cw, h4, h5⟩ := hlen h3
    subst h4
    refine ⟨cv, cw, ?_, h2, h5⟩
    apply Array.toList_inj.1
    simpa using h1
  have run := fun E he w => run_call_prim (P := P) (E := E) H hS0 ho hc hf hname hb hn he w
  have load : ∀ kk x, Extern.find fn = some (Extern.Atomic.loadT (.int kk)) → xs = [x] → d = dAtomicLoad kk x → DOk P φ (execOp ρ o) (d.f e r) := by
    intro kk x he hx hd
    subst hd
    obtain ⟨cv, h1, h2⟩ := hone hx
    refine DOk.congr (run _ he) ?_
    rw [h1]
    simp only [dAtomicLoad]
    split
    · rename_i i of ex
      rw [ex] at h2
      obtain ⟨a, rfl, hp⟩ := h2
      refine ⟨hp.notUn, ?_⟩
      intro b q m vs u fz w hφ hbk hsz hm cs hcs v hv
      simp only [PtrOk, hφ] at hp
      subst hp
      cases cs with
      | nil => cases hv
      | cons cc cs =>
        simp only [oneInt] at hv
        split at hv
        · rename_i k' n
          rw [T.ifB_eq] at hv
          split at hv
          · rename_i hk
            rw [kEq_iff] at hk
            subst hk
            cases hv
            obtain ⟨cv, hc1, hc2⟩ := cells_one (v := .int k' n) (by omega) hcs rfl
            simp only [VRel] at hc2
            subst hc2
            refine ⟨.int k' n, run_valued_ok ?_, rfl⟩
            have hcell : w.cell? ⟨b, q + of, none⟩ = some (.int k' n) := by rw [cell_row hbk]; exact hc1
            change Sem.run P (do Extern.Atomic.read (.int k') (← asAddr (.pointer (some ⟨b, q + of, none⟩)))) w = _
            simp [Extern.Atomic.read, asAddr, hcell]
          · cases hv
        · cases hv
    · trivial
  unfold cPrim at hp
  split at hp
  · rename_i hnm
    cases hp
    cases h
    obtain ⟨m, hm⟩ := find_mark0 fn hnm
    exact DOk.congr (run _ hm) (.val_of (.tuple #[]) (fun w => rfl) ⟨_, rfl, rfl⟩)
  · split at hp
    · rename_i hnm
      cases hp
      match xs, h with
      | [x], h =>
        cases h
        obtain ⟨m, hm⟩ := find_marked fn hnm
        obtain ⟨cv, h1, h2⟩ := hone rfl
        refine DOk.congr (run _ hm) ?_
        rw [h1]
        simp only [dMarked]
        split
        · rename_i q ex
          rw [ex] at h2
          obtain ⟨i, of⟩ := q
          obtain ⟨a, rfl, _⟩ := h2
          exact .val_of (.tuple #[]) (fun w => rfl) ⟨_, rfl, rfl⟩
        · trivial
    · split at hp
      · rename_i hnm
        cases hp
        match xs, h with
        | [x], h => cases h; exact load _ _ (find_load64 fn hnm) rfl rfl
      · split at hp
        · rename_i hnm
          cases hp
          match xs, h with
          | [x], h => cases h; exact load _ _ (find_loadU32 fn hnm) rfl rfl
        · split at hp
          · rename_i hnm
            cases hp
            match xs, h with
            | [x], h => cases h; exact load _ _ (find_load32 fn hnm) rfl rfl
          · split at hp
            · cases hp
              match xs, h with
              | [x, y], h => cases h
            · split at hp
              · cases hp
                match xs, h with
                | [x, y], h => cases h
              · split at hp
                · cases hp
                  match xs, h with
                  | [x, y], h => cases h
                · split at hp
                  · cases hp
                    match xs, h with
                    | [x, y, z], h => cases h
                  · split at hp
                    · rename_i hnm
                      cases hp
                      match xs, h with
                      | [x, y], h =>
                        cases h
                        obtain ⟨cv, cw, h1, h2, h3⟩ := htwo rfl
                        refine DOk.congr (run _ (find_indexByte fn hnm)) ?_
                        rw [h1]
                        simp only [dIndexByte]
                        split
                        · rename_i s kk b ex ey
                          rw [ex] at h2; rw [ey] at h3
                          simp only [VRel] at h2 h3
                          subst h2; subst h3
                          cases hk : kEq kk .u8 with
                          | false => trivial
                          | true =>
                            rw [kEq_iff] at hk
                            subst hk
                            refine .val_of _ (fun w => run_indexByte_string _ b w) ?_
                            rw [firstIdx_eq]; rfl
                        · trivial
                    · split at hp
                      · rename_i hnm
                        cases hp
                        match xs, h with
                        | [x], h =>
                          cases h
                          obtain ⟨cv, h1, h2⟩ := hone rfl
                          refine DOk.congr (run _ (find_same fn hnm)) ?_
                          rw [h1]
                          simp only [dSame]
                          split
                          · rename_i a ex
                            rw [ex] at h2
                            exact .val_of cv (fun w => rfl) h2
                          · trivial
                      · cases hp


end
end Go.Abs

/- The abstract machine: each operation that is turned into one that writes nothing old. -/
namespace Go.Abs
variable [Fct] [Val]

section
variable {P : Program} {φ : Phi} {c : Ctx} {e : Env} {r : Regs} {S : Operand → Prop} {ρ : Operand → Value}

theorem nilCheck_ok {x : Opd} {y : Operand} {dst : Option Tmp} {ty : TypeId} {pos : String} {aft : Array Edge} {g : Option (Nat × Bool)} (hx : VRel φ (x.ev e r) (ρ y)) :
    DOk P φ (execOp ρ ⟨dst, .nilCheck y, ty, pos, aft, g⟩) ((dNilCheck x).f e r) := by
  simp only [dNilCheck]
  split
  · rename_i a ex
    rw [ex] at hx
    obtain ⟨i, o⟩ := a
    obtain ⟨a, hv, hp⟩ := hx
    refine .val (.pointer (some a)) (fun w => ?_) ⟨_, rfl, hp⟩
    simp [execOp, hv]
  · rename_i i id sc off ex
    rw [ex] at hx
    obtain ⟨h0, a, hv, hp⟩ := hx
    refine .val (.pointer (some a)) (fun w => ?_) ⟨h0, _, rfl, hp⟩
    simp [execOp, hv]
  · rename_i f a b ex
    rw [ex] at hx
    obtain ⟨ca, cb, hv, hp⟩ := hx
    refine .val (.func (.func f) ca cb) (fun w => ?_) ⟨_, _, rfl, hp⟩
    simp [execOp, hv]
  · trivial

/-- A call of a builtin. -/
theorem run_builtin {k : Call} {b : Builtin} {dst : Option Tmp} {ty : TypeId} {pos : String} {aft : Array Edge} {g : Option (Nat × Bool)} (hc : k.callee = .builtin b) :
    ∃ cs, ∀ w, (execOp ρ ⟨dst, .call k, ty, pos, aft, g⟩).run P w = (builtin b k.argTypes ty cs (k.args.map ρ)).run P w := by
  simp only [execOp, resolve, hc, invoke, pure_bind]
  exact ⟨_, fun w => rfl⟩

theorem args1 (H : OpsOk P φ c e r S ρ) {k : Call} {x : Opd} (hSa : ∀ x ∈ k.args.toList, S x) (h : cOpds P c k.args.toList = some [x]) : ∃ cv, k.args.map ρ = #[cv] ∧ VRel φ (x.ev e r) cv := by
  obtain ⟨v, rr, h1, h2, h3⟩ := evs_ok H _ _ hSa h
  simp only [evs, VRels] at h3
  subst h3
  exact ⟨v, Array.toList_inj.1 (by simpa using h1), h2⟩

theorem args2 (H : OpsOk P φ c e r S ρ) {k : Call} {x y : Opd} (hSa : ∀ x ∈ k.args.toList, S x) (h : cOpds P c k.args.toList = some [x, y]) : ∃ cv cw, k.args.map ρ = #[cv, cw] ∧ VRel φ (x.ev e r) cv ∧ VRel φ (y.ev e r) cw := by
  obtain ⟨v, rr, h1, h2, w, rr', h3, h4, h5⟩ := evs_ok H _ _ hSa h
  simp only [evs, VRels] at h5
  subst h5; subst h3
  exact ⟨v, w, Array.toList_inj.1 (by simpa using h1), h2, h4⟩

theorem args3 (H : OpsOk P φ c e r S ρ) {k : Call} {x y z : Opd} (hSa : ∀ x ∈ k.args.toList, S x) (h : cOpds P c k.args.toList = some [x, y, z]) : ∃ cv cw cu, k.args.map ρ = #[cv, cw, cu] ∧ VRel φ (x.ev e r) cv ∧ VRel φ (y.ev e r) cw ∧ VRel φ (z.ev e r) cu := by
  obtain ⟨v, rr, h1, h2, w, rr', h3, h4, u, rr'', h5, h6, h7⟩ := evs_ok H _ _ hSa h
  simp only [evs, VRels] at h7
  subst h7; subst h5; subst h3
  exact ⟨v, w, u, Array.toList_inj.1 (by simpa using h1), h2, h4, h6⟩

theorem types0 {ts : Array TypeId} {t : TypeId} {r : List TypeId} (h : ts.toList = t :: r) : ts[0]? = some t := by
  rw [← Array.getElem?_toList, h]; rfl

theorem types1 {ts : Array TypeId} {t u : TypeId} {r : List TypeId} (h : ts.toList = t :: u :: r) : ts[1]? = some u := by
  rw [← Array.getElem?_toList, h]; rfl

theorem cBuiltin_d (H : OpsOk P φ c e r S ρ) {k : Call} {b : Builtin} {ty : TypeId} {xs : List Opd} {d : DFn} {cs : Array Bool} (hSa : ∀ x ∈ k.args.toList, S x)
    (hxs : cOpds P c k.args.toList = some xs) (h : cBuiltin P b k.argTypes.toList xs = some (.d d)) :
    DOk P φ (builtin b k.argTypes ty cs (k.args.map ρ)) (d.f e r) := by
  generalize hts : k.argTypes.toList = ts at h
  unfold cBuiltin at h
  split at h
  · rename_i t _ x
    obtain ⟨cv, h1, h2⟩ := args1 H hSa hxs
    rw [h1]
    split at h
    · rename_i hu; cases h; exact dLenStr_ok (types0 hts) hu h2
    · rename_i hu; cases h; exact dLenSl_ok (types0 hts) hu h2
    · rename_i hu; cases h; exact dLenMap_ok (types0 hts) hu h2
    · cases h
  · split at h
    · simp only [Option.bind_eq_some_iff] at h; obtain ⟨_, _, _, _, _, _, h⟩ := h; split at h <;> cases h
    · simp only [Option.bind_eq_some_iff] at h; obtain ⟨_, _, _, _, _, _, h⟩ := h; split at h <;> cases h
    · cases h
  · obtain ⟨cv, cw, h1, h2, h3⟩ := args2 H hSa hxs
    rw [h1]
    split at h
    · cases h; exact dMin_ok h2 h3
    · cases h
  · obtain ⟨cv, cw, h1, h2, h3⟩ := args2 H hSa hxs
    rw [h1]
    split at h
    · cases h; exact dMax_ok h2 h3
    · cases h
  · split at h
    · simp only [Option.bind_eq_some_iff] at h; obtain ⟨_, _, h⟩ := h; cases h
    · cases h
  · cases h
  · obtain ⟨cv, h1, h2⟩ := args1 H hSa hxs
    rw [h1]
    cases h
    exact dSliceData_ok h2
  · split at h
    · split at h <;> cases h
    · cases h
  · cases h

theorem cCall_d (H : OpsOk P φ c e r S ρ) {k : Call} (hS : ∀ x ∈ k.operands.toList, S x) {d : DFn} {dst : Option Tmp} {ty : TypeId} {pos : String} {aft : Array Edge} {g : Option (Nat × Bool)} (h : cCall P c k = some (.d d)) :
    DOk P φ (execOp ρ ⟨dst, .call k, ty, pos, aft, g⟩) (d.f e r) := by
  have hSa : ∀ x ∈ k.args.toList, S x := fun x hx => hS x (by simp [Call.operands] at hx ⊢; exact .inr hx)
  simp only [cCall] at h
  cases hxs : cOpds P c k.args.toList with
  | none => rw [hxs] at h; cases h
  | some xs =>
    rw [hxs, Option.bind_some] at h
    split at h
    · cases h
    · rename_i b hb
      obtain ⟨cs, hrun⟩ := run_builtin (ρ := ρ) (dst := dst) (ty := ty) (pos := pos) (aft := aft) (g := g) hb
      exact DOk.congr hrun (cBuiltin_d H hSa hxs h)
    · rename_i f hf
      cases hfn : P.funcs[f]? with
      | none => rw [hfn] at h; cases h
      | some fn =>
        rw [hfn, Option.bind_some] at h
        split at h
        · cases h
        · rename_i h1
          split at h
          · cases h
          · rename_i h2
            split at h
            · rename_i h3
              cases hp : cPrim fn.name with
              | none => rw [hp] at h; cases h
              | some p =>
                rw [hp, Option.bind_some] at h
                exact prim_ok (k := k) H (hS _ (by simp [Call.operands, hf])) hSa rfl hf hfn h1 (by simpa using h2) h3 hp hxs h
            · cases h
    · simp only [Option.bind_eq_some_iff] at h; obtain ⟨_, _, h⟩ := h; cases h

set_option maxHeartbeats 1000000 in
theorem cOp_d (hρ : ∀ v, ρ (.const v) = v) (H : OpsOk P φ c e r S ρ) {o : Oper} (hS : ∀ x ∈ o.op.operands.toList, S x) {d : DFn} (h : cOp P c o.op = some (.d d)) : DOk P φ (execOp ρ o) (d.f e r) := by
  obtain ⟨dst, op, ty, pos, aft, g⟩ := o
  simp only at h hS
  cases op with
  | move x => simp only [cOp, Option.map_eq_some_iff] at h; obtain ⟨_, _, h⟩ := h; cases h
  | assign x => simp only [cOp, Option.map_eq_some_iff] at h; obtain ⟨_, _, h⟩ := h; cases h
  | pick x a b =>
    simp only [cOp, Option.bind_eq_some_iff, Option.map_eq_some_iff] at h
    obtain ⟨x', hx, a', ha, b', hb, h⟩ := h
    cases h
    exact dPick_ok (H _ _ (hS _ (by simp [Op.operands])) hx) (H _ _ (hS _ (by simp [Op.operands])) ha) (H _ _ (hS _ (by simp [Op.operands])) hb)
  | alloc t =>
    simp only [cOp, Option.map_eq_some_iff] at h
    obtain ⟨z, hz, h⟩ := h
    cases h
    exact dAlloc_ok hz
  | box t x =>
    simp only [cOp, Option.map_eq_some_iff] at h
    obtain ⟨x', hx, h⟩ := h
    cases h
    exact dBox_ok (H _ _ (hS _ (by simp [Op.operands])) hx)
  | build t parts =>
    simp only [cOp, Option.bind_eq_some_iff] at h
    obtain ⟨z, hz, h⟩ := h
    split at h
    · rename_i fs hu
      split at h
      · rename_i hall
        simp only [Option.map_eq_some_iff] at h
        obtain ⟨ps, hps, h⟩ := h
        cases h
        exact dBuildStruct_ok H (fun p hp => hS _ (by simp [Op.operands]; exact ⟨p.1, by simpa using hp⟩)) hz hu hall hps
      · cases h
    · rename_i n el hu
      simp only [Option.bind_eq_some_iff, Option.map_eq_some_iff] at h
      obtain ⟨n, hn, ps, hps, h⟩ := h
      cases h
      exact dBuildArr_ok H (fun p hp => hS _ (by simp [Op.operands]; exact ⟨p.1, by simpa using hp⟩)) hz hu hn hps
    · cases h
  | buildSlice t len parts =>
    simp only [cOp] at h
    split at h
    · rename_i el hu
      simp only [Option.bind_eq_some_iff] at h
      obtain ⟨n, hn, z, hz, h⟩ := h
      split at h
      · rename_i hc
        simp only [Option.map_eq_some_iff] at h
        obtain ⟨ps, hps, h⟩ := h
        cases h
        exact dBuildSlice_ok H (fun p hp => hS _ (by simp [Op.operands]; exact ⟨p.1, by simpa using hp⟩)) hz hu hn hc hps
      · cases h
    · cases h
  | insert t m k v =>
    simp only [cOp, cOp.cMapUpdate, Option.bind_eq_some_iff] at h
    obtain ⟨_, _, _, _, _, _, h⟩ := h
    split at h
    · simp only [Option.map_eq_some_iff] at h; obtain ⟨_, _, h⟩ := h; cases h
    · cases h
  | load t a =>
    simp only [cOp, Option.bind_eq_some_iff] at h
    obtain ⟨n, hn, gg, hg, a', ha, h⟩ := h
    split at h
    · rename_i hc; cases h; exact dLoad_ok hn hg hc (H _ _ (hS _ (by simp [Op.operands])) ha)
    · cases h
  | store t a v =>
    simp only [cOp, Option.bind_eq_some_iff, Option.map_eq_some_iff] at h
    obtain ⟨_, _, _, _, _, _, h⟩ := h
    cases h
  | ready g => cases h
  | waits g => cases h
  | nilCheck x =>
    simp only [cOp, Option.map_eq_some_iff] at h
    obtain ⟨x', hx, h⟩ := h
    cases h
    exact nilCheck_ok (H _ _ (hS _ (by simp [Op.operands])) hx)
  | binOp op xt x y yt =>
    simp only [cOp, Option.map_eq_some_iff] at h
    obtain ⟨f, hf, h⟩ := h
    cases h
    exact cBin_ok hρ H (hS _ (by simp [Op.operands])) (hS _ (by simp [Op.operands])) hf
  | unOp op xt x =>
    simp only [cOp, Option.bind_eq_some_iff] at h
    obtain ⟨x', hx, h⟩ := h
    split at h
    · cases h; exact dNeg_ok (H _ _ (hS _ (by simp [Op.operands])) hx) _
    · cases h; exact dBitNot_ok (H _ _ (hS _ (by simp [Op.operands])) hx) _
    · cases h; exact dNot_ok (H _ _ (hS _ (by simp [Op.operands])) hx)
    · cases h
  | convert s dd x =>
    simp only [cOp, Option.bind_eq_some_iff] at h
    obtain ⟨x', hx, h⟩ := h
    split at h
    · rename_i h1 h2; cases h; exact dConv_ok h1 h2 (H _ _ (hS _ (by simp [Op.operands])) hx)
    · rename_i h1 h2; cases h; exact dRuneToStr_ok h1 h2 (H _ _ (hS _ (by simp [Op.operands])) hx)
    · rename_i h1 h2
      split at h
      · rename_i h3; cases h; exact dBytesToStr_ok h1 h3 h2 (H _ _ (hS _ (by simp [Op.operands])) hx)
      · cases h
    · rename_i h1 h2
      simp only [Option.bind_eq_some_iff] at h
      obtain ⟨n, hn, h⟩ := h
      split at h
      · cases h
      · rename_i h0; cases h; exact toUnsafe_ok h1 h2 hn h0 (H _ _ (hS _ (by simp [Op.operands])) hx)
    · rename_i h1 h2
      simp only [Option.bind_eq_some_iff] at h
      obtain ⟨n, hn, h⟩ := h
      split at h
      · cases h
      · rename_i h0; cases h; exact ofUnsafe_ok h1 h2 hn h0 (H _ _ (hS _ (by simp [Op.operands])) hx)
    · split at h
      · split at h <;> cases h
      · cases h
    · cases h
  | makeInterface t x =>
    simp only [cOp] at h
    split at h
    · cases h
    · rename_i dd hnot hu
      simp only [Option.map_eq_some_iff] at h
      obtain ⟨x', hx, h⟩ := h
      cases h
      exact dIface_ok hu hnot (H _ _ (hS _ (by simp [Op.operands])) hx)
    · cases h
  | makeFunc fn first captured =>
    cases fn with
    | func f =>
      simp only [cOp, Option.bind_eq_some_iff, Option.map_eq_some_iff] at h
      obtain ⟨a, ha, b, hb, h⟩ := h
      cases h
      exact dFunc_ok (by simpa using evs_ok H _ _ (fun x hx => hS x (by simp [Op.operands] at hx ⊢; exact .inl hx)) ha) (by simpa using evs_ok H _ _ (fun x hx => hS x (by simp [Op.operands] at hx ⊢; exact .inr hx)) hb)
    | _ => cases h
  | makeMap t rs =>
    cases rs with
    | none => cases h; exact dMkMap_ok
    | some _ => cases h
  | makeSlice t l k =>
    simp only [cOp] at h
    split at h
    · rename_i el hu
      simp only [Option.bind_eq_some_iff] at h
      obtain ⟨n, hn, b, hb, z, hz, l', hl, k', hk, h⟩ := h
      split at h
      · rename_i hc
        cases h
        exact dMkSlice_ok hu hn hb hz hc.1 hc.2 (H _ _ (hS _ (by simp [Op.operands])) hl) (H _ _ (hS _ (by simp [Op.operands])) hk)
      · cases h
    · cases h
  | slice t x lo hi mx =>
    simp only [cOp, Option.bind_eq_some_iff] at h
    obtain ⟨x', hx, lo', hlo, hi', hhi, mx', hmx, h⟩ := h
    split at h
    · rename_i hu
      split at h
      · rename_i hn; cases h; exact dSliceStr_ok hu (H _ _ (hS _ (by simp [Op.operands])) hx) (opdO_ok H (fun z hz => hS _ (by simp [Op.operands, hz])) hlo) (opdO_ok H (fun z hz => hS _ (by simp [Op.operands, hz])) hhi) (opdO_ok H (fun z hz => hS _ (by simp [Op.operands, hz])) hmx) hn
      · cases h
    · rename_i el hu
      simp only [Option.bind_eq_some_iff] at h
      obtain ⟨n, hn, h⟩ := h
      split at h
      · cases h
      · rename_i hc
        cases h
        refine dSliceSl_ok hu hn (H _ _ (hS _ (by simp [Op.operands])) hx) (opdO_ok H (fun z hz => hS _ (by simp [Op.operands, hz])) hlo) (opdO_ok H (fun z hz => hS _ (by simp [Op.operands, hz])) hhi) (opdO_ok H (fun z hz => hS _ (by simp [Op.operands, hz])) hmx) fun hm => ?_
        rw [hm] at hc
        cases hi' <;> simp_all
    · rename_i n el hu
      simp only [Option.bind_eq_some_iff] at h
      obtain ⟨n', hn', h⟩ := h
      split at h
      · rename_i hn; cases h; exact dSliceArr_ok hu hn' (H _ _ (hS _ (by simp [Op.operands])) hx) (opdO_ok H (fun z hz => hS _ (by simp [Op.operands, hz])) hlo) (opdO_ok H (fun z hz => hS _ (by simp [Op.operands, hz])) hhi) (opdO_ok H (fun z hz => hS _ (by simp [Op.operands, hz])) hmx) hn
      · cases h
    · cases h
  | fieldAddr s x f =>
    simp only [cOp] at h
    split at h
    · rename_i fs hu
      simp only [Option.bind_eq_some_iff] at h
      obtain ⟨fld, hf, n, hn, h⟩ := h
      split at h
      · cases h
      · rename_i h0
        simp only [Option.map_eq_some_iff] at h
        obtain ⟨x', hx, h⟩ := h
        cases h
        exact dAddOff_ok hu hf hn h0 (H _ _ (hS _ (by simp [Op.operands])) hx)
    · cases h
  | field t x f =>
    simp only [cOp] at h
    split at h
    · rename_i fs hu
      simp only [Option.bind_eq_some_iff] at h
      obtain ⟨fld, hf, n, hn, gg, hg, x', hx, h⟩ := h
      split at h
      · rename_i hc; cases h; exact dField_ok hu hf hn hg hc (H _ _ (hS _ (by simp [Op.operands])) hx)
      · cases h
    · cases h
  | indexAddr t x i =>
    simp only [cOp, Option.bind_eq_some_iff] at h
    obtain ⟨x', hx, i', hi, h⟩ := h
    split at h
    · rename_i el hu
      simp only [Option.map_eq_some_iff] at h
      obtain ⟨n, hn, h⟩ := h
      cases h
      exact dIdxSl_ok hu hn (H _ _ (hS _ (by simp [Op.operands])) hx) (H _ _ (hS _ (by simp [Op.operands])) hi)
    · rename_i el hu
      simp only [Option.map_eq_some_iff] at h
      obtain ⟨n, hn, h⟩ := h
      cases h
      exact dIdxArr_ok hu hn (H _ _ (hS _ (by simp [Op.operands])) hx) (H _ _ (hS _ (by simp [Op.operands])) hi)
    · cases h
  | index t x i =>
    simp only [cOp, Option.bind_eq_some_iff] at h
    obtain ⟨x', hx, i', hi, h⟩ := h
    split at h
    · rename_i hu; cases h; exact dIdxStr_ok hu (H _ _ (hS _ (by simp [Op.operands])) hx) (H _ _ (hS _ (by simp [Op.operands])) hi)
    · cases h
  | lookup t x i ok =>
    simp only [cOp, Option.bind_eq_some_iff] at h
    obtain ⟨x', hx, i', hi, h⟩ := h
    split at h
    · rename_i kt el hu
      simp only [Option.bind_eq_some_iff, Option.map_eq_some_iff] at h
      obtain ⟨kk, hk, z, hz, h⟩ := h
      cases h
      exact dLookup_ok hu hk hz (H _ _ (hS _ (by simp [Op.operands])) hx) (H _ _ (hS _ (by simp [Op.operands])) hi)
    · cases h
  | mapUpdate t m k v =>
    simp only [cOp, cOp.cMapUpdate, Option.bind_eq_some_iff] at h
    obtain ⟨_, _, _, _, _, _, h⟩ := h
    split at h
    · simp only [Option.map_eq_some_iff] at h; obtain ⟨_, _, h⟩ := h; cases h
    · cases h
  | range t x =>
    simp only [cOp, Option.bind_eq_some_iff] at h
    obtain ⟨x', hx, h⟩ := h
    split at h
    · rename_i hu; cases h; exact dRangeStr_ok hu (H _ _ (hS _ (by simp [Op.operands])) hx)
    · cases h
  | next x s =>
    cases s with
    | true => simp only [cOp, Option.map_eq_some_iff] at h; obtain ⟨_, _, h⟩ := h; cases h
    | false => cases h
  | typeAssert x xt t ok =>
    cases ok with
    | false => cases h
    | true =>
      simp only [cOp, Option.bind_eq_some_iff] at h
      obtain ⟨x', hx, h⟩ := h
      split at h
      · cases h
      · rename_i dd hnot hu
        simp only [Option.map_eq_some_iff] at h
        obtain ⟨z, hz, h⟩ := h
        cases h
        exact dAssert_ok hu hnot hz (H _ _ (hS _ (by simp [Op.operands])) hx)
      · cases h
  | extract x i =>
    simp only [cOp, Option.map_eq_some_iff] at h
    obtain ⟨x', hx, h⟩ := h
    cases h
    exact dExtract_ok (H _ _ (hS _ (by simp [Op.operands])) hx)
  | call k => exact cCall_d H hS h
  | defer k =>
    simp only [cOp] at h
    split at h
    · simp only [Option.bind_eq_some_iff, Option.map_eq_some_iff] at h
      obtain ⟨_, _, _, _, h⟩ := h
      cases h
    · cases h
  | panic x => simp only [cOp, Option.map_eq_some_iff] at h; obtain ⟨_, _, h⟩ := h; cases h
  | _ => cases h

end
end Go.Abs
