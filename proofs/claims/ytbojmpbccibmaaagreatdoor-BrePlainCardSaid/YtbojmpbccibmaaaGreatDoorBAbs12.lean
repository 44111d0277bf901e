/- The abstract machine: operations that write nothing old: rows made, pointers of no type, functions without a body; and all of them together. -/
import Derived.Test.YtbojmpbccibmaaaGreatDoorBAbs11
import Derived.Laws.LoneSync
set_option linter.unusedVariables false
set_option linter.unusedSimpArgs false
set_option linter.unusedSectionVars false
set_option linter.deprecated false
namespace Go.Abs
variable [Val]

theorem DOk.congr {P : Program} {φ : Phi} {s s' : Sem Next} {d : DRes} (h : ∀ w, s.run P w = s'.run P w) (k : DOk P φ s' d) : DOk P φ s d := by
  cases d <;> simp only [DOk, h] at * <;> exact k

theorem rowAt_mono (p : Program) (fits : TypeId → Bool) : ∀ (d : Nat) (e : TypeId) (c c' off n : Nat), c ≤ c' → rowAt p fits d e c off n = true → rowAt p fits d e c' off n = true
  | 0, _, _, _, _, _, _, h => by simp [rowAt] at h
  | d + 1, e, c, c', off, n, hc, h => by
    simp only [rowAt] at h ⊢
    split
    · rename_i h0; rw [if_pos h0] at h; exact h
    · rename_i h0
      rw [if_neg h0] at h
      simp only [Bool.or_eq_true, Bool.and_eq_true, decide_eq_true_eq] at h ⊢
      rcases h with ⟨⟨h1, h2⟩, h3⟩ | ⟨h1, h2⟩
      · exact .inl ⟨⟨h1, by omega⟩, h3⟩
      · exact .inr ⟨by omega, h2⟩

theorem liesAt_mono (p : Program) : ∀ (d : Nat) (e : TypeId) (c c' off : Nat) (u : TypeId) (n : Nat), c ≤ c' → liesAt p d e c off u n = true → liesAt p d e c' off u n = true
  | 0, _, _, _, _, _, _, _, h => by simp [liesAt] at h
  | d + 1, e, c, c', off, u, n, hc, h => by
    simp only [liesAt, Bool.or_eq_true] at h ⊢
    rcases h with h | h
    · exact .inl (rowAt_mono p _ _ _ _ _ _ _ hc h)
    · refine .inr ?_
      split at h
      · exact liesAt_mono p d e c c' off _ _ hc h
      · cases h

section
variable {P : Program} {φ : Phi} {e : Env} {r : Regs}

theorem dMkSlice_ok {t el : TypeId} {n b : Nat} {z : AV} {x y : Opd} {cx cy : Value} (hu : P.underlying t = some (.slice el)) (hn : sizeT P el = some n) (hb : bytesT P el = some b) (hz : zeroT P el = some z)
    (hzl : z.cells.length = n) (hn0 : 0 < n) (hx : VRel φ (x.ev e r) cx) (hy : VRel φ (y.ev e r) cy) : DOk P φ (valued (Instr.makeSlice t cx cy)) ((dMkSlice el n b z.cells x y).f e r) := by
  simp only [dMkSlice]
  split
  · rename_i k1 a k2 c ex ey
    rw [ex] at hx; rw [ey] at hy
    simp only [VRel] at hx hy
    subst hx; subst hy
    split
    · rename_i cn hcn
      split
      · rename_i m hm
        rw [idxQ_some] at hcn hm
        obtain ⟨hc0, hc1, rfl⟩ := hcn
        obtain ⟨ha0, ha1, rfl⟩ := hm
        cases hle : Nat.ble (c.toNat * b) 1099511627776 with
        | false => trivial
        | true =>
          rw [ble_iff] at hle
          simp only [cond_true]
          cases hi : P.info? el with
          | none => simp [sizeT, hi] at hn
          | some i =>
            have hsz : i.size = n := by simpa [sizeT, hi] using hn
            have hby : i.bytes = b := by simpa [bytesT, hi] using hb
            cases hzz : i.zero with
            | none => simp [zeroT, hi, hzz] at hz
            | some cz =>
              have hov : ofValue cz = some z := by simpa [zeroT, hi, hzz] using hz
              have hzc := (ofValue_rel (φ := φ) cz z hov).cells (ofValue_notJunk cz z hov)
              have hzs : cz.cells.size = n := by have := hzc.length; simp at this; omega
              have hbc : (b : Int) * c ≤ 281474976710656 := by
                have : ((c.toNat * b : Nat) : Int) ≤ 1099511627776 := by omega
                rw [Int.natCast_mul, Int.toNat_of_nonneg hc0, Int.mul_comm] at this
                omega
              have hrun := fun w => run_make (P := P) w t el i cz hu hi hzz k1 k2 a c ha0 (by omega) (by rw [hby]; exact hbc) (by omega)
              rw [hsz] at hrun
              refine .row (madeCells cz.cells (c.toNat * n)) (fun bb => .slice (some ⟨bb, 0, none⟩) a.toNat c.toNat) hrun ?_ fun φ' bb i' hi' => ⟨_, c.toNat, rfl, by omega, Nat.le_refl _, fun _ => rfl, ?_⟩
              · have := made_block cz.cells c.toNat
                rw [hzs] at this
                rw [this]
                exact hzc.replicate _
              · simp [SlOk, hi', size_madeCells]
      · trivial
    · trivial
  · trivial

theorem shape_row {w : World} {b : Nat} {vs : Array Value} {t : TypeId} {fz : Nat × Nat} (h : w.heap[b]? = some (.cells vs t fz)) : w.shape? b = some (t, vs.size) := by
  simp [World.shape?, h]

theorem toUnsafe_ok {s d t : TypeId} {n : Nat} {x : Opd} {cx : Value} (hs : P.underlying s = some (.pointer t)) (hd : P.underlying d = some .unsafePointer) (hn : sizeT P t = some n) (h0 : n ≠ 0) (hx : VRel φ (x.ev e r) cx) :
    DOk P φ (valued (convert s d cx)) ((toUnsafe x).f e r) := by
  simp only [toUnsafe]
  split
  · rename_i ex
    rw [ex] at hx
    simp only [VRel] at hx
    subst hx
    refine .val_of (.pointer none) (fun w => ?_) rfl
    simp [convert, Conv.unsafePointer, run_underlying hs, run_underlying hd]
  · rename_i i o ex
    rw [ex] at hx
    obtain ⟨a, rfl, hp⟩ := hx
    refine ⟨hp.notUn, ?_⟩
    intro b p m vs u fz w hφ hb hsz hm cs hcs v hv
    simp only [Option.some.injEq] at hv
    subst hv
    have hp' := hp
    simp only [PtrOk, hφ] at hp
    subst hp
    refine ⟨.pointer (some ⟨b, p + o, none⟩), run_valued_ok ?_, _, rfl, hp'⟩
    have hi : (P.info? t).map (fun i => decide (i.size = 0)) = some false := by
      unfold sizeT at hn
      cases hi : P.info? t with
      | none => rw [hi] at hn; cases hn
      | some i => rw [hi] at hn; cases hn; simp [h0]
    exact run_convert_to_unsafe hs hd hi (v := vs[p + o]) (by rw [cell_row hb]; exact Array.getElem?_eq_getElem (by omega))
  · trivial

theorem ofUnsafe_ok {s d t : TypeId} {n : Nat} {x : Opd} {cx : Value} (hs : P.underlying s = some .unsafePointer) (hd : P.underlying d = some (.pointer t)) (hn : sizeT P t = some n) (h0 : n ≠ 0) (hx : VRel φ (x.ev e r) cx) :
    DOk P φ (valued (convert s d cx)) ((ofUnsafe (fitsOf P t) x).f e r) := by
  simp only [ofUnsafe]
  split
  · rename_i ex
    rw [ex] at hx
    simp only [VRel] at hx
    subst hx
    refine .val_of (.pointer none) (fun w => ?_) rfl
    simp [convert, Conv.unsafePointer, run_underlying hs, run_underlying hd]
  · rename_i i o ex
    rw [ex] at hx
    obtain ⟨a, rfl, hp⟩ := hx
    refine ⟨hp.notUn, ?_⟩
    intro b m vs u sz fz w hφ hb hsz ho hmem hle
    have hp' := hp
    simp only [PtrOk, hφ, Nat.zero_add] at hp
    subst hp
    refine ⟨.pointer (some ⟨b, o, none⟩), run_valued_ok ?_, _, rfl, hp'⟩
    simp only [List.mem_filterMap] at hmem
    obtain ⟨q, hq, hqe⟩ := hmem
    split at hqe
    · rename_i hqo
      cases hqe
      unfold fitsOf at hq
      rw [List.mem_filter] at hq
      obtain ⟨_, hq⟩ := hq
      simp only [Bool.and_eq_true, blt_iff, beq_iff] at hq
      obtain ⟨h1, h2, h3⟩ := hq
      rw [hqo] at h3
      have hcount : 1 ≤ vs.size / P.cellsOf q.1 := by
        rw [Nat.le_div_iff_mul_le h1]; omega
      have hl := liesAt_mono P P.depth q.1 1 (vs.size / P.cellsOf q.1) o t 1 hcount h3
      simp [convert, Conv.unsafePointer, run_underlying hs, run_underlying hd, Conv.seenAt, viewAt, shape_row hb, run_sizeT hn, h0, variablesAt, hl]
    · cases hqe
  · trivial

theorem dSliceData_ok {ts : Array TypeId} {ty : TypeId} {x : Opd} {cx : Value} (hx : VRel φ (x.ev e r) cx) : DOk P φ (valued (Builtin.unsafeSliceData_ ts ty #[cx])) ((dSliceData x).f e r) := by
  simp only [dSliceData]
  split
  · rename_i ex
    rw [ex] at hx
    obtain ⟨rfl, _⟩ := hx
    exact .val_of (.pointer none) (fun w => rfl) rfl
  · rename_i p esz len cap exx ex
    obtain ⟨i, o⟩ := p
    rw [ex] at hx
    obtain ⟨a, c, rfl, h1, h2, _, hsl⟩ := hx
    cases hl : Nat.blt 0 len with
    | false => trivial
    | true =>
      rw [blt_iff] at hl
      refine .val_of (.pointer (some a)) (fun w => ?_) ⟨_, rfl, hsl.ptr (by omega)⟩
      have hc : c ≠ 0 := by omega
      change (Sem.run P (if c ≠ 0 then pure (Value.pointer (some a)) else _) w) = _
      rw [if_pos hc]; rfl
  · trivial

theorem dMin_ok {ts : Array TypeId} {ty : TypeId} {x y : Opd} {cx cy : Value} (hx : VRel φ (x.ev e r) cx) (hy : VRel φ (y.ev e r) cy) : DOk P φ (valued (Builtin.min_ ts ty #[cx, cy])) ((dMin x y).f e r) := by
  simp only [dMin]
  split
  · rename_i k a k' b ex ey
    rw [ex] at hx; rw [ey] at hy
    simp only [VRel] at hx hy
    subst hx; subst hy
    cases hk : kEq k k' with
    | false => trivial
    | true =>
      refine .val_of (.int k (if b < a then b else a)) (fun w => ?_) ?_
      · simp [Builtin.min_, Builtin.min2]
      · simp only [VRel, ltQ_eq]; by_cases h : b < a <;> simp [h]
  · unfold minS
    split
    · refine int2S_ok hx hy fun a b n e1 e2 hn w => ?_
      subst e1; subst e2
      cases hn
      simp only [ltQ_eq]
      by_cases h : b < a <;> simp [Builtin.min_, Builtin.min2, h]
    · trivial

theorem dMax_ok {ts : Array TypeId} {ty : TypeId} {x y : Opd} {cx cy : Value} (hx : VRel φ (x.ev e r) cx) (hy : VRel φ (y.ev e r) cy) : DOk P φ (valued (Builtin.max_ ts ty #[cx, cy])) ((dMax x y).f e r) := by
  simp only [dMax]
  split
  · rename_i k a k' b ex ey
    rw [ex] at hx; rw [ey] at hy
    simp only [VRel] at hx hy
    subst hx; subst hy
    cases hk : kEq k k' with
    | false => trivial
    | true =>
      refine .val_of (.int k (if b > a then b else a)) (fun w => ?_) ?_
      · simp [Builtin.max_, Builtin.max2]
      · simp only [VRel, ltQ_eq]; by_cases h : a < b <;> simp [h]
  · unfold minS
    split
    · refine int2S_ok hx hy fun a b n e1 e2 hn w => ?_
      subst e1; subst e2
      cases hn
      simp only [ltQ_eq]
      by_cases h : a < b <;> simp [Builtin.max_, Builtin.max2, h]
    · trivial

/-! ### Functions without a body -/

theorem find_mark0 (fn : Func) (h : fn.name = "internal/race.Disable" ∨ fn.name = "internal/race.Enable") : ∃ m, Extern.find fn = some (fun _ => do mark m; pure Extern.Race.none_) := by
  rcases h with h | h <;> unfold Extern.find <;> rw [h]
  · exact ⟨.disable, rfl⟩
  · exact ⟨.enable, rfl⟩

theorem find_marked (fn : Func) (h : fn.name = "internal/race.Acquire" ∨ fn.name = "internal/race.ReleaseMerge") : ∃ m, Extern.find fn = some (Extern.Race.marked m) := by
  rcases h with h | h <;> unfold Extern.find <;> rw [h]
  · exact ⟨.acquire, rfl⟩
  · exact ⟨.releaseMerge, rfl⟩

theorem find_load64 (fn : Func) (h : fn.name = "sync/atomic.LoadInt64") : Extern.find fn = some (Extern.Atomic.loadT (.int .i64)) := by
  unfold Extern.find; rw [h]; rfl

theorem find_loadU32 (fn : Func) (h : fn.name = "sync/atomic.LoadUint32") : Extern.find fn = some (Extern.Atomic.loadT (.int .u32)) := by
  unfold Extern.find; rw [h]; rfl

theorem find_load32 (fn : Func) (h : fn.name = "sync/atomic.LoadInt32") : Extern.find fn = some (Extern.Atomic.loadT (.int .i32)) := by
  unfold Extern.find; rw [h]; rfl

theorem find_store (fn : Func) (h : fn.name = "sync/atomic.StoreUint32") : Extern.find fn = some Extern.Atomic.storeT := by
  unfold Extern.find; rw [h]; rfl

theorem find_add64 (fn : Func) (h : fn.name = "sync/atomic.AddInt64") : Extern.find fn = some (Extern.Atomic.update (Op.intArith .add) .i64 true) := by
  unfold Extern.find; rw [h]; rfl

theorem find_add32 (fn : Func) (h : fn.name = "sync/atomic.AddInt32") : Extern.find fn = some (Extern.Atomic.update (Op.intArith .add) .i32 true) := by
  unfold Extern.find; rw [h]; rfl

theorem find_cas (fn : Func) (h : fn.name = "sync/atomic.CompareAndSwapInt32") : Extern.find fn = some (Extern.Atomic.casT (.int .i32)) := by
  unfold Extern.find; rw [h]; rfl

theorem find_indexByte (fn : Func) (h : fn.name = "internal/bytealg.IndexByteString") : Extern.find fn = some Extern.BytealgIndexByte.indexByte := by
  unfold Extern.find; rw [h]; rfl

theorem find_same (fn : Func) (h : fn.name = "internal/abi.NoEscape") : Extern.find fn = some Extern.AbiNoEscape.same := by
  unfold Extern.find; rw [h]; rfl

theorem indexByte_eq (b : UInt8) : ∀ (s : List UInt8) (i : Nat), indexByte b s i = (match s.findIdx? (· == b) with | some k => ((i + k : Nat) : Int) | none => -1)
  | [], i => by simp [indexByte]
  | c :: s, i => by
    simp only [indexByte, T.ifB_eq, List.findIdx?_cons]
    by_cases h : c = b
    · subst h
      rw [if_pos (b8Q_iff.2 rfl)]; simp
    · rw [if_neg (fun hh => h (b8Q_iff.1 hh)), indexByte_eq b s (i + 1)]
      simp only [beq_iff_eq, h, if_false]
      cases s.findIdx? (· == b) with
      | none => rfl
      | some k => show ((i + 1 + k : Nat) : Int) = ((i + (k + 1) : Nat) : Int); congr 1; omega

theorem firstIdx_eq (s : List UInt8) (b : UInt8) : firstIdx ⟨s.toArray⟩ b = indexByte b s 0 := by
  rw [indexByte_eq]
  unfold firstIdx
  rw [ba_size]
  have key : (List.range s.length).find? (fun i => (⟨s.toArray⟩ : ByteArray)[i]! == b) = s.findIdx? (· == b) := by
    cases h : s.findIdx? (· == b) with
    | none =>
      rw [List.find?_eq_none]
      intro i hi
      rw [List.mem_range] at hi
      rw [List.findIdx?_eq_none_iff] at h
      have := h s[i] (List.getElem_mem hi)
      have e : (⟨s.toArray⟩ : ByteArray)[i]! = s[i] := by
        have hn : i < (⟨s.toArray⟩ : ByteArray).size := by rw [ba_size]; exact hi
        rw [getElem!_pos (⟨s.toArray⟩ : ByteArray) i hn]; rfl
      rw [e]; simpa using this
    | some k =>
      rw [List.findIdx?_eq_some_iff_getElem] at h
      obtain ⟨hk, h1, h2⟩ := h
      have e : ∀ j (hj : j < s.length), (⟨s.toArray⟩ : ByteArray)[j]! = s[j] := by
        intro j hj
        have hn : j < (⟨s.toArray⟩ : ByteArray).size := by rw [ba_size]; exact hj
        rw [getElem!_pos (⟨s.toArray⟩ : ByteArray) j hn]; rfl
      rw [List.find?_range_eq_some]
      refine ⟨by rw [e k hk]; exact h1, by simpa using hk, fun j hj => ?_⟩
      rw [e j (by omega)]
      simpa using h2 j hj
  rw [key]
  cases s.findIdx? (· == b) <;> simp

end
end Go.Abs
