/- The abstract machine: operations that write. -/
import Derived.Test.YtbojmpbccibmaaaGreatDoorDAbsC
import Derived.Laws.RangeString
import Derived.Laws.Append
import Derived.Lib.UnsafeStr
set_option linter.unusedVariables false
set_option linter.unusedSimpArgs false
set_option linter.unusedSectionVars false
set_option linter.deprecated false
namespace Go.Abs
variable [Fct] [Val]

/-! ### What they owe -/

theorem HRel.heap_eq {ng : Nat} {φ : Phi} {h : AHeap} {w w' : World} (H : HRel ng φ h w) (e : w'.heap = w.heap) : HRel ng φ h w' :=
  ⟨H.fresh, H.glob, fun i b hb => (H.blk i b hb).imp id fun ⟨c, p, n, h1, h2⟩ => ⟨c, p, n, h1, h2.same (by rw [e])⟩, H.inj, fun i c p n h => by rw [e]; exact H.lt i c p n h, H.dom⟩

theorem Stp.heap_eq {φ : Phi} {h : AHeap} {w w' : World} (e : w'.heap = w.heap) (ho : w'.os = w.os) (ht : w'.tape = w.tape) (hp : w'.output = w.output) : Stp φ h w φ h w' :=
  ⟨Ext.refl _, ho, ht, hp, by rw [e]; exact Nat.le_refl _, fun _ _ _ => by rw [e], fun _ h _ => h, fun _ _ e => ⟨rfl, e⟩, Nat.le_refl _⟩

def DRel (φ : Phi) (d : ADef) (cd : Deferred) : Prop := ∃ ca cb, cd = { target := .fn (.func d.f) cb, args := ca } ∧ VRels φ d.args (ca ++ cb).toList

/-- A function that has a body. -/
def Callable (P : Program) (f : FuncId) : Prop := ∃ fn, P.funcs[f]? = some fn ∧ fn.name ≠ "runtime.NumGoroutine" ∧ fn.body.isSome = true

def WOk (P : Program) (ng : Nat) (φ : Phi) (h : AHeap) (w : World) (s : Sem Next) : Wr → Prop
  | .ok v h' => ∃ nx w' φ', s.run P w = .ok nx w' ∧ ((∃ cv, nx = .value cv ∧ VRel φ' v cv) ∨ (nx = .skip ∧ VRel φ' v Go.undef)) ∧ HRel ng φ' h' w' ∧ Stp φ h w φ' h' w'
  | .enter f args => Callable P f → ∃ cargs, s.run P w = .ok (.enter f cargs) w ∧ VRels φ args cargs.toList
  | .defer d => ∃ cd, s.run P w = .ok (.defer cd) w ∧ DRel φ d cd
  | .panic v => ∃ cv, s.run P w = .halt (.panic cv) w ∧ VRel φ v cv
  | .recover => s.run P w = .ok .recover w
  | .bad => True

theorem WOk.congr {P : Program} {ng : Nat} {φ : Phi} {h : AHeap} {w : World} {s s' : Sem Next} {x : Wr} (e : s.run P w = s'.run P w) (k : WOk P ng φ h w s' x) : WOk P ng φ h w s x := by
  cases x <;> simp only [WOk, e] at * <;> exact k

abbrev skipped (s : Sem Unit) : Sem Next := do s; pure .skip

theorem run_skipped {P : Program} {s : Sem Unit} {w w' : World} (h : s.run P w = .ok () w') : (skipped s).run P w = .ok .skip w' := by
  simp [h]

theorem at_of {ng : Nat} {φ : Phi} {h : AHeap} {w : World} (H : HRel ng φ h w) {i : Nat} {blk : ABlk} (hg : h.get i = some blk) (hu : φ i ≠ .un) : ∃ b p n, φ i = .at b p n ∧ BRel φ blk b p n w := by
  rcases H.blk i blk hg with h | h
  · exact absurd h hu
  · exact h

theorem store_some {h h' : AHeap} {i o : Nat} {vs : List AV} (hs : h.store i o vs = some h') : ∃ blk, h.get i = some blk := by
  unfold AHeap.store at hs
  cases hg : h.get i with
  | none => rw [hg] at hs; cases hs
  | some blk => exact ⟨blk, rfl⟩

section
variable {P : Program} {ng : Nat} {φ : Phi} {h : AHeap} {w : World} {e : Env} {r : Regs}

/-- A store through a pointer. -/
theorem store_ptr (H : HRel ng φ h w) {i o : Nat} {a : Addr} (ha : PtrOk φ i o a) {vs : List AV} {cvs : List Value} (hv : VRels φ vs cvs) {h' : AHeap} (hs : h.store i o vs = some h') :
    ∃ w', (storeCells a cvs).run P w = .ok () w' ∧ HRel ng φ h' w' ∧ Stp φ h w φ h' w' := by
  obtain ⟨blk, hg⟩ := store_some hs
  obtain ⟨b, p, n, hφ, _⟩ := at_of H hg ha.notUn
  simp only [PtrOk, hφ] at ha
  subst ha
  exact stores_of P H hs hφ hv

theorem wStore_ok {t : TypeId} {n : Nat} {x v : Opd} {cx cv : Value} (H : HRel ng φ h w) (hn : sizeT P t = some n) (hx : VRel φ (x.ev e r) cx) (hv : VRel φ (v.ev e r) cv) :
    WOk P ng φ h w (skipped (Instr.storeAt t cx cv)) ((wStore n x v).f e r h) := by
  simp only [wStore]
  split
  · rename_i i o ex
    rw [ex] at hx
    obtain ⟨a, rfl, hp⟩ := hx
    cases hc : (!(v.ev e r).isJunk && Nat.beq (lenQ (v.ev e r).cells) n) with
    | false => trivial
    | true =>
      simp only [Bool.and_eq_true, Bool.not_eq_true', beq_iff, lenQ_eq] at hc
      simp only [cond_true]
      cases hs : h.store i o (v.ev e r).cells with
      | none => trivial
      | some h' =>
        have hcells := hv.cells hc.1
        obtain ⟨w', h1, h2, h3⟩ := store_ptr (P := P) H hp hcells hs
        have hsz : cv.cells.size = n := by have := hcells.length; simp at this; omega
        refine ⟨.skip, w', φ, run_skipped ?_, .inr ⟨rfl, VRel.undef⟩, h2, h3⟩
        simp [Instr.storeAt, Instr.sureAddr, storeVar, run_sizeT hn, hsz, h1]
  · trivial

theorem zeroCells_list (z : Array Value) (n : Nat) : (Builtin.zeroCells z n).toList = (List.replicate n z.toList).flatten := made_block z n

theorem wClear_ok {t ty el : TypeId} {ts : Array TypeId} {z : AV} {x : Opd} {cx : Value} (H : HRel ng φ h w) (ht : ts[0]? = some t) (hu : P.underlying t = some (.slice el)) (hz : zeroT P el = some z) (hx : VRel φ (x.ev e r) cx) :
    WOk P ng φ h w (valued (Builtin.clear_ ts ty #[cx])) ((wClear z.cells x).f e r h) := by
  obtain ⟨cz, hz1, hz2⟩ := run_zeroT hz
  have hzc := (ofValue_rel (φ := φ) _ _ hz1).cells (ofValue_notJunk _ _ hz1)
  simp only [wClear]
  split
  · rename_i ex
    rw [ex] at hx
    obtain ⟨rfl, _⟩ := hx
    refine ⟨_, w, φ, run_valued_ok (v := .tuple #[]) ?_, .inl ⟨_, rfl, ⟨_, rfl, rfl⟩⟩, H, Stp.refl _ _ _⟩
    simp [Builtin.clear_, ht, run_underlying hu]
  · rename_i i o esz len cap ex' ex
    rw [ex] at hx
    obtain ⟨a, c, rfl, h1, h2, _, hsl⟩ := hx
    cases hl : Nat.beq len 0 with
    | true =>
      rw [beq_iff] at hl
      subst hl
      refine ⟨_, w, φ, run_valued_ok (v := .tuple #[]) ?_, .inl ⟨_, rfl, ⟨_, rfl, rfl⟩⟩, H, Stp.refl _ _ _⟩
      simp [Builtin.clear_, ht, run_underlying hu]
    | false =>
      simp only [cond_false]
      have hl0 : len ≠ 0 := by
        intro hh; rw [← beq_iff] at hh; rw [hl] at hh; cases hh
      cases hs : h.store i o (List.replicate len z.cells).flatten with
      | none => trivial
      | some h' =>
        obtain ⟨w', k1, k2, k3⟩ := store_ptr (P := P) H (hsl.ptr (by omega)) (hzc.replicate len) hs
        refine ⟨_, w', φ, run_valued_ok (v := .tuple #[]) ?_, .inl ⟨_, rfl, ⟨_, rfl, rfl⟩⟩, k2, k3⟩
        rw [← zeroCells_list] at k1
        cases len with
        | zero => exact absurd rfl hl0
        | succ len => simp [Builtin.clear_, ht, run_underlying hu, hz2, k1]
  · trivial

/-! ### Maps, iterators -/

theorem run_getObj_of {P : Program} {w : World} {b : Nat} {o : Obj} (h : w.heap[b]? = some o) (hc : ∀ c t f, o ≠ .cells c t f) : (getObj b).run P w = .ok o w := by
  cases o with
  | cells c t f => exact absurd rfl (hc c t f)
  | _ => simp [getObj, Sem.run, h]

theorem run_setObj_of {P : Program} {w : World} {b : Nat} {o : Obj} (o' : Obj) (h : w.heap[b]? = some o) (hc : ∀ c t f, o ≠ .cells c t f) : (setObj b o').run P w = .ok () { w with heap := w.heap.setIfInBounds b o' } := by
  cases o with
  | cells c t f => exact absurd rfl (hc c t f)
  | _ => simp [setObj, Sem.run, h]

theorem ERels.append {φ : Phi} : ∀ {a b : List (AV × AV × Nat)} {c d : List MapEntry}, ERels φ a c → ERels φ b d → ERels φ (a ++ b) (c ++ d)
  | [], _, _, _, h, k => by simp only [ERels] at h; subst h; exact k
  | _ :: _, _, _, _, ⟨e, r, he, h1, h2⟩, k => ⟨e, r ++ _, by rw [he]; rfl, h1, ERels.append h2 k⟩

theorem findKey_at {φ : Phi} {x : AV} : ∀ (es : List (AV × AV × Nat)) (i j : Nat) (v : AV), findKey x es i = some (some (j, v)) → ∃ k, j = i + k ∧ ∃ en, es[k]? = some en ∧ sameKey x en.1 = some true
  | [], i, j, v, h => by simp [findKey] at h
  | (k', v', n) :: es, i, j, v, h => by
    simp only [findKey] at h
    split at h
    · rename_i hs
      simp only [Option.some.injEq, Prod.mk.injEq] at h
      exact ⟨0, by omega, _, rfl, hs⟩
    · obtain ⟨k, hk, en, he, hs⟩ := findKey_at (φ := φ) es (i + 1) j v h
      exact ⟨k + 1, by omega, en, by simpa using he, hs⟩
    · cases h

theorem updEntry_ok {φ : Phi} {v : AV} {cv ck : Value} (hv : VRel φ v cv) : ∀ (es : List (AV × AV × Nat)) (ces : List MapEntry) (k : Nat), ERels φ es ces → (∀ en, es[k]? = some en → VRel φ en.1 ck) →
    ERels φ (updEntry v k es) (ces.modify k fun e => { e with key := ck, val := cv })
  | [], ces, k, h, _ => by simp only [ERels] at h; subst h; cases k <;> simp [updEntry, ERels]
  | x :: es, ces, 0, ⟨e, r, he, h1, h2⟩, hk => by
    obtain ⟨k', v', n⟩ := x
    subst he
    exact ⟨_, _, rfl, ⟨hk (k', v', n) (by simp), hv, h1.2.2⟩, h2⟩
  | x :: es, ces, k + 1, ⟨e, r, he, h1, h2⟩, hk => by
    subst he
    exact ⟨_, _, rfl, h1, updEntry_ok hv es r k h2 fun en he => hk en (by simpa using he)⟩

theorem VRel.key_inj {φ : Phi} {a b : AV} {ca cb : Value} (ha : VRel φ a ca) (hb : VRel φ b cb) (hs : sameKey a b = some true) : ca = cb ∧ VRel φ b ca := by
  cases a with
  | int k n => cases b <;> simp only [sameKey] at hs <;> try cases hs
               simp only [VRel] at ha hb
               rw [T.ifB_eq] at hs
               split at hs
               · rename_i hk
                 rw [kEq_iff] at hk; subst hk
                 simp only [Option.some.injEq, eqQ_eq, beq_iff_eq] at hs
                 subst hs; subst ha; subst hb; exact ⟨rfl, rfl⟩
               · cases hs
  | str s => cases b <;> simp only [sameKey] at hs <;> try cases hs
             simp only [VRel] at ha hb
             simp only [Option.some.injEq, strEq_eq, beq_iff_eq] at hs
             subst hs; subst ha; subst hb; exact ⟨rfl, rfl⟩
  | bool s => cases b <;> simp only [sameKey] at hs <;> try cases hs
              simp only [VRel] at ha hb
              simp only [Option.some.injEq, beq_iff_eq] at hs
              subst hs; subst ha; subst hb; exact ⟨rfl, rfl⟩
  | _ => simp [sameKey] at hs

theorem sameBits_key {φ : Phi} {a : AV} {ca : Value} {k : KK} (ha : VRel φ a ca) (hk : isKey k a = true) : Instr.sameBits 10000 ca ca = true := by
  cases a <;> cases k <;> simp [isKey] at hk <;> (simp only [VRel] at ha; subst ha; simp [Instr.sameBits, ba_beq])

theorem wMapUpdate_ok {t kt el : TypeId} {kk : KK} {m k v : Opd} {cm ck cv : Value} (H : HRel ng φ h w) (hu : P.underlying t = some (.map kt el)) (hk : kindOf P kt = some kk)
    (hm : VRel φ (m.ev e r) cm) (hkv : VRel φ (k.ev e r) ck) (hv : VRel φ (v.ev e r) cv) :
    WOk P ng φ h w (skipped (Instr.mapUpdate t cm ck cv)) ((wMapUpdate kk m k v).f e r h) := by
  obtain ⟨d, hd, hkd⟩ := kindOf_of hk
  simp only [wMapUpdate]
  cases hkey : isKey kk (k.ev e r) with
  | false => trivial
  | true =>
    simp only [cond_true, aMapUpdate]
    split
    · rename_i i em
      rw [em] at hm
      obtain ⟨rr, rfl, hmo⟩ := hm
      split
      · rename_i es clock hg
        obtain ⟨b, p, n, hφ, hb⟩ := at_of H hg hmo.notUn
        simp only [MapOk, hφ] at hmo
        subst hmo
        obtain ⟨ces, hb1, hb2⟩ := hb
        have hnc : ∀ c t f, (Obj.map ces clock) ≠ .cells c t f := by intro _ _ _ h; cases h
        have hget := run_getObj_of (P := P) hb1 hnc
        have hlt : rr < w.heap.size := (Array.getElem?_eq_some_iff.1 hb1).1
        split
        · rename_i j v' hf
          obtain ⟨co, hco, hcr⟩ := findKey_now hkd hkv hkey es ces.toList 0 _ hb2 hf
          cases co with
          | none => exact hcr.elim
          | some q =>
            obtain ⟨j', cv'⟩ := q
            obtain ⟨rfl, _⟩ := hcr
            obtain ⟨k0, hj, en, hen, hsk⟩ := findKey_at (φ := φ) es 0 j v' hf
            have hk0 : k0 = j := by omega
            subst hk0
            have hce : ∃ ce, ces.toList[k0]? = some ce ∧ VRel φ en.1 ce.key := by
              have gen : ∀ (es : List (AV × AV × Nat)) (cl : List MapEntry) (k0 : Nat) (en : AV × AV × Nat), ERels φ es cl → es[k0]? = some en → ∃ ce, cl[k0]? = some ce ∧ VRel φ en.1 ce.key := by
                intro es
                induction es with
                | nil => intro cl k0 en _ h; simp at h
                | cons x es ih =>
                  intro cl k0 en hh h
                  obtain ⟨e0, r0, rfl, h1, h2⟩ := hh
                  cases k0 with
                  | zero => simp at h; subst h; exact ⟨e0, rfl, h1.1⟩
                  | succ k0 => exact ih r0 k0 en h2 (by simpa using h)
              exact gen es ces.toList k0 en hb2 hen
            obtain ⟨ce, hce1, hce2⟩ := hce
            obtain ⟨hkeq, hken⟩ := VRel.key_inj hkv hce2 hsk
            have hces : ces[k0]? = some ce := by rw [← Array.getElem?_toList]; exact hce1
            have hstays : (Instr.keyThatStays (((ces[k0]?).map (·.key)).getD ck) ck).run P w = .ok ck w := by
              rw [hces]
              simp only [Option.map_some, Option.getD_some, ← hkeq]
              simp [Instr.keyThatStays, sameBits_key hkv hkey]
            refine ⟨.skip, { w with heap := w.heap.setIfInBounds rr (.map (ces.modify k0 fun e => { e with key := ck, val := cv }) clock) }, φ, run_skipped ?_, .inr ⟨rfl, VRel.undef⟩, ?_⟩
            · simp only [Instr.mapUpdate, Sem.run_bind, run_underlying hu, Result.andThen_ok, hget, run_checkKey_plain' hd hkd, run_findKey_now hd hco, hstays]
              exact run_setObj_of _ hb1 hnc
            · refine step_set H hg rfl rfl hφ (o := .map (ces.modify k0 fun e => { e with key := ck, val := cv }) clock) ?_ (by simp) (fun k hk => ?_) rfl rfl rfl ⟨ces.modify k0 fun e => { e with key := ck, val := cv }, ?_, ?_⟩
              · simp [hlt]
              · simp [Array.getElem?_setIfInBounds, Ne.symm hk]
              · simp [hlt]
              · rw [Array.toList_modify]
                exact updEntry_ok hv es ces.toList k0 hb2 fun en' he' => by
                  rw [hen] at he'; cases he'; exact hken
        · rename_i hf
          obtain ⟨co, hco, hcr⟩ := findKey_now hkd hkv hkey es ces.toList 0 _ hb2 hf
          cases co with
          | some q => exact hcr.elim
          | none =>
            refine ⟨.skip, { w with heap := w.heap.setIfInBounds rr (.map (ces.push { key := ck, val := cv, born := clock }) (clock + 1)) }, φ, run_skipped ?_, .inr ⟨rfl, VRel.undef⟩, ?_⟩
            · simp only [Instr.mapUpdate, Sem.run_bind, run_underlying hu, Result.andThen_ok, hget, run_checkKey_plain' hd hkd, run_findKey_now hd hco]
              exact run_setObj_of _ hb1 hnc
            · refine step_set H hg rfl rfl hφ (o := .map (ces.push { key := ck, val := cv, born := clock }) (clock + 1)) ?_ (by simp) (fun k hk => ?_) rfl rfl rfl ⟨ces.push { key := ck, val := cv, born := clock }, ?_, ?_⟩
              · simp [hlt]
              · simp [Array.getElem?_setIfInBounds, Ne.symm hk]
              · simp [hlt]
              · rw [Array.toList_push]
                exact hb2.append ⟨_, _, rfl, ⟨hkv, hv, rfl⟩, rfl⟩
        · trivial
      · trivial
    · trivial

theorem decodeAt_eq (s : List UInt8) (pos : Nat) : decodeAt s pos = Utf8.decode ⟨s.toArray⟩ pos := by
  unfold decodeAt
  split
  · rename_i b hb
    rw [atQ_eq] at hb
    obtain ⟨hlt, hbe⟩ := List.getElem?_eq_some_iff.1 hb
    cases h : Nat.blt b.toNat 128 with
    | false => rfl
    | true =>
      rw [blt_iff] at h
      have hsz : pos < (⟨s.toArray⟩ : ByteArray).size := by rw [ba_size]; exact hlt
      have he : (⟨s.toArray⟩ : ByteArray)[pos]'hsz = b := hbe
      have := decode_ascii ⟨s.toArray⟩ pos hsz (by rw [he]; exact h)
      rw [this, he]; rfl
  · rfl

theorem wNext_ok {ty : TypeId} {x : Opd} {cx : Value} (H : HRel ng φ h w) (hx : VRel φ (x.ev e r) cx) : WOk P ng φ h w (valued (Instr.next cx true ty)) ((wNext x).f e r h) := by
  simp only [wNext]
  split
  · rename_i i ex
    rw [ex] at hx
    obtain ⟨a, rfl, hp⟩ := hx
    split
    · rename_i s pos hg
      obtain ⟨b, p, n, hφ, hb, rfl⟩ := at_of H hg hp.notUn
      simp only [PtrOk, hφ] at hp
      subst hp
      have hnc : ∀ c t f, (Obj.stringIter ⟨s.toArray⟩ pos) ≠ .cells c t f := by intro _ _ _ h; cases h
      have hget := run_getObj_of (P := P) hb hnc
      have hlt : b < w.heap.size := (Array.getElem?_eq_some_iff.1 hb).1
      cases hc : Nat.blt pos s.length with
      | true =>
        have hc' := hc
        rw [blt_iff] at hc
        have hset := run_setObj_of (P := P) (.stringIter ⟨s.toArray⟩ (pos + (Utf8.decode ⟨s.toArray⟩ pos).2)) hb hnc
        refine ⟨_, _, φ, run_valued_ok (v := .tuple #[.bool true, .int .i64 pos, .int .i32 (decodeAt s pos).1]) (w' := { w with heap := w.heap.setIfInBounds b (.stringIter ⟨s.toArray⟩ (pos + (decodeAt s pos).2)) }) ?_, .inl ⟨_, rfl, ⟨_, rfl, _, _, rfl, rfl, _, _, rfl, rfl, _, _, rfl, rfl, rfl⟩⟩, ?_⟩
        · simp [Instr.next, hget, ba_size, hc, hset, goInt, decodeAt_eq]
        · refine step_set H hg rfl rfl hφ (o := .stringIter ⟨s.toArray⟩ (pos + (decodeAt s pos).2)) ?_ (by simp) (fun k hk => ?_) rfl rfl rfl ⟨?_, rfl⟩
          · simp [hlt]
          · simp [Array.getElem?_setIfInBounds, Ne.symm hk]
          · simp [hlt]
      | false =>
        have hn : ¬ pos < s.length := by rw [← blt_iff, hc]; simp
        refine ⟨_, w, φ, run_valued_ok (v := .tuple #[.bool false]) ?_, .inl ⟨_, rfl, ⟨_, rfl, _, _, rfl, rfl, rfl⟩⟩, H, Stp.refl _ _ _⟩
        simp [Instr.next, hget, ba_size, hn]
    · trivial
  · trivial

end
end Go.Abs

/- The abstract machine: operations that write: atomics, bytes that become a string, calls. -/
namespace Go.Abs
variable [Fct] [Val]

section
variable {P : Program} {ng : Nat} {φ : Phi} {h : AHeap} {w : World} {c : Ctx} {e : Env} {r : Regs} {S : Operand → Prop} {ρ : Operand → Value}

/-! ### Atomics -/

/-- What is known of a cell that an atomic write meets. -/
theorem cell_of (H : HRel ng φ h w) {i o : Nat} {a : Addr} (ha : PtrOk φ i o a) {k : IntKind} {n : Int} (hc : h.cellsAt i o 1 = some [.int k n]) : ∃ b p m, φ i = .at b p m ∧ a = ⟨b, p + o, none⟩ ∧ w.cell? a = some (.int k n) := by
  have hg : ∃ blk, h.get i = some blk := by
    unfold AHeap.cellsAt at hc
    cases hg : h.get i with
    | none => rw [hg] at hc; cases hc
    | some blk => exact ⟨blk, rfl⟩
  obtain ⟨blk, hg⟩ := hg
  obtain ⟨b, p, m, hφ, _⟩ := at_of H hg ha.notUn
  simp only [PtrOk, hφ] at ha
  subst ha
  obtain ⟨vs, t, fz, h1, h2, h3, _⟩ := loads_of H hc hφ
  obtain ⟨cv, h4, h5⟩ := cells_one (v := .int k n) h2 h3 rfl
  simp only [VRel] at h5
  subst h5
  exact ⟨b, p, m, hφ, rfl, by rw [cell_row h1]; exact h4⟩

theorem setCell_of (H : HRel ng φ h w) {i o : Nat} {b p m : Nat} (hφ : φ i = .at b p m) {k : IntKind} {n : Int} {u : Value} (hcell : w.cell? ⟨b, p + o, none⟩ = some u) {h' : AHeap} (hs : h.store i o [.int k n] = some h') :
    w.frozen? ⟨b, p + o, none⟩ = false ∧ HRel ng φ h' (w.setCell ⟨b, p + o, none⟩ (.int k n)) ∧ Stp φ h w φ h' (w.setCell ⟨b, p + o, none⟩ (.int k n)) := by
  obtain ⟨w', h1, h2, h3⟩ := stores_of (P := default) H hs hφ (cvs := [.int k n]) ⟨_, _, rfl, rfl, rfl⟩
  simp only [storeCells, Sem.run_bind, add_none, Nat.add_zero] at h1
  rw [run_store _ w ⟨b, p + o, none⟩ (.int k n) .plain rfl, hcell] at h1
  cases hf : w.frozen? ⟨b, p + o, none⟩ with
  | true => rw [hf] at h1; cases h1
  | false =>
    rw [hf] at h1
    simp only [Bool.false_eq_true, if_false, Result.andThen_ok] at h1
    cases h1
    exact ⟨rfl, h2, h3⟩

/-- Which names have which forms. -/
theorem cPrim_inv {n : String} {p : APrim} (h : cPrim n = some p) : match p with
    | .store => n = "sync/atomic.StoreUint32"
    | .add k => (n = "sync/atomic.AddInt64" ∧ k = .i64) ∨ (n = "sync/atomic.AddInt32" ∧ k = .i32)
    | .cas k => n = "sync/atomic.CompareAndSwapInt32" ∧ k = .i32
    | _ => True := by
  unfold cPrim at h
  by_cases h1 : n = "internal/race.Disable" ∨ n = "internal/race.Enable"
  · rw [if_pos h1] at h; cases h; trivial
  rw [if_neg h1] at h
  by_cases h2 : n = "internal/race.Acquire" ∨ n = "internal/race.ReleaseMerge"
  · rw [if_pos h2] at h; cases h; trivial
  rw [if_neg h2] at h
  by_cases h3 : n = "sync/atomic.LoadInt64"
  · rw [if_pos h3] at h; cases h; trivial
  rw [if_neg h3] at h
  by_cases h4 : n = "sync/atomic.LoadUint32"
  · rw [if_pos h4] at h; cases h; trivial
  rw [if_neg h4] at h
  by_cases h5 : n = "sync/atomic.LoadInt32"
  · rw [if_pos h5] at h; cases h; trivial
  rw [if_neg h5] at h
  by_cases h6 : n = "sync/atomic.StoreUint32"
  · rw [if_pos h6] at h; cases h; exact h6
  rw [if_neg h6] at h
  by_cases h7 : n = "sync/atomic.AddInt64"
  · rw [if_pos h7] at h; cases h; exact .inl ⟨h7, rfl⟩
  rw [if_neg h7] at h
  by_cases h8 : n = "sync/atomic.AddInt32"
  · rw [if_pos h8] at h; cases h; exact .inr ⟨h8, rfl⟩
  rw [if_neg h8] at h
  by_cases h9 : n = "sync/atomic.CompareAndSwapInt32"
  · rw [if_pos h9] at h; cases h; exact ⟨h9, rfl⟩
  rw [if_neg h9] at h
  by_cases h10 : n = "internal/bytealg.IndexByteString"
  · rw [if_pos h10] at h; cases h; trivial
  rw [if_neg h10] at h
  by_cases h11 : n = "internal/abi.NoEscape"
  · rw [if_pos h11] at h; cases h; trivial
  rw [if_neg h11] at h
  cases h

/-- A call of a function without a body, of three forms. -/
theorem prim_w (H : HRel ng φ h w) (ho : OpsOk P φ c e r S ρ) {o : Oper} {k : Call} {f : FuncId} {fn : Func} {p : APrim} {xs : List Opd} {d : WFn} (hS0 : S (.func f)) (hSa : ∀ x ∈ k.args.toList, S x) (hop : o.op = .call k) (hc : k.callee = .value (.func f)) (hf : P.funcs[f]? = some fn)
    (hname : fn.name ≠ "runtime.NumGoroutine") (hb : fn.body.isSome = false) (hn : (Extern.findNext fn).isNone = true) (hp : cPrim fn.name = some p) (hxs : cOpds P c k.args.toList = some xs) (hw : primOp p xs = some (.w d)) :
    WOk P ng φ h w (execOp ρ o) (d.f e r h) := by
  have run := fun E he => run_call_prim (P := P) (E := E) ho hS0 hop hc hf hname hb hn he w
  have eff : ∀ {E : Array Value → Sem Value}, Extern.find fn = some E → (execOp ρ o).run P w = (callFunc f (k.args.map ρ)).run P w := by
    intro E he
    rw [run E he, run_callFunc_extern (P := P) (f := f) hf (by simpa using hname) (by simpa using hb) (by simpa using hn) he (k.args.map ρ) w, run_valued]
  have hb' : fn.body.isNone = true := by cases hx : fn.body <;> simp_all
  have hn' : Extern.findNext fn = none := by simpa using hn
  have hname' : (fn.name == "runtime.NumGoroutine") = false := by simpa using hname
  cases p with
  | nothing => simp [primOp] at hw
  | marked => match xs, hw with | [x], hw => cases hw
  | load k => match xs, hw with | [x], hw => cases hw
  | indexByte => match xs, hw with | [x, y], hw => cases hw
  | same => match xs, hw with | [x], hw => cases hw
  | store =>
    match xs, hw with
    | [x, y], hw =>
    cases hw
    obtain ⟨cv, cw, h1, h2, h3⟩ := args2 ho hSa hxs
    have hfind : Extern.find fn = some Extern.Atomic.storeT := find_store fn (cPrim_inv hp)
    refine WOk.congr (eff hfind) ?_
    rw [h1]
    simp only [wAtomicStore]
    split
    · rename_i i of kk v ex ey
      rw [ex] at h2; rw [ey] at h3
      simp only [VRel] at h3
      subst h3
      obtain ⟨a, rfl, ha⟩ := h2
      simp only [aAtomic]
      split
      · rename_i k' n hcell
        cases hk : kEq k' kk with
        | false => trivial
        | true =>
          simp only [cond_true]
          cases hs : h.store i of [.int kk v] with
          | none => trivial
          | some h' =>
            obtain ⟨b, p, m, hφ, rfl, hcl⟩ := cell_of H ha hcell
            obtain ⟨hfz, h4, h5⟩ := setCell_of H hφ hcl hs
            exact ⟨_, _, φ, run_call_store hf hname' hb' hn' hfind hcl hfz, .inl ⟨_, rfl, ⟨_, rfl, rfl⟩⟩, h4, h5⟩
      · trivial
    · trivial
  | add kk =>
    match xs, hw with
    | [x, y], hw =>
    cases hw
    obtain ⟨cv, cw, h1, h2, h3⟩ := args2 ho hSa hxs
    have hfind : Extern.find fn = some (Extern.Atomic.update (Op.intArith .add) kk true) := by
      rcases cPrim_inv hp with ⟨hnm, rfl⟩ | ⟨hnm, rfl⟩
      · exact find_add64 fn hnm
      · exact find_add32 fn hnm
    refine WOk.congr (eff hfind) ?_
    rw [h1]
    simp only [wAtomicAdd]
    split
    · rename_i i of k' v ex ey
      rw [ex] at h2; rw [ey] at h3
      simp only [VRel] at h3
      subst h3
      obtain ⟨a, rfl, ha⟩ := h2
      cases hk' : kEq k' kk with
      | false => trivial
      | true =>
        rw [kEq_iff] at hk'
        subst hk'
        simp only [cond_true, aAtomic]
        split
        · rename_i k2 n hcell
          cases hk : kEq k2 k' with
          | false => trivial
          | true =>
            rw [kEq_iff] at hk
            subst hk
            simp only [cond_true]
            cases hs : h.store i of [.int k2 (wrapQ k2 (n + v))] with
            | none => trivial
            | some h' =>
              obtain ⟨b, p, m, hφ, rfl, hcl⟩ := cell_of H ha hcell
              obtain ⟨hfz, h4, h5⟩ := setCell_of H hφ hcl hs
              rw [wrapQ_eq] at h4 h5 ⊢
              exact ⟨_, _, φ, run_call_add hf hname' hb' hn' k2 hfind hcl hfz rfl, .inl ⟨_, rfl, rfl⟩, h4, h5⟩
        · trivial
    · trivial
  | cas k0 =>
    match xs, hw with
    | [x, y, z], hw =>
    cases hw
    obtain ⟨cv, cw, cu, h1, h2, h3, h3'⟩ := args3 ho hSa hxs
    have hk0 : k0 = .i32 ∧ Extern.find fn = some (Extern.Atomic.casT (.int .i32)) := by
      obtain ⟨hnm, rfl⟩ := cPrim_inv hp
      exact ⟨rfl, find_cas fn hnm⟩
    obtain ⟨rfl, hfind⟩ := hk0
    refine WOk.congr (eff hfind) ?_
    rw [h1]
    simp only [wCas]
    split
    · rename_i i of k1 a1 k2 b1 ex ey ez
      rw [ex] at h2; rw [ey] at h3; rw [ez] at h3'
      simp only [VRel] at h3 h3'
      subst h3; subst h3'
      obtain ⟨a, rfl, ha⟩ := h2
      cases hk' : (kEq k2 k1 && kEq k1 .i32) with
      | false => trivial
      | true =>
        simp only [Bool.and_eq_true, kEq_iff] at hk'
        obtain ⟨rfl, rfl⟩ := hk'
        simp only [cond_true, aAtomic]
        split
        · rename_i k3 n hcell
          cases hk : kEq k3 .i32 with
          | false => trivial
          | true =>
            rw [kEq_iff] at hk
            subst hk
            simp only [cond_true]
            obtain ⟨b, p, m, hφ, rfl, hcl⟩ := cell_of H ha hcell
            cases hq : eqQ n a1 with
            | true =>
              rw [eqQ_eq, beq_iff_eq] at hq
              subst hq
              simp only [cond_true]
              cases hs : h.store i of [.int .i32 b1] with
              | none => trivial
              | some h' =>
                obtain ⟨hfz, h4, h5⟩ := setCell_of H hφ hcl hs
                exact ⟨_, _, φ, run_call_cas_hit hf hname' hb' hn' .i32 hfind hcl hfz, .inl ⟨_, rfl, rfl⟩, h4, h5⟩
            | false =>
              rw [eqQ_eq] at hq
              have hne : n ≠ a1 := by simpa using hq
              simp only [cond_false]
              cases hs : h.store i of [.int .i32 n] with
              | none => trivial
              | some h' =>
                obtain ⟨hfz, _, _⟩ := setCell_of H hφ hcl hs
                exact ⟨_, w, φ, run_call_cas_miss hf hname' hb' hn' .i32 hfind hcl hfz hne, .inl ⟨_, rfl, rfl⟩, H, Stp.refl _ _ _⟩
        · trivial
    · trivial

end
end Go.Abs

/- The abstract machine: operations that write: bytes that become a string; append. -/
namespace Go.Abs
variable [Fct] [Val]

section
variable {P : Program} {ng : Nat} {φ : Phi} {h : AHeap} {w : World} {c : Ctx} {e : Env} {r : Regs} {S : Operand → Prop} {ρ : Operand → Value}

theorem freeze_heap (w : World) {b : Nat} {vs : Array Value} {t : TypeId} {fz : Nat × Nat} (hb : w.heap[b]? = some (.cells vs t fz)) (o n : Nat) (hn : n ≠ 0) :
    (w.freeze ⟨b, o, none⟩ n).heap[b]? = some (.cells vs t (if fz.1 == fz.2 then (o, o + n) else (min fz.1 o, max fz.2 (o + n)))) := by
  obtain ⟨lo, hi⟩ := fz
  simp [World.freeze, hn, Array.getElem?_modify, hb]

theorem freeze_other (w : World) {b k : Nat} (hk : k ≠ b) (o n : Nat) : (w.freeze ⟨b, o, none⟩ n).heap[k]? = w.heap[k]? := by
  unfold World.freeze
  split
  · rfl
  · simp [Array.getElem?_modify, Ne.symm hk]

theorem freeze_size (w : World) (a : Addr) (n : Nat) : (w.freeze a n).heap.size = w.heap.size := by
  unfold World.freeze
  split <;> simp

theorem freeze_os (w : World) (a : Addr) (n : Nat) : (w.freeze a n).os = w.os ∧ (w.freeze a n).tape = w.tape ∧ (w.freeze a n).output = w.output := by
  unfold World.freeze
  split <;> exact ⟨rfl, rfl, rfl⟩

theorem run_loadBytes : ∀ (n : Nat) (b o : Nat) (acc : ByteArray) (w : World) (ns : List Int), ns.length = n → (∀ (j : Nat) (v : Int), ns[j]? = some v → w.cell? ⟨b, o + j, none⟩ = some (.int .u8 v)) →
    (loadBytes ⟨b, o, none⟩ acc n).run P w = .ok (ns.foldl (fun r n => r.push (UInt8.ofNat n.toNat)) acc) w
  | 0, b, o, acc, w, ns, hl, _ => by
    have : ns = [] := by simpa using hl
    subst this
    simp [loadBytes]
  | n + 1, b, o, acc, w, [], hl, _ => by simp at hl
  | n + 1, b, o, acc, w, v :: ns, hl, hall => by
    have h0 := hall 0 v rfl
    rw [Nat.add_zero] at h0
    simp only [loadBytes, Sem.run_bind, run_load, h0, Result.andThen_ok, add_none, List.foldl_cons]
    have ih := run_loadBytes n b (o + 1) (acc.push v.toNat.toUInt8) w ns (by simpa using hl) fun j u hj => by
      have := hall (j + 1) u (by simpa using hj)
      rwa [show o + (j + 1) = o + 1 + j by omega] at this
    exact ih

theorem wUnsafeStr_ok {ts : Array TypeId} {ty t it el : TypeId} {x n : Opd} {cx cn : Value} (H : HRel ng φ h w) (ht : ts.toList = [t, it]) (hu : P.underlying t = some (.pointer el)) (hce : P.cellsOf el = 1) (hx : VRel φ (x.ev e r) cx) (hn : VRel φ (n.ev e r) cn) :
    WOk P ng φ h w (valued (Builtin.unsafeString_ ts ty #[cx, cn])) ((wUnsafeStr (fun t => Nat.beq t el) x n).f e r h) := by
  obtain rfl : ts = #[t, it] := by rw [← ht]
  simp only [wUnsafeStr]
  split
  · rename_i k z ex en
    rw [ex] at hx; rw [en] at hn
    simp only [VRel] at hx hn
    subst hx; subst hn
    cases hz : (eqQ z 0 && kEq k .i64) with
    | false => trivial
    | true =>
      rw [Bool.and_eq_true, eqQ_eq, beq_iff_eq, kEq_iff] at hz
      obtain ⟨rfl, rfl⟩ := hz
      exact ⟨_, w, φ, run_valued_ok (v := .string .empty) (Lib.run_unsafeString_none w t it ty none), .inl ⟨_, rfl, rfl⟩, H, Stp.refl _ _ _⟩
  · rename_i i o k z ex en
    rw [ex] at hx; rw [en] at hn
    simp only [VRel] at hn
    subst hn
    obtain ⟨a, rfl, ha⟩ := hx
    split
    · rename_i m hm
      rw [idxQ_some] at hm
      obtain ⟨h0, h1, rfl⟩ := hm
      split
      · rename_i kk cc tt ro hg
        cases hc : ((!ro && Nat.ble (o + z.toNat) kk && Nat.blt 0 z.toNat && (!Nat.beq tt 0 && Nat.beq tt el)) && (Nat.beq o 0 && kEq k .i64)) with
        | false => trivial
        | true =>
          simp only [cond_true]
          simp only [Bool.and_eq_true, Bool.not_eq_true', ble_iff, blt_iff, beq_iff, kEq_iff] at hc
          obtain ⟨⟨⟨⟨hro, hle⟩, hpos⟩, htt, rfl⟩, rfl, rfl⟩ := hc
          split
          · rename_i v hs
            obtain ⟨b, p, nn, hφ, hb⟩ := at_of H hg ha.notUn
            have hb' := hb
            obtain ⟨vs, u, fz, hb1, hb2, hb3, hb4, hb5, hb6⟩ := hb
            have hcells : h.cellsAt i 0 z.toNat = some (getsV cc z.toNat 0) := by
              simp only [AHeap.cellsAt, hg, T.ifB_eq]
              rw [if_pos (show Nat.ble (Nat.add 0 z.toNat) kk = true from ble_iff.2 hle)]
            obtain ⟨vs', u', fz', k1, k2, k3, k4⟩ := loads_of H hcells hφ
            rw [hb1] at k1
            cases k1
            obtain ⟨ns, hns, hrange, hvr⟩ := bytesV_ok k3 hs
            simp only [PtrOk, hφ] at ha
            subst ha
            have htt' : tt ≠ 0 := by
              intro hh; rw [← beq_iff] at hh; rw [hh] at htt; cases htt
            obtain ⟨rfl, rfl⟩ := hb6 htt'
            have hlen : ns.length = z.toNat := by
              have := congrArg List.length hns
              simp at this; omega
            have hz : (((ns.map fun n : Int => UInt8.ofNat n.toNat).length : Nat) : Int) = z := by rw [List.length_map, hlen]; omega
            have hrun := Lib.run_unsafeString_row (P := P) w t it ty u hu hce b vs.size (shape_row hb1) (ns.map fun n : Int => UInt8.ofNat n.toNat)
              (by intro hh; rw [List.map_eq_nil_iff] at hh; rw [hh] at hlen; simp at hlen; omega) (by rw [List.length_map, hlen]; omega) (by rw [List.length_map, hlen]; omega) (by
                intro j x hj
                rw [List.getElem?_map, Option.map_eq_some_iff] at hj
                obtain ⟨v, hj, rfl⟩ := hj
                have hv := hrange v (List.mem_of_getElem? hj)
                have hjl : j < z.toNat := by rw [← hlen]; exact (List.getElem?_eq_some_iff.1 hj).1
                have h2 : ((vs.extract (0 + 0) (0 + 0 + z.toNat)).toList)[j]? = some (.int .u8 v) := by rw [hns]; simp [hj]
                rw [Array.getElem?_toList, Array.getElem?_extract] at h2
                have hvs : vs[j]? = some (.int .u8 v) := by
                  split at h2
                  · simpa using h2
                  · cases h2
                have hx : ((UInt8.ofNat v.toNat).toNat : Int) = v := by
                  rw [UInt8.toNat_ofNat', Nat.mod_eq_of_lt (by omega)]; omega
                rw [hx]
                have hadd : (⟨b, 0, none⟩ : Addr).add j = ⟨b, j, none⟩ := by rw [add_at]; simp
                rw [hadd]
                simp only [World.cell?, hb1]
                exact hvs)
            rw [hz] at hrun
            refine ⟨_, w.freeze ⟨b, 0, none⟩ _, upd φ i .dead, run_valued_ok hrun, .inl ⟨_, rfl, ?_⟩, step_drop H hg hro hφ (freeze_size _ _ _) (fun k hk => freeze_other w hk _ _) (freeze_os _ _ _).1 (freeze_os _ _ _).2.1 (freeze_os _ _ _).2.2⟩
            exact VRel.mono (Ext.upd (by rw [hφ]; exact .inr rfl)) _ _ hvr
          · trivial
      · trivial
    · trivial
  · trivial

theorem wMarkBytes_ok {s el : TypeId} {x : Opd} {cx : Value} (H : HRel ng φ h w) (hs : P.underlying s = some (.slice el)) (he : P.underlying el = some (.int .u8)) (hx : VRel φ (x.ev e r) cx) :
    WOk P ng φ h w (valued (convert s s cx)) ((wMarkBytes x).f e r h) := by
  simp only [wMarkBytes]
  split
  · rename_i i o esz len cap ex' ex
    rw [ex] at hx
    have hx' := hx
    obtain ⟨a, c, rfl, h1, h2, h3, hsl⟩ := hx
    split
    · rename_i m cc t ro hg
      cases hro : (ro || Nat.beq cap 0) with
      | true => trivial
      | false =>
        simp only [Bool.or_eq_false_iff] at hro
        obtain ⟨rfl, hcap⟩ := hro
        have hc0 : 0 < c := by
          rcases Nat.eq_zero_or_pos cap with hz | hz
          · subst hz; simp at hcap
          · omega
        obtain ⟨b, p, n, hφ, vs, u, fz, hb1, hb2, hb3, hb4, hb5, hb6⟩ := at_of H hg hsl.notUn
        have ha := hsl.ptr hc0
        simp only [PtrOk, hφ] at ha
        subst ha
        have hfr := freeze_heap w hb1 vs.size 1 (by omega)
        have hst := step_set H hg (blk' := .cells m cc t false) rfl rfl hφ (w' := w.freeze ⟨b, vs.size, none⟩ 1) hfr (freeze_size _ _ _) (fun k hk => freeze_other w hk _ _) (freeze_os _ _ _).1 (freeze_os _ _ _).2.1 (freeze_os _ _ _).2.2
          ⟨vs, u, _, hfr, hb2, hb3, hb4, fun _ => by
            right
            have := hb5 rfl
            split
            · exact Nat.le_refl _
            · rename_i hne
              simp only [beq_iff_eq] at hne
              rcases this with h | h
              · exact absurd h hne
              · simp only [Nat.le_min]; exact ⟨h, Nat.le_refl _⟩, hb6⟩
        refine ⟨_, w.freeze ⟨b, vs.size, none⟩ 1, φ, run_valued_ok (v := .slice (some ⟨b, p + o, none⟩) len c) ?_, .inl ⟨_, rfl, ⟨_, c, rfl, h1, h2, h3, hsl⟩⟩, ?_, ?_⟩
        · simp only [convert, Sem.run_bind, run_underlying hs, Result.andThen_ok, run_underlying he, beq_self_eq_true]
          simp [markStringish, shape_row hb1, run_underlying he]
        · have := hst.1
          exact ⟨this.fresh, this.glob, fun j bl hj => by
            have hjj := this.blk j bl
            rw [AHeap.get_set] at hjj
            by_cases hji : j = i
            · subst hji; rw [hg] at hj; cases hj; exact hjj (by simp)
            · exact hjj (by rw [if_neg hji]; exact hj), fun j k bj bk cj pj nj pk nk hj hk hne ej ek => by
            have hjj := this.inj j k bj bk cj pj nj pk nk
            rw [AHeap.get_set, AHeap.get_set] at hjj
            refine hjj ?_ ?_ hne ej ek
            · by_cases hji : j = i
              · subst hji; rw [hg] at hj; cases hj; simp
              · rw [if_neg hji]; exact hj
            · by_cases hji : k = i
              · subst hji; rw [hg] at hk; cases hk; simp
              · rw [if_neg hji]; exact hk, this.lt, H.dom⟩
        · have k := hst.2
          refine ⟨k.ext, k.os, k.tape, k.output, k.size, k.same, fun b' hb' hlt => hb', fun j hj ej => ⟨rfl, ej⟩, Nat.le_refl _⟩
    · trivial
  · trivial

end
end Go.Abs

/- The abstract machine: append. -/
namespace Go.Abs
variable [Fct] [Val]

section
variable {P : Program} {ng : Nat} {φ : Phi} {h : AHeap} {w : World} {e : Env} {r : Regs}

/-- What is appended: so many elements, that are these cells, in every world with this heap. -/
structure Appended (P : Program) (size : Nat) (w : World) (x : Value) (n : Nat) (news : Array Value) : Prop where
  len : ∀ w', (Builtin.lenOf x).run P w' = .ok n w'
  first : ∀ w', w'.heap = w.heap → (Builtin.firstCells size n x).run P w' = .ok news w'
  size : news.size = n * size

section
variable {ts : Array TypeId} {t u ty el : TypeId} {i : TypeInfo} {z : Value} (hts0 : ts[0]? = some t) (hts1 : ts[1]? = some u) (ht : P.underlying t = some (.slice el)) (hu : (∃ e2, P.underlying u = some (.slice e2)) ∨ P.underlying u = some .string) (hi : P.info? el = some i) (hz : i.zero = some z)
include hts0 hts1 ht hu hi hz

theorem append_room {base : Option Addr} {sLen sCap n : Nat} {x : Value} {news : Array Value} (hx : Appended P i.size w x n news) (hr : sLen + n ≤ sCap) :
    (Builtin.append_ ts ty #[.slice base sLen sCap, x]).run P w =
      ((match base with | some a => storeCells (a.add (sLen * i.size)) news.toList | none => pure () : Sem Unit).run P w).andThen fun _ w' => .ok (.slice base (sLen + n) sCap) w' := by
  rcases hu with ⟨e2, hd⟩ | hd <;> cases base <;>
    simp [Builtin.append_, hts0, hts1, run_underlying ht, run_underlying hd, sizeOf, typeInfo, hi, hx.len, hr, hx.first w rfl]

theorem append_grow {base : Option Addr} {sLen sCap n : Nat} {x : Value} {olds news : Array Value} (hx : Appended P i.size w x n news)
    (ho : ∀ w', w'.heap = w.heap → (Builtin.firstCells i.size sLen (.slice base sLen sCap)).run P w' = .ok olds w')
    (hg : sCap < sLen + n) (h63 : sLen + n ≤ 1099511627776) (hfit : (sLen + n) * i.bytes ≤ 1099511627776) :
    (Builtin.append_ ts ty #[.slice base sLen sCap, x]).run P w =
      .ok (.slice (some ⟨w.heap.size, 0, none⟩) (sLen + n) (grownCap w (sLen + n) sCap el))
        (w.drew.alloc (.cells (olds ++ news ++ Builtin.zeroCells z.cells (grownCap w (sLen + n) sCap el - (sLen + n))) el)) := by
  have hn : ¬ (sLen + n ≤ sCap) := by omega
  have h63' : ¬ (9223372036854775807 < ((sLen : Int) + (n : Int))) := by omega
  have hfit' := growslice_fits (need := sLen + n) (old := sCap) (bytes := i.bytes) hg (by omega)
  have h48' : ¬ (281474976710656 < Builtin.nextslicecap (sLen + n) sCap * i.bytes) := by omega
  have h1 := hx.first w.drew rfl
  have h2 := ho w.drew rfl
  rcases hu with ⟨e2, hd⟩ | hd <;> (simp [Builtin.append_, hts0, hts1, run_underlying ht, run_underlying hd, sizeOf, typeInfo, zeroValue, hi, hz, hx.len, hn, h63', h48', Question.forced, h1, h2, newRow, grownCap]; done)

end

theorem grownCap_ge (w : World) (need old : Nat) (el : TypeId) : need ≤ grownCap w need old el := by
  simp [grownCap, Question.cut]

theorem grown_size {z : Value} {size : Nat} (hz : z.cells.size = size) {olds news : Array Value} {a b c : Nat} (ho : olds.size = a * size) (hn : news.size = b * size) (hc : a + b ≤ c) :
    (olds ++ news ++ Builtin.zeroCells z.cells (c - (a + b))).size = c * size := by
  have : (Builtin.zeroCells z.cells (c - (a + b))).size = (c - (a + b)) * size := by simp [Builtin.zeroCells, hz]
  rw [Array.size_append, Array.size_append, ho, hn, this, ← Nat.add_mul, ← Nat.add_mul]
  congr 1; omega

/-- A row of the model that is longer than the abstract one. -/
theorem brel_longer {φ : Phi} {cs : List AV} {vs rest : Array Value} {t : TypeId} {w : World} (h : VRels φ cs vs.toList) :
    BRel φ (rowOf cs t) w.heap.size 0 (vs ++ rest).size (w.alloc (.cells (vs ++ rest) t)) := by
  refine ⟨vs ++ rest, t, (0, 0), heap_alloc_new _ _, by omega, ?_, fun k hk => ?_, fun _ => .inl rfl, fun _ => ⟨rfl, rfl⟩⟩
  · have := h.length; simp at this; simp; omega
  · simp only [lenQ_eq] at hk
    rw [get_putsV, if_pos ⟨by omega, by omega⟩]
    obtain ⟨v, hv, hr⟩ := h.get k cs[k] (List.getElem?_eq_getElem hk)
    have hk2 : k < vs.size := by have := h.length; simp at this; omega
    refine ⟨v, ?_, ?_⟩
    · rw [Nat.zero_add, Array.getElem?_append_left hk2, ← Array.getElem?_toList]; exact hv
    · rw [Nat.sub_zero, List.getElem?_eq_getElem hk]; exact hr

theorem brel_longer0 {φ : Phi} {cs : List AV} {vs rest : Array Value} {t : TypeId} {w : World} (h : VRels φ cs vs.toList) :
    BRel φ (rowOf cs 0) w.heap.size 0 (vs ++ rest).size (w.alloc (.cells (vs ++ rest) t)) := by
  obtain ⟨a, b, c, h1, h2, h3, h4, h5, h6⟩ := brel_longer (rest := rest) (t := t) (w := w) h
  exact ⟨a, b, c, h1, h2, h3, h4, h5, fun h0 => absurd rfl h0⟩

/-- The model grows: a new row, of cells that are known, then of zeros. -/
theorem grow_step (H : HRel ng φ h w) {cs : List AV} {vs rest : Array Value} {t : TypeId} (k : VRels φ cs vs.toList) {blk : ABlk} (hb : ∀ φ', Ext φ φ' → BRel φ' blk w.heap.size 0 (vs ++ rest).size (w.drew.alloc (.cells (vs ++ rest) t))) :
    HRel ng (upd φ h.next (.at w.heap.size 0 (vs ++ rest).size)) (h.new blk) (w.drew.alloc (.cells (vs ++ rest) t)) ∧
      Stp φ h w (upd φ h.next (.at w.heap.size 0 (vs ++ rest).size)) (h.new blk) (w.drew.alloc (.cells (vs ++ rest) t)) := by
  have H' : HRel ng φ h w.drew := H.heap_eq rfl
  have hext : Ext φ (upd φ h.next (.at w.heap.size 0 (vs ++ rest).size)) := Ext.upd (by rw [H.fresh _ (Nat.le_refl _)]; trivial)
  have := step_new H' blk (.cells (vs ++ rest) t) (vs ++ rest).size (hb _ hext)
  exact ⟨this.1, (Stp.heap_eq (w := w) (w' := w.drew) rfl rfl rfl rfl).trans this.2⟩

theorem grow_stepX (H : HRel ng φ h w) {vs : Array Value} {t : TypeId} {blk : ABlk} (hb : ∀ φ', Ext φ φ' → BRel φ' blk w.heap.size 0 vs.size (w.drew.alloc (.cells vs t))) :
    HRel ng (upd φ h.next (.at w.heap.size 0 vs.size)) (h.new blk) (w.drew.alloc (.cells vs t)) ∧
      Stp φ h w (upd φ h.next (.at w.heap.size 0 vs.size)) (h.new blk) (w.drew.alloc (.cells vs t)) := by
  have H' : HRel ng φ h w.drew := H.heap_eq rfl
  have hext : Ext φ (upd φ h.next (.at w.heap.size 0 vs.size)) := Ext.upd (by rw [H.fresh _ (Nat.le_refl _)]; trivial)
  have := step_new H' blk (.cells vs t) vs.size (hb _ hext)
  exact ⟨this.1, (Stp.heap_eq (w := w) (w' := w.drew) rfl rfl rfl rfl).trans this.2⟩

/-- What the cells of the slice's first elements are, where the abstract heap tells. -/
theorem olds_of (H : HRel ng φ h w) {i o esz len c sCap : Nat} {a : Addr} (hsl : SlOk φ i o esz c a) (hlc : len ≤ c) {cs : List AV} (hcs : h.cellsAt i o (len * esz) = some cs) {b p nn : Nat} (hφ : φ i = .at b p nn) :
    ∃ olds : Array Value, VRels φ cs olds.toList ∧ olds.size = len * esz ∧ (∀ vs t fz, w.heap[b]? = some (.cells vs t fz) → olds = vs.extract (p + o) (p + o + len * esz)) ∧ (∀ w', w'.heap = w.heap → (Builtin.firstCells esz len (.slice (some a) len sCap)).run P w' = .ok olds w') := by
  obtain ⟨vs, t, fz, h1, h2, h3, h4⟩ := loads_of H hcs hφ
  refine ⟨vs.extract (p + o) (p + o + len * esz), h3, by simp; omega, fun vs' t' fz' h1' => (by rw [h1] at h1'; cases h1'; rfl), fun w' hw => ?_⟩
  rcases Nat.eq_zero_or_pos len with hz | hz
  · subst hz
    simp [Builtin.firstCells, loadCells, loadCellsFrom]
    omega
  · have ha := hsl.ptr (show 0 < c by omega)
    simp only [PtrOk, hφ] at ha
    subst ha
    have := run_loads P (w := w') (b := b) (o := p + o) (by rw [hw]; exact h1) (len * esz) h2
    simpa [Builtin.firstCells] using this

/-- A block of the abstract heap that holds certain cells, and the model's row that holds theirs. -/
theorem brel_of {φ : Phi} {cs : List AV} {cvs : List Value} {vs : Array Value} {u t : TypeId} {fz : Nat × Nat} {b p n M : Nat} {c : T AV} {w : World} (k : VRels φ cs cvs) (hw : w.heap[b]? = some (.cells vs u fz)) (hsz : vs.size = p + n)
    (hM : M = cs.length) (hle : M ≤ n) (hc : ∀ k a, cs[k]? = some a → (c.get k).getD .junk = a) (hv : ∀ k, k < cs.length → vs[p + k]? = cvs[k]?) (hfz : fz.1 = fz.2 ∨ vs.size ≤ fz.1) (ht : t ≠ 0 → u = t ∧ p = 0) :
    BRel φ (.cells M c t false) b p n w := by
  subst hM
  refine ⟨vs, u, fz, hw, hsz, hle, fun q hq => ?_, fun _ => hfz, ht⟩
  obtain ⟨v, h1, h2⟩ := k.get q cs[q] (List.getElem?_eq_getElem hq)
  refine ⟨v, by rw [hv q hq, h1], ?_⟩
  rw [hc q cs[q] (List.getElem?_eq_getElem hq)]; exact h2

theorem getsV_append_puts (c : T AV) (m : Nat) (new : List AV) (k : Nat) : ((putsV new c m).get k).getD .junk = if m ≤ k ∧ k < m + new.length then (new[k - m]?).getD .junk else (c.get k).getD .junk := by
  rw [get_putsV]; split <;> rfl

theorem SlOk_zero {φ : Phi} {i esz c b n : Nat} (hφ : φ i = .at b 0 n) (h : c * esz ≤ n) : SlOk φ i 0 esz c ⟨b, 0, none⟩ := by
  simp only [SlOk, hφ]; exact ⟨fun _ => by simp, by omega⟩

theorem nat_beq_false {a b : Nat} (h : Nat.beq a b = false) : a ≠ b := by
  intro hh; rw [← beq_iff] at hh; rw [h] at hh; cases hh

theorem nat_blt_false {a b : Nat} (h : Nat.blt a b = false) : b ≤ a := by
  rcases Nat.lt_or_ge a b with hl | hl
  · rw [← blt_iff, h] at hl; cases hl
  · exact hl

theorem nat_ble_false {a b : Nat} (h : Nat.ble a b = false) : b < a := by
  rcases Nat.lt_or_ge b a with hl | hl
  · exact hl
  · rw [ge_iff_le, ← ble_iff, h] at hl; cases hl

theorem segsIn_ok {esz lid : Nat} {loff : Int} (hp : 0 < esz) : ∀ {segs : List (Nat × Int × List AV)}, segsIn esz lid loff segs = true → ∀ s ∈ segs, 0 ≤ Val.num s.1 + s.2.1 → 0 ≤ Val.num lid + loff → (Val.num s.1 + s.2.1).toNat * esz + s.2.2.length ≤ (Val.num lid + loff).toNat * esz
  | [], _, s, hs => by cases hs
  | (id, off, cs) :: r, h, s, hs => by
    simp only [segsIn, T.ifB_eq] at h
    split at h
    · rename_i h1
      have h1 := isLe_ok h1
      rcases List.mem_cons.1 hs with rfl | hs
      · intro g0 g1
        simp only [lenQ_eq, Nat.add_eq, Nat.pred_eq_sub_one] at h1
        have hd : cs.length ≤ (cs.length + (esz - 1)) / esz * esz := by
          have := Nat.div_add_mod (cs.length + (esz - 1)) esz
          have hlt := Nat.mod_lt (cs.length + (esz - 1)) hp
          rw [Nat.mul_comm] at this
          omega
        have h2 : (Val.num id + off).toNat + (cs.length + (esz - 1)) / esz ≤ (Val.num lid + loff).toNat := by
          have : Nat.div (cs.length + (esz - 1)) esz = (cs.length + (esz - 1)) / esz := rfl
          rw [this, Int.ofNat_eq_natCast] at h1
          simp only at g0
          omega
        have := Nat.mul_le_mul_right esz h2
        rw [Nat.add_mul] at this
        simp only; omega
      · exact segsIn_ok hp h s hs
    · cases h

/-- A row that is told by names, its first elements moved, others behind them. -/
theorem brel_rowX {φ : Phi} {vs ws : Array Value} {news : List Value} {new : List AV} {nm esz cid lid : Nat} {coff loff : Int} {segs : List (Nat × Int × List AV)} {t u p p' n : Nat} {b : Nat} {fz : Nat × Nat} {w : World} (hp : 0 < esz)
    (hf : ∀ (j q : Nat), (j : Int) < Val.num cid + coff → q < esz → ∃ v, vs[p + (j * esz + q)]? = some v ∧ Val.cell nm j q v) (hs : ∀ s ∈ segs, SegOk φ vs p esz s) (hc : isLe cid coff lid loff = true) (hsi : segsIn esz lid loff segs = true) (h0 : 0 ≤ Val.num lid + loff)
    (hw : w.heap[b]? = some (.cells ws u fz)) (hsz : ws.size = p' + n) (hold : ∀ k, k < (Val.num lid + loff).toNat * esz → ws[p' + k]? = vs[p + k]?) (hnew : ∀ k v, news[k]? = some v → ws[p' + ((Val.num lid + loff).toNat * esz + k)]? = some v) (hr : VRels φ new news)
    (hfz : fz.1 = fz.2 ∨ ws.size ≤ fz.1) (ht : t ≠ 0 → u = t ∧ p' = 0) : BRel φ (.row nm esz cid coff ((lid, loff, new) :: segs) t false) b p' n w := by
  have hc := isLe_ok hc
  refine ⟨ws, u, fz, hw, hsz, ⟨fun j q hj hq => ?_, fun s hm => ?_⟩, fun _ => hfz, ht⟩
  · obtain ⟨v, h1, h2⟩ := hf j q hj hq
    refine ⟨v, ?_, h2⟩
    rw [hold _ ?_]
    · exact h1
    · have : j + 1 ≤ (Val.num lid + loff).toNat := by omega
      have := Nat.mul_le_mul_right esz this
      rw [Nat.add_mul, Nat.one_mul] at this
      omega
  · rcases List.mem_cons.1 hm with rfl | hm
    · refine ⟨h0, fun k a ha => ?_⟩
      obtain ⟨v, h1, h2⟩ := hr.get k a ha
      exact ⟨v, hnew k v h1, h2⟩
    · obtain ⟨h1, h2⟩ := hs s hm
      refine ⟨h1, fun k a ha => ?_⟩
      obtain ⟨v, h3, h4⟩ := h2 k a ha
      have hk := (List.getElem?_eq_some_iff.1 ha).1
      have := segsIn_ok hp hsi s hm h1 h0
      exact ⟨v, by rw [hold _ (by omega)]; exact h3, h4⟩

theorem aAppend_ok (H : HRel ng φ h w) {ts : Array TypeId} {t u ty el : TypeId} {i : TypeInfo} {z : Value} (hts0 : ts[0]? = some t) (hts1 : ts[1]? = some u) (ht : P.underlying t = some (.slice el))
    (hu : (∃ e2, P.underlying u = some (.slice e2)) ∨ P.underlying u = some .string) (hi : P.info? el = some i) (hz : i.zero = some z) (hzs : z.cells.size = i.size) (hpos : 0 < i.size)
    {s : AV} {cs x : Value} {n : Nat} {news : Array Value} {new : List AV} (hs : VRel φ s cs) (hx : Appended P i.size w x n news) (hnew : VRels φ new news.toList) :
    WOk P ng φ h w (valued (Builtin.append_ ts ty #[cs, x])) (aAppend h el i.size i.bytes s new n) := by
  have room := fun (base : Option Addr) (sLen sCap : Nat) hr => append_room (ty := ty) hts0 hts1 ht hu hi hz (base := base) (sLen := sLen) (sCap := sCap) hx hr
  have grow := fun (base : Option Addr) (sLen sCap : Nat) (olds : Array Value) ho hg h63 hfit => append_grow (ty := ty) hts0 hts1 ht hu hi hz (base := base) (sLen := sLen) (sCap := sCap) (olds := olds) hx ho hg h63 hfit
  have hnl : new.length = n * i.size := by
    have := hnew.length; simp at this; rw [← this]; exact hx.size
  unfold aAppend
  split
  · rename_i a es len cap ex
    cases hbig : (Nat.blt 1099511627776 ((len + n) * i.bytes) || Nat.blt 1099511627776 (len + n)) with
    | true => trivial
    | false =>
      simp only [Bool.or_eq_false_iff] at hbig
      have hfit := nat_blt_false hbig.1
      have h63 := nat_blt_false hbig.2
      simp only [cond_false]
      cases hn0 : Nat.beq n 0 with
      | true =>
        rw [beq_iff] at hn0
        subst hn0
        have hnews : news.toList = [] := by
          have := hx.size; rw [Nat.zero_mul] at this
          rw [← List.length_eq_zero_iff, Array.length_toList]; exact this
        simp only [cond_true]
        cases a with
        | none =>
          obtain ⟨rfl, rfl, rfl⟩ := hs
          refine ⟨_, w, φ, run_valued_ok (v := .slice none 0 0) ?_, .inl ⟨_, rfl, ⟨rfl, rfl, rfl⟩⟩, H, Stp.refl _ _ _⟩
          rw [room none 0 0 (by omega)]; rfl
        | some p =>
          obtain ⟨i0, o⟩ := p
          have hs' := hs
          obtain ⟨ad, c, rfl, h1, h2, h3, hsl⟩ := hs
          refine ⟨_, w, φ, run_valued_ok (v := .slice (some ad) len c) ?_, .inl ⟨_, rfl, hs'⟩, H, Stp.refl _ _ _⟩
          rw [room (some ad) len c (by omega), hnews]; rfl
      | false =>
        have hn : n ≠ 0 := nat_beq_false hn0
        simp only [cond_false]
        cases a with
        | none =>
          obtain ⟨rfl, rfl, rfl⟩ := hs
          simp only [Nat.zero_add] at h63 hfit
          have hrun := grow none 0 0 #[] (fun w' _ => run_firstCells_none w' i.size 0 0 0) (by omega) (by omega) (by simpa using hfit)
          simp only [Nat.zero_add, Array.empty_append] at hrun
          have hstep := grow_step (rest := Builtin.zeroCells z.cells (grownCap w n 0 el - n)) (t := el) H hnew (fun φ' he => brel_longer (w := w.drew) (VRels.mono he _ _ hnew))
          refine ⟨_, _, _, run_valued_ok hrun, .inl ⟨_, rfl, _, _, rfl, Nat.le_refl _, grownCap_ge _ _ _ _, by simp, SlOk_zero (upd_same _ _ _) ?_⟩, hstep⟩
          have := grown_size (z := z) hzs (olds := #[]) (news := news) (a := 0) (b := n) (c := grownCap w n 0 el) (by simp) hx.size (by have := grownCap_ge w n 0 el; omega)
          simp only [Nat.zero_add, Array.empty_append] at this
          omega
        | some p =>
          obtain ⟨i0, o⟩ := p
          obtain ⟨ad, c, rfl, h1, h2, h3, hsl⟩ := hs
          simp only
          cases hes : Nat.beq es i.size with
          | false => trivial
          | true =>
            rw [beq_iff] at hes
            subst hes
            simp only [cond_true]
            split
            · rename_i m cc t0 ro hg
              obtain ⟨b, p, nn, hφ, hb⟩ := at_of H hg hsl.notUn
              cases hroom : Nat.ble (len + n) cap with
              | true =>
                rw [ble_iff] at hroom
                simp only [cond_true]
                cases hst : h.store i0 (o + len * i.size) new with
                | none => trivial
                | some h' =>
                  have ha := hsl.ptr (show 0 < c by omega)
                  have ha2 : PtrOk φ i0 (o + len * i.size) (ad.add (len * i.size)) := ha.add _
                  obtain ⟨w', k1, k2, k3⟩ := store_ptr (P := P) H ha2 hnew hst
                  refine ⟨_, w', φ, run_valued_ok (v := .slice (some ad) (len + n) c) ?_, .inl ⟨_, rfl, _, _, rfl, hroom, h2, h3, hsl⟩, k2, k3⟩
                  rw [room (some ad) len c (by omega)]
                  simp only [k1, Result.andThen_ok]
              | false =>
                have hnr := nat_ble_false hroom
                simp only [cond_false]
                cases ex with
                | true =>
                  have hcc : c = cap := h3 rfl
                  simp only [cond_true]
                  cases hle : Nat.ble (o + len * i.size) m with
                  | false => trivial
                  | true =>
                    simp only [cond_true]
                    have hcs : h.cellsAt i0 o (len * i.size) = some (getsV cc (len * i.size) o) := by
                      simp only [AHeap.cellsAt, hg, T.ifB_eq]
                      rw [if_pos (show Nat.ble (Nat.add o (len * i.size)) m = true from hle)]
                    obtain ⟨olds, ho1, ho2, ho4, ho3⟩ := olds_of (P := P) (sCap := c) H hsl (by omega) hcs hφ
                    have hrun := grow (some ad) len c olds ho3 (by omega) h63 hfit
                    have hall : VRels φ (getsV cc (len * i.size) o ++ new) (olds ++ news).toList := by rw [Array.toList_append]; exact ho1.append hnew
                    have hstep := grow_step (rest := Builtin.zeroCells z.cells (grownCap w (len + n) c el - (len + n))) (t := el) H hall (fun φ' he => brel_longer (w := w.drew) (VRels.mono he _ _ hall))
                    refine ⟨_, _, _, run_valued_ok hrun, .inl ⟨_, rfl, _, _, rfl, Nat.le_refl _, grownCap_ge _ _ _ _, by simp, SlOk_zero (upd_same _ _ _) ?_⟩, hstep⟩
                    have := grown_size (z := z) hzs ho2 hx.size (grownCap_ge w (len + n) c el)
                    omega
                | false =>
                  simp only [cond_false]
                  cases hcond : (!ro && Nat.beq m (o + len * i.size) && allCells new) with
                  | false => trivial
                  | true =>
                    simp only [Bool.and_eq_true, Bool.not_eq_true', beq_iff] at hcond
                    obtain ⟨⟨rfl, hm⟩, hallc⟩ := hcond
                    have hcs : h.cellsAt i0 o (len * i.size) = some (getsV cc (len * i.size) o) := by
                      simp only [AHeap.cellsAt, hg, T.ifB_eq]
                      rw [if_pos (show Nat.ble (Nat.add o (len * i.size)) m = true from ble_iff.2 (by simp only [Nat.add_eq]; omega))]
                    obtain ⟨olds, ho1, ho2, ho4, ho3⟩ := olds_of (P := P) (sCap := c) H hsl (by omega) hcs hφ
                    have hall : VRels φ (getsV cc (len * i.size) o ++ new) (olds ++ news).toList := by rw [Array.toList_append]; exact ho1.append hnew
                    simp only [cond_true]
                    obtain ⟨vs, ut, fz, hb1, hb2, hb3, hb4, hb5, hb6⟩ := hb
                    have hblt : b < w.heap.size := (Array.getElem?_eq_some_iff.1 hb1).1
                    have hslφ := hsl
                    simp only [SlOk, hφ] at hslφ
                    have hlen0 : (getsV cc (len * i.size) o ++ new).length = (len + n) * i.size := by
                      rw [List.length_append, length_getsV, hnl, Nat.add_mul]
                    -- the abstract block, in two forms
                    have form0 : o = 0 → ∀ k a, (getsV cc (len * i.size) o ++ new)[k]? = some a → ((putsV new cc m).get k).getD .junk = a := by
                      intro h0 k a hk
                      subst h0
                      rw [get_putsV]
                      rcases Nat.lt_or_ge k (len * i.size) with hkl | hkl
                      · rw [if_neg (by omega)]
                        rw [List.getElem?_append_left (by rw [length_getsV]; exact hkl), getElem?_getsV _ _ _ _ hkl, Nat.zero_add] at hk
                        exact Option.some.inj hk
                      · rw [List.getElem?_append_right (by rw [length_getsV]; exact hkl), length_getsV] at hk
                        have hkn : k - len * i.size < new.length := (List.getElem?_eq_some_iff.1 hk).1
                        rw [if_pos (by omega), show k - m = k - len * i.size by omega, hk]; rfl
                    have form1 : ∀ k a, (getsV cc (len * i.size) o ++ new)[k]? = some a → ((putsV (getsV cc (len * i.size) o ++ new) .nil 0).get k).getD .junk = a := by
                      intro k a hk
                      have hkn := (List.getElem?_eq_some_iff.1 hk).1
                      rw [get_putsV, if_pos (by omega), Nat.sub_zero, hk]; rfl
                    rcases Nat.lt_or_ge c (len + n) with hgrow | hin
                    · -- a new row
                      have hrun := grow (some ad) len c olds ho3 hgrow h63 hfit
                      have hdrop := step_drop H hg rfl hφ (w' := w) rfl (fun _ _ => rfl) rfl rfl rfl
                      have hrow := grown_size (z := z) hzs ho2 hx.size (grownCap_ge w (len + n) c el)
                      have hallm := VRels.mono hdrop.2.ext _ _ hall
                      have hcvs : ∀ rest : Array Value, ∀ k, k < (getsV cc (len * i.size) o ++ new).length → (olds ++ news ++ rest)[0 + k]? = (olds ++ news).toList[k]? := by
                        intro rest k hk
                        rw [Nat.zero_add, Array.getElem?_append_left (by rw [Array.size_append, ho2, hx.size, ← Nat.add_mul]; omega), Array.getElem?_toList]
                      cases hoz : Nat.beq o 0 with
                      | true =>
                        rw [beq_iff] at hoz
                        simp only [cond_true]
                        have hstep := grow_step (rest := Builtin.zeroCells z.cells (grownCap w (len + n) c el - (len + n))) (t := el) hdrop.1 hallm
                          (blk := .cells ((len + n) * i.size) (putsV new cc m) (ifB (Nat.beq t0 el) el 0) false)
                          (fun φ' he => brel_of (VRels.mono he _ _ hallm) (heap_alloc_new _ _) (by omega) hlen0.symm (by rw [hrow]; exact Nat.mul_le_mul_right _ (grownCap_ge _ _ _ _)) (form0 hoz) (hcvs _) (.inl rfl)
                            (fun hne => by
                              rw [T.ifB_eq] at hne ⊢
                              split at hne
                              · rename_i hh; rw [if_pos hh]; exact ⟨rfl, rfl⟩
                              · exact absurd rfl hne))
                        refine ⟨_, _, _, run_valued_ok hrun, .inl ⟨_, rfl, _, _, rfl, Nat.le_refl _, grownCap_ge _ _ _ _, by simp, SlOk_zero (upd_same _ _ _) ?_⟩, hstep.1, hdrop.2.trans hstep.2⟩
                        omega
                      | false =>
                        simp only [cond_false]
                        have hstep := grow_step (rest := Builtin.zeroCells z.cells (grownCap w (len + n) c el - (len + n))) (t := el) hdrop.1 hallm
                          (blk := rowOf (getsV cc (len * i.size) o ++ new) 0)
                          (fun φ' he => brel_longer0 (w := w.drew) (VRels.mono he _ _ hallm))
                        refine ⟨_, _, _, run_valued_ok hrun, .inl ⟨_, rfl, _, _, rfl, Nat.le_refl _, grownCap_ge _ _ _ _, by simp, SlOk_zero (upd_same _ _ _) ?_⟩, hstep.1, hdrop.2.trans hstep.2⟩
                        omega
                    · -- in place
                      have had := hslφ.1 (by omega)
                      subst had
                      have hcn : (len + n) * i.size ≤ c * i.size := Nat.mul_le_mul_right _ hin
                      have hone : ∀ v ∈ news.toList, v.oneCell' = true := by
                        intro v hvm
                        obtain ⟨j, hj⟩ := List.getElem?_of_mem hvm
                        have hjl := (List.getElem?_eq_some_iff.1 hj).1
                        have hj' : j < new.length := by rw [hnl, ← hx.size]; simpa using hjl
                        obtain ⟨v', hv', hr⟩ := hnew.get j new[j] (List.getElem?_eq_getElem hj')
                        rw [hj] at hv'; cases hv'
                        exact oneCell_of hr (allCells_iff.1 hallc _ (List.getElem_mem _))
                      have hnlist : news.toList.length = n * i.size := by simpa using hx.size
                      have hmul : (len + n) * i.size = len * i.size + n * i.size := Nat.add_mul _ _ _
                      have hstr := run_stores P news.toList (i := 0) (o := p + o + len * i.size) hb1 (hb5 rfl) (by rw [hnlist]; omega) hone
                      rw [Nat.add_zero] at hstr
                      have hrun : (Builtin.append_ ts ty #[.slice (some ⟨b, p + o, none⟩) len c, x]).run P w = .ok (.slice (some ⟨b, p + o, none⟩) (len + n) c) (World.setRowAt w b (overwrite vs (p + o + len * i.size) news.toList) ut fz) := by
                        rw [room (some ⟨b, p + o, none⟩) len c hin]
                        simp only [add_none, hstr, Result.andThen_ok]
                      have hoe := ho4 vs ut fz hb1
                      have hcvs : ∀ k, k < (getsV cc (len * i.size) o ++ new).length → (overwrite vs (p + o + len * i.size) news.toList)[p + o + k]? = (olds ++ news).toList[k]? := by
                        intro k hk
                        rw [hlen0] at hk
                        rw [get_overwrite _ _ _ _ (by rw [hnlist]; omega), show (olds ++ news).toList[k]? = (olds ++ news)[k]? from Array.getElem?_toList]
                        rcases Nat.lt_or_ge k (len * i.size) with hkl | hkl
                        · rw [if_neg (by omega), Array.getElem?_append_left (by omega), hoe, Array.getElem?_extract]
                          rw [if_pos (by omega)]
                        · rw [if_pos (by rw [hnlist]; omega), Array.getElem?_append_right (by omega), ho2, Array.getElem?_toList]
                          congr 1; omega
                      have hsame := fun k hk => heap_setRowAt_other w (b := b) (k := k) hk (overwrite vs (p + o + len * i.size) news.toList) ut fz
                      have hhere := heap_setRowAt hblt (overwrite vs (p + o + len * i.size) news.toList) ut fz
                      have hext : ∀ p' n', Ext φ (upd (upd φ i0 .dead) h.next (.at b p' n')) := by
                        intro p' n'
                        have hi0 : i0 ≠ h.next := by
                          intro hh; subst hh; rw [H.fresh _ (Nat.le_refl _)] at hφ; cases hφ
                        exact Ext.trans (Ext.upd (s := .dead) (by rw [hφ]; exact .inr rfl)) (Ext.upd (by rw [upd_other φ _ (Ne.symm hi0), H.fresh _ (Nat.le_refl _)]; trivial))
                      cases hoz : Nat.beq o 0 with
                      | true =>
                        rw [beq_iff] at hoz
                        subst hoz
                        simp only [cond_true]
                        have hstep := step_move H hg rfl (blk' := .cells ((len + n) * i.size) (putsV new cc m) (ifB (Nat.beq t0 el) el 0) false) rfl hφ (p' := p) (n' := nn) (w' := World.setRowAt w b (overwrite vs (p + 0 + len * i.size) news.toList) ut fz)
                          (by simp [World.setRowAt]) hsame rfl rfl rfl
                          (brel_of (VRels.mono (hext _ _) _ _ hall) hhere (by rw [size_overwrite]; exact hb2) hlen0.symm (by omega) (form0 rfl) (by simpa using hcvs) (by rw [size_overwrite]; exact hb5 rfl)
                            (fun hne => by
                              rw [T.ifB_eq] at hne ⊢
                              split at hne
                              · rename_i hh; rw [if_pos hh]; rw [beq_iff] at hh; subst hh; exact hb6 hne
                              · exact absurd rfl hne))
                        refine ⟨_, _, _, run_valued_ok hrun, .inl ⟨_, rfl, _, _, rfl, Nat.le_refl _, hin, by simp, ?_⟩, hstep.1, hstep.2⟩
                        simp only [SlOk, upd_same]
                        exact ⟨fun _ => by simp, by omega⟩
                      | false =>
                        simp only [cond_false]
                        have hstep := step_move H hg rfl (blk' := rowOf (getsV cc (len * i.size) o ++ new) 0) rfl hφ (p' := p + o) (n' := nn - o) (w' := World.setRowAt w b (overwrite vs (p + o + len * i.size) news.toList) ut fz)
                          (by simp [World.setRowAt]) hsame rfl rfl rfl
                          (brel_of (VRels.mono (hext _ _) _ _ hall) hhere (by rw [size_overwrite]; omega) (by rw [lenQ_eq]) (by rw [lenQ_eq, hlen0]; omega) form1 hcvs (by rw [size_overwrite]; exact hb5 rfl)
                            (fun hne => absurd rfl hne))
                        refine ⟨_, _, _, run_valued_ok hrun, .inl ⟨_, rfl, _, _, rfl, Nat.le_refl _, hin, by simp, ?_⟩, hstep.1, hstep.2⟩
                        simp only [SlOk, upd_same]
                        exact ⟨fun _ => by simp, by omega⟩
            · cases hcond : (ex && Nat.beq len 0 && Nat.blt cap n) with
              | false => trivial
              | true =>
                simp only [Bool.and_eq_true, beq_iff, blt_iff] at hcond
                obtain ⟨⟨hex, rfl⟩, hcap⟩ := hcond
                have hcc : c = cap := h3 hex
                simp only [Nat.zero_add] at h63 hfit
                have hrun := grow (some ad) 0 c #[] (fun w' _ => by simp [Builtin.firstCells, loadCells, loadCellsFrom]) (by omega) (by omega) (by simpa using hfit)
                simp only [Nat.zero_add, Array.empty_append] at hrun
                have hstep := grow_step (rest := Builtin.zeroCells z.cells (grownCap w n c el - n)) (t := el) H hnew (fun φ' he => brel_longer (w := w.drew) (VRels.mono he _ _ hnew))
                refine ⟨_, _, _, run_valued_ok hrun, .inl ⟨_, rfl, _, _, rfl, Nat.le_refl _, grownCap_ge _ _ _ _, by simp, SlOk_zero (upd_same _ _ _) ?_⟩, hstep⟩
                have := grown_size (z := z) hzs (olds := #[]) (news := news) (a := 0) (b := n) (c := grownCap w n c el) (by simp) hx.size (by have := grownCap_ge w n c el; omega)
                simp only [Nat.zero_add, Array.empty_append] at this
                omega
            · trivial
  · rename_i i0 sc e lid loff
    cases hcond : (Nat.beq e i.size && (Nat.blt 0 n && (isLe 0 0 lid loff && isLe lid (loff + Int.ofNat n) 0 268435456 && allCells new)) && Nat.ble i.bytes 4096) with
    | false => trivial
    | true =>
      simp only [Bool.and_eq_true, beq_iff, blt_iff, ble_iff] at hcond
      obtain ⟨⟨rfl, hn, ⟨_, hlim⟩, hallc⟩, hby⟩ := hcond
      have hlim := isLe_ok hlim
      rw [Val.num0, Int.ofNat_eq_natCast] at hlim
      simp only [cond_true]
      split
      · rename_i nm e' cid coff segs t0 ro hg
        cases hcond : (!ro && Nat.beq e' i.size && (isLe cid coff lid loff && segsIn i.size lid loff segs)) with
        | false => trivial
        | true =>
          simp only [Bool.and_eq_true, Bool.not_eq_true', beq_iff] at hcond
          obtain ⟨⟨rfl, rfl⟩, hc1, hc2⟩ := hcond
          simp only [cond_true]
          obtain ⟨_, h1, ad, c, rfl, hlc, hsl⟩ := hs
          have ez : (Val.num 0 * (sc : Int) + Int.ofNat 0).toNat = 0 := by rw [Val.num0]; simp
          rw [ez] at hsl
          have e2 : Val.num lid + (loff + Int.ofNat n) = Val.num lid + loff + n := by rw [Int.ofNat_eq_natCast]; omega
          obtain ⟨b, p, nn, hφ, hb⟩ := at_of H hg hsl.notUn
          obtain ⟨vs, ut, fz, hb1, hb2, ⟨hb3, hb4⟩, hb5, hb6⟩ := hb
          have hblt : b < w.heap.size := (Array.getElem?_eq_some_iff.1 hb1).1
          have hslφ := hsl
          simp only [SlOk, hφ, Nat.zero_add, Nat.add_zero] at hslφ
          have hlen : (Val.num lid + loff + n).toNat = (Val.num lid + loff).toNat + n := by omega
          generalize hL : (Val.num lid + loff).toNat = L at *
          have hLi : Val.num lid + loff = L := by omega
          have h63 : L + n ≤ 268435456 := by omega
          have hfit : (L + n) * i.bytes ≤ 1099511627776 := Nat.le_trans (Nat.mul_le_mul h63 hby) (by decide)
          have hLc := Nat.mul_le_mul_right i.size hlc
          have hnlist : news.toList.length = n * i.size := by simpa using hx.size
          rcases Nat.lt_or_ge c (L + n) with hgrow | hin
          · have ho1 : ∀ w', w'.heap = w.heap → (Builtin.firstCells i.size L (.slice (some ad) L c)).run P w' = .ok (vs.extract p (p + L * i.size)) w' := by
              intro w' hw
              rcases Nat.eq_zero_or_pos L with hz | hz
              · subst hz
                simp [Builtin.firstCells, loadCells, loadCellsFrom]
                omega
              · have ha := hslφ.1 (by omega)
                subst ha
                have := run_loads P (w := w') (b := b) (o := p) (by rw [hw]; exact hb1) (L * i.size) (by omega)
                simpa [Builtin.firstCells] using this
            have hrun := grow (some ad) L c _ ho1 hgrow (by omega) hfit
            have hos : (vs.extract p (p + L * i.size)).size = L * i.size := by simp; omega
            have hrow := grown_size (z := z) hzs hos hx.size (grownCap_ge w (L + n) c el)
            have hdrop := step_drop H hg rfl hφ (w' := w) rfl (fun _ _ => rfl) rfl rfl rfl
            have hstep := grow_stepX (vs := vs.extract p (p + L * i.size) ++ news ++ Builtin.zeroCells z.cells (grownCap w (L + n) c el - (L + n))) (t := el) hdrop.1
              (blk := .row nm i.size cid coff ((lid, loff, new) :: segs) (ifB (Nat.beq t0 el) el 0) false)
              (fun φ' he => brel_rowX (vs := vs) (news := news.toList) (p := p) hpos hb3 (fun s hs => ((hb4 s hs).mono hdrop.2.ext).mono he) hc1 hc2 (by omega) (heap_alloc_new _ _) (by omega)
                (fun k hk => by
                  rw [hL] at hk
                  rw [Nat.zero_add, Array.append_assoc, Array.getElem?_append_left (by omega), Array.getElem?_extract, if_pos (by omega)])
                (fun k v hv => by
                  rw [hL]
                  have hk := (List.getElem?_eq_some_iff.1 hv).1
                  rw [Array.length_toList] at hk
                  rw [Nat.zero_add, Array.append_assoc, Array.getElem?_append_right (by omega), hos, Nat.add_sub_cancel_left, Array.getElem?_append_left hk, ← Array.getElem?_toList]
                  exact hv)
                ((VRels.mono hdrop.2.ext _ _ hnew).mono he) (.inl rfl)
                (fun hne => by
                  rw [T.ifB_eq] at hne ⊢
                  split at hne
                  · rename_i hh; rw [if_pos hh]; exact ⟨rfl, rfl⟩
                  · exact absurd rfl hne))
            refine ⟨_, _, _, run_valued_ok hrun, .inl ⟨_, rfl, ?_, by omega, ⟨w.heap.size, 0, none⟩, grownCap w (L + n) c el, ?_, ?_, ?_⟩, hstep.1, hdrop.2.trans hstep.2⟩
            · rw [Val.num0]; simp
            · rw [e2, hlen]
            · rw [e2, hlen]; exact grownCap_ge _ _ _ _
            · have ez' : (Val.num 0 * ((0 : Nat) : Int) + 0).toNat = 0 := by rw [Val.num0]; simp
              rw [ez']
              exact SlOk_zero (upd_same _ _ _) (by omega)
          · have hcn : (L + n) * i.size ≤ c * i.size := Nat.mul_le_mul_right _ hin
            have had := hslφ.1 (by omega)
            subst had
            have hone : ∀ v ∈ news.toList, v.oneCell' = true := by
              intro v hvm
              obtain ⟨j, hj⟩ := List.getElem?_of_mem hvm
              have hjl := (List.getElem?_eq_some_iff.1 hj).1
              have hj' : j < new.length := by rw [hnl, ← hx.size]; simpa using hjl
              obtain ⟨v', hv', hr⟩ := hnew.get j new[j] (List.getElem?_eq_getElem hj')
              rw [hj] at hv'; cases hv'
              exact oneCell_of hr (allCells_iff.1 hallc _ (List.getElem_mem _))
            have hmul : (L + n) * i.size = L * i.size + n * i.size := Nat.add_mul _ _ _
            have hstr := run_stores P news.toList (i := 0) (o := p + L * i.size) hb1 (hb5 rfl) (by rw [hnlist]; omega) hone
            rw [Nat.add_zero] at hstr
            have hrun : (Builtin.append_ ts ty #[.slice (some ⟨b, p, none⟩) L c, x]).run P w = .ok (.slice (some ⟨b, p, none⟩) (L + n) c) (World.setRowAt w b (overwrite vs (p + L * i.size) news.toList) ut fz) := by
              rw [room (some ⟨b, p, none⟩) L c hin]
              simp only [add_none, hstr, Result.andThen_ok]
            have hsame := fun k hk => heap_setRowAt_other w (b := b) (k := k) hk (overwrite vs (p + L * i.size) news.toList) ut fz
            have hhere := heap_setRowAt hblt (overwrite vs (p + L * i.size) news.toList) ut fz
            have hext : Ext φ (upd (upd φ i0 .dead) h.next (.at b p nn)) := by
              have hi0 : i0 ≠ h.next := by
                intro hh; subst hh; rw [H.fresh _ (Nat.le_refl _)] at hφ; cases hφ
              exact Ext.trans (Ext.upd (s := .dead) (by rw [hφ]; exact .inr rfl)) (Ext.upd (by rw [upd_other φ _ (Ne.symm hi0), H.fresh _ (Nat.le_refl _)]; trivial))
            have hstep := step_move H hg rfl (blk' := .row nm i.size cid coff ((lid, loff, new) :: segs) (ifB (Nat.beq t0 el) el 0) false) rfl hφ (p' := p) (n' := nn) (w' := World.setRowAt w b (overwrite vs (p + L * i.size) news.toList) ut fz)
              (by simp [World.setRowAt]) hsame rfl rfl rfl
              (brel_rowX (vs := vs) (news := news.toList) (p := p) hpos hb3 (fun s hs => (hb4 s hs).mono hext) hc1 hc2 (by omega) hhere (by rw [size_overwrite]; exact hb2)
                (fun k hk => by
                  rw [hL] at hk
                  rw [get_overwrite _ _ _ _ (by rw [hnlist]; omega), if_neg (by omega)])
                (fun k v hv => by
                  rw [hL]
                  have hk := (List.getElem?_eq_some_iff.1 hv).1
                  rw [hnlist] at hk
                  rw [get_overwrite _ _ _ _ (by rw [hnlist]; omega), if_pos (by rw [hnlist]; omega), show p + (L * i.size + k) - (p + L * i.size) = k by omega]
                  exact hv)
                (VRels.mono hext _ _ hnew) (by rw [size_overwrite]; exact hb5 rfl)
                (fun hne => by
                  rw [T.ifB_eq] at hne ⊢
                  split at hne
                  · rename_i hh; rw [if_pos hh]; rw [beq_iff] at hh; subst hh; exact hb6 hne
                  · exact absurd rfl hne))
            refine ⟨_, _, _, run_valued_ok hrun, .inl ⟨_, rfl, ?_, by omega, ⟨b, p, none⟩, c, ?_, ?_, ?_⟩, hstep.1, hstep.2⟩
            · rw [Val.num0]; simp
            · rw [e2, hlen]
            · rw [e2, hlen]; exact hin
            · have ez' : (Val.num 0 * ((0 : Nat) : Int) + 0).toNat = 0 := by rw [Val.num0]; simp
              rw [ez']
              simp only [SlOk, upd_same]
              exact ⟨fun _ => by simp, by omega⟩
      · trivial
  · trivial

end
end Go.Abs

/- The abstract machine: each operation that is turned into one that writes. -/
namespace Go.Abs
variable [Fct] [Val]

section
variable {P : Program} {ng : Nat} {φ : Phi} {h : AHeap} {w : World} {c : Ctx} {e : Env} {r : Regs} {S : Operand → Prop} {ρ : Operand → Value}

theorem appended_none {size : Nat} : Appended P size w (.slice none 0 0) 0 #[] :=
  ⟨fun w' => rfl, fun w' _ => run_firstCells_none w' size 0 0 0, by simp⟩

theorem appended_some (H : HRel ng φ h w) {i o esz len cap : Nat} {ex : Bool} {cv : Value} (hv : VRel φ (.sl (some (i, o)) esz len cap ex) cv) {cs : List AV} (hcs : h.cellsAt i o (len * esz) = some cs) :
    ∃ news : Array Value, Appended P esz w cv len news ∧ VRels φ cs news.toList := by
  obtain ⟨a, c, rfl, h1, h2, _, hsl⟩ := hv
  have hg : ∃ blk, h.get i = some blk := by
    unfold AHeap.cellsAt at hcs
    cases hg : h.get i with
    | none => rw [hg] at hcs; cases hcs
    | some blk => exact ⟨blk, rfl⟩
  obtain ⟨blk, hg⟩ := hg
  obtain ⟨b, p, nn, hφ, _⟩ := at_of H hg hsl.notUn
  obtain ⟨olds, h3, h4, _, h5⟩ := olds_of (P := P) (sCap := c) H hsl (by omega) hcs hφ
  exact ⟨olds, ⟨fun w' => rfl, h5, h4⟩, h3⟩

theorem appended_empty {size : Nat} {a : Addr} {c : Nat} : Appended P size w (.slice (some a) 0 c) 0 #[] :=
  ⟨fun w' => rfl, fun w' _ => by simp [Builtin.firstCells, loadCells, loadCellsFrom], by simp⟩

theorem appendedX (H : HRel ng φ h w) {i id sc esz len : Nat} {off : Int} {cv : Value} (hv : VRel φ (.xsl i id sc off esz 0 (.ofNat len)) cv) (hlen : len ≠ 0) (hesz : 0 < esz) {cs : List AV} (hcs : h.cellsX i id sc off (len * esz) = some cs) :
    ∃ news : Array Value, Appended P esz w cv len news ∧ VRels φ cs news.toList := by
  obtain ⟨h0, h1, a, c, rfl, h2, hsl⟩ := hv
  have e : (Val.num 0 + Int.ofNat len).toNat = len := by rw [Val.num0]; simp
  rw [e] at h2 ⊢
  have hg : ∃ blk, h.get i = some blk := by
    unfold AHeap.cellsX at hcs
    cases hg : h.get i with
    | none => rw [hg] at hcs; cases hcs
    | some blk => exact ⟨blk, rfl⟩
  obtain ⟨blk, hg⟩ := hg
  obtain ⟨b, p, nn, hφ, _⟩ := at_of H hg hsl.notUn
  obtain ⟨vs, t, fz, k1, k2, k3, k4⟩ := loadsX_of H hcs h0 hφ (Nat.mul_pos (by omega) hesz)
  have ha := hsl.ptr (show 0 < c by omega)
  simp only [PtrOk, hφ] at ha
  subst ha
  refine ⟨_, ⟨fun w' => rfl, fun w' hw => ?_, by simp; omega⟩, k3⟩
  have := run_loads P (w := w') (b := b) (o := p + (Val.num id * sc + off).toNat) (by rw [hw]; exact k1) (len * esz) k2
  simpa [Builtin.firstCells] using this

theorem appended_str {s : List UInt8} : Appended P 1 w (.string ⟨s.toArray⟩) s.length (s.map fun b : UInt8 => Value.int .u8 b.toNat).toArray := by
  refine ⟨fun w' => ?_, fun w' _ => ?_, by simp⟩
  · simp [Builtin.lenOf, ba_size]
  · have : (⟨s.toArray⟩ : ByteArray).extract 0 s.length = ⟨s.toArray⟩ := by rw [ba_extract]; simp
    simp [Builtin.firstCells, this]

theorem wAppend_ok (H : HRel ng φ h w) {ts : Array TypeId} {t u ty el : TypeId} {n b : Nat} {z : AV} {s x : Opd} {cs cx : Value} (hts0 : ts[0]? = some t) (hts1 : ts[1]? = some u) (ht : P.underlying t = some (.slice el))
    (hu : (∃ e2, P.underlying u = some (.slice e2)) ∨ P.underlying u = some .string) (hn : sizeT P el = some n) (hb : bytesT P el = some b) (hz : zeroT P el = some z) (hpos : 0 < n) (hzl : z.cells.length = n)
    (hs : VRel φ (s.ev e r) cs) (hx : VRel φ (x.ev e r) cx) : WOk P ng φ h w (valued (Builtin.append_ ts ty #[cs, cx])) ((wAppend el n b s x).f e r h) := by
  cases hi : P.info? el with
  | none => simp [sizeT, hi] at hn
  | some i =>
    have hsz : i.size = n := by simpa [sizeT, hi] using hn
    have hby : i.bytes = b := by simpa [bytesT, hi] using hb
    cases hzz : i.zero with
    | none => simp [zeroT, hi, hzz] at hz
    | some cz =>
      have hov : ofValue cz = some z := by simpa [zeroT, hi, hzz] using hz
      have hzc := (ofValue_rel (φ := φ) cz z hov).cells (ofValue_notJunk cz z hov)
      have hzs : cz.cells.size = i.size := by have := hzc.length; simp at this; omega
      subst hsz; subst hby
      have main := fun {k : Nat} {news : Array Value} {new : List AV} (ha : Appended P i.size w cx k news) (hr : VRels φ new news.toList) => aAppend_ok (ty := ty) H hts0 hts1 ht hu hi hzz hzs hpos hs ha hr
      simp only [wAppend]
      split
      · rename_i ex
        rw [ex] at hx
        obtain ⟨rfl, rfl, rfl⟩ := hx
        exact main appended_none rfl
      · rename_i i0 o e' len cap ex' ex
        rw [ex] at hx
        cases he : Nat.beq e' i.size with
        | false => trivial
        | true =>
          rw [beq_iff] at he
          subst he
          simp only [cond_true]
          split
          · rename_i cells hc
            obtain ⟨news, h1, h2⟩ := appended_some H hx hc
            exact main h1 h2
          · trivial
      · rename_i i0 id sc off e' len ex
        rw [ex] at hx
        cases he : Nat.beq e' i.size with
        | false => trivial
        | true =>
          rw [beq_iff] at he
          subst he
          simp only [cond_true]
          cases hl : Nat.beq len 0 with
          | true =>
            rw [beq_iff] at hl
            subst hl
            obtain ⟨_, _, a, c, rfl, _⟩ := hx
            have e : (Val.num 0 + Int.ofNat 0).toNat = 0 := by rw [Val.num0]; simp
            rw [e]
            rw [e] at main
            exact main appended_empty rfl
          | false =>
            simp only [cond_false]
            split
            · rename_i cells hc
              obtain ⟨news, h1, h2⟩ := appendedX H hx (nat_beq_false hl) hpos hc
              exact main h1 h2
            · trivial
      · rename_i str ex
        rw [ex] at hx
        simp only [VRel] at hx
        subst hx
        cases he : Nat.beq i.size 1 with
        | false => trivial
        | true =>
          rw [beq_iff] at he
          simp only [cond_true]
          exact main (by rw [he]; exact appended_str) (strCells_rels str)
      · rename_i l ex
        rw [ex] at hx
        obtain ⟨str, rfl, hl⟩ := hx
        cases he : Nat.beq i.size 1 with
        | false => trivial
        | true =>
          rw [beq_iff] at he
          simp only [cond_true]
          have hlen := hl.length
          rw [List.length_map] at hlen
          rw [← hlen]
          exact main (by rw [he]; exact appended_str) hl
      · trivial

theorem cBuiltin_w (H : HRel ng φ h w) (ho : OpsOk P φ c e r S ρ) {k : Call} {b : Builtin} {ty : TypeId} {xs : List Opd} {d : WFn} {cs : Array Bool} (hSa : ∀ x ∈ k.args.toList, S x)
    (hxs : cOpds P c k.args.toList = some xs) (hw : cBuiltin P b k.argTypes.toList xs = some (.w d)) :
    WOk P ng φ h w (builtin b k.argTypes ty cs (k.args.map ρ)) (d.f e r h) := by
  generalize hts : k.argTypes.toList = ts at hw
  unfold cBuiltin at hw
  split at hw
  · split at hw <;> cases hw
  · rename_i t u _ s x
    obtain ⟨cv, cw, h1, h2, h3⟩ := args2 ho hSa hxs
    rw [h1]
    split at hw
    · rename_i el e2 hu1 hu2
      simp only [Option.bind_eq_some_iff] at hw
      obtain ⟨n, hn, bb, hb, z, hz, hw⟩ := hw
      split at hw
      · rename_i hc
        cases hw
        exact wAppend_ok H (types0 hts) (types1 hts) hu1 (.inl ⟨_, hu2⟩) hn hb hz hc.1 hc.2 h2 h3
      · cases hw
    · rename_i el hu1 hu2
      simp only [Option.bind_eq_some_iff] at hw
      obtain ⟨n, hn, bb, hb, z, hz, hw⟩ := hw
      split at hw
      · rename_i hc
        cases hw
        exact wAppend_ok H (types0 hts) (types1 hts) hu1 (.inr hu2) hn hb hz hc.1 hc.2 h2 h3
      · cases hw
    · cases hw
  · split at hw <;> cases hw
  · split at hw <;> cases hw
  · rename_i t _ x
    obtain ⟨cv, h1, h2⟩ := args1 ho hSa hxs
    rw [h1]
    split at hw
    · rename_i el hu
      simp only [Option.bind_eq_some_iff] at hw
      obtain ⟨z, hz, hw⟩ := hw
      cases hw
      exact wClear_ok H (types0 hts) hu hz h2
    · cases hw
  · cases hw
    rfl
  · cases hw
  · rename_i t _ x n
    obtain ⟨cv, cw, h1, h2, h3⟩ := args2 ho hSa hxs
    rw [h1]
    split at hw
    · rename_i el hu
      split at hw
      · cases hw
        rename_i hce
        exact wUnsafeStr_ok H hts hu hce h2 h3
      · cases hw
    · cases hw
  · cases hw

theorem evs_array (ho : OpsOk P φ c e r S ρ) {as : Array Operand} {xs : List Opd} (hSa : ∀ x ∈ as.toList, S x) (h : cOpds P c as.toList = some xs) : VRels φ (evs xs e r) (as.map ρ).toList := by
  rw [Array.toList_map]; exact evs_ok ho _ _ hSa h

/-- A call of a function's value. -/
theorem call_value {k : Call} {x : Operand} {dst : Option Tmp} {ty : TypeId} {pos : String} {aft : Array Edge} {g : Option (Nat × Bool)} (hc : k.callee = .value x) {f : FuncId} {a b : Array Value} (hv : ρ x = .func (.func f) a b)
    {fn : Func} (hf : P.funcs[f]? = some fn) (hn : fn.name ≠ "runtime.NumGoroutine") (hb : fn.body.isSome = true) (w : World) :
    (execOp ρ ⟨dst, .call k, ty, pos, aft, g⟩).run P w = .ok (.enter f (a ++ k.args.map ρ ++ b)) w := by
  have hb' : fn.body ≠ none := by intro hh; rw [hh] at hb; cases hb
  simp [execOp, resolve, hc, hv, Deferred.ofValue, invoke, callFunc, hf, hn, hb']

theorem cCall_w (H : HRel ng φ h w) (ho : OpsOk P φ c e r S ρ) {k : Call} (hS : ∀ x ∈ k.operands.toList, S x) {d : WFn} {dst : Option Tmp} {ty : TypeId} {pos : String} {aft : Array Edge} {g : Option (Nat × Bool)}
    (hw : cCall P c k = some (.w d)) : WOk P ng φ h w (execOp ρ ⟨dst, .call k, ty, pos, aft, g⟩) (d.f e r h) := by
  have hSa : ∀ x ∈ k.args.toList, S x := fun x hx => hS x (by simp [Call.operands] at hx ⊢; exact .inr hx)
  simp only [cCall] at hw
  cases hxs : cOpds P c k.args.toList with
  | none => rw [hxs] at hw; cases hw
  | some xs =>
    rw [hxs, Option.bind_some] at hw
    have hargs := evs_array ho hSa hxs
    split at hw
    · cases hw
    · rename_i b hb
      obtain ⟨cs, hrun⟩ := run_builtin (P := P) (ρ := ρ) (dst := dst) (ty := ty) (pos := pos) (aft := aft) (g := g) hb
      exact WOk.congr (hrun w) (cBuiltin_w H ho hSa hxs hw)
    · rename_i f hf
      cases hfn : P.funcs[f]? with
      | none => rw [hfn] at hw; cases hw
      | some fn =>
        rw [hfn, Option.bind_some] at hw
        split at hw
        · cases hw
        · rename_i h1
          split at hw
          · rename_i h2
            cases hw
            obtain ⟨a, b, hfv, ha, hb'⟩ := ho (.func f) (.func f) (hS _ (by simp [Call.operands, hf])) rfl
            simp only [VRels] at ha hb'
            have ha' : a = #[] := Array.toList_eq_nil_iff.1 ha
            have hb'' : b = #[] := Array.toList_eq_nil_iff.1 hb'
            subst ha'; subst hb''
            exact fun _ => ⟨_, call_value hf hfv hfn h1 h2 w, by simpa using hargs⟩
          · rename_i h2
            split at hw
            · rename_i h3
              cases hp : cPrim fn.name with
              | none => rw [hp] at hw; cases hw
              | some p =>
                rw [hp, Option.bind_some] at hw
                exact prim_w (k := k) H ho (hS _ (by simp [Call.operands, hf])) hSa rfl hf hfn h1 (by simpa using h2) h3 hp hxs hw
            · cases hw
    · simp only [Option.bind_eq_some_iff] at hw
      obtain ⟨x', hx, hw⟩ := hw
      cases hw
      simp only [wCallV]
      split
      · rename_i f first captured ex
        have hv := ho _ _ (hS _ (by simp [Call.operands, *])) hx
        rw [ex] at hv
        obtain ⟨a, b, hfv, ha, hb⟩ := hv
        refine fun ⟨fn, h1, h2, h3⟩ => ⟨_, call_value ‹_› hfv h1 h2 h3 w, ?_⟩
        rw [Array.toList_append, Array.toList_append]
        exact (ha.append hargs).append hb
      · trivial

set_option maxHeartbeats 1000000 in
theorem cOp_w (H : HRel ng φ h w) (ho : OpsOk P φ c e r S ρ) {o : Oper} (hS : ∀ x ∈ o.op.operands.toList, S x) {d : WFn} (hw : cOp P c o.op = some (.w d)) : WOk P ng φ h w (execOp ρ o) (d.f e r h) := by
  obtain ⟨dst, op, ty, pos, aft, g⟩ := o
  simp only at hw hS
  cases op with
  | move x => simp only [cOp, Option.map_eq_some_iff] at hw; obtain ⟨_, _, hw⟩ := hw; cases hw
  | assign x => simp only [cOp, Option.map_eq_some_iff] at hw; obtain ⟨_, _, hw⟩ := hw; cases hw
  | pick x a b => simp only [cOp, Option.bind_eq_some_iff, Option.map_eq_some_iff] at hw; obtain ⟨_, _, _, _, _, _, hw⟩ := hw; cases hw
  | alloc t => simp only [cOp, Option.map_eq_some_iff] at hw; obtain ⟨_, _, hw⟩ := hw; cases hw
  | box t x => simp only [cOp, Option.map_eq_some_iff] at hw; obtain ⟨_, _, hw⟩ := hw; cases hw
  | build t parts =>
    simp only [cOp, Option.bind_eq_some_iff] at hw
    obtain ⟨z, hz, hw⟩ := hw
    split at hw
    · split at hw
      · simp only [Option.map_eq_some_iff] at hw; obtain ⟨_, _, hw⟩ := hw; cases hw
      · cases hw
    · simp only [Option.bind_eq_some_iff, Option.map_eq_some_iff] at hw; obtain ⟨_, _, _, _, hw⟩ := hw; cases hw
    · cases hw
  | buildSlice t len parts =>
    simp only [cOp] at hw
    split at hw
    · simp only [Option.bind_eq_some_iff] at hw
      obtain ⟨n, hn, z, hz, hw⟩ := hw
      split at hw
      · simp only [Option.map_eq_some_iff] at hw; obtain ⟨_, _, hw⟩ := hw; cases hw
      · cases hw
    · cases hw
  | insert t m k v =>
    simp only [cOp, cOp.cMapUpdate, Option.bind_eq_some_iff] at hw
    obtain ⟨m', hm, k', hk, v', hv, hw⟩ := hw
    split at hw
    · rename_i kt el hu
      simp only [Option.map_eq_some_iff] at hw
      obtain ⟨kk, hkk, hw⟩ := hw
      cases hw
      exact wMapUpdate_ok H hu hkk (ho _ _ (hS _ (by simp [Op.operands])) hm) (ho _ _ (hS _ (by simp [Op.operands])) hk) (ho _ _ (hS _ (by simp [Op.operands])) hv)
    · cases hw
  | load t a =>
    simp only [cOp, Option.bind_eq_some_iff] at hw
    obtain ⟨_, _, _, _, _, _, hw⟩ := hw
    split at hw <;> cases hw
  | store t a v =>
    simp only [cOp, Option.bind_eq_some_iff, Option.map_eq_some_iff] at hw
    obtain ⟨n, hn, a', ha, v', hv, hw⟩ := hw
    cases hw
    exact wStore_ok H hn (ho _ _ (hS _ (by simp [Op.operands])) ha) (ho _ _ (hS _ (by simp [Op.operands])) hv)
  | nilCheck x => simp only [cOp, Option.map_eq_some_iff] at hw; obtain ⟨_, _, hw⟩ := hw; cases hw
  | binOp op xt x y yt => simp only [cOp, Option.map_eq_some_iff] at hw; obtain ⟨_, _, hw⟩ := hw; cases hw
  | unOp op xt x =>
    simp only [cOp, Option.bind_eq_some_iff] at hw
    obtain ⟨x', hx, hw⟩ := hw
    split at hw <;> cases hw
  | convert s dd x =>
    simp only [cOp, Option.bind_eq_some_iff] at hw
    obtain ⟨x', hx, hw⟩ := hw
    split at hw
    · cases hw
    · cases hw
    · split at hw <;> cases hw
    · simp only [Option.bind_eq_some_iff] at hw
      obtain ⟨n, hn, hw⟩ := hw
      split at hw <;> cases hw
    · simp only [Option.bind_eq_some_iff] at hw
      obtain ⟨n, hn, hw⟩ := hw
      split at hw <;> cases hw
    · rename_i h1 h2
      split at hw
      · rename_i h3
        split at hw
        · rename_i h4
          cases hw
          subst h4
          rw [h1] at h2
          cases h2
          exact wMarkBytes_ok H h1 h3 (ho _ _ (hS _ (by simp [Op.operands])) hx)
        · cases hw
      · cases hw
    · cases hw
  | makeInterface t x =>
    simp only [cOp] at hw
    split at hw
    · cases hw
    · simp only [Option.map_eq_some_iff] at hw; obtain ⟨_, _, hw⟩ := hw; cases hw
    · cases hw
  | makeFunc fn first captured =>
    cases fn with
    | func f => simp only [cOp, Option.bind_eq_some_iff, Option.map_eq_some_iff] at hw; obtain ⟨_, _, _, _, hw⟩ := hw; cases hw
    | _ => cases hw
  | makeMap t rs => cases rs <;> cases hw
  | makeSlice t l k =>
    simp only [cOp] at hw
    split at hw
    · simp only [Option.bind_eq_some_iff] at hw
      obtain ⟨_, _, _, _, _, _, _, _, _, _, hw⟩ := hw
      split at hw <;> cases hw
    · cases hw
  | slice t x lo hi mx =>
    simp only [cOp, Option.bind_eq_some_iff] at hw
    obtain ⟨x', hx, lo', hlo, hi', hhi, mx', hmx, hw⟩ := hw
    split at hw
    · split at hw <;> cases hw
    · simp only [Option.bind_eq_some_iff] at hw
      obtain ⟨n, hn, hw⟩ := hw
      split at hw <;> cases hw
    · simp only [Option.bind_eq_some_iff] at hw
      obtain ⟨n, hn, hw⟩ := hw
      split at hw <;> cases hw
    · cases hw
  | fieldAddr s x f =>
    simp only [cOp] at hw
    split at hw
    · simp only [Option.bind_eq_some_iff] at hw
      obtain ⟨_, _, _, _, hw⟩ := hw
      split at hw
      · cases hw
      · simp only [Option.map_eq_some_iff] at hw; obtain ⟨_, _, hw⟩ := hw; cases hw
    · cases hw
  | field t x f =>
    simp only [cOp] at hw
    split at hw
    · simp only [Option.bind_eq_some_iff] at hw
      obtain ⟨_, _, _, _, _, _, _, _, hw⟩ := hw
      split at hw <;> cases hw
    · cases hw
  | indexAddr t x i =>
    simp only [cOp, Option.bind_eq_some_iff] at hw
    obtain ⟨x', hx, i', hi, hw⟩ := hw
    split at hw
    · simp only [Option.map_eq_some_iff] at hw; obtain ⟨_, _, hw⟩ := hw; cases hw
    · simp only [Option.map_eq_some_iff] at hw; obtain ⟨_, _, hw⟩ := hw; cases hw
    · cases hw
  | index t x i =>
    simp only [cOp, Option.bind_eq_some_iff] at hw
    obtain ⟨x', hx, i', hi, hw⟩ := hw
    split at hw <;> cases hw
  | lookup t x i ok =>
    simp only [cOp, Option.bind_eq_some_iff] at hw
    obtain ⟨x', hx, i', hi, hw⟩ := hw
    split at hw
    · simp only [Option.bind_eq_some_iff, Option.map_eq_some_iff] at hw; obtain ⟨_, _, _, _, hw⟩ := hw; cases hw
    · cases hw
  | mapUpdate t m k v =>
    simp only [cOp, cOp.cMapUpdate, Option.bind_eq_some_iff] at hw
    obtain ⟨m', hm, k', hk, v', hv, hw⟩ := hw
    split at hw
    · rename_i kt el hu
      simp only [Option.map_eq_some_iff] at hw
      obtain ⟨kk, hkk, hw⟩ := hw
      cases hw
      exact wMapUpdate_ok H hu hkk (ho _ _ (hS _ (by simp [Op.operands])) hm) (ho _ _ (hS _ (by simp [Op.operands])) hk) (ho _ _ (hS _ (by simp [Op.operands])) hv)
    · cases hw
  | range t x =>
    simp only [cOp, Option.bind_eq_some_iff] at hw
    obtain ⟨x', hx, hw⟩ := hw
    split at hw <;> cases hw
  | next x s =>
    cases s with
    | true =>
      simp only [cOp, Option.map_eq_some_iff] at hw
      obtain ⟨x', hx, hw⟩ := hw
      cases hw
      exact wNext_ok H (ho _ _ (hS _ (by simp [Op.operands])) hx)
    | false => cases hw
  | typeAssert x xt t ok =>
    cases ok with
    | false => cases hw
    | true =>
      simp only [cOp, Option.bind_eq_some_iff] at hw
      obtain ⟨x', hx, hw⟩ := hw
      split at hw
      · cases hw
      · simp only [Option.map_eq_some_iff] at hw; obtain ⟨_, _, hw⟩ := hw; cases hw
      · cases hw
  | extract x i => simp only [cOp, Option.map_eq_some_iff] at hw; obtain ⟨_, _, hw⟩ := hw; cases hw
  | call k => exact cCall_w H ho hS hw
  | defer k =>
    simp only [cOp] at hw
    split at hw
    · rename_i x hc
      simp only [Option.bind_eq_some_iff, Option.map_eq_some_iff] at hw
      obtain ⟨x', hx, xs, hxs, hw⟩ := hw
      cases hw
      have hSa : ∀ x ∈ k.args.toList, S x := fun x hx => hS x (by simp [Op.operands, Call.operands] at hx ⊢; exact .inr hx)
      have hargs := evs_array ho hSa hxs
      simp only [wDefer]
      split
      · rename_i f first captured ex
        have hv := ho _ _ (hS _ (by simp [Op.operands, Call.operands, hc])) hx
        rw [ex] at hv
        obtain ⟨a, b, hfv, ha, hb⟩ := hv
        refine ⟨{ target := .fn (.func f) b, args := a ++ k.args.map ρ }, ?_, a ++ k.args.map ρ, b, rfl, ?_⟩
        · simp [execOp, resolve, hc, hfv, Deferred.ofValue]
        · rw [Array.toList_append, Array.toList_append]
          exact (ha.append hargs).append hb
      · trivial
    · cases hw
  | panic x =>
    simp only [cOp, Option.map_eq_some_iff] at hw
    obtain ⟨x', hx, hw⟩ := hw
    cases hw
    simp only [wPanic]
    split
    · rename_i t v ex
      have hv := ho _ _ (hS _ (by simp [Op.operands])) hx
      rw [ex] at hv
      have hv' := hv
      obtain ⟨y, hy, _⟩ := hv
      refine ⟨ρ x, ?_, hv'⟩
      simp [execOp, hy, Instr.panic]
    · trivial
  | _ => cases hw

end
end Go.Abs
