/- The abstract machine: operations that write: bytes that become a string; append. -/
import Derived.Test.YtbojmpbccibmaaaGreatDoorAbs17
import Derived.Laws.Append
set_option linter.unusedVariables false
set_option linter.unusedSimpArgs false
namespace Go.Abs
variable [Val]

section
variable {P : Program} {ng : Nat} {φ : Phi} {h : AHeap} {w : World} {c : Ctx} {e : Env} {r : Regs} {S : Operand → Prop} {ρ : Operand → Value}

theorem freeze_heap (w : World) {b : Nat} {vs : Array Value} {t : TypeId} {fz : Nat × Nat} (hb : w.heap[b]? = some (.cells vs t fz)) (o n : Nat) (hn : n ≠ 0) :
    (w.freeze ⟨b, o, none⟩ n).heap[b]? = some (.cells vs t (if fz.1 == fz.2 then (o, o + n) else (min fz.1 o, max fz.2 (o + n)))) := by
  obtain ⟨lo, hi⟩ := fz
  simp [World.freeze, hn, Array.getElem?_modify, hb]

theorem freeze_other (w : World) {b k : Nat} (hk : k ≠ b) (o n : Nat) : (w.freeze ⟨b, o, none⟩ n).heap[k]? = w.heap[k]? := by
  unfold World.freeze
  split
  · rfl
  · simp [Array.getElem?_modify, Ne.symm hk]

theorem freeze_size (w : World) (a : Addr) (n : Nat) : (w.freeze a n).heap.size = w.heap.size := by
  unfold World.freeze
  split <;> simp

theorem freeze_os (w : World) (a : Addr) (n : Nat) : (w.freeze a n).os = w.os ∧ (w.freeze a n).tape = w.tape ∧ (w.freeze a n).output = w.output := by
  unfold World.freeze
  split <;> exact ⟨rfl, rfl, rfl⟩

theorem run_loadBytes : ∀ (n : Nat) (b o : Nat) (acc : ByteArray) (w : World) (ns : List Int), ns.length = n → (∀ (j : Nat) (v : Int), ns[j]? = some v → w.cell? ⟨b, o + j, none⟩ = some (.int .u8 v)) →
    (loadBytes ⟨b, o, none⟩ acc n).run P w = .ok (ns.foldl (fun r n => r.push (UInt8.ofNat n.toNat)) acc) w
  | 0, b, o, acc, w, ns, hl, _ => by
    have : ns = [] := by simpa using hl
    subst this
    simp [loadBytes]
  | n + 1, b, o, acc, w, [], hl, _ => by simp at hl
  | n + 1, b, o, acc, w, v :: ns, hl, hall => by
    have h0 := hall 0 v rfl
    rw [Nat.add_zero] at h0
    simp only [loadBytes, Sem.run_bind, run_load, h0, Result.andThen_ok, add_none, List.foldl_cons]
    have ih := run_loadBytes n b (o + 1) (acc.push v.toNat.toUInt8) w ns (by simpa using hl) fun j u hj => by
      have := hall (j + 1) u (by simpa using hj)
      rwa [show o + (j + 1) = o + 1 + j by omega] at this
    exact ih

theorem rowAt_bytes {P : Program} {fits : TypeId → Bool} {u : TypeId} {count off n : Nat} (hco : P.cellsOf u = 1) (hsl : fits u = true) (hle : off + n ≤ count) : ∀ d, 0 < d → rowAt P fits d u count off n = true
  | 0, h => by omega
  | d + 1, _ => by
    simp only [rowAt]
    rw [hco, if_neg (by omega), Nat.div_one, Nat.mod_one, hsl]
    simp [hle]

theorem liesAt_bytes {P : Program} {u el : TypeId} {count off n : Nat} (hco : P.cellsOf u = 1) (hsl : sameLayout P P.depth u el = true) (hd : 0 < P.depth) (hle : off + n ≤ count) : liesAt P P.depth u count off el n = true := by
  have hrow := rowAt_bytes (P := P) (fits := (sameLayout P P.depth · el)) hco hsl hle P.depth hd
  generalize hdd : P.depth = d at *
  cases d with
  | zero => omega
  | succ d => simp only [liesAt, Bool.or_eq_true]; rw [hdd]; exact .inl hrow

theorem wUnsafeStr_ok {ts : Array TypeId} {ty t el : TypeId} {x n : Opd} {cx cn : Value} (H : HRel ng φ h w) (ht : ts[0]? = some t) (hu : P.underlying t = some (.pointer el)) (hx : VRel φ (x.ev e r) cx) (hn : VRel φ (n.ev e r) cn) :
    WOk P ng φ h w (valued (Builtin.unsafeString_ ts ty #[cx, cn])) ((wUnsafeStr (fun t => Nat.beq (P.cellsOf t) 1 && (Nat.blt 0 P.depth && sameLayout P P.depth t el)) x n).f e r h) := by
  have unfold_ : ∀ (p : Option Addr) (k : IntKind) (z : Int), Builtin.unsafeString_ ts ty #[.pointer p, .int k z] = (do
      let n ← asInt (.int k z)
      let some pt := ts[0]? | stuck "unsafe.String: no argument types"
      if n < 0 then runtimePanic (.error "unsafe.String: len out of range")
      if n > IntKind.i64.max then unsupported (.unsafePointer "String: a length above the largest int")
      match p with
      | none =>
        if n = 0 then pure (.string .empty)
        else runtimePanic (.error "unsafe.String: ptr is nil and len is not zero")
      | some a =>
        if n = 0 then pure (.string .empty)
        else if ← variablesAt a (← elemOf pt) n.toNat then do
          let s ← loadBytes a .empty n.toNat
          freeze a n.toNat
          pure (.string s)
        else unsupported (.unsafePointer "String: not so many bytes at ptr")) := fun _ _ _ => rfl
  have hmax : IntKind.i64.max = 9223372036854775807 := by decide
  simp only [wUnsafeStr]
  split
  · rename_i k z ex en
    rw [ex] at hx; rw [en] at hn
    simp only [VRel] at hx hn
    subst hx; subst hn
    cases hz : eqQ z 0 with
    | false => trivial
    | true =>
      rw [eqQ_eq, beq_iff_eq] at hz
      subst hz
      refine ⟨_, w, φ, run_valued_ok (v := .string .empty) ?_, .inl ⟨_, rfl, rfl⟩, H, Stp.refl _ _ _⟩
      rw [unfold_]
      simp [asInt, asIntOf, ht, hmax]
  · rename_i i o k z ex en
    rw [ex] at hx; rw [en] at hn
    simp only [VRel] at hn
    subst hn
    obtain ⟨a, rfl, ha⟩ := hx
    split
    · rename_i m hm
      rw [idxQ_some] at hm
      obtain ⟨h0, h1, rfl⟩ := hm
      split
      · rename_i kk cc tt ro hg
        cases hc : (!ro && Nat.ble (o + z.toNat) kk && Nat.blt 0 z.toNat && (!Nat.beq tt 0 && (Nat.beq (P.cellsOf tt) 1 && (Nat.blt 0 P.depth && sameLayout P P.depth tt el)))) with
        | false => trivial
        | true =>
          simp only [cond_true]
          simp only [Bool.and_eq_true, Bool.not_eq_true', ble_iff, blt_iff, beq_iff] at hc
          obtain ⟨⟨⟨hro, hle⟩, hpos⟩, htt, hco, hdp, hsl⟩ := hc
          split
          · rename_i s hs
            obtain ⟨b, p, nn, hφ, hb⟩ := at_of H hg ha.notUn
            have hb' := hb
            obtain ⟨vs, u, fz, hb1, hb2, hb3, hb4, hb5, hb6⟩ := hb
            have hcells : h.cellsAt i o z.toNat = some (getsV cc z.toNat o) := by
              simp only [AHeap.cellsAt, hg, T.ifB_eq]
              rw [if_pos (show Nat.ble (Nat.add o z.toNat) kk = true from ble_iff.2 hle)]
            obtain ⟨vs', u', fz', k1, k2, k3, k4⟩ := loads_of H hcells hφ
            rw [hb1] at k1
            cases k1
            obtain ⟨ns, hns, rfl⟩ := bytesOf_ok _ _ _ k3 hs
            simp only [PtrOk, hφ] at ha
            subst ha
            have htt' : tt ≠ 0 := by
              intro hh; rw [← beq_iff] at hh; rw [hh] at htt; cases htt
            obtain ⟨rfl, rfl⟩ := hb6 htt'
            have hlen : ns.length = z.toNat := by
              have := congrArg List.length hns
              simp at this; omega
            have hcell : ∀ (j : Nat) (v : Int), ns[j]? = some v → w.cell? ⟨b, 0 + o + j, none⟩ = some (.int .u8 v) := by
              intro j v hj
              rw [cell_row hb1]
              have h2 : ((vs.extract (0 + o) (0 + o + z.toNat)).toList)[j]? = some (.int .u8 v) := by rw [hns]; simp [hj]
              rw [Array.getElem?_toList, Array.getElem?_extract] at h2
              split at h2
              · exact h2
              · cases h2
            have hvar : (variablesAt ⟨b, 0 + o, none⟩ el z.toNat).run P w = .ok true w := by
              have hl : liesAt P P.depth u (vs.size / P.cellsOf u) (0 + o) el z.toNat = true := by
                rw [hco, Nat.div_one]; exact liesAt_bytes hco hsl hdp k2
              rw [Nat.zero_add] at hl
              simp [variablesAt, shape_row hb1, hl]
            have hload := run_loadBytes (P := P) z.toNat b (0 + o) .empty w ns hlen hcell
            refine ⟨_, w.freeze ⟨b, 0 + o, none⟩ z.toNat, upd φ i .dead, run_valued_ok (v := .string ⟨(ns.map fun n : Int => UInt8.ofNat n.toNat).toArray⟩) ?_, .inl ⟨_, rfl, rfl⟩, ?_⟩
            · rw [unfold_]
              have hz0 : ¬ z < 0 := by omega
              have hzm : ¬ z > IntKind.i64.max := by rw [hmax]; omega
              have hzz : z ≠ 0 := by intro hh; subst hh; simp at hpos
              have hel : (elemOf t).run P w = .ok el w := by simp [elemOf, run_underlying hu]
              simp only [asInt, asIntOf, ht, pure_bind, hz0, hzm, hzz, if_false, Sem.run_bind, hel, Result.andThen_ok, hvar, if_true, hload, run_freeze, Sem.run_pure]
              rw [foldl_push]
              congr 2
            · exact step_drop H hg hro hφ (freeze_size _ _ _) (fun k hk => freeze_other w hk _ _) (freeze_os _ _ _).1 (freeze_os _ _ _).2.1 (freeze_os _ _ _).2.2
          · trivial
      · trivial
    · trivial
  · trivial

theorem wMarkBytes_ok {s el : TypeId} {x : Opd} {cx : Value} (H : HRel ng φ h w) (hs : P.underlying s = some (.slice el)) (he : P.underlying el = some (.int .u8)) (hx : VRel φ (x.ev e r) cx) :
    WOk P ng φ h w (valued (convert s s cx)) ((wMarkBytes x).f e r h) := by
  simp only [wMarkBytes]
  split
  · rename_i i o esz len cap ex' ex
    rw [ex] at hx
    have hx' := hx
    obtain ⟨a, c, rfl, h1, h2, h3, hsl⟩ := hx
    split
    · rename_i m cc t ro hg
      cases hro : (ro || Nat.beq cap 0) with
      | true => trivial
      | false =>
        simp only [Bool.or_eq_false_iff] at hro
        obtain ⟨rfl, hcap⟩ := hro
        have hc0 : 0 < c := by
          rcases Nat.eq_zero_or_pos cap with hz | hz
          · subst hz; simp at hcap
          · omega
        obtain ⟨b, p, n, hφ, vs, u, fz, hb1, hb2, hb3, hb4, hb5, hb6⟩ := at_of H hg hsl.notUn
        have ha := hsl.ptr hc0
        simp only [PtrOk, hφ] at ha
        subst ha
        have hfr := freeze_heap w hb1 vs.size 1 (by omega)
        have hst := step_set H hg (blk' := .cells m cc t false) rfl rfl hφ (w' := w.freeze ⟨b, vs.size, none⟩ 1) hfr (freeze_size _ _ _) (fun k hk => freeze_other w hk _ _) (freeze_os _ _ _).1 (freeze_os _ _ _).2.1 (freeze_os _ _ _).2.2
          ⟨vs, u, _, hfr, hb2, hb3, hb4, fun _ => by
            right
            have := hb5 rfl
            split
            · exact Nat.le_refl _
            · rename_i hne
              simp only [beq_iff_eq] at hne
              rcases this with h | h
              · exact absurd h hne
              · simp only [Nat.le_min]; exact ⟨h, Nat.le_refl _⟩, hb6⟩
        refine ⟨_, w.freeze ⟨b, vs.size, none⟩ 1, φ, run_valued_ok (v := .slice (some ⟨b, p + o, none⟩) len c) ?_, .inl ⟨_, rfl, ⟨_, c, rfl, h1, h2, h3, hsl⟩⟩, ?_, ?_⟩
        · simp only [convert, Sem.run_bind, run_underlying hs, Result.andThen_ok, run_underlying he, beq_self_eq_true]
          simp [markStringish, shape_row hb1, run_underlying he]
        · have := hst.1
          exact ⟨this.fresh, this.glob, fun j bl hj => by
            have hjj := this.blk j bl
            rw [AHeap.get_set] at hjj
            by_cases hji : j = i
            · subst hji; rw [hg] at hj; cases hj; exact hjj (by simp)
            · exact hjj (by rw [if_neg hji]; exact hj), fun j k bj bk cj pj nj pk nk hj hk hne ej ek => by
            have hjj := this.inj j k bj bk cj pj nj pk nk
            rw [AHeap.get_set, AHeap.get_set] at hjj
            refine hjj ?_ ?_ hne ej ek
            · by_cases hji : j = i
              · subst hji; rw [hg] at hj; cases hj; simp
              · rw [if_neg hji]; exact hj
            · by_cases hji : k = i
              · subst hji; rw [hg] at hk; cases hk; simp
              · rw [if_neg hji]; exact hk, this.lt, H.dom⟩
        · have k := hst.2
          refine ⟨k.ext, k.os, k.tape, k.output, k.size, k.same, fun b' hb' hlt => hb', fun j hj ej => ⟨rfl, ej⟩, Nat.le_refl _⟩
    · trivial
  · trivial

end
end Go.Abs
