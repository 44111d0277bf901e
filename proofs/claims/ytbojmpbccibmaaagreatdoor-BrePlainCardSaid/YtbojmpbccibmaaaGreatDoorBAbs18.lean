/- The abstract machine: operations that write: bytes that become a string; append. -/
import Derived.Test.YtbojmpbccibmaaaGreatDoorBAbs17
import Derived.Laws.Append
import Derived.Lib.UnsafeStr
set_option linter.unusedVariables false
set_option linter.unusedSimpArgs false
set_option linter.unusedSectionVars false
set_option linter.deprecated false
namespace Go.Abs
variable [Val]

section
variable {P : Program} {ng : Nat} {φ : Phi} {h : AHeap} {w : World} {c : Ctx} {e : Env} {r : Regs} {S : Operand → Prop} {ρ : Operand → Value}

theorem freeze_heap (w : World) {b : Nat} {vs : Array Value} {t : TypeId} {fz : Nat × Nat} (hb : w.heap[b]? = some (.cells vs t fz)) (o n : Nat) (hn : n ≠ 0) :
    (w.freeze ⟨b, o, none⟩ n).heap[b]? = some (.cells vs t (if fz.1 == fz.2 then (o, o + n) else (min fz.1 o, max fz.2 (o + n)))) := by
  obtain ⟨lo, hi⟩ := fz
  simp [World.freeze, hn, Array.getElem?_modify, hb]

theorem freeze_other (w : World) {b k : Nat} (hk : k ≠ b) (o n : Nat) : (w.freeze ⟨b, o, none⟩ n).heap[k]? = w.heap[k]? := by
  unfold World.freeze
  split
  · rfl
  · simp [Array.getElem?_modify, Ne.symm hk]

theorem freeze_size (w : World) (a : Addr) (n : Nat) : (w.freeze a n).heap.size = w.heap.size := by
  unfold World.freeze
  split <;> simp

theorem freeze_os (w : World) (a : Addr) (n : Nat) : (w.freeze a n).os = w.os ∧ (w.freeze a n).tape = w.tape ∧ (w.freeze a n).output = w.output := by
  unfold World.freeze
  split <;> exact ⟨rfl, rfl, rfl⟩

theorem run_loadBytes : ∀ (n : Nat) (b o : Nat) (acc : ByteArray) (w : World) (ns : List Int), ns.length = n → (∀ (j : Nat) (v : Int), ns[j]? = some v → w.cell? ⟨b, o + j, none⟩ = some (.int .u8 v)) →
    (loadBytes ⟨b, o, none⟩ acc n).run P w = .ok (ns.foldl (fun r n => r.push (UInt8.ofNat n.toNat)) acc) w
  | 0, b, o, acc, w, ns, hl, _ => by
    have : ns = [] := by simpa using hl
    subst this
    simp [loadBytes]
  | n + 1, b, o, acc, w, [], hl, _ => by simp at hl
  | n + 1, b, o, acc, w, v :: ns, hl, hall => by
    have h0 := hall 0 v rfl
    rw [Nat.add_zero] at h0
    simp only [loadBytes, Sem.run_bind, run_load, h0, Result.andThen_ok, add_none, List.foldl_cons]
    have ih := run_loadBytes n b (o + 1) (acc.push v.toNat.toUInt8) w ns (by simpa using hl) fun j u hj => by
      have := hall (j + 1) u (by simpa using hj)
      rwa [show o + (j + 1) = o + 1 + j by omega] at this
    exact ih

theorem wUnsafeStr_ok {ts : Array TypeId} {ty t it el : TypeId} {x n : Opd} {cx cn : Value} (H : HRel ng φ h w) (ht : ts.toList = [t, it]) (hu : P.underlying t = some (.pointer el)) (hce : P.cellsOf el = 1) (hx : VRel φ (x.ev e r) cx) (hn : VRel φ (n.ev e r) cn) :
    WOk P ng φ h w (valued (Builtin.unsafeString_ ts ty #[cx, cn])) ((wUnsafeStr (fun t => Nat.beq t el) x n).f e r h) := by
  obtain rfl : ts = #[t, it] := by rw [← ht]
  simp only [wUnsafeStr]
  split
  · rename_i k z ex en
    rw [ex] at hx; rw [en] at hn
    simp only [VRel] at hx hn
    subst hx; subst hn
    cases hz : (eqQ z 0 && kEq k .i64) with
    | false => trivial
    | true =>
      rw [Bool.and_eq_true, eqQ_eq, beq_iff_eq, kEq_iff] at hz
      obtain ⟨rfl, rfl⟩ := hz
      exact ⟨_, w, φ, run_valued_ok (v := .string .empty) (Lib.run_unsafeString_none w t it ty none), .inl ⟨_, rfl, rfl⟩, H, Stp.refl _ _ _⟩
  · rename_i i o k z ex en
    rw [ex] at hx; rw [en] at hn
    simp only [VRel] at hn
    subst hn
    obtain ⟨a, rfl, ha⟩ := hx
    split
    · rename_i m hm
      rw [idxQ_some] at hm
      obtain ⟨h0, h1, rfl⟩ := hm
      split
      · rename_i kk cc tt ro hg
        cases hc : ((!ro && Nat.ble (o + z.toNat) kk && Nat.blt 0 z.toNat && (!Nat.beq tt 0 && Nat.beq tt el)) && (Nat.beq o 0 && kEq k .i64)) with
        | false => trivial
        | true =>
          simp only [cond_true]
          simp only [Bool.and_eq_true, Bool.not_eq_true', ble_iff, blt_iff, beq_iff, kEq_iff] at hc
          obtain ⟨⟨⟨⟨hro, hle⟩, hpos⟩, htt, rfl⟩, rfl, rfl⟩ := hc
          split
          · rename_i v hs
            obtain ⟨b, p, nn, hφ, hb⟩ := at_of H hg ha.notUn
            have hb' := hb
            obtain ⟨vs, u, fz, hb1, hb2, hb3, hb4, hb5, hb6⟩ := hb
            have hcells : h.cellsAt i 0 z.toNat = some (getsV cc z.toNat 0) := by
              simp only [AHeap.cellsAt, hg, T.ifB_eq]
              rw [if_pos (show Nat.ble (Nat.add 0 z.toNat) kk = true from ble_iff.2 hle)]
            obtain ⟨vs', u', fz', k1, k2, k3, k4⟩ := loads_of H hcells hφ
            rw [hb1] at k1
            cases k1
            obtain ⟨ns, hns, hrange, hvr⟩ := bytesV_ok k3 hs
            simp only [PtrOk, hφ] at ha
            subst ha
            have htt' : tt ≠ 0 := by
              intro hh; rw [← beq_iff] at hh; rw [hh] at htt; cases htt
            obtain ⟨rfl, rfl⟩ := hb6 htt'
            have hlen : ns.length = z.toNat := by
              have := congrArg List.length hns
              simp at this; omega
            have hz : (((ns.map fun n : Int => UInt8.ofNat n.toNat).length : Nat) : Int) = z := by rw [List.length_map, hlen]; omega
            have hrun := Lib.run_unsafeString_row (P := P) w t it ty u hu hce b vs.size (shape_row hb1) (ns.map fun n : Int => UInt8.ofNat n.toNat)
              (by intro hh; rw [List.map_eq_nil_iff] at hh; rw [hh] at hlen; simp at hlen; omega) (by rw [List.length_map, hlen]; omega) (by rw [List.length_map, hlen]; omega) (by
                intro j x hj
                rw [List.getElem?_map, Option.map_eq_some_iff] at hj
                obtain ⟨v, hj, rfl⟩ := hj
                have hv := hrange v (List.mem_of_getElem? hj)
                have hjl : j < z.toNat := by rw [← hlen]; exact (List.getElem?_eq_some_iff.1 hj).1
                have h2 : ((vs.extract (0 + 0) (0 + 0 + z.toNat)).toList)[j]? = some (.int .u8 v) := by rw [hns]; simp [hj]
                rw [Array.getElem?_toList, Array.getElem?_extract] at h2
                have hvs : vs[j]? = some (.int .u8 v) := by
                  split at h2
                  · simpa using h2
                  · cases h2
                have hx : ((UInt8.ofNat v.toNat).toNat : Int) = v := by
                  rw [UInt8.toNat_ofNat', Nat.mod_eq_of_lt (by omega)]; omega
                rw [hx]
                have hadd : (⟨b, 0, none⟩ : Addr).add j = ⟨b, j, none⟩ := by rw [add_at]; simp
                rw [hadd]
                simp only [World.cell?, hb1]
                exact hvs)
            rw [hz] at hrun
            refine ⟨_, w.freeze ⟨b, 0, none⟩ _, upd φ i .dead, run_valued_ok hrun, .inl ⟨_, rfl, ?_⟩, step_drop H hg hro hφ (freeze_size _ _ _) (fun k hk => freeze_other w hk _ _) (freeze_os _ _ _).1 (freeze_os _ _ _).2.1 (freeze_os _ _ _).2.2⟩
            exact VRel.mono (Ext.upd (by rw [hφ]; exact .inr rfl)) _ _ hvr
          · trivial
      · trivial
    · trivial
  · trivial

theorem wMarkBytes_ok {s el : TypeId} {x : Opd} {cx : Value} (H : HRel ng φ h w) (hs : P.underlying s = some (.slice el)) (he : P.underlying el = some (.int .u8)) (hx : VRel φ (x.ev e r) cx) :
    WOk P ng φ h w (valued (convert s s cx)) ((wMarkBytes x).f e r h) := by
  simp only [wMarkBytes]
  split
  · rename_i i o esz len cap ex' ex
    rw [ex] at hx
    have hx' := hx
    obtain ⟨a, c, rfl, h1, h2, h3, hsl⟩ := hx
    split
    · rename_i m cc t ro hg
      cases hro : (ro || Nat.beq cap 0) with
      | true => trivial
      | false =>
        simp only [Bool.or_eq_false_iff] at hro
        obtain ⟨rfl, hcap⟩ := hro
        have hc0 : 0 < c := by
          rcases Nat.eq_zero_or_pos cap with hz | hz
          · subst hz; simp at hcap
          · omega
        obtain ⟨b, p, n, hφ, vs, u, fz, hb1, hb2, hb3, hb4, hb5, hb6⟩ := at_of H hg hsl.notUn
        have ha := hsl.ptr hc0
        simp only [PtrOk, hφ] at ha
        subst ha
        have hfr := freeze_heap w hb1 vs.size 1 (by omega)
        have hst := step_set H hg (blk' := .cells m cc t false) rfl rfl hφ (w' := w.freeze ⟨b, vs.size, none⟩ 1) hfr (freeze_size _ _ _) (fun k hk => freeze_other w hk _ _) (freeze_os _ _ _).1 (freeze_os _ _ _).2.1 (freeze_os _ _ _).2.2
          ⟨vs, u, _, hfr, hb2, hb3, hb4, fun _ => by
            right
            have := hb5 rfl
            split
            · exact Nat.le_refl _
            · rename_i hne
              simp only [beq_iff_eq] at hne
              rcases this with h | h
              · exact absurd h hne
              · simp only [Nat.le_min]; exact ⟨h, Nat.le_refl _⟩, hb6⟩
        refine ⟨_, w.freeze ⟨b, vs.size, none⟩ 1, φ, run_valued_ok (v := .slice (some ⟨b, p + o, none⟩) len c) ?_, .inl ⟨_, rfl, ⟨_, c, rfl, h1, h2, h3, hsl⟩⟩, ?_, ?_⟩
        · simp only [convert, Sem.run_bind, run_underlying hs, Result.andThen_ok, run_underlying he, beq_self_eq_true]
          simp [markStringish, shape_row hb1, run_underlying he]
        · have := hst.1
          exact ⟨this.fresh, this.glob, fun j bl hj => by
            have hjj := this.blk j bl
            rw [AHeap.get_set] at hjj
            by_cases hji : j = i
            · subst hji; rw [hg] at hj; cases hj; exact hjj (by simp)
            · exact hjj (by rw [if_neg hji]; exact hj), fun j k bj bk cj pj nj pk nk hj hk hne ej ek => by
            have hjj := this.inj j k bj bk cj pj nj pk nk
            rw [AHeap.get_set, AHeap.get_set] at hjj
            refine hjj ?_ ?_ hne ej ek
            · by_cases hji : j = i
              · subst hji; rw [hg] at hj; cases hj; simp
              · rw [if_neg hji]; exact hj
            · by_cases hji : k = i
              · subst hji; rw [hg] at hk; cases hk; simp
              · rw [if_neg hji]; exact hk, this.lt, H.dom⟩
        · have k := hst.2
          refine ⟨k.ext, k.os, k.tape, k.output, k.size, k.same, fun b' hb' hlt => hb', fun j hj ej => ⟨rfl, ej⟩, Nat.le_refl _⟩
    · trivial
  · trivial

end
end Go.Abs
