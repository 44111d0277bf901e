/- Parse of many commands, and of a remark, wherever the cells lie. -/
import Derived.Test.YtbojmpbccibmaaaGreatDoorDSM2
set_option linter.unusedVariables false
set_option linter.unusedSimpArgs false
set_option linter.unusedSectionVars false
set_option linter.deprecated false
set_option maxRecDepth 100000
namespace Go.Proofs.YtbojmpbccibmaaaGreatDoor
open Go Go.Abs

def rhoJ (j : Nat) : Nat → Option Nat := fun i => if i = 10 then some j else none

/-- A heap of one row that nobody writes, by the row's cells in a heap that holds it. -/
theorem one_row {N N0 : Names} {ng j : Nat} {h : AHeap} {b1 b0 : ABlk} (hng : ng ≤ 10) (hj : h.get j = some b1) (hro : b0.ro = true) (hb : ∀ (φ φ' : Phi) (c p m : Nat) (w : World), @BRel N.fct N.val φ b1 c p m w → @BRel N0.fct N0.val φ' b0 c p m w) (φ : Phi) (w : World)
    (H : @HRel N.fct N.val ng φ h w) : @HRel N0.fct N0.val ng (renPhi 20 (rhoJ j) φ) (heapX 20 [(10, b0)]) w := by
  have hget : ∀ i b, (heapX 20 [(10, b0)]).get i = some b → i = 10 ∧ b = b0 := by
    intro i b hi
    obtain ⟨x, hx, rfl, rfl⟩ := heapX_get 20 _ i b hi
    rw [List.mem_singleton] at hx
    subst hx
    exact ⟨rfl, rfl⟩
  have e10 : renPhi 20 (rhoJ j) φ 10 = φ j := by simp [renPhi, rhoJ]
  letI := N0.fct
  letI := N0.val
  refine ⟨fun i hi => ?_, fun g hg => ?_, fun i b hb' => ?_, fun i k b b' c p m p' m' hi hk hne _ _ => ?_, fun i c p m e => ?_, fun i b hi => ?_⟩
  · have : 20 ≤ i := hi
    unfold renPhi; rw [if_neg (by omega)]
  · unfold PtrOk renPhi rhoJ
    rw [if_pos (by omega), if_neg (by omega)]; trivial
  · obtain ⟨rfl, rfl⟩ := hget i b hb'
    rw [e10]
    rcases @HRel.blk N.fct N.val _ _ _ _ H j b1 hj with e | ⟨c, p, m, e, q⟩
    · exact .inl e
    · exact .inr ⟨c, p, m, e, hb φ _ c p m w q⟩
  · obtain ⟨rfl, _⟩ := hget i b hi
    obtain ⟨rfl, _⟩ := hget k b' hk
    exact absurd rfl hne
  · unfold renPhi at e
    split at e
    · split at e
      · exact @HRel.lt N.fct N.val _ _ _ _ H _ c p m e
      · cases e
    · cases e
  · obtain ⟨rfl, _⟩ := hget i b hi
    show 10 < 20
    decide

/-- The row of commands. -/
theorem cmds_row {N N0 : Names} {cid : Nat} {coff : Int} {segs : List (Nat × Int × List AV)} {t : TypeId} {ro : Bool} (hc : N.val.cell 1 = cellM 1) (hc0 : N0.val.cell 1 = cellM 1) (hn : N.val.num cid + coff = N0.val.num 1 + 0) (hl : 3 ≤ N0.val.num 1)
    (φ φ' : Phi) (c p m : Nat) (w : World) (k : @BRel N.fct N.val φ (.row 1 1 cid coff segs t ro) c p m w) : @BRel N0.fct N0.val φ' (blk10 [(0, 0, P3)]) c p m w := by
  obtain ⟨vs, u, fz, h1, h2, ⟨h3, h4⟩, h5⟩ := k
  refine ⟨vs, u, fz, h1, h2, ⟨fun j q hj hq => ?_, fun s hs => ?_⟩, fun hh => (by cases hh), fun hh => absurd rfl hh⟩
  · rw [hc0, ← hc]; exact h3 j q (by rw [hn]; exact hj) hq
  · rw [List.mem_singleton] at hs
    subst hs
    have z : N0.val.num 0 + 0 = 0 := by rw [@Val.num0 N0.fct N0.val]; rfl
    simp only [SegOk]
    rw [z]
    refine ⟨Int.le_refl _, fun q a ha => ?_⟩
    have hq : q < 3 := (List.getElem?_eq_some_iff.1 ha).1
    obtain ⟨v, g1, g2⟩ := h3 q 0 (by omega) (by omega)
    rw [hc] at g2
    refine ⟨v, by simpa using g1, ?_⟩
    have g2 : v = .int .i32 (if q % 2 = 0 then 112 else 10) := g2
    subst g2
    match q, ha with
    | 0, ha => cases ha; rfl
    | 1, ha => cases ha; rfl
    | 2, ha => cases ha; rfl
    | q + 3, ha => omega

/-- Parse of many commands. -/
theorem parse_many {N : Names} {h : AHeap} {j cid lid : Nat} {coff loff : Int} {segs : List (Nat × Int × List AV)} {t : TypeId} {ro : Bool} {p : Nat × Nat} (hc : N.val.cell 1 = cellM 1) {many : Int} (h0 : 190 ≤ many) (h1 : many ≤ 209)
    (hj : h.get j = some (.row 1 1 cid coff segs t ro)) (hn : N.val.num cid + coff = 2 * many) (hl : N.val.num lid + loff = 2 * many) {v : AV}
    (hv : (many ≤ 200 ∧ ∃ a b, v = .tup [.xsl h.next 0 0 0 28 a b, .int .u16 0, .int .i64 0] ∧ N.val.num a + b = many) ∨ (200 < many ∧ v = .tup [nilS, .int .u16 3, .int .i64 400])) :
    @Con N.fct N.val Tryz.prog Tryz.prog.globals.size 31 [.xsl j 0 0 0 1 lid loff, .bool false, .ptr (some p)] h (.returned v) ⟨h.tbl, h.next + 1⟩ := by
  refine con_renX (n := 20) (ρ := rhoJ j) (parse_rows h0 h1) rfl ?_ (one_row (by rw [hng]; decide) hj rfl (cmds_row hc rfl (show N.val.num cid + coff = 2 * many + 0 by omega) (show 3 ≤ 2 * many by omega))) ?_ ?_
  · intro i b hi
    obtain ⟨x, hx, rfl, rfl⟩ := heapX_get 20 _ i b hi
    rw [List.mem_singleton] at hx
    subst hx; rfl
  · intro φ cargs ha
    obtain ⟨v1, r1, rfl, hv1, v2, r2, rfl, hv2, v3, r3, rfl, hv3, hr⟩ := ha
    obtain ⟨k0, k1, a, c, rfl, k2, k3⟩ := hv1
    obtain ⟨i, o⟩ := p
    obtain ⟨b, rfl, _⟩ := hv3
    have z : N.val.num 0 = 0 := @Val.num0 N.fct N.val
    refine ⟨_, _, rfl, ⟨?_, ?_, a, c, ?_, ?_, ?_⟩, _, _, rfl, hv2, _, _, rfl, ⟨b, rfl, ?_⟩, hr⟩
    · show (0 : Int) ≤ 0 * _ + 0
      omega
    · show (0 : Int) ≤ 2 * many + 0
      omega
    · rw [hl]
      show Value.slice (some a) (2 * many).toNat c = Value.slice (some a) (2 * many + 0).toNat c
      rw [Int.add_zero]
    · rw [hl] at k2
      show (2 * many + 0).toNat ≤ c
      rw [Int.add_zero]; exact k2
    · rw [z] at k3
      have e10 : renPhi 20 (rhoJ j) φ 10 = φ j := by simp [renPhi, rhoJ]
      unfold SlOk at k3 ⊢
      rw [e10]
      exact k3
    · have e19 : renPhi 20 (rhoJ j) φ 19 = .dead := by simp [renPhi, rhoJ]
      unfold PtrOk
      rw [e19]; trivial
  · intro N1 en hh hq
    rcases hq with ⟨q1, rfl, q2⟩ | ⟨q1, rfl, q2⟩
    · refine ⟨vEnd, rfl, fun φ φ' cv hd hu => ?_⟩
      rcases hv with ⟨_, a, b, rfl, hab⟩ | ⟨hv, _⟩
      · obtain ⟨vs, rfl, v1, r1, e1, hv1, hr⟩ := hu
        refine ⟨vs, rfl, v1, r1, e1, ?_, ?_⟩
        · obtain ⟨k0, k1, ad, c, rfl, k2, k3⟩ := hv1
          have z : N.val.num 0 = 0 := @Val.num0 N.fct N.val
          rw [q2, Int.add_zero] at k1 k2
          refine ⟨by rw [z]; simp, by rw [hab]; exact k1, ad, c, by rw [hab, q2, Int.add_zero], by rw [hab]; exact k2, ?_⟩
          unfold SlOk
          rw [hd]; trivial
        · obtain ⟨v2, r2, e2, hv2, v3, r3, e3, hv3, hr3⟩ := hr
          exact ⟨v2, r2, e2, hv2, v3, r3, e3, hv3, hr3⟩
      · omega
    · refine ⟨vOver, rfl, fun φ φ' cv hd hu => ?_⟩
      rcases hv with ⟨hv, _⟩ | ⟨_, rfl⟩
      · omega
      · obtain ⟨vs, rfl, v1, r1, e1, hv1, v2, r2, e2, hv2, v3, r3, e3, hv3, hr3⟩ := hu
        refine ⟨vs, rfl, v1, r1, e1, hv1, v2, r2, e2, hv2, v3, r3, e3, ?_, hr3⟩
        have hv3 : v3 = .int .i64 (N1.val.num 2 + 0) := hv3
        rw [q2] at hv3
        exact hv3

end Go.Proofs.YtbojmpbccibmaaaGreatDoor
