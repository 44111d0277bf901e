/- A script of commands of one letter: Parse's loop, and its call. -/
import Derived.Test.YtbojmpbccibmaaaGreatDoorDSM1
set_option linter.unusedVariables false
set_option linter.unusedSimpArgs false
set_option linter.unusedSectionVars false
set_option linter.deprecated false
set_option maxRecDepth 100000
namespace Go.Proofs.YtbojmpbccibmaaaGreatDoor
open Go Go.Abs

theorem spec_one {N1 N2 : Names} {n i0 : Nat} {ρ : Nat → Nat} {b1 b2 : ABlk} {blocks : XBlocks} (hb : ∀ b, (i0, b) ∈ blocks → b = b2) (h : BlkTo N1 N2 n ρ b1 b2) : ∀ i b0, specOf [(i0, b1)] i = some b0 → ∀ b, (i, b) ∈ blocks → BlkTo N1 N2 n ρ b0 b := by
  intro i b0 hi b hm
  have e : specOf [(i0, b1)] i = if i0 = i then some b1 else none := by
    show ifB (Nat.beq i0 i) (some b1) none = _
    rw [T.ifB_eq]; simp only [beq_iff]
  rw [e] at hi
  split at hi
  · rename_i h0
    subst h0; cases hi
    rw [hb b hm]; exact h
  · cases hi

theorem spec_two {N1 N2 : Names} {n i0 i1 : Nat} {ρ : Nat → Nat} {a1 a2 b1 b2 : ABlk} {blocks : XBlocks} (ha : ∀ b, (i0, b) ∈ blocks → b = a2) (hb : ∀ b, (i1, b) ∈ blocks → b = b2) (h : BlkTo N1 N2 n ρ a1 a2) (h' : BlkTo N1 N2 n ρ b1 b2) :
    ∀ i b0, specOf [(i0, a1), (i1, b1)] i = some b0 → ∀ b, (i, b) ∈ blocks → BlkTo N1 N2 n ρ b0 b := by
  intro i b0 hi b hm
  have e : specOf [(i0, a1), (i1, b1)] i = if i0 = i then some a1 else specOf [(i1, b1)] i := by
    show ifB (Nat.beq i0 i) (some a1) (specOf [(i1, b1)] i) = _
    rw [T.ifB_eq]; simp only [beq_iff]
  rw [e] at hi
  split at hi
  · rename_i h0
    subst h0; cases hi
    rw [ha b hm]; exact h
  · exact spec_one hb h' i b0 hi b hm

theorem spec_nil {N1 N2 : Names} {n : Nat} {ρ : Nat → Nat} {blocks : XBlocks} : ∀ i b0, specOf [] i = some b0 → ∀ b, (i, b) ∈ blocks → BlkTo N1 N2 n ρ b0 b := fun i b0 h => by cases h

theorem hng0 : Tryz.prog.globals.size ≤ 20 := by rw [hng]; decide

abbrev Sem31 := Sem3 Tryz.prog Tryz.prog.globals.size F31 20
abbrev SemL31 := SemL Tryz.prog Tryz.prog.globals.size F31 20

/-- A round that ends the loop, and all behind it. -/
theorem fin_ok {f : Fct} {s : St} {v : AV} (h : finB f s v = true) : ∃ x s1, (codeFn (@cCode f Tryz.prog F31 body31)).run (@RR f O0 2000) s = some (x, s1) ∧ x ≠ .normal ∧
    ∃ x' s' h', @after f Tryz.prog F31 (@RR f O0 2000) ndL b31 x s1 = some (x', s') ∧ endOf (@RR f O0 2000) as31 x' s' = some (.returned v, h') := by
  unfold finB at h
  split at h
  · cases h
  · rename_i x s1 hne hr
    split at h
    · rename_i x' s' ha
      split at h
      · rename_i u h' he
        refine ⟨x, s1, hr, hne, x', s', h', ha, ?_⟩
        rw [he]
        letI : @Val noFct := Val.of fun _ => 0
        rw [@same_eq noFct _ _ _ h]
      · cases h
    · cases h
  · cases h

/-- What Parse tells. -/
def QP (many : Int) (N1 : Names) (en : AEnd) (_ : AHeap) : Prop :=
  (many ≤ 200 ∧ en = .returned vEnd ∧ N1.val.num 3 = many) ∨ (200 < many ∧ en = .returned vOver ∧ N1.val.num 2 = 400)

def QA (many : Int) : QSet := After Tryz.prog Tryz.prog.globals.size F31 ndL b31 fun N1 x s => ∃ R en h1, RunOk Tryz.prog Tryz.prog.globals.size N1 R ∧ endOf R as31 x s = some (en, h1) ∧ QP many N1 en h1

theorem fin_sem {f : Fct} {N : Names} (hf : N.fct = f) {s : St} {v : AV} (h : finB f s v = true) {many : Int} (hq : ∀ h1, QP many N (.returned v) h1) {Q1 : QSet} :
    Sem31 N body31 s fun N1 x s1 => (x = .normal ∧ Q1 N1 x s1) ∨ (x ≠ .normal ∧ QA many N1 x s1) := by
  subst hf
  obtain ⟨x, s1, hr, hx, x', s', h', ha, he⟩ := fin_ok h
  exact Sem3.run rfl (run0 N 2000) hr (.inr ⟨hx, _, run0 N 2000, x', s', ha, _, _, _, run0 N 2000, he, hq h'⟩)

/-- At the loop's head: so many commands have been read. -/
def InvP (many : Int) (m : Nat) (N : Names) (s : St) : Prop :=
  ∃ (n : Int) (h : leOk (numL [0, 2 * many, 2 * n, n]) fI.le) (h' : remOk (numL [0, 2 * many, 2 * n, n]) fI.rem), 1 ≤ n ∧ n ≤ many ∧ n ≤ 200 ∧ (m : Int) = many - n ∧ N = nm fI (2 * many) (2 * n) n h h' ∧ s = stSI

theorem mem10 {segs : List (Nat × Int × List AV)} {out at_ : AV} {more : XBlocks} (hm : ∀ b, (10, b) ∉ more) : ∀ b, (10, b) ∈ blocksS segs out at_ more → b = blk10 segs := by
  intro b hb
  simp only [blocksS, List.mem_append, List.mem_cons, List.not_mem_nil, or_false, Prod.mk.injEq] at hb
  rcases hb with (h | h | h | h | h) | h
  · exact h.2
  · omega
  · omega
  · omega
  · omega
  · exact absurd h (hm b)
theorem more10 : ∀ b, (10, b) ∉ moreS := by
  intro b hb
  simp only [moreS, List.mem_cons, List.not_mem_nil, or_false, Prod.mk.injEq] at hb
  omega
theorem mem30 {segs : List (Nat × Int × List AV)} {out at_ : AV} : ∀ b, (30, b) ∈ blocksS segs out at_ moreS → b = .row 3 28 3 0 [] 53 false := by
  intro b hb
  simp only [blocksS, moreS, List.mem_append, List.mem_cons, List.not_mem_nil, or_false, Prod.mk.injEq] at hb
  rcases hb with (h | h | h | h | h) | h
  · omega
  · omega
  · omega
  · omega
  · omega
  · exact h.2

theorem keep3 {F G : Fct} {L p n p' n' : Int} {h h' k k'} : ∀ nm' ∈ [3], (nm G L p' n' k k').val.cell nm' = (nm F L p n h h').val.cell nm' := fun _ _ => rfl

theorem re_win0 {L p n : Int} {k k' h h'} : Redesc Tryz.prog.globals.size 20 (nm fI L p n k k') stSI (nm fE L p n h h') stSI :=
  (reX_ok (n0 := 20) (n := 31) (regs := regsS) (blocks := blocksS [] outS (.ex .i64 2 0) moreS) (df := dfS) (l := []) (E := eId) (K := [3]) (sp := [(10, blk10 [])]) (ts := [0]) (s := stSI) eId_ok keep3 (spec_one (mem10 more10) shut_ok) runsOk_win0).redesc hng0
theorem re_winX {L p n : Int} {k k' h h'} (hp : 0 ≤ p) (he : p % 2 = 0) (hl : p + 2 ≤ L) : Redesc Tryz.prog.globals.size 20 (nm fI L p n k k') stSI (nm fX L p n h h') (stSW P2) :=
  (reX_ok (n0 := 20) (n := 31) (regs := regsS) (blocks := blocksS [(2, 0, P2)] outS (.ex .i64 2 0) moreS) (df := dfS) (l := []) (E := eId) (K := [3]) (sp := [(10, blk10 [])]) (ts := [0]) (s := stSI) eId_ok keep3 (spec_one (mem10 more10) (win_ok (.inr rfl) hp he hl)) runsOk_win2).redesc hng0
theorem re_win2 {L p n : Int} {k k' h h'} (hp : 0 ≤ p) (he : p % 2 = 0) (hl : p + 2 ≤ L) : Redesc Tryz.prog.globals.size 20 (nm fI L p n k k') stSI (nm fL L p n h h') (stSW P2) :=
  (reX_ok (n0 := 20) (n := 31) (regs := regsS) (blocks := blocksS [(2, 0, P2)] outS (.ex .i64 2 0) moreS) (df := dfS) (l := []) (E := eId) (K := [3]) (sp := [(10, blk10 [])]) (ts := [0]) (s := stSI) eId_ok keep3 (spec_one (mem10 more10) (win_ok (.inr rfl) hp he hl)) runsOk_win2).redesc hng0
theorem re_win3 {L p n : Int} {k k' h h'} (hp : 0 ≤ p) (he : p % 2 = 0) (hl : p + 3 ≤ L) : Redesc Tryz.prog.globals.size 20 (nm fI L p n k k') stSI (nm fR L p n h h') (stSW P3) :=
  (reX_ok (n0 := 20) (n := 31) (regs := regsS) (blocks := blocksS [(2, 0, P3)] outS (.ex .i64 2 0) moreS) (df := dfS) (l := []) (E := eId) (K := [3]) (sp := [(10, blk10 [])]) (ts := [0]) (s := stSI) eId_ok keep3 (spec_one (mem10 more10) (win_ok (.inl rfl) hp he hl)) runsOk_win3).redesc hng0
theorem piece31 {N N2 : Names} {f : Fct} {s : St} {xk : AEx} {n : Nat} {regs : List (Nat × AV)} {blocks : XBlocks} {df : List ADef} {l : List (Nat × Nat)} {E : Eqs} {K : List Nat} {sp : Abs.Spec} {ts : List Nat}
    (hf : N.fct = f) (h : pieceB (@RR f O0 2000) (@cCode f Tryz.prog F31 body31) s xk 20 n regs blocks df l E K sp ts = true)
    (hE : EqOk N N2 E) (hK : ∀ nm ∈ K, N2.val.cell nm = N.val.cell nm) (hsp : ∀ i b0, specOf sp i = some b0 → ∀ b, (i, b) ∈ blocks → BlkTo N N2 n (rhoL l) b0 b) : Sem31 N body31 s fun N1 x s1 => x = xk ∧ N1 = N2 ∧ s1 = stX n regs blocks df := by
  subst hf
  exact Sem3.piece rfl (run0 N 2000) hng0 h hE hK hsp ⟨rfl, rfl, rfl⟩
theorem sem_last {L p n : Int} {k k'} (h h') (hn : 0 ≤ n) : Sem31 (nm fL L p n k k') body31 (stSW P2) fun N1 x s1 => x = .normal ∧ N1 = nm fI L (p + 2) (n + 1) h h' ∧ s1 = stSI :=
  piece31 (N := nm fL L p n k k') (N2 := nm fI L (p + 2) (n + 1) h h') rfl runsOk_last eUp_ok (fun _ h => by cases h) (spec_two (mem10 more10) mem30 shut_ok (fold_ok hn))
theorem sem_round {L p n : Int} {k k'} (h h') (hn : 0 ≤ n) : Sem31 (nm fR L p n k k') body31 (stSW P3) fun N1 x s1 => x = .normal ∧ N1 = nm fI L (p + 2) (n + 1) h h' ∧ s1 = stSI :=
  piece31 (N := nm fR L p n k k') (N2 := nm fI L (p + 2) (n + 1) h h') rfl runsOk_round eUp_ok (fun _ h => by cases h) (spec_two (mem10 more10) mem30 shut_ok (fold_ok hn))
theorem sem_first {L : Int} {k k'} (h h') : Sem31 (nm fI L 0 0 k k') body31 stS0 fun N1 x s1 => x = .normal ∧ N1 = nm fI L 2 1 h h' ∧ s1 = stSI :=
  piece31 (N := nm fI L 0 0 k k') (N2 := nm fI L 2 1 h h') rfl runsOk_first eFst_ok (fun _ h => by cases h) (spec_two (mem10 more10) mem30 shut_ok first_ok)

section
variable {many : Int} (h0 : 190 ≤ many) (h1 : many ≤ 209)
include h0 h1

theorem round_ok (m : Nat) (N : Names) (s : St) (hi : InvP many m N s) : Sem31 N body31 s fun N1 x s1 => (x = .normal ∧ ∃ m', m' < m ∧ InvP many m' N1 s1) ∨ (x ≠ .normal ∧ QA many N1 x s1) := by
  obtain ⟨n, k, k', g1, g2, g3, hm, rfl, rfl⟩ := hi
  by_cases c1 : n = many
  · subst c1
    exact Sem3.from (re_win0 (h := numsE (by omega) (by omega) (by omega) rfl g1 g3) (h' := trivial)) (fin_sem (f := fE) (s := stSI) (v := vEnd) rfl runsOk_end fun _ => .inl ⟨g3, rfl, rfl⟩)
  · by_cases c2 : n = 200
    · subst c2
      exact Sem3.from (re_winX (h := numsX (by omega) (by omega) rfl (by omega) rfl) (h' := trivial) (by omega) (by omega) (by omega)) (fin_sem (f := fX) (s := stSW P2) (v := vOver) rfl runsOk_over fun _ => .inr ⟨by omega, rfl, rfl⟩)
    · have kI : leOk (numL [0, 2 * many, 2 * (n + 1), n + 1]) fI.le := numsI (by omega) (by omega) _ _
      have kJ : leOk (numL [0, 2 * many, 2 * n + 2, n + 1]) fI.le := numsI (by omega) (by omega) _ _
      have next : ∀ (N1 : Names) (x : AEx) (s1 : St), (x = .normal ∧ N1 = nm fI (2 * many) (2 * n + 2) (n + 1) kJ trivial ∧ s1 = stSI) → (x = .normal ∧ ∃ m', m' < m ∧ InvP many m' N1 s1) ∨ (x ≠ .normal ∧ QA many N1 x s1) := by
        rintro N1 x s1 ⟨e0, e1, e2⟩
        refine .inl ⟨e0, (many - (n + 1)).toNat, by omega, n + 1, kI, trivial, by omega, by omega, by omega, by omega, ?_, e2⟩
        rw [e1]
        have e : 2 * n + 2 = 2 * (n + 1) := by omega
        revert kJ
        rw [e]
        intro _ _; rfl
      by_cases c3 : n + 1 = many
      · exact Sem3.from (re_win2 (h := numsL (by omega) (by omega) (by omega) (by omega) g1 (by omega)) (h' := trivial) (by omega) (by omega) (by omega)) (Sem3.mono (sem_last kJ trivial (by omega)) next)
      · exact Sem3.from (re_win3 (h := numsR (by omega) (by omega) (by omega) (by omega) g1 (by omega)) (h' := trivial) (by omega) (by omega) (by omega)) (Sem3.mono (sem_round kJ trivial (by omega)) next)

theorem loop_ok (k k') : Sem31 (nm fI (2 * many) 0 0 k k') (.loop body31) stS0 (QA many) := by
  have kI : leOk (numL [0, 2 * many, 2, 1]) fI.le := numsI (by omega) (by omega) _ _
  refine Sem3.loop (sem_first kI trivial) fun N1 x s1 hq => ?_
  obtain ⟨rfl, rfl, rfl⟩ := hq
  exact .inl ⟨rfl, SemL.inv (round_ok h0 h1) (many - 1).toNat _ _ ⟨1, kI, trivial, by omega, by omega, by omega, by omega, rfl, rfl⟩⟩

/-- The call, from a heap that holds no more than the row. -/
theorem parse_rows : ConS Tryz.prog Tryz.prog.globals.size (nm fI (2 * many) 0 0 (numsI (by omega) (by omega) _ _) trivial) 31 args31 h31 (QP many) := by
  refine call_sem (n0 := 20) (live := live 31) Tryz.func31 hb31 (by decide +kernel) has31 (by decide +kernel) (Nat.le_refl _) ?_
  have hu := runsOk_entry
  unfold entryB at hu
  split at hu
  · rename_i s1 hs1
    refine Sem3.cut rfl (run0 _ 2000) ndL b31 _ s1 _ hs1 ?_
    rw [loop31]
    have hr := (reX_ok (n0 := 20) (n := 31) (regs := regsS) (blocks := blocksS [(0, 0, P3)] nilS (.int .i64 0) []) (df := dfS) (l := []) (E := eId) (K := [1]) (sp := []) (ts := []) (s := s1) (N1 := nm fI (2 * many) 0 0 (numsI (by omega) (by omega) _ _) trivial) (N2 := nm fI (2 * many) 0 0 (numsI (by omega) (by omega) _ _) trivial) eId_ok (fun _ _ => rfl) spec_nil hu).redesc hng0
    exact Sem3.from hr (loop_ok h0 h1 _ _)
  · cases hu

end
end Go.Proofs.YtbojmpbccibmaaaGreatDoor
