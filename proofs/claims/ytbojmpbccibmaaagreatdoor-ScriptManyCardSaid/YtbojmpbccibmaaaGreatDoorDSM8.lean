/- Many commands, and a long remark: the law's whole walk. -/
import Derived.Test.YtbojmpbccibmaaaGreatDoorDSM7
set_option linter.unusedVariables false
set_option linter.unusedSimpArgs false
set_option linter.unusedSectionVars false
set_option linter.deprecated false
set_option maxRecDepth 100000
namespace Go.Proofs.YtbojmpbccibmaaaGreatDoor
open Go Go.Abs

theorem semL_mono {P : Program} {ng : Nat} {F : Frm} {n0 : Nat} {N : Names} {Q Q' : QSet} {c : Code} {s : St} (h : SemL P ng F n0 N c s Q') (hq : ∀ N x s, Q' N x s → Q N x s) : SemL P ng F n0 N c s Q :=
  fun B φ a cs w φ₀ h₀ w₀ dfd hn hf hst hb hs => wpL_mono' (h B φ a cs w φ₀ h₀ w₀ dfd hn hf hst hb hs) fun _ _ _ _ ⟨N', x, s', k, r⟩ => ⟨N', x, s', hq _ _ _ k, r⟩

theorem b17_eq : b17 = .seq (nav [0] b17) (.seq (nav [1, 0] b17) (.seq (nav [1, 1, 0] b17) (.seq (nav [1, 1, 1, 0] b17) (.seq (nav [1, 1, 1, 1, 0] b17) (.seq X17 D17))))) := by kernel_rfl
theorem after17' {F : Fct} {R : Runner} {a b c d e u v : Code} {x : AEx} {s : St} : @after F Tryz.prog F17 R nd17 (.seq a (.seq b (.seq c (.seq d (.seq e (.seq u v)))))) x s = some (x, s) := rfl
theorem after17 {F : Fct} {R : Runner} {x : AEx} {s : St} : @after F Tryz.prog F17 R nd17 b17 x s = some (x, s) := by
  rw [b17_eq]; exact after17'
theorem afterX' {F : Fct} {R : Runner} {a b : Code} {s : St} : @after F Tryz.prog F17 R [1, 0] (.seq a (.block 0 (.loop b))) (.exit 0) s = some (.normal, s) := rfl
theorem afterX {F : Fct} {R : Runner} {s : St} : @after F Tryz.prog F17 R [1, 0] X17 (.exit 0) s = some (.normal, s) := by
  rw [X17_eq]; exact afterX'

theorem entryA_ok : ∃ s1, @upTo fO Tryz.prog F17 (@RR fO O1 2000) nd17 b17 ⟨argRegs args17 0 .nil, baseH, [], none⟩ = some s1 ∧ reX 20 32 regsA [b0] [] [(29, 1528)] eO [] [] [] s1 = true := by
  have h := runsOk_entryA
  unfold entryA at h
  split at h
  · rename_i s1 hs; exact ⟨s1, hs, h⟩
  · cases h
theorem entryX_ok : ∃ s1, @upTo fO Tryz.prog F17 (@RR fO O0 2000) [1, 0] X17 stA = some s1 ∧ reX 20 32 ((9, .int .i64 0) :: regsA) [b0] [] [] eO [] [] [] s1 = true := by
  have h := runsOk_entryX
  unfold entryX at h
  split at h
  · rename_i s1 hs; exact ⟨s1, hs, h⟩
  · cases h
theorem entryD_ok : ∃ s1, @upTo fO Tryz.prog F17 (@RR fO O0 2000) [1, 0, 0] D17 stD = some s1 ∧ reX 20 32 regsF bkF [] [(31, 33)] eOm [1] [(31, one (.int .i32 35) 43)] [] s1 = true := by
  have h := runsOk_entryD
  unfold entryD at h
  split at h
  · rename_i s1 hs; exact ⟨s1, hs, h⟩
  · cases h

theorem runO {N : Names} {O : Oracle} (hO : @OracleOk N.fct N.val Tryz.prog Tryz.prog.globals.size O) : RunOk Tryz.prog Tryz.prog.globals.size N (@RR N.fct O 2000) := runOk_of hm hO 2000

theorem cut17 {N N2 : Names} {f : Fct} (hf : N.fct = f) {O : Oracle} (hO : @OracleOk N.fct N.val Tryz.prog Tryz.prog.globals.size O) {p : List Nat} {c : Code} {s s1 : St} {n : Nat} {regs : List (Nat × AV)} {blocks : XBlocks} {df : List ADef} {l : List (Nat × Nat)} {E : Eqs} {K : List Nat} {sp : Abs.Spec} {ts : List Nat} {Q : QSet}
    (hu : @upTo f Tryz.prog F17 (@RR f O 2000) p c s = some s1) (h : reX 20 n regs blocks df l E K sp ts s1 = true)
    (hE : EqOk N N2 E) (hK : ∀ nm ∈ K, N2.val.cell nm = N.val.cell nm) (hsp : ∀ i b0, specOf sp i = some b0 → ∀ b, (i, b) ∈ blocks → BlkTo N N2 n (rhoL l) b0 b)
    (hs : Sem17 N2 (nav p c) (stX n regs blocks df) (After Tryz.prog Tryz.prog.globals.size F17 p c Q)) : Sem17 N c s Q := by
  subst hf
  exact Sem3.cut rfl (runO hO) p c s s1 Q hu (Sem3.from ((reX_ok (n0 := 20) (n := n) (N1 := N) (N2 := N2) (regs := regs) (blocks := blocks) (df := df) (l := l) (E := E) (K := K) (sp := sp) (ts := ts) (s := s1) hE hK hsp h).redesc hng0) hs)

section
variable {a b : Int} (a0 : 0 ≤ a) (a1 : a ≤ 255) (b0' : 0 ≤ b) (b1 : b ≤ 255)
include a0 a1 b0' b1

theorem semX (h h' g g') : Sem17 (nmO fO a b 0 0 h h') X17 stA fun N1 x s1 => x = .normal ∧ N1 = nmO fO a b (190 + a % 20) 0 g g' ∧ s1 = stD := by
  obtain ⟨s1, hu, hr⟩ := entryX_ok
  refine cut17 (N := nmO fO a b 0 0 h h') (N2 := nmO fO a b 0 0 h h') (f := fO) rfl (O := O0) (@O0_ok fO (nmO fO a b 0 0 h h').val) hu hr eO_ok (fun _ h => by cases h) spec_nil ?_
  rw [loopA]
  refine Sem3.loop (semFirst (numsO a0 a1 b0' b1 (by omega) (by omega) (by omega) (by omega)) (remsOk a0 a1 b0' b1)) fun N1 x s2 ⟨e0, e1, e2⟩ => .inl ⟨e0, ?_⟩
  refine semL_mono (SemL.inv (roundA_ok a0 a1 b0' b1 g g') (190 + a % 20 - 1).toNat N1 s2 ⟨1, numsO a0 a1 b0' b1 (by omega) (by omega) (by omega) (by omega), remsOk a0 a1 b0' b1, by omega, by omega, by omega, e1, e2⟩) ?_
  rintro N2 x2 s3 ⟨rfl, e3, e4⟩
  subst e3
  exact ⟨_, runO (N := nmO fO a b (190 + a % 20) 0 g g') (O := O0) (@O0_ok fO (nmO fO a b (190 + a % 20) 0 g g').val), .normal, s3, afterX, rfl, rfl, e4⟩

theorem semD (g g') : Sem17 (nmO fO a b (190 + a % 20) 0 g g') D17 stD QB := by
  obtain ⟨s1, hu, hr⟩ := entryD_ok
  have k := numsO a0 a1 b0' b1 (i := 190 + a % 20) (K := 1) (by omega) (by omega) (by omega) (by omega)
  have k' := remsOk a0 a1 b0' b1 (i := 190 + a % 20) (K := 1)
  refine cut17 (N := nmO fO a b (190 + a % 20) 0 g g') (N2 := nmO fO a b (190 + a % 20) 1 k k') (f := fO) rfl (O := O0) (@O0_ok fO (nmO fO a b (190 + a % 20) 0 g g').val) hu hr eOm_ok (fun _ _ => rfl) (spec_one mem31F spM) ?_
  rw [loopB]
  exact Sem3.inv (I := InvB a b) (roundB_ok a0 a1 b0' b1) (n := (3990 + b % 20 - 1).toNat) ⟨1, k, k', by omega, by omega, by omega, rfl, rfl⟩

theorem sem17 (h h') : Sem17 (nmO fO a b 0 0 h h') b17 ⟨argRegs args17 0 .nil, baseH, [], none⟩ QB := by
  obtain ⟨s1, hu, hr⟩ := entryA_ok
  have g := numsO a0 a1 b0' b1 (i := 190 + a % 20) (K := 0) (by omega) (by omega) (by omega) (by omega)
  have g' := remsOk a0 a1 b0' b1 (i := 190 + a % 20) (K := 0)
  refine cut17 (N := nmO fO a b 0 0 h h') (N2 := nmO fO a b 0 0 h h') (f := fO) rfl (O := O1) (@O1_ok fO (nmO fO a b 0 0 h h').val) hu hr eO_ok (fun _ h => by cases h) spec_nil ?_
  rw [nav17]
  refine Sem3.seq (semX a0 a1 b0' b1 h h' g g') fun N1 x s2 ⟨e0, e1, e2⟩ => .inl ⟨e0, ?_⟩
  subst e1; subst e2
  refine Sem3.mono (semD a0 a1 b0' b1 g g') fun N2 x2 s3 hq => ?_
  obtain ⟨R, en, h1, hR, he, hq⟩ := hq
  exact ⟨R, hR, x2, s3, after17, R, en, h1, hR, he, hq⟩

theorem con17 (h h') : ConS Tryz.prog Tryz.prog.globals.size (nmO fO a b 0 0 h h') 17 args17 baseH QT :=
  call_sem Tryz.func17 hb17 (by decide) has17 (live := live 17) (n0 := 20) (by decide) (by decide) (sem17 a0 a1 b0' b1 h h')

end

/-- The law's call. -/
theorem many_call {a b : Int} (a0 : 0 ≤ a) (a1 : a ≤ 255) (b0' : 0 ≤ b) (b1 : b ≤ 255) {w : World} (hw : Laid w) :
    Calls Tryz.prog 17 #[.int .u8 a, .int .u8 b] w fun e w' => e = .returned (.bool true) ∧ RowKit.Below w.heap.size w w' := by
  have h := numsO a0 a1 b0' b1 (i := 0) (K := 0) (by omega) (by omega) (by omega) (by omega)
  have h' := remsOk a0 a1 b0' b1 (i := 0) (K := 0)
  letI : Fct := fO
  letI : Val := (nmO fO a b 0 0 h h').val
  have hc := con17 a0 a1 b0' b1 h h'
  have hcon : Con Tryz.prog Tryz.prog.globals.size 17 args17 baseH (.returned (.bool true)) baseH := by
    refine ⟨hc.1, fun φ w cargs H hv => (hc.2 φ w cargs H hv).mono fun e w' ⟨N1, en, h1, hq, φ', k1, k2, k3⟩ => ?_⟩
    obtain ⟨j1, j2⟩ := Stp.pure H (sub_of baseL_in (by kernel_rfl)) k2
    refine ⟨φ, j1, j2, ?_⟩
    have hq : en = .returned (.bool true) := hq
    subst hq
    cases e with
    | returned v => exact k3
    | panicked c => exact k3.elim
    | outgrown => exact k3
  refine enter_rows hcon (by rw [hng]; decide) baseL_in (fun x hx => ?_) (fun φ => ⟨_, _, rfl, show (Value.int .u8 a) = .int .u8 (a + 0) by rw [Int.add_zero], _, _, rfl, show (Value.int .u8 b) = .int .u8 (b + 0) by rw [Int.add_zero], rfl⟩) (fun φ u hu => hu)
  unfold baseL at hx
  rw [List.mem_singleton] at hx
  subst hx
  obtain ⟨vs, u, fz, h1, h2, h3⟩ := hw
  refine ⟨rfl, vs, u, fz, h1, by simpa [pow10L] using h2, fun k a ha => ?_⟩
  rw [List.getElem?_map, Option.map_eq_some_iff] at ha
  obtain ⟨m, hm', rfl⟩ := ha
  exact ⟨_, h3 k m hm', fun φ => rfl⟩

end Go.Proofs.YtbojmpbccibmaaaGreatDoor
