/- The plain law of PacerGrows over the printed functions. No condition beside the kinds' bounds. -/
import Derived.Test.YtgkgoepldbaohaaPPacerGrowsx
set_option linter.unusedVariables false
namespace Go.Proofs.Ytgkgoepldbaohaa.Pure
open Go.RowKit Go.Proofs.Ytgkgoepldbaohaa.PPacerGrows Go.Proofs.YtgkgoepldbaohaaW.PrintWords Go.Proofs.YtgkgoepldbaohaaW.PrintLast Go.Proofs.YtgkgoepldbaohaaW.PrintMore
theorem PacerGrows_awake : tilthlaw16_awake.f = some true := by
  simp [tilthlaw16_awake.f, pacer_Quantum.f, pacer_Minor.f, pacer_Major.f, tilthref01_Cut.f, mx, mn, wrap64]
theorem clamp (a b : Int) (h : 0 ≤ b) : 0 ≤ mx 0 (mn a b) ∧ mx 0 (mn a b) ≤ b := by unfold mx mn; (repeat' split) <;> omega
theorem clamp_mono (a a' b : Int) (h : a ≤ a') : mx 0 (mn a b) ≤ mx 0 (mn a' b) := by unfold mx mn; (repeat' split) <;> omega
theorem prod (a b : Int) : 0 ≤ mx 0 (mn a 1048576) * mx 0 (mn b 64) ∧ mx 0 (mn a 1048576) * mx 0 (mn b 64) ≤ 67108864 := by
  have h1 := clamp a 1048576 (by omega)
  have h2 := clamp b 64 (by omega)
  refine ⟨Int.mul_nonneg h1.1 h2.1, ?_⟩
  have := Int.mul_le_mul h1.2 h2.2 h2.1 (by omega)
  omega
theorem w64 {n : Int} (h1 : -9223372036854775808 ≤ n) (h2 : n ≤ 9223372036854775807) : wrap64 n = n := by unfold wrap64; omega
theorem PacerGrows_main (k : Nat) (a0_0 a0_1 a0_2 a0_3 a0_4 a0_5 a0_6 a0_7 a0_8 a0_9 a0_10 a0_11 a0_12 a1 a2 a3 a4 a5 a6 : Int) (b1 : -9223372036854775808 ≤ a1) (b2 : -9223372036854775808 ≤ a2) (b3 : -9223372036854775808 ≤ a3) (b4 : -9223372036854775808 ≤ a4)
    (c1 : a1 ≤ 1152921504606846976) (c2 : a2 ≤ 1152921504606846976) (c3 : a3 ≤ 1152921504606846976) (c4 : a4 ≤ 1152921504606846976) (d5 : 0 ≤ a5) (e5 : a5 ≤ 65535) (d6 : 0 ≤ a6) (e6 : a6 ≤ 65535) :
    tilthlaw16_PacerGrows.j0 (k + 1) a1 a2 a3 a4 a5 a6 false a0_0 a0_1 a0_2 a0_3 a0_4 a0_5 a0_6 a0_7 a0_8 a0_9 a0_10 a0_11 a0_12 = some true := by
  simp only [tilthlaw16_PacerGrows.j0]
  rw [w64 (n := a5) (by omega) (by omega), w64 (n := a6) (by omega) (by omega), w64 (n := a1 + a5) (by omega) (by omega), w64 (n := a2 + a6) (by omega) (by omega), w64 (n := a3 + a5) (by omega) (by omega), w64 (n := a4 + a6) (by omega) (by omega)]
  unfold pacer_Quantum.f pacer_Minor.f pacer_Major.f
  rw [PacerGrows_awake]
  have p1 := prod a1 a2
  have p2 := prod (a1 + a5) (a2 + a6)
  have h : mx 0 (mn a1 1048576) * mx 0 (mn a2 64) ≤ mx 0 (mn (a1 + a5) 1048576) * mx 0 (mn (a2 + a6) 64) :=
    Int.mul_le_mul (clamp_mono _ _ _ (by omega)) (clamp_mono _ _ _ (by omega)) (clamp a2 64 (by omega)).1 (clamp _ _ (by omega)).1
  simp only [Option.bind_some]
  rw [w64 (by omega) (by omega), w64 (by omega) (by omega)]
  simp only [Bool.false_eq_true, if_false, if_true, decide_eq_true_eq]
  rw [if_neg (by omega)]
  by_cases h1 : a3 ≥ a0_11
  · rw [if_pos h1, if_pos (by omega)]
    by_cases h2 : a4 + a6 ≤ a0_12
    · rw [if_pos h2]; simp; omega
    · rw [if_neg h2]
  · rw [if_neg h1]
    by_cases h2 : a4 + a6 ≤ a0_12
    · rw [if_pos h2]; simp; omega
    · rw [if_neg h2]
theorem PacerGrows (a0_0 a0_1 a0_2 a0_3 a0_4 a0_5 a0_6 a0_7 a0_8 a0_9 a0_10 a0_11 a0_12 a1 a2 a3 a4 a5 a6 : Int) (b1 : -9223372036854775808 ≤ a1) (b2 : -9223372036854775808 ≤ a2) (b3 : -9223372036854775808 ≤ a3) (b4 : -9223372036854775808 ≤ a4)
    (d5 : 0 ≤ a5) (e5 : a5 ≤ 65535) (d6 : 0 ≤ a6) (e6 : a6 ≤ 65535) : tilthlaw16_PacerGrows.f 2 a0_0 a0_1 a0_2 a0_3 a0_4 a0_5 a0_6 a0_7 a0_8 a0_9 a0_10 a0_11 a0_12 a1 a2 a3 a4 a5 a6 = some true := by
  have ht : tilthlaw16_PacerGrows.j0 2 a1 a2 a3 a4 a5 a6 true a0_0 a0_1 a0_2 a0_3 a0_4 a0_5 a0_6 a0_7 a0_8 a0_9 a0_10 a0_11 a0_12 = some true := by
    simp only [tilthlaw16_PacerGrows.j0]; rw [PacerGrows_awake]; simp
  unfold tilthlaw16_PacerGrows.f
  by_cases h1 : a1 > 1152921504606846976
  · rw [if_pos h1]; exact ht
  rw [if_neg h1]
  by_cases h2 : a2 > 1152921504606846976
  · rw [if_pos h2]; exact ht
  rw [if_neg h2]
  by_cases h3 : a3 > 1152921504606846976
  · rw [if_pos h3]; exact ht
  rw [if_neg h3]
  by_cases h4 : a4 > 1152921504606846976
  · rw [show decide (a4 > 1152921504606846976) = true from by simpa using h4]; exact ht
  rw [show decide (a4 > 1152921504606846976) = false from by simpa using h4]
  exact PacerGrows_main 1 a0_0 a0_1 a0_2 a0_3 a0_4 a0_5 a0_6 a0_7 a0_8 a0_9 a0_10 a0_11 a0_12 a1 a2 a3 a4 a5 a6 b1 b2 b3 b4 (by omega) (by omega) (by omega) (by omega) d5 e5 d6 e6
theorem i64_ge {a : Int} (h : (Lit.int .i64 a).wf = true) : -9223372036854775808 ≤ a := by
  have : -9223372036854775808 ≤ a ∧ a ≤ 9223372036854775807 := by simpa [Lit.wf, IntKind.min, IntKind.max, IntKind.signed, IntKind.bits] using h
  exact this.1
theorem u16_b {a : Int} (h : (Lit.int .u16 a).wf = true) : 0 ≤ a ∧ a ≤ 65535 := by
  simpa [Lit.wf, IntKind.min, IntKind.max, IntKind.signed, IntKind.bits] using h
end Go.Proofs.Ytgkgoepldbaohaa.Pure
