/- The plain law of PacerEnds over the printed functions. No condition beside the kinds' bounds. -/
import Derived.Test.YtgkgoepldbaohaaPPacerEndsx
set_option linter.unusedVariables false
namespace Go.Proofs.Ytgkgoepldbaohaa.Pure
open Go.RowKit Go.Proofs.Ytgkgoepldbaohaa.PPacerEnds Go.Proofs.YtgkgoepldbaohaaW.PrintWords Go.Proofs.YtgkgoepldbaohaaW.PrintLast Go.Proofs.YtgkgoepldbaohaaW.PrintMore
theorem PacerEnds_awake : tilthlaw16_awake.f = some true := by
  simp [tilthlaw16_awake.f, pacer_Quantum.f, pacer_Minor.f, pacer_Major.f, tilthref01_Cut.f, mx, mn, wrap64]
theorem clamp (a b : Int) (h : 0 ≤ b) : 0 ≤ mx 0 (mn a b) ∧ mx 0 (mn a b) ≤ b := by unfold mx mn; (repeat' split) <;> omega
theorem clamp_mono (a a' b : Int) (h : a ≤ a') : mx 0 (mn a b) ≤ mx 0 (mn a' b) := by unfold mx mn; (repeat' split) <;> omega
theorem prod (a b : Int) : 0 ≤ mx 0 (mn a 1048576) * mx 0 (mn b 64) ∧ mx 0 (mn a 1048576) * mx 0 (mn b 64) ≤ 67108864 := by
  have h1 := clamp a 1048576 (by omega)
  have h2 := clamp b 64 (by omega)
  refine ⟨Int.mul_nonneg h1.1 h2.1, ?_⟩
  have := Int.mul_le_mul h1.2 h2.2 h2.1 (by omega)
  omega
theorem w64 {n : Int} (h1 : -9223372036854775808 ≤ n) (h2 : n ≤ 9223372036854775807) : wrap64 n = n := by unfold wrap64; omega
theorem PacerEnds (a0_0 a0_1 a0_2 a0_3 a0_4 a0_5 a0_6 a0_7 a0_8 a0_9 a0_10 a0_11 a0_12 a1 a2 : Int) : tilthlaw16_PacerEnds.f a0_0 a0_1 a0_2 a0_3 a0_4 a0_5 a0_6 a0_7 a0_8 a0_9 a0_10 a0_11 a0_12 a1 a2 = some true := by
  unfold tilthlaw16_PacerEnds.f
  rw [PacerEnds_awake]
  have p1 := prod a1 a2
  have e0 : mx 0 (mn 0 1048576) = 0 := by decide
  have e1 : mx 0 (mn 0 64) = 0 := by decide
  have e2 : mx 0 (mn 1 1048576) = 1 := by decide
  have e3 : mx 0 (mn 1 64) = 1 := by decide
  have z : wrap64 0 = 0 := by simp [wrap64]
  have o : wrap64 1 = 1 := by simp [wrap64]
  unfold pacer_Quantum.f pacer_Minor.f pacer_Major.f
  simp only [e0, e1, e2, e3, Int.zero_mul, Int.mul_zero, Int.one_mul, z, o, Option.bind_some, if_true]
  rw [w64 (by omega) (by omega), if_pos p1.1]
  simp
end Go.Proofs.Ytgkgoepldbaohaa.Pure
