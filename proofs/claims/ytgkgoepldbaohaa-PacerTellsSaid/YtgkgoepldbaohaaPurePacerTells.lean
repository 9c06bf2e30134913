/- The plain law of PacerTells: the printed function answers true at every input. -/
import Derived.Test.YtgkgoepldbaohaaPPacerTellsx
namespace Go.Proofs.Ytgkgoepldbaohaa.Pure
open Go.RowKit Go.Proofs.Ytgkgoepldbaohaa.PPacerTells Go.Proofs.YtgkgoepldbaohaaW.PrintWords Go.Proofs.YtgkgoepldbaohaaW.PrintLast Go.Proofs.YtgkgoepldbaohaaW.PrintMore

theorem PacerTells_awake : tilthlaw16_awake.f = some true := by
  simp [tilthlaw16_awake.f, pacer_Quantum.f, pacer_Minor.f, pacer_Major.f, tilthref01_Cut.f, mx, mn, wrap64]
theorem PacerTells_cut (a b : Int) (h : 0 ≤ b) : tilthref01_Cut.f a 0 b = some (mx 0 (mn a b)) := by
  unfold tilthref01_Cut.f mx mn
  (repeat' split) <;> first | rfl | (congr 1; omega) | omega
theorem PacerTells (a0_0 a0_1 a0_2 a0_3 a0_4 a0_5 a0_6 a0_7 a0_8 a0_9 a0_10 a0_11 a0_12 a1 a2 a3 a4 : Int) : tilthlaw16_PacerTells.f a0_0 a0_1 a0_2 a0_3 a0_4 a0_5 a0_6 a0_7 a0_8 a0_9 a0_10 a0_11 a0_12 a1 a2 a3 a4 = some true := by
  unfold tilthlaw16_PacerTells.f pacer_Quantum.f pacer_Minor.f pacer_Major.f
  rw [PacerTells_cut _ _ (by omega), PacerTells_cut _ _ (by omega), PacerTells_awake]
  simp
end Go.Proofs.Ytgkgoepldbaohaa.Pure
