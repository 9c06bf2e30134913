/- The document's pages. No condition. -/
import Derived.Test.YtoalianiedjoaaaCardSep
set_option linter.unusedVariables false
set_option linter.unusedSimpArgs false
namespace Go.Proofs.Ytoalianiedjoaaa.Cd
open Go.RowKit Go.Proofs.Ytoalianiedjoaaa.W Go.Proofs.Ytoalianiedjoaaa.Sm
theorem Pages_calls (c n : Int) (w : World) (h1 : 1 ≤ c) (h0 : 0 ≤ n) (h9 : n ≤ 1048576) : Calls Try.prog 26 #[.int .i64 c, .int .i64 n] w fun e w' => e = .returned (.int .i64 (Cd.num n c)) ∧ w = w' := by
  have e1 := Int.emod_nonneg n (by omega : c ≠ 0)
  have d0 := Int.ediv_nonneg h0 (by omega : 0 ≤ c)
  have d1 := Int.ediv_le_self c h0
  have hq := IntWalk.i64_quo n c (by omega)
  have hc0 : (c == 0) = false := by simp; omega
  have hc1 : ¬ c = 0 := by omega
  by_cases hn : n < 1
  · have hn0 : n = 0 := by omega
    subst hn0
    have : Cd.num 0 c = 0 := by unfold Cd.num; rw [Int.zero_emod, Int.zero_ediv]; rfl
    rw [this]
    clear this
    go_enter Try.func26, Try.ntmps26
    go_wp2
    go_ret
    exact ⟨rfl, rfl⟩
  · by_cases hm : 0 < n % c
    · have : Cd.num n c = n / c + 1 := by unfold Cd.num; split <;> omega
      rw [this]
      clear this
      go_enter Try.func26, Try.ntmps26
      go_wp2
      go_ret
      exact ⟨rfl, rfl⟩
    · have : Cd.num n c = n / c := by unfold Cd.num; split <;> omega
      rw [this]
      clear this
      go_enter Try.func26, Try.ntmps26
      go_wp2
      go_ret
      exact ⟨rfl, rfl⟩
end Go.Proofs.Ytoalianiedjoaaa.Cd
