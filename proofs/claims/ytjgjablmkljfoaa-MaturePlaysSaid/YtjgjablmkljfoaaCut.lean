/- The contract of Cut. No condition. -/
import Derived.Test.YtjgjablmkljfoaaProg
import Derived.Test.YtjgjablmkljfoaaMem
import Derived.Outline
set_option linter.unusedVariables false
set_option linter.unusedSimpArgs false
namespace Go.Proofs.Ytjgjablmkljfoaa.Sm
open Go.RowKit Go.Proofs.Ytjgjablmkljfoaa.W

def cut (n a b : Int) : Int := if n < a then a else if b < n then b else n
theorem Cut_calls (n a b : Int) (w : World) : Calls Try.prog 35 #[.int .i64 n, .int .i64 a, .int .i64 b] w fun e w' => e = .returned (.int .i64 (cut n a b)) ∧ w = w' := by
  unfold cut
  by_cases h : n < a
  · rw [if_pos h]
    go_enter Try.func35, Try.ntmps35
    go_wp2
    go_ret
    exact ⟨rfl, rfl⟩
  · rw [if_neg h]
    by_cases h' : b < n
    · rw [if_pos h']
      go_enter Try.func35, Try.ntmps35
      go_wp2
      go_ret
      exact ⟨rfl, rfl⟩
    · rw [if_neg h']
      go_enter Try.func35, Try.ntmps35
      go_wp2
      go_ret
      exact ⟨rfl, rfl⟩

end Go.Proofs.Ytjgjablmkljfoaa.Sm
