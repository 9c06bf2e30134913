/- Contracts of small functions that many laws use: Ints of two lists. No condition. -/
import Derived.Test.YtoldhaomacnigaaProg
import Derived.Test.YtoldhaomacnigaaMem
import Derived.Outline
set_option linter.unusedVariables false
set_option linter.unusedSimpArgs false
namespace Go.Proofs.Ytoldhaomacnigaa.Sm
open Go.RowKit Go.Proofs.Ytoldhaomacnigaa.W

theorem info_int : (Try.prog.info? 3).map (fun i => (i.zero, i.size, i.bytes)) = some (some (.int .i64 0), 1, 8) := by kernel_rfl

theorem take_next {α : Type} {l l' : List α} {k : Nat} (d : α) (h : l.take k = l'.take k) (h1 : k < l.length) (h2 : k < l'.length) (e : l[k]?.getD d = l'[k]?.getD d) : l.take (k + 1) = l'.take (k + 1) := by
  rw [List.take_add_one, List.take_add_one, h]
  congr 1
  simp [h1, h2] at e ⊢
  exact e
theorem ne_at {α : Type} {l l' : List α} {k : Nat} (d : α) (e : ¬ l[k]?.getD d = l'[k]?.getD d) : l ≠ l' := by
  rintro rfl; exact e rfl

end Go.Proofs.Ytoldhaomacnigaa.Sm
