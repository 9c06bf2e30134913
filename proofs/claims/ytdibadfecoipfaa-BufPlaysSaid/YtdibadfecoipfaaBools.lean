/- Slices of bools that read as lists. No condition. -/
import Derived.Test.YtdibadfecoipfaaMem
set_option linter.unusedVariables false
namespace Go.Proofs.Ytdibadfecoipfaa.W
open Go.RowKit

/-- A slice of bools that reads as a list; its cells lie in a block of 'ok'. -/
def SB (w : World) (ok : Nat → Prop) (v : Value) (l : List Bool) : Prop :=
  ∃ (A : Option Addr) (c : Nat), v = .slice A l.length c ∧ l.length ≤ 9223372036854775807 ∧
    (0 < l.length → ∃ b o, A = some ⟨b, o, none⟩ ∧ ok b ∧ b < w.heap.size ∧ ∀ j, j < l.length → w.cell? ⟨b, o + j, none⟩ = some (.bool (l[j]?.getD false)))
theorem SB.keep {w w' : World} {ok ok' : Nat → Prop} {v : Value} {l : List Bool} (h : SB w ok v l) (hk : Keep ok' w w') (hn : ∀ i, ok i → ok' i → False) : SB w' ok v l := by
  obtain ⟨A, c, e, hl, hc⟩ := h
  refine ⟨A, c, e, hl, fun h0 => ?_⟩
  obtain ⟨b, o, hA, hb, hlt, hcell⟩ := hc h0
  exact ⟨b, o, hA, hb, Nat.lt_of_lt_of_le hlt hk.size, fun j hj => (World.cell?_of_block (hk.block b hlt (fun h' => hn b hb h'))).trans (hcell j hj)⟩
end Go.Proofs.Ytdibadfecoipfaa.W
