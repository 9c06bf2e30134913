/- Something to do, of two numbers and a list. No condition. -/
import Derived.Test.YtdibadfecoipfaaStructs
set_option linter.unusedVariables false
namespace Go.Proofs.Ytdibadfecoipfaa.W
structure A3 where
  what : Int
  n : Int
  lv : Value
  list : List Int
def A3.cells (x : A3) : List Value := [.int .i64 x.what, .int .i64 x.n, x.lv]
def A3.wf (w : World) (x : A3) : Prop := (-9223372036854775808 ≤ x.what ∧ x.what ≤ 9223372036854775807) ∧ (-9223372036854775808 ≤ x.n ∧ x.n ≤ 9223372036854775807) ∧ SL w (fun i => i < w.heap.size) .i64 x.lv x.list
end Go.Proofs.Ytdibadfecoipfaa.W
