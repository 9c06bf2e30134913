-- PRINTED BY print.sh 35421559b90ae4d0a3588c463048766b98c2df88dd9212a6774a882060cdf62d: not written by this session
import Derived.Test.YtgkgoepldbaohaaProg
import Derived.Below
import Derived.Deep.Draws
import Derived.Deep.AppendLies
import Derived.Maps.AppendAt
import Derived.OwnWalk
import Derived.Laws.BytesArg
import Derived.Laws.MakeOwn
import Derived.Laws.OwnMore
import Derived.Deep.OwnRows
import Derived.Tactics
import Derived.Lib.ConvBytes
import Derived.Laws.Slices
import Derived.WalkKit
import Derived.KernelRfl
import Derived.RowKit3
import Derived.Deep.LoopGhost
import Derived.Deep.QuietTactic
import Derived.BigQuiet
import Derived.WideLaws
import Derived.Deep.DeepCutAuto
import Derived.Deep.CutBlock
import Derived.Deep.RegionHeld3
import Derived.Laws.Rows
import Derived.Lib.AppendStr
import Derived.ArgAppend
import Derived.Laws.IdiomCopy
import Derived.OrdersHeld
import Derived.Laws.BitsLemmas
import Derived.RowKit
import Derived.Test.YtgkgoepldbaohaaWWords
import Derived.Test.YtgkgoepldbaohaaWLast
import Derived.Test.YtgkgoepldbaohaaWTab
import Derived.Test.YtgkgoepldbaohaaWFour
import Derived.Test.YtgkgoepldbaohaaWQPut
import Derived.Test.YtgkgoepldbaohaaWApart
import Derived.Test.YtgkgoepldbaohaaWArr
import Derived.Test.YtgkgoepldbaohaaWZeros
import Derived.Test.YtgkgoepldbaohaaWFoot
import Derived.Test.YtgkgoepldbaohaaWKept
import Derived.Test.YtgkgoepldbaohaaWShare
import Derived.Test.YtgkgoepldbaohaaWN
import Derived.Test.YtgkgoepldbaohaaWFootNe
import Derived.Test.YtgkgoepldbaohaaWAt
import Derived.Test.YtgkgoepldbaohaaWEqStruct
import Derived.Test.YtgkgoepldbaohaaWRepsOne
import Derived.Test.YtgkgoepldbaohaaWInv
import Derived.Test.YtgkgoepldbaohaaWInvWords
import Derived.Test.YtgkgoepldbaohaaWGuard
import Derived.Test.YtgkgoepldbaohaaWNEv
import Derived.Test.YtgkgoepldbaohaaWMore
namespace Go.Proofs.Ytgkgoepldbaohaa.PConfGrows
open Go.RowKit Go.Proofs.YtgkgoepldbaohaaW.PrintWords Go.Proofs.YtgkgoepldbaohaaW.PrintLast Go.Proofs.YtgkgoepldbaohaaW.PrintMore
attribute [local go_sem] max2_int min2_int max_two min_two max_three min_three max_four min_four   -- for this text's walks alone
set_option linter.unusedVariables false
set_option linter.unusedSimpArgs false



def errW : Option Int → Value
  | none => .nilIface
  | some c => .iface 0 (.int .i64 c)
theorem errW_none : errW none = .nilIface := rfl
theorem errW_some (c : Int) : errW (some c) = .iface 0 (.int .i64 c) := rfl

theorem info4 : (Try.prog.info? 4).map (fun i => (i.zero, i.size, i.bytes)) = some (some (.bool false), 1, 1) := by kernel_rfl
-- the values' own types

end Go.Proofs.Ytgkgoepldbaohaa.PConfGrows
