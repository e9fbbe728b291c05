/- The walks of functions that the law SpanShares reaches. Written by this session's turn of the kit's printer, not by the kit's own. -/
import Derived.Test.YtlhjmbhoeabhmaaProg
import Derived.Below
import Derived.Deep.Draws
import Derived.Deep.AppendLies
import Derived.Maps.AppendAt
import Derived.OwnWalk
import Derived.Laws.BytesArg
import Derived.Laws.MakeOwn
import Derived.Laws.OwnMore
import Derived.Deep.OwnRows
import Derived.Tactics
import Derived.Lib.ConvBytes
import Derived.Laws.Slices
import Derived.WalkKit
import Derived.KernelRfl
import Derived.RowKit3
import Derived.Deep.LoopGhost
import Derived.Deep.QuietTactic
import Derived.BigQuiet
import Derived.WideLaws
import Derived.Deep.DeepCutAuto
import Derived.Deep.CutBlock
import Derived.Deep.RegionHeld3
import Derived.Laws.Rows
import Derived.Lib.AppendStr
import Derived.ArgAppend
import Derived.Laws.IdiomCopy
import Derived.OrdersHeld
import Derived.Laws.BitsLemmas
import Derived.RowKit
import Derived.Test.YtlhjmbhoeabhmaaWWords
import Derived.Test.YtlhjmbhoeabhmaaWLast
import Derived.Test.YtlhjmbhoeabhmaaWTab
import Derived.Test.YtlhjmbhoeabhmaaWFour
import Derived.Test.YtlhjmbhoeabhmaaWQPut
import Derived.Test.YtlhjmbhoeabhmaaWApart
import Derived.Test.YtlhjmbhoeabhmaaWArr
import Derived.Test.YtlhjmbhoeabhmaaWZeros
import Derived.Test.YtlhjmbhoeabhmaaWFoot
import Derived.Test.YtlhjmbhoeabhmaaWKept
import Derived.Test.YtlhjmbhoeabhmaaWShare
import Derived.Test.YtlhjmbhoeabhmaaWN
import Derived.Test.YtlhjmbhoeabhmaaWFootNe
import Derived.Test.YtlhjmbhoeabhmaaWAt
import Derived.Test.YtlhjmbhoeabhmaaWEqStruct
import Derived.Test.YtlhjmbhoeabhmaaWRepsOne
import Derived.Test.YtlhjmbhoeabhmaaWInv
import Derived.Test.YtlhjmbhoeabhmaaWInvWords
import Derived.Test.YtlhjmbhoeabhmaaWGuard
import Derived.Test.YtlhjmbhoeabhmaaWNEv
import Derived.Test.YtlhjmbhoeabhmaaWMore
namespace Go.Proofs.Ytlhjmbhoeabhmaa.PSpanShares
open Go.RowKit Go.Proofs.YtlhjmbhoeabhmaaW.PrintWords Go.Proofs.YtlhjmbhoeabhmaaW.PrintLast Go.Proofs.YtlhjmbhoeabhmaaW.PrintMore
attribute [local go_sem] max2_int min2_int max_two min_two max_three min_three max_four min_four   -- for this text's walks alone
set_option linter.unusedVariables false
set_option linter.unusedSimpArgs false



def errW : Option Int → Value
  | none => .nilIface
  | some c => .iface 0 (.int .i64 c)
theorem errW_none : errW none = .nilIface := rfl
theorem errW_some (c : Int) : errW (some c) = .iface 0 (.int .i64 c) := rfl

theorem info3 : (Try.prog.info? 3).map (fun i => (i.zero, i.size, i.bytes)) = some (some (.int .i64 0), 1, 8) := by kernel_rfl
-- the values' own types

end Go.Proofs.Ytlhjmbhoeabhmaa.PSpanShares
