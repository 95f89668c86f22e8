-- written by this session's own program, over the kit's print
import Derived.Test.YtghlhdjngihkoaaProg
import Derived.Below
import Derived.Deep.Draws
import Derived.Deep.AppendLies
import Derived.Maps.AppendAt
import Derived.OwnWalk
import Derived.Laws.BytesArg
import Derived.Laws.MakeOwn
import Derived.Laws.OwnMore
import Derived.Deep.OwnRows
import Derived.Tactics
import Derived.Lib.ConvBytes
import Derived.Laws.Slices
import Derived.WalkKit
import Derived.KernelRfl
import Derived.RowKit3
import Derived.Deep.LoopGhost
import Derived.Deep.QuietTactic
import Derived.BigQuiet
import Derived.WideLaws
import Derived.Deep.DeepCutAuto
import Derived.Deep.CutBlock
import Derived.Deep.RegionHeld3
import Derived.Laws.Rows
import Derived.Lib.AppendStr
import Derived.ArgAppend
import Derived.Laws.IdiomCopy
import Derived.OrdersHeld
import Derived.Laws.BitsLemmas
import Derived.RowKit
import Derived.Test.YtghlhdjngihkoaaWWords
import Derived.Test.YtghlhdjngihkoaaWLast
import Derived.Test.YtghlhdjngihkoaaWTab
import Derived.Test.YtghlhdjngihkoaaWFour
import Derived.Test.YtghlhdjngihkoaaWQPut
import Derived.Test.YtghlhdjngihkoaaWApart
import Derived.Test.YtghlhdjngihkoaaWArr
import Derived.Test.YtghlhdjngihkoaaWZeros
import Derived.Test.YtghlhdjngihkoaaWFoot
import Derived.Test.YtghlhdjngihkoaaWKept
import Derived.Test.YtghlhdjngihkoaaWShare
import Derived.Test.YtghlhdjngihkoaaWN
import Derived.Test.YtghlhdjngihkoaaWFootNe
import Derived.Test.YtghlhdjngihkoaaWAt
import Derived.Test.YtghlhdjngihkoaaWEqStruct
import Derived.Test.YtghlhdjngihkoaaWRepsOne
import Derived.Test.YtghlhdjngihkoaaWInv
import Derived.Test.YtghlhdjngihkoaaWInvWords
import Derived.Test.YtghlhdjngihkoaaWGuard
import Derived.Test.YtghlhdjngihkoaaWNEv
import Derived.Test.YtghlhdjngihkoaaWMore
import Derived.Test.YtghlhdjngihkoaaWGoto
import Derived.Test.YtghlhdjngihkoaaWFl
namespace Go.Proofs.Ytghlhdjngihkoaa.PMetricBest
open Go.RowKit Go.Proofs.YtghlhdjngihkoaaW.PrintWords Go.Proofs.YtghlhdjngihkoaaW.PrintLast Go.Proofs.YtghlhdjngihkoaaW.PrintMore Go.Proofs.YtghlhdjngihkoaaW.Goto Go.Proofs.YtghlhdjngihkoaaW.Fl
attribute [local go_sem] max2_int min2_int max_two min_two max_three min_three max_four min_four   -- for this text's walks alone
set_option linter.unusedVariables false
set_option linter.unusedSimpArgs false



def errW : Option Int → Value
  | none => .nilIface
  | some c => .iface 0 (.int .i64 c)
theorem errW_none : errW none = .nilIface := rfl
theorem errW_some (c : Int) : errW (some c) = .iface 0 (.int .i64 c) := rfl

-- the values' own types


end Go.Proofs.Ytghlhdjngihkoaa.PMetricBest
