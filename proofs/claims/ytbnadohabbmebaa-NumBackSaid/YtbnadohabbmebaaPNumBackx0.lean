-- written by this session's own program, over the kit's print
import Derived.Test.YtbnadohabbmebaaProg
import Derived.Below
import Derived.Deep.Draws
import Derived.Deep.AppendLies
import Derived.Maps.AppendAt
import Derived.OwnWalk
import Derived.Laws.BytesArg
import Derived.Laws.MakeOwn
import Derived.Laws.OwnMore
import Derived.Deep.OwnRows
import Derived.Tactics
import Derived.Lib.ConvBytes
import Derived.Laws.Slices
import Derived.WalkKit
import Derived.KernelRfl
import Derived.RowKit3
import Derived.Deep.LoopGhost
import Derived.Deep.QuietTactic
import Derived.BigQuiet
import Derived.WideLaws
import Derived.Deep.DeepCutAuto
import Derived.Deep.CutBlock
import Derived.Deep.RegionHeld3
import Derived.Laws.Rows
import Derived.Lib.AppendStr
import Derived.ArgAppend
import Derived.Laws.IdiomCopy
import Derived.OrdersHeld
import Derived.Laws.BitsLemmas
import Derived.RowKit
import Derived.Test.YtbnadohabbmebaaWWords
import Derived.Test.YtbnadohabbmebaaWLast
import Derived.Test.YtbnadohabbmebaaWTab
import Derived.Test.YtbnadohabbmebaaWFour
import Derived.Test.YtbnadohabbmebaaWQPut
import Derived.Test.YtbnadohabbmebaaWApart
import Derived.Test.YtbnadohabbmebaaWArr
import Derived.Test.YtbnadohabbmebaaWZeros
import Derived.Test.YtbnadohabbmebaaWFoot
import Derived.Test.YtbnadohabbmebaaWKept
import Derived.Test.YtbnadohabbmebaaWShare
import Derived.Test.YtbnadohabbmebaaWN
import Derived.Test.YtbnadohabbmebaaWFootNe
import Derived.Test.YtbnadohabbmebaaWAt
import Derived.Test.YtbnadohabbmebaaWEqStruct
import Derived.Test.YtbnadohabbmebaaWRepsOne
import Derived.Test.YtbnadohabbmebaaWInv
import Derived.Test.YtbnadohabbmebaaWInvWords
import Derived.Test.YtbnadohabbmebaaWGuard
import Derived.Test.YtbnadohabbmebaaWNEv
import Derived.Test.YtbnadohabbmebaaWMore
import Derived.Test.YtbnadohabbmebaaWGoto
namespace Go.Proofs.Ytbnadohabbmebaa.PNumBack
open Go.RowKit Go.Proofs.YtbnadohabbmebaaW.PrintWords Go.Proofs.YtbnadohabbmebaaW.PrintLast Go.Proofs.YtbnadohabbmebaaW.PrintMore Go.Proofs.YtbnadohabbmebaaW.Goto
attribute [local go_sem] max2_int min2_int max_two min_two max_three min_three max_four min_four   -- for this text's walks alone
set_option linter.unusedVariables false
set_option linter.unusedSimpArgs false



def errW : Option Int → Value
  | none => .nilIface
  | some c => .iface 0 (.int .i64 c)
theorem errW_none : errW none = .nilIface := rfl
theorem errW_some (c : Int) : errW (some c) = .iface 0 (.int .i64 c) := rfl

theorem info5 : (Try.prog.info? 5).map (fun i => (i.zero, i.size, i.bytes)) = some (some (.int .u8 0), 1, 1) := by kernel_rfl
-- the values' own types

end Go.Proofs.Ytbnadohabbmebaa.PNumBack
