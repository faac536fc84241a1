-- Written by a program of this session (wip/extprint.py) over the kit's print. Not trusted: Lean checks it.
import Derived.Test.YtpifopiopgbbaaaDoorProg
import Derived.Below
import Derived.Deep.Draws
import Derived.Deep.AppendLies
import Derived.Maps.AppendAt
import Derived.OwnWalk
import Derived.Laws.BytesArg
import Derived.Laws.MakeOwn
import Derived.Laws.OwnMore
import Derived.Deep.OwnRows
import Derived.Tactics
import Derived.Lib.ConvBytes
import Derived.Laws.Slices
import Derived.WalkKit
import Derived.KernelRfl
import Derived.RowKit3
import Derived.Deep.LoopGhost
import Derived.Deep.QuietTactic
import Derived.BigQuiet
import Derived.WideLaws
import Derived.Deep.DeepCutAuto
import Derived.Deep.CutBlock
import Derived.Deep.RegionHeld3
import Derived.Laws.Rows
import Derived.Lib.AppendStr
import Derived.ArgAppend
import Derived.Laws.IdiomCopy
import Derived.OrdersHeld
import Derived.Laws.BitsLemmas
import Derived.RowKit
import Derived.Test.YtpifopiopgbbaaaDoorExt
import Derived.Test.YtpifopiopgbbaaaDoorWWords
import Derived.Test.YtpifopiopgbbaaaDoorWLast
import Derived.Test.YtpifopiopgbbaaaDoorWTab
import Derived.Test.YtpifopiopgbbaaaDoorWFour
import Derived.Test.YtpifopiopgbbaaaDoorWQPut
import Derived.Test.YtpifopiopgbbaaaDoorWApart
import Derived.Test.YtpifopiopgbbaaaDoorWArr
import Derived.Test.YtpifopiopgbbaaaDoorWZeros
import Derived.Test.YtpifopiopgbbaaaDoorWFoot
import Derived.Test.YtpifopiopgbbaaaDoorWKept
import Derived.Test.YtpifopiopgbbaaaDoorWShare
import Derived.Test.YtpifopiopgbbaaaDoorWN
import Derived.Test.YtpifopiopgbbaaaDoorWFootNe
import Derived.Test.YtpifopiopgbbaaaDoorWAt
import Derived.Test.YtpifopiopgbbaaaDoorWEqStruct
import Derived.Test.YtpifopiopgbbaaaDoorWRepsOne
import Derived.Test.YtpifopiopgbbaaaDoorWInv
import Derived.Test.YtpifopiopgbbaaaDoorWInvWords
import Derived.Test.YtpifopiopgbbaaaDoorWGuard
import Derived.Test.YtpifopiopgbbaaaDoorWNEv
import Derived.Test.YtpifopiopgbbaaaDoorWMore
namespace Go.Proofs.YtpifopiopgbbaaaDoor.Pa
open Go.RowKit Go.Proofs.YtpifopiopgbbaaaDoorW.PrintWords Go.Proofs.YtpifopiopgbbaaaDoorW.PrintLast Go.Proofs.YtpifopiopgbbaaaDoorW.PrintMore
attribute [local go_sem] max2_int min2_int max_two min_two max_three min_three max_four min_four   -- for this text's walks alone
set_option linter.unusedVariables false
set_option linter.unusedSimpArgs false



def errW : Option Int → Value
  | none => .nilIface
  | some c => .iface 0 (.int .i64 c)
theorem errW_none : errW none = .nilIface := rfl
theorem errW_some (c : Int) : errW (some c) = .iface 0 (.int .i64 c) := rfl

-- the values' own types

end Go.Proofs.YtpifopiopgbbaaaDoor.Pa
