-- Written by a program of this session (wip/extprint.py) over the kit's print. Not trusted: Lean checks it.
import Derived.Test.YtpjidedgifjgeaaDoorProg
import Derived.Below
import Derived.Deep.Draws
import Derived.Deep.AppendLies
import Derived.Maps.AppendAt
import Derived.OwnWalk
import Derived.Laws.BytesArg
import Derived.Laws.MakeOwn
import Derived.Laws.OwnMore
import Derived.Deep.OwnRows
import Derived.Tactics
import Derived.Lib.ConvBytes
import Derived.Laws.Slices
import Derived.WalkKit
import Derived.KernelRfl
import Derived.RowKit3
import Derived.Deep.LoopGhost
import Derived.Deep.QuietTactic
import Derived.BigQuiet
import Derived.WideLaws
import Derived.Deep.DeepCutAuto
import Derived.Deep.CutBlock
import Derived.Deep.RegionHeld3
import Derived.Laws.Rows
import Derived.Lib.AppendStr
import Derived.ArgAppend
import Derived.Laws.IdiomCopy
import Derived.OrdersHeld
import Derived.Laws.BitsLemmas
import Derived.RowKit
import Derived.Test.YtpjidedgifjgeaaDoorExt
import Derived.Test.YtpjidedgifjgeaaDoorWWords
import Derived.Test.YtpjidedgifjgeaaDoorWLast
import Derived.Test.YtpjidedgifjgeaaDoorWTab
import Derived.Test.YtpjidedgifjgeaaDoorWFour
import Derived.Test.YtpjidedgifjgeaaDoorWQPut
import Derived.Test.YtpjidedgifjgeaaDoorWApart
import Derived.Test.YtpjidedgifjgeaaDoorWArr
import Derived.Test.YtpjidedgifjgeaaDoorWZeros
import Derived.Test.YtpjidedgifjgeaaDoorWFoot
import Derived.Test.YtpjidedgifjgeaaDoorWKept
import Derived.Test.YtpjidedgifjgeaaDoorWShare
import Derived.Test.YtpjidedgifjgeaaDoorWN
import Derived.Test.YtpjidedgifjgeaaDoorWFootNe
import Derived.Test.YtpjidedgifjgeaaDoorWAt
import Derived.Test.YtpjidedgifjgeaaDoorWEqStruct
import Derived.Test.YtpjidedgifjgeaaDoorWRepsOne
import Derived.Test.YtpjidedgifjgeaaDoorWInv
import Derived.Test.YtpjidedgifjgeaaDoorWInvWords
import Derived.Test.YtpjidedgifjgeaaDoorWGuard
import Derived.Test.YtpjidedgifjgeaaDoorWNEv
import Derived.Test.YtpjidedgifjgeaaDoorWMore
namespace Go.Proofs.YtpjidedgifjgeaaDoor.Pa
open Go.RowKit Go.Proofs.YtpjidedgifjgeaaDoorW.PrintWords Go.Proofs.YtpjidedgifjgeaaDoorW.PrintLast Go.Proofs.YtpjidedgifjgeaaDoorW.PrintMore
attribute [local go_sem] max2_int min2_int max_two min_two max_three min_three max_four min_four   -- for this text's walks alone
set_option linter.unusedVariables false
set_option linter.unusedSimpArgs false



def errW : Option Int → Value
  | none => .nilIface
  | some c => .iface 0 (.int .i64 c)
theorem errW_none : errW none = .nilIface := rfl
theorem errW_some (c : Int) : errW (some c) = .iface 0 (.int .i64 c) := rfl

-- the values' own types

end Go.Proofs.YtpjidedgifjgeaaDoor.Pa
