-- Written by hookprint.py (a program of this project, over the kit's printer). Not trusted: Lean checks it.
import Derived.Test.YtbdjcfaocmhdnaaProg
import Derived.Below
import Derived.Deep.Draws
import Derived.Deep.AppendLies
import Derived.Maps.AppendAt
import Derived.OwnWalk
import Derived.Laws.BytesArg
import Derived.Laws.MakeOwn
import Derived.Laws.OwnMore
import Derived.Deep.OwnRows
import Derived.Tactics
import Derived.Lib.ConvBytes
import Derived.Laws.Slices
import Derived.WalkKit
import Derived.KernelRfl
import Derived.RowKit3
import Derived.Deep.LoopGhost
import Derived.Deep.QuietTactic
import Derived.BigQuiet
import Derived.WideLaws
import Derived.Deep.DeepCutAuto
import Derived.Deep.CutBlock
import Derived.Deep.RegionHeld3
import Derived.Laws.Rows
import Derived.Lib.AppendStr
import Derived.ArgAppend
import Derived.Laws.IdiomCopy
import Derived.OrdersHeld
import Derived.Laws.BitsLemmas
import Derived.RowKit
import Derived.Test.YtbdjcfaocmhdnaaShelf
import Derived.Test.YtbdjcfaocmhdnaaHoldDraw
import Derived.RegionCalls
import Derived.IntWalk
import Derived.Test.YtbdjcfaocmhdnaaWWords
import Derived.Test.YtbdjcfaocmhdnaaWLast
import Derived.Test.YtbdjcfaocmhdnaaWTab
import Derived.Test.YtbdjcfaocmhdnaaWFour
import Derived.Test.YtbdjcfaocmhdnaaWQPut
import Derived.Test.YtbdjcfaocmhdnaaWApart
import Derived.Test.YtbdjcfaocmhdnaaWArr
import Derived.Test.YtbdjcfaocmhdnaaWZeros
import Derived.Test.YtbdjcfaocmhdnaaWFoot
import Derived.Test.YtbdjcfaocmhdnaaWKept
import Derived.Test.YtbdjcfaocmhdnaaWShare
import Derived.Test.YtbdjcfaocmhdnaaWN
import Derived.Test.YtbdjcfaocmhdnaaWFootNe
import Derived.Test.YtbdjcfaocmhdnaaWAt
import Derived.Test.YtbdjcfaocmhdnaaWEqStruct
import Derived.Test.YtbdjcfaocmhdnaaWRepsOne
import Derived.Test.YtbdjcfaocmhdnaaWInv
import Derived.Test.YtbdjcfaocmhdnaaWInvWords
import Derived.Test.YtbdjcfaocmhdnaaWGuard
import Derived.Test.YtbdjcfaocmhdnaaWNEv
import Derived.Test.YtbdjcfaocmhdnaaWMore
namespace Go.Proofs.Ytbdjcfaocmhdnaa.Q
open Go.RowKit Go.Proofs.YtbdjcfaocmhdnaaW.PrintWords Go.Proofs.YtbdjcfaocmhdnaaW.PrintLast Go.Proofs.YtbdjcfaocmhdnaaW.PrintMore
attribute [local go_sem] max2_int min2_int max_two min_two max_three min_three max_four min_four   -- for this text's walks alone
set_option linter.unusedVariables false
set_option linter.unusedSimpArgs false



def errW : Option Int → Value
  | none => .nilIface
  | some c => .iface 0 (.int .i64 c)
theorem errW_none : errW none = .nilIface := rfl
theorem errW_some (c : Int) : errW (some c) = .iface 0 (.int .i64 c) := rfl

-- the values' own types

end Go.Proofs.Ytbdjcfaocmhdnaa.Q
