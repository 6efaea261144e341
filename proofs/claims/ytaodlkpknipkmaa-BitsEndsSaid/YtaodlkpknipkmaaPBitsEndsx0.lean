-- Written by a program of this session (a turned copy of a tool), out of the translation's print. Not trusted: Lean checks it.
import Derived.Test.YtaodlkpknipkmaaProg
import Derived.Below
import Derived.Deep.Draws
import Derived.Deep.AppendLies
import Derived.Maps.AppendAt
import Derived.OwnWalk
import Derived.Laws.BytesArg
import Derived.Laws.MakeOwn
import Derived.Laws.OwnMore
import Derived.Deep.OwnRows
import Derived.Tactics
import Derived.Lib.ConvBytes
import Derived.Laws.Slices
import Derived.WalkKit
import Derived.KernelRfl
import Derived.RowKit3
import Derived.Deep.LoopGhost
import Derived.Deep.QuietTactic
import Derived.BigQuiet
import Derived.WideLaws
import Derived.Deep.DeepCutAuto
import Derived.Deep.CutBlock
import Derived.Deep.RegionHeld3
import Derived.Laws.Rows
import Derived.Lib.AppendStr
import Derived.ArgAppend
import Derived.Laws.IdiomCopy
import Derived.OrdersHeld
import Derived.Laws.BitsLemmas
import Derived.RowKit
import Derived.Test.YtaodlkpknipkmaaBitsWalks
import Derived.Test.YtaodlkpknipkmaaWWords
import Derived.Test.YtaodlkpknipkmaaWLast
import Derived.Test.YtaodlkpknipkmaaWTab
import Derived.Test.YtaodlkpknipkmaaWFour
import Derived.Test.YtaodlkpknipkmaaWQPut
import Derived.Test.YtaodlkpknipkmaaWApart
import Derived.Test.YtaodlkpknipkmaaWArr
import Derived.Test.YtaodlkpknipkmaaWZeros
import Derived.Test.YtaodlkpknipkmaaWFoot
import Derived.Test.YtaodlkpknipkmaaWKept
import Derived.Test.YtaodlkpknipkmaaWShare
import Derived.Test.YtaodlkpknipkmaaWN
import Derived.Test.YtaodlkpknipkmaaWFootNe
import Derived.Test.YtaodlkpknipkmaaWAt
import Derived.Test.YtaodlkpknipkmaaWEqStruct
import Derived.Test.YtaodlkpknipkmaaWRepsOne
import Derived.Test.YtaodlkpknipkmaaWInv
import Derived.Test.YtaodlkpknipkmaaWInvWords
import Derived.Test.YtaodlkpknipkmaaWGuard
import Derived.Test.YtaodlkpknipkmaaWNEv
import Derived.Test.YtaodlkpknipkmaaWMore
namespace Go.Proofs.Ytaodlkpknipkmaa.PBitsEnds
open Go.RowKit Go.Proofs.YtaodlkpknipkmaaW.PrintWords Go.Proofs.YtaodlkpknipkmaaW.PrintLast Go.Proofs.YtaodlkpknipkmaaW.PrintMore
attribute [local go_sem] max2_int min2_int max_two min_two max_three min_three max_four min_four   -- for this text's walks alone
set_option linter.unusedVariables false
set_option linter.unusedSimpArgs false



def errW : Option Int → Value
  | none => .nilIface
  | some c => .iface 0 (.int .i64 c)
theorem errW_none : errW none = .nilIface := rfl
theorem errW_some (c : Int) : errW (some c) = .iface 0 (.int .i64 c) := rfl

-- the values' own types

end Go.Proofs.Ytaodlkpknipkmaa.PBitsEnds
