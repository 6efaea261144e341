-- Written by a program of this session (a turned copy of a tool), out of the translation's print. Not trusted: Lean checks it.
import Derived.Test.YtbbhfbpkopocgaaProg
import Derived.Below
import Derived.Deep.Draws
import Derived.Deep.AppendLies
import Derived.Maps.AppendAt
import Derived.OwnWalk
import Derived.Laws.BytesArg
import Derived.Laws.MakeOwn
import Derived.Laws.OwnMore
import Derived.Deep.OwnRows
import Derived.Tactics
import Derived.Lib.ConvBytes
import Derived.Laws.Slices
import Derived.WalkKit
import Derived.KernelRfl
import Derived.RowKit3
import Derived.Deep.LoopGhost
import Derived.Deep.QuietTactic
import Derived.BigQuiet
import Derived.WideLaws
import Derived.Deep.DeepCutAuto
import Derived.Deep.CutBlock
import Derived.Deep.RegionHeld3
import Derived.Laws.Rows
import Derived.Lib.AppendStr
import Derived.ArgAppend
import Derived.Laws.IdiomCopy
import Derived.OrdersHeld
import Derived.Laws.BitsLemmas
import Derived.RowKit
import Derived.Test.YtbbhfbpkopocgaaCacheWalks
import Derived.Test.YtbbhfbpkopocgaaWWords
import Derived.Test.YtbbhfbpkopocgaaWLast
import Derived.Test.YtbbhfbpkopocgaaWTab
import Derived.Test.YtbbhfbpkopocgaaWFour
import Derived.Test.YtbbhfbpkopocgaaWQPut
import Derived.Test.YtbbhfbpkopocgaaWApart
import Derived.Test.YtbbhfbpkopocgaaWArr
import Derived.Test.YtbbhfbpkopocgaaWZeros
import Derived.Test.YtbbhfbpkopocgaaWFoot
import Derived.Test.YtbbhfbpkopocgaaWKept
import Derived.Test.YtbbhfbpkopocgaaWShare
import Derived.Test.YtbbhfbpkopocgaaWN
import Derived.Test.YtbbhfbpkopocgaaWFootNe
import Derived.Test.YtbbhfbpkopocgaaWAt
import Derived.Test.YtbbhfbpkopocgaaWEqStruct
import Derived.Test.YtbbhfbpkopocgaaWRepsOne
import Derived.Test.YtbbhfbpkopocgaaWInv
import Derived.Test.YtbbhfbpkopocgaaWInvWords
import Derived.Test.YtbbhfbpkopocgaaWGuard
import Derived.Test.YtbbhfbpkopocgaaWNEv
import Derived.Test.YtbbhfbpkopocgaaWMore
namespace Go.Proofs.Ytbbhfbpkopocgaa.PCacheLast
open Go.RowKit Go.Proofs.YtbbhfbpkopocgaaW.PrintWords Go.Proofs.YtbbhfbpkopocgaaW.PrintLast Go.Proofs.YtbbhfbpkopocgaaW.PrintMore
attribute [local go_sem] max2_int min2_int max_two min_two max_three min_three max_four min_four   -- for this text's walks alone
set_option linter.unusedVariables false
set_option linter.unusedSimpArgs false



def errW : Option Int → Value
  | none => .nilIface
  | some c => .iface 0 (.int .i64 c)
theorem errW_none : errW none = .nilIface := rfl
theorem errW_some (c : Int) : errW (some c) = .iface 0 (.int .i64 c) := rfl

-- the values' own types

end Go.Proofs.Ytbbhfbpkopocgaa.PCacheLast
