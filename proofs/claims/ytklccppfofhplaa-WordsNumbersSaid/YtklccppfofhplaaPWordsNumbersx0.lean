-- Written by a program of this session (a turned copy of a tool), out of the translation's print. Not trusted: Lean checks it.
import Derived.Test.YtklccppfofhplaaProg
import Derived.Below
import Derived.Deep.Draws
import Derived.Deep.AppendLies
import Derived.Maps.AppendAt
import Derived.OwnWalk
import Derived.Laws.BytesArg
import Derived.Laws.MakeOwn
import Derived.Laws.OwnMore
import Derived.Deep.OwnRows
import Derived.Tactics
import Derived.Lib.ConvBytes
import Derived.Laws.Slices
import Derived.WalkKit
import Derived.KernelRfl
import Derived.RowKit3
import Derived.Deep.LoopGhost
import Derived.Deep.QuietTactic
import Derived.BigQuiet
import Derived.WideLaws
import Derived.Deep.DeepCutAuto
import Derived.Deep.CutBlock
import Derived.Deep.RegionHeld3
import Derived.Laws.Rows
import Derived.Lib.AppendStr
import Derived.ArgAppend
import Derived.Laws.IdiomCopy
import Derived.OrdersHeld
import Derived.Laws.BitsLemmas
import Derived.RowKit
import Derived.Test.YtklccppfofhplaaWWords
import Derived.Test.YtklccppfofhplaaWLast
import Derived.Test.YtklccppfofhplaaWTab
import Derived.Test.YtklccppfofhplaaWFour
import Derived.Test.YtklccppfofhplaaWQPut
import Derived.Test.YtklccppfofhplaaWApart
import Derived.Test.YtklccppfofhplaaWArr
import Derived.Test.YtklccppfofhplaaWZeros
import Derived.Test.YtklccppfofhplaaWFoot
import Derived.Test.YtklccppfofhplaaWKept
import Derived.Test.YtklccppfofhplaaWShare
import Derived.Test.YtklccppfofhplaaWN
import Derived.Test.YtklccppfofhplaaWFootNe
import Derived.Test.YtklccppfofhplaaWAt
import Derived.Test.YtklccppfofhplaaWEqStruct
import Derived.Test.YtklccppfofhplaaWRepsOne
import Derived.Test.YtklccppfofhplaaWInv
import Derived.Test.YtklccppfofhplaaWInvWords
import Derived.Test.YtklccppfofhplaaWGuard
import Derived.Test.YtklccppfofhplaaWNEv
import Derived.Test.YtklccppfofhplaaWMore
namespace Go.Proofs.Ytklccppfofhplaa.PWordsNumbers
open Go.RowKit Go.Proofs.YtklccppfofhplaaW.PrintWords Go.Proofs.YtklccppfofhplaaW.PrintLast Go.Proofs.YtklccppfofhplaaW.PrintMore
attribute [local go_sem] max2_int min2_int max_two min_two max_three min_three max_four min_four   -- for this text's walks alone
set_option linter.unusedVariables false
set_option linter.unusedSimpArgs false



def errW : Option Int → Value
  | none => .nilIface
  | some c => .iface 0 (.int .i64 c)
theorem errW_none : errW none = .nilIface := rfl
theorem errW_some (c : Int) : errW (some c) = .iface 0 (.int .i64 c) := rfl

theorem info5 : (Try.prog.info? 5).map (fun i => (i.zero, i.size, i.bytes)) = some (some (.int .u8 0), 1, 1) := by kernel_rfl
theorem info23 : (Try.prog.info? 23).map (fun i => (i.zero, i.size, i.bytes)) = some (some (.int .u64 0), 1, 8) := by kernel_rfl
-- the values' own types

end Go.Proofs.Ytklccppfofhplaa.PWordsNumbers
