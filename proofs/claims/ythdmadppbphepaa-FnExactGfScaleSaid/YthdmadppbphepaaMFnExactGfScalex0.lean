-- Printed by the session's own program out of the translation.
import Derived.Test.YthdmadppbphepaaProg
import Derived.Below
import Derived.Deep.Draws
import Derived.Deep.AppendLies
import Derived.Maps.AppendAt
import Derived.OwnWalk
import Derived.Laws.BytesArg
import Derived.Laws.MakeOwn
import Derived.Laws.OwnMore
import Derived.Deep.OwnRows
import Derived.Tactics
import Derived.Lib.ConvBytes
import Derived.Laws.Slices
import Derived.WalkKit
import Derived.KernelRfl
import Derived.RowKit3
import Derived.Deep.LoopGhost
import Derived.Deep.QuietTactic
import Derived.BigQuiet
import Derived.WideLaws
import Derived.Deep.DeepCutAuto
import Derived.Deep.CutBlock
import Derived.Deep.RegionHeld3
import Derived.Laws.Rows
import Derived.Lib.AppendStr
import Derived.ArgAppend
import Derived.Laws.IdiomCopy
import Derived.OrdersHeld
import Derived.Laws.BitsLemmas
import Derived.RowKit
import Derived.Test.YthdmadppbphepaaWWords
import Derived.Test.YthdmadppbphepaaWLast
import Derived.Test.YthdmadppbphepaaWTab
import Derived.Test.YthdmadppbphepaaWFour
import Derived.Test.YthdmadppbphepaaWQPut
import Derived.Test.YthdmadppbphepaaWApart
import Derived.Test.YthdmadppbphepaaWArr
import Derived.Test.YthdmadppbphepaaWZeros
import Derived.Test.YthdmadppbphepaaWFoot
import Derived.Test.YthdmadppbphepaaWKept
import Derived.Test.YthdmadppbphepaaWShare
import Derived.Test.YthdmadppbphepaaWN
import Derived.Test.YthdmadppbphepaaWFootNe
import Derived.Test.YthdmadppbphepaaWAt
import Derived.Test.YthdmadppbphepaaWEqStruct
import Derived.Test.YthdmadppbphepaaWRepsOne
import Derived.Test.YthdmadppbphepaaWInv
import Derived.Test.YthdmadppbphepaaWInvWords
import Derived.Test.YthdmadppbphepaaWGuard
import Derived.Test.YthdmadppbphepaaWNEv
import Derived.Test.YthdmadppbphepaaWMore
namespace Go.Proofs.Ythdmadppbphepaa.MFnExactGfScale
open Go.RowKit Go.Proofs.YthdmadppbphepaaW.PrintWords Go.Proofs.YthdmadppbphepaaW.PrintLast Go.Proofs.YthdmadppbphepaaW.PrintMore
attribute [local go_sem] max2_int min2_int max_two min_two max_three min_three max_four min_four   -- for this text's walks alone
set_option linter.unusedVariables false
set_option linter.unusedSimpArgs false



def errW : Option Int → Value
  | none => .nilIface
  | some c => .iface 0 (.int .i64 c)
theorem errW_none : errW none = .nilIface := rfl
theorem errW_some (c : Int) : errW (some c) = .iface 0 (.int .i64 c) := rfl

theorem info5 : (Try.prog.info? 5).map (fun i => (i.zero, i.size, i.bytes)) = some (some (.int .u8 0), 1, 1) := by kernel_rfl
-- the values' own types

end Go.Proofs.Ythdmadppbphepaa.MFnExactGfScale
