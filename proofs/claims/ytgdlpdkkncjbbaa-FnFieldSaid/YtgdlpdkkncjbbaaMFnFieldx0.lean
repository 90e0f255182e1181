-- Printed by the session's own program out of the translation.
import Derived.Test.YtgdlpdkkncjbbaaProg
import Derived.Below
import Derived.Deep.Draws
import Derived.Deep.AppendLies
import Derived.Maps.AppendAt
import Derived.OwnWalk
import Derived.Laws.BytesArg
import Derived.Laws.MakeOwn
import Derived.Laws.OwnMore
import Derived.Deep.OwnRows
import Derived.Tactics
import Derived.Lib.ConvBytes
import Derived.Laws.Slices
import Derived.WalkKit
import Derived.KernelRfl
import Derived.RowKit3
import Derived.Deep.LoopGhost
import Derived.Deep.QuietTactic
import Derived.BigQuiet
import Derived.WideLaws
import Derived.Deep.DeepCutAuto
import Derived.Deep.CutBlock
import Derived.Deep.RegionHeld3
import Derived.Laws.Rows
import Derived.Lib.AppendStr
import Derived.ArgAppend
import Derived.Laws.IdiomCopy
import Derived.OrdersHeld
import Derived.Laws.BitsLemmas
import Derived.RowKit
import Derived.Test.YtgdlpdkkncjbbaaWWords
import Derived.Test.YtgdlpdkkncjbbaaWLast
import Derived.Test.YtgdlpdkkncjbbaaWTab
import Derived.Test.YtgdlpdkkncjbbaaWFour
import Derived.Test.YtgdlpdkkncjbbaaWQPut
import Derived.Test.YtgdlpdkkncjbbaaWApart
import Derived.Test.YtgdlpdkkncjbbaaWArr
import Derived.Test.YtgdlpdkkncjbbaaWZeros
import Derived.Test.YtgdlpdkkncjbbaaWFoot
import Derived.Test.YtgdlpdkkncjbbaaWKept
import Derived.Test.YtgdlpdkkncjbbaaWShare
import Derived.Test.YtgdlpdkkncjbbaaWN
import Derived.Test.YtgdlpdkkncjbbaaWFootNe
import Derived.Test.YtgdlpdkkncjbbaaWAt
import Derived.Test.YtgdlpdkkncjbbaaWEqStruct
import Derived.Test.YtgdlpdkkncjbbaaWRepsOne
import Derived.Test.YtgdlpdkkncjbbaaWInv
import Derived.Test.YtgdlpdkkncjbbaaWInvWords
import Derived.Test.YtgdlpdkkncjbbaaWGuard
import Derived.Test.YtgdlpdkkncjbbaaWNEv
import Derived.Test.YtgdlpdkkncjbbaaWMore
namespace Go.Proofs.Ytgdlpdkkncjbbaa.MFnField
open Go.RowKit Go.Proofs.YtgdlpdkkncjbbaaW.PrintWords Go.Proofs.YtgdlpdkkncjbbaaW.PrintLast Go.Proofs.YtgdlpdkkncjbbaaW.PrintMore
attribute [local go_sem] max2_int min2_int max_two min_two max_three min_three max_four min_four   -- for this text's walks alone
set_option linter.unusedVariables false
set_option linter.unusedSimpArgs false



def errW : Option Int → Value
  | none => .nilIface
  | some c => .iface 0 (.int .i64 c)
theorem errW_none : errW none = .nilIface := rfl
theorem errW_some (c : Int) : errW (some c) = .iface 0 (.int .i64 c) := rfl

-- the values' own types

end Go.Proofs.Ytgdlpdkkncjbbaa.MFnField
