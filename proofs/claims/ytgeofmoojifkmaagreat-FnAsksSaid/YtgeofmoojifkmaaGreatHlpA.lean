/- The laws' helpers by the light walk: equal data are called equal; what a list measures; what is turned is the same. -/
import Derived.Test.YtgeofmoojifkmaaGreatProg
import Derived.Test.YtgeofmoojifkmaaGreatLwTy
import Derived.KernelRfl
namespace Go.Proofs.YtgeofmoojifkmaaGreat.Hlp
open Go Go.RowKit Go.Proofs Go.Proofs.YtgeofmoojifkmaaGreat.Lw
set_option linter.unusedVariables false
set_option linter.unusedSimpArgs false
set_option maxRecDepth 100000
set_option maxHeartbeats 4000000
theorem mixed : Tryz.prog.follows .mixedOrders = true := by kernel_rfl
def T : Tab Tryz.prog := tabOf _ [26, 36, 38, 98, 100, 152, 155, 159] (by kernel_rfl)
end Go.Proofs.YtgeofmoojifkmaaGreat.Hlp
