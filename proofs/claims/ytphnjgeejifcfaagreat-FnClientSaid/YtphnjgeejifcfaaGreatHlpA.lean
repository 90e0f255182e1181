/- The laws' helpers by the light walk: equal data are called equal; what a list measures; what is turned is the same. -/
import Derived.Test.YtphnjgeejifcfaaGreatProg
import Derived.Test.YtphnjgeejifcfaaGreatLwTy
import Derived.KernelRfl
namespace Go.Proofs.YtphnjgeejifcfaaGreat.Hlp
open Go Go.RowKit Go.Proofs Go.Proofs.YtphnjgeejifcfaaGreat.Lw
set_option linter.unusedVariables false
set_option linter.unusedSimpArgs false
set_option maxRecDepth 100000
set_option maxHeartbeats 4000000
theorem mixed : Tryz.prog.follows .mixedOrders = true := by kernel_rfl
def T : Tab Tryz.prog := tabOf _ [25, 27, 29, 33, 41, 43, 45, 74, 76, 117, 120] (by kernel_rfl)
end Go.Proofs.YtphnjgeejifcfaaGreat.Hlp
