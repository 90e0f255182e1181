/- The laws' helpers by the light walk: equal data are called equal; what a list measures; what is turned is the same. -/
import Derived.Test.YtphnjgeejifcfaaProg
import Derived.Test.YtphnjgeejifcfaaLwTy
import Derived.KernelRfl
namespace Go.Proofs.Ytphnjgeejifcfaa.Hlp
open Go Go.RowKit Go.Proofs Go.Proofs.Ytphnjgeejifcfaa.Lw
set_option linter.unusedVariables false
set_option linter.unusedSimpArgs false
set_option maxRecDepth 100000
set_option maxHeartbeats 4000000
theorem mixed : Try.prog.follows .mixedOrders = true := by kernel_rfl
def T : Tab Try.prog := tabOf _ [25, 27, 29, 34, 36, 40, 42, 47, 55, 57, 114, 117] (by kernel_rfl)
end Go.Proofs.Ytphnjgeejifcfaa.Hlp
