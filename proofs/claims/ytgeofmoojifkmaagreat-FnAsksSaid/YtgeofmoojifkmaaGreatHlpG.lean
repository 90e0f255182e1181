/- The laws' helpers by the light walk: equal data are called equal; what a list measures; what is turned is the same. -/
import Derived.Test.YtgeofmoojifkmaaGreatHlpF
namespace Go.Proofs.YtgeofmoojifkmaaGreat.Hlp
open Go Go.RowKit Go.Proofs Go.Proofs.YtgeofmoojifkmaaGreat.Lw
set_option linter.unusedVariables false
set_option linter.unusedSimpArgs false
set_option maxRecDepth 100000
set_option maxHeartbeats 4000000
def SmallInterval (x : GInterval) : Prop := (x.Acting.length ≤ 1048576 ∧ ∀ y ∈ x.Acting, True)
end Go.Proofs.YtgeofmoojifkmaaGreat.Hlp
