/- The laws' helpers by the light walk: equal data are called equal; what a list measures; what is turned is the same. -/
import Derived.Test.YtgeofmoojifkmaaGreatHlpC
namespace Go.Proofs.YtgeofmoojifkmaaGreat.Hlp
open Go Go.RowKit Go.Proofs Go.Proofs.YtgeofmoojifkmaaGreat.Lw
set_option linter.unusedVariables false
set_option linter.unusedSimpArgs false
set_option maxRecDepth 100000
set_option maxHeartbeats 4000000
def SmallPgState (x : GPgState) : Prop := (x.Base.length ≤ 1048576 ∧ ∀ y ∈ x.Base, True) ∧ (x.Clients.length ≤ 1048576 ∧ ∀ y ∈ x.Clients, True) ∧ (x.Log.length ≤ 1048576 ∧ ∀ y ∈ x.Log, True) ∧ (x.Chunks.length ≤ 1048576 ∧ ∀ y ∈ x.Chunks, True)
end Go.Proofs.YtgeofmoojifkmaaGreat.Hlp
