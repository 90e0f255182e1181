/- Notices by the light walk. -/
import Derived.Test.YtefhbbmklpnpoaaGreatFunK
import Derived.Test.YtefhbbmklpnpoaaGreatHlpE
namespace Go.Proofs.YtefhbbmklpnpoaaGreat.Hlp
open Go Go.RowKit Go.Proofs Go.Proofs.YtefhbbmklpnpoaaGreat.Lw
set_option linter.unusedVariables false
set_option linter.unusedSimpArgs false
set_option maxRecDepth 100000
set_option maxHeartbeats 4000000
end Go.Proofs.YtefhbbmklpnpoaaGreat.Hlp
