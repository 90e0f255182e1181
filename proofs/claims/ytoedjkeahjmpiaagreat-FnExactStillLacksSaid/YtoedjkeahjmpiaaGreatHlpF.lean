/- The laws' helpers by the light walk: equal data are called equal; what a list measures; what is turned is the same. -/
import Derived.Test.YtoedjkeahjmpiaaGreatHlpE
namespace Go.Proofs.YtoedjkeahjmpiaaGreat.Hlp
open Go Go.RowKit Go.Proofs Go.Proofs.YtoedjkeahjmpiaaGreat.Lw
set_option linter.unusedVariables false
set_option linter.unusedSimpArgs false
set_option maxRecDepth 100000
set_option maxHeartbeats 4000000
theorem toCode_a (M : Mem) (x : GCode) : Ans Tryz.prog M 9 #[.agg #[.int .i64 x.K, .int .i64 x.M]] (.agg #[.int .i64 x.K, .int .i64 x.M]) := by
  refine ans_of T (l := [.agg #[.int .i64 x.K, .int .i64 x.M]]) mixed Tryz.func9 rfl (by kernel_rfl) (Nat.le_of_ble_eq_true rfl) ?_
  repeat' ((conv => whnf); first | with_reducible refine CondK.tt ?_ | with_reducible refine CondK.ff ?_ | with_reducible refine CondK.not ?_ | exact rfl)
end Go.Proofs.YtoedjkeahjmpiaaGreat.Hlp
