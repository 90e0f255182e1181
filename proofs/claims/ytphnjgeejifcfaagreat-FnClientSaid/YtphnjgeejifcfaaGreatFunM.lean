/- Notices by the light walk. -/
import Derived.Test.YtphnjgeejifcfaaGreatFunK
import Derived.Test.YtphnjgeejifcfaaGreatHlpE
namespace Go.Proofs.YtphnjgeejifcfaaGreat.Hlp
open Go Go.RowKit Go.Proofs Go.Proofs.YtphnjgeejifcfaaGreat.Lw
set_option linter.unusedVariables false
set_option linter.unusedSimpArgs false
set_option maxRecDepth 100000
set_option maxHeartbeats 4000000
theorem isNode_a (M : Mem) (n : Int) : Ans Tryz.prog M 16 #[.int .i64 n] (.bool (inR n 0 15)) := by
  refine ans_of T (l := [.int .i64 n]) mixed Tryz.func16 rfl (by kernel_rfl) (Nat.le_of_ble_eq_true rfl) ?_
  repeat' ((conv => whnf); first | refine CallK.mk _ (between_a _ _ _ _) ?_ | fail)
  exact ret_bool rfl
end Go.Proofs.YtphnjgeejifcfaaGreat.Hlp
