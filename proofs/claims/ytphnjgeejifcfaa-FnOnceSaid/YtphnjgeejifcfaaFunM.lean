/- Notices by the light walk. -/
import Derived.Test.YtphnjgeejifcfaaFunK
import Derived.Test.YtphnjgeejifcfaaHlpE
namespace Go.Proofs.Ytphnjgeejifcfaa.Hlp
open Go Go.RowKit Go.Proofs Go.Proofs.Ytphnjgeejifcfaa.Lw
set_option linter.unusedVariables false
set_option linter.unusedSimpArgs false
set_option maxRecDepth 100000
set_option maxHeartbeats 4000000
theorem isNode_a (M : Mem) (n : Int) : Ans Try.prog M 55 #[.int .i64 n] (.bool (inR n 0 15)) := by
  refine ans_of T (l := [.int .i64 n]) mixed Try.func55 rfl (by kernel_rfl) (Nat.le_of_ble_eq_true rfl) ?_
  repeat' ((conv => whnf); first | refine CallK.mk _ (between_a _ _ _ _) ?_ | fail)
  exact ret_bool rfl
end Go.Proofs.Ytphnjgeejifcfaa.Hlp
