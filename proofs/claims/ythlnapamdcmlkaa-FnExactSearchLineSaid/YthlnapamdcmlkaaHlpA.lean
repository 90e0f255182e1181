/- The laws' helpers by the light walk: equal data are called equal; what a list measures; what is turned is the same. -/
import Derived.Test.YthlnapamdcmlkaaProg
import Derived.Test.YthlnapamdcmlkaaLwTy
import Derived.KernelRfl
namespace Go.Proofs.Ythlnapamdcmlkaa.Hlp
open Go Go.RowKit Go.Proofs Go.Proofs.Ythlnapamdcmlkaa.Lw
set_option linter.unusedVariables false
set_option linter.unusedSimpArgs false
set_option maxRecDepth 100000
set_option maxHeartbeats 4000000
theorem mixed : Try.prog.follows .mixedOrders = true := by kernel_rfl
def T : Tab Try.prog := tabOf _ [38, 39, 40, 42, 68] (by kernel_rfl)
theorem eqPg_a (M : Mem) (x : GPg) : Ans Try.prog M 32 #[.agg #[.int .i64 x.Pool, .int .i64 x.No], .agg #[.int .i64 x.Pool, .int .i64 x.No]] (.bool true) := by
  refine ans_of T (l := [.agg #[.int .i64 x.Pool, .int .i64 x.No], .agg #[.int .i64 x.Pool, .int .i64 x.No]]) mixed Try.func32 rfl (by kernel_rfl) (Nat.le_of_ble_eq_true rfl) ?_
  repeat' ((conv => whnf); first | with_reducible refine CondK.tt ?_ | with_reducible refine CondK.ff ?_ | with_reducible refine CondK.not ?_ | (refine CondK.no' ?_ ?_; focus (simp; done)) | (refine CondK.yes' ?_ ?_; focus (simp; done)) | exact rfl)
theorem toPg_a (M : Mem) (x : GPg) : Ans Try.prog M 22 #[.agg #[.int .i64 x.Pool, .int .i64 x.No]] (.agg #[.int .i64 x.Pool, .int .i64 x.No]) := by
  refine ans_of T (l := [.agg #[.int .i64 x.Pool, .int .i64 x.No]]) mixed Try.func22 rfl (by kernel_rfl) (Nat.le_of_ble_eq_true rfl) ?_
  repeat' ((conv => whnf); first | with_reducible refine CondK.tt ?_ | with_reducible refine CondK.ff ?_ | with_reducible refine CondK.not ?_ | exact rfl)
theorem eqVer_a (M : Mem) (x : GVer) : Ans Try.prog M 34 #[.agg #[.int .i64 x.Epoch, .int .i64 x.Seq], .agg #[.int .i64 x.Epoch, .int .i64 x.Seq]] (.bool true) := by
  refine ans_of T (l := [.agg #[.int .i64 x.Epoch, .int .i64 x.Seq], .agg #[.int .i64 x.Epoch, .int .i64 x.Seq]]) mixed Try.func34 rfl (by kernel_rfl) (Nat.le_of_ble_eq_true rfl) ?_
  repeat' ((conv => whnf); first | with_reducible refine CondK.tt ?_ | with_reducible refine CondK.ff ?_ | with_reducible refine CondK.not ?_ | (refine CondK.no' ?_ ?_; focus (simp; done)) | (refine CondK.yes' ?_ ?_; focus (simp; done)) | exact rfl)
theorem toVer_a (M : Mem) (x : GVer) : Ans Try.prog M 24 #[.agg #[.int .i64 x.Epoch, .int .i64 x.Seq]] (.agg #[.int .i64 x.Epoch, .int .i64 x.Seq]) := by
  refine ans_of T (l := [.agg #[.int .i64 x.Epoch, .int .i64 x.Seq]]) mixed Try.func24 rfl (by kernel_rfl) (Nat.le_of_ble_eq_true rfl) ?_
  repeat' ((conv => whnf); first | with_reducible refine CondK.tt ?_ | with_reducible refine CondK.ff ?_ | with_reducible refine CondK.not ?_ | exact rfl)
end Go.Proofs.Ythlnapamdcmlkaa.Hlp
