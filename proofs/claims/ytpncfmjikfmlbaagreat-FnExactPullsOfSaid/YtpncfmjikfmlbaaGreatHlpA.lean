/- The laws' helpers by the light walk: equal data are called equal; what a list measures; what is turned is the same. -/
import Derived.Test.YtpncfmjikfmlbaaGreatProg
import Derived.Test.YtpncfmjikfmlbaaGreatLwTy
import Derived.KernelRfl
namespace Go.Proofs.YtpncfmjikfmlbaaGreat.Hlp
open Go Go.RowKit Go.Proofs Go.Proofs.YtpncfmjikfmlbaaGreat.Lw
set_option linter.unusedVariables false
set_option linter.unusedSimpArgs false
set_option maxRecDepth 100000
set_option maxHeartbeats 4000000
theorem mixed : Tryz.prog.follows .mixedOrders = true := by kernel_rfl
def T : Tab Tryz.prog := tabOf _ [33, 35, 46, 62, 75, 99, 101, 103, 105] (by kernel_rfl)
theorem eqVer_a (M : Mem) (x : GVer) : Ans Tryz.prog M 87 #[.agg #[.int .i64 x.Epoch, .int .i64 x.Seq], .agg #[.int .i64 x.Epoch, .int .i64 x.Seq]] (.bool true) := by
  refine ans_of T (l := [.agg #[.int .i64 x.Epoch, .int .i64 x.Seq], .agg #[.int .i64 x.Epoch, .int .i64 x.Seq]]) mixed Tryz.func87 rfl (by kernel_rfl) (Nat.le_of_ble_eq_true rfl) ?_
  repeat' ((conv => whnf); first | with_reducible refine CondK.tt ?_ | with_reducible refine CondK.ff ?_ | with_reducible refine CondK.not ?_ | (refine CondK.no' ?_ ?_; focus (simp; done)) | (refine CondK.yes' ?_ ?_; focus (simp; done)) | exact rfl)
theorem toVer_a (M : Mem) (x : GVer) : Ans Tryz.prog M 24 #[.agg #[.int .i64 x.Epoch, .int .i64 x.Seq]] (.agg #[.int .i64 x.Epoch, .int .i64 x.Seq]) := by
  refine ans_of T (l := [.agg #[.int .i64 x.Epoch, .int .i64 x.Seq]]) mixed Tryz.func24 rfl (by kernel_rfl) (Nat.le_of_ble_eq_true rfl) ?_
  repeat' ((conv => whnf); first | with_reducible refine CondK.tt ?_ | with_reducible refine CondK.ff ?_ | with_reducible refine CondK.not ?_ | exact rfl)
theorem eqPg_a (M : Mem) (x : GPg) : Ans Tryz.prog M 86 #[.agg #[.int .i64 x.Pool, .int .i64 x.No], .agg #[.int .i64 x.Pool, .int .i64 x.No]] (.bool true) := by
  refine ans_of T (l := [.agg #[.int .i64 x.Pool, .int .i64 x.No], .agg #[.int .i64 x.Pool, .int .i64 x.No]]) mixed Tryz.func86 rfl (by kernel_rfl) (Nat.le_of_ble_eq_true rfl) ?_
  repeat' ((conv => whnf); first | with_reducible refine CondK.tt ?_ | with_reducible refine CondK.ff ?_ | with_reducible refine CondK.not ?_ | (refine CondK.no' ?_ ?_; focus (simp; done)) | (refine CondK.yes' ?_ ?_; focus (simp; done)) | exact rfl)
theorem toPg_a (M : Mem) (x : GPg) : Ans Tryz.prog M 73 #[.agg #[.int .i64 x.Pool, .int .i64 x.No]] (.agg #[.int .i64 x.Pool, .int .i64 x.No]) := by
  refine ans_of T (l := [.agg #[.int .i64 x.Pool, .int .i64 x.No]]) mixed Tryz.func73 rfl (by kernel_rfl) (Nat.le_of_ble_eq_true rfl) ?_
  repeat' ((conv => whnf); first | with_reducible refine CondK.tt ?_ | with_reducible refine CondK.ff ?_ | with_reducible refine CondK.not ?_ | exact rfl)
theorem eqReq_a (M : Mem) (x : GReq) : Ans Tryz.prog M 121 #[.agg #[.int .i64 x.Client, .int .i64 x.No], .agg #[.int .i64 x.Client, .int .i64 x.No]] (.bool true) := by
  refine ans_of T (l := [.agg #[.int .i64 x.Client, .int .i64 x.No], .agg #[.int .i64 x.Client, .int .i64 x.No]]) mixed Tryz.func121 rfl (by kernel_rfl) (Nat.le_of_ble_eq_true rfl) ?_
  repeat' ((conv => whnf); first | with_reducible refine CondK.tt ?_ | with_reducible refine CondK.ff ?_ | with_reducible refine CondK.not ?_ | (refine CondK.no' ?_ ?_; focus (simp; done)) | (refine CondK.yes' ?_ ?_; focus (simp; done)) | exact rfl)
theorem toReq_a (M : Mem) (x : GReq) : Ans Tryz.prog M 116 #[.agg #[.int .i64 x.Client, .int .i64 x.No]] (.agg #[.int .i64 x.Client, .int .i64 x.No]) := by
  refine ans_of T (l := [.agg #[.int .i64 x.Client, .int .i64 x.No]]) mixed Tryz.func116 rfl (by kernel_rfl) (Nat.le_of_ble_eq_true rfl) ?_
  repeat' ((conv => whnf); first | with_reducible refine CondK.tt ?_ | with_reducible refine CondK.ff ?_ | with_reducible refine CondK.not ?_ | exact rfl)
end Go.Proofs.YtpncfmjikfmlbaaGreat.Hlp
