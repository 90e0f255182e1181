/- The laws' helpers by the light walk: equal data are called equal; what a list measures; what is turned is the same. -/
import Derived.Test.YthpnmempecelaaaGreatProg
import Derived.Test.YthpnmempecelaaaGreatLwTy
import Derived.KernelRfl
namespace Go.Proofs.YthpnmempecelaaaGreat.Hlp
open Go Go.RowKit Go.Proofs Go.Proofs.YthpnmempecelaaaGreat.Lw
set_option linter.unusedVariables false
set_option linter.unusedSimpArgs false
set_option maxRecDepth 100000
set_option maxHeartbeats 4000000
theorem mixed : Tryz.prog.follows .mixedOrders = true := by kernel_rfl
def T : Tab Tryz.prog := tabOf _ [34, 35, 85, 88, 90, 92, 95] (by kernel_rfl)
theorem eqPg_a (M : Mem) (x : GPg) : Ans Tryz.prog M 23 #[.agg #[.int .i64 x.Pool, .int .i64 x.No], .agg #[.int .i64 x.Pool, .int .i64 x.No]] (.bool true) := by
  refine ans_of T (l := [.agg #[.int .i64 x.Pool, .int .i64 x.No], .agg #[.int .i64 x.Pool, .int .i64 x.No]]) mixed Tryz.func23 rfl (by kernel_rfl) (Nat.le_of_ble_eq_true rfl) ?_
  repeat' ((conv => whnf); first | with_reducible refine CondK.tt ?_ | with_reducible refine CondK.ff ?_ | with_reducible refine CondK.not ?_ | (refine CondK.no' ?_ ?_; focus (simp; done)) | (refine CondK.yes' ?_ ?_; focus (simp; done)) | exact rfl)
theorem toPg_a (M : Mem) (x : GPg) : Ans Tryz.prog M 15 #[.agg #[.int .i64 x.Pool, .int .i64 x.No]] (.agg #[.int .i64 x.Pool, .int .i64 x.No]) := by
  refine ans_of T (l := [.agg #[.int .i64 x.Pool, .int .i64 x.No]]) mixed Tryz.func15 rfl (by kernel_rfl) (Nat.le_of_ble_eq_true rfl) ?_
  repeat' ((conv => whnf); first | with_reducible refine CondK.tt ?_ | with_reducible refine CondK.ff ?_ | with_reducible refine CondK.not ?_ | exact rfl)
theorem eqVer_a (M : Mem) (x : GVer) : Ans Tryz.prog M 24 #[.agg #[.int .i64 x.Epoch, .int .i64 x.Seq], .agg #[.int .i64 x.Epoch, .int .i64 x.Seq]] (.bool true) := by
  refine ans_of T (l := [.agg #[.int .i64 x.Epoch, .int .i64 x.Seq], .agg #[.int .i64 x.Epoch, .int .i64 x.Seq]]) mixed Tryz.func24 rfl (by kernel_rfl) (Nat.le_of_ble_eq_true rfl) ?_
  repeat' ((conv => whnf); first | with_reducible refine CondK.tt ?_ | with_reducible refine CondK.ff ?_ | with_reducible refine CondK.not ?_ | (refine CondK.no' ?_ ?_; focus (simp; done)) | (refine CondK.yes' ?_ ?_; focus (simp; done)) | exact rfl)
theorem toVer_a (M : Mem) (x : GVer) : Ans Tryz.prog M 16 #[.agg #[.int .i64 x.Epoch, .int .i64 x.Seq]] (.agg #[.int .i64 x.Epoch, .int .i64 x.Seq]) := by
  refine ans_of T (l := [.agg #[.int .i64 x.Epoch, .int .i64 x.Seq]]) mixed Tryz.func16 rfl (by kernel_rfl) (Nat.le_of_ble_eq_true rfl) ?_
  repeat' ((conv => whnf); first | with_reducible refine CondK.tt ?_ | with_reducible refine CondK.ff ?_ | with_reducible refine CondK.not ?_ | exact rfl)
theorem eqReq_a (M : Mem) (x : GReq) : Ans Tryz.prog M 97 #[.agg #[.int .i64 x.Client, .int .i64 x.No], .agg #[.int .i64 x.Client, .int .i64 x.No]] (.bool true) := by
  refine ans_of T (l := [.agg #[.int .i64 x.Client, .int .i64 x.No], .agg #[.int .i64 x.Client, .int .i64 x.No]]) mixed Tryz.func97 rfl (by kernel_rfl) (Nat.le_of_ble_eq_true rfl) ?_
  repeat' ((conv => whnf); first | with_reducible refine CondK.tt ?_ | with_reducible refine CondK.ff ?_ | with_reducible refine CondK.not ?_ | (refine CondK.no' ?_ ?_; focus (simp; done)) | (refine CondK.yes' ?_ ?_; focus (simp; done)) | exact rfl)
theorem toReq_a (M : Mem) (x : GReq) : Ans Tryz.prog M 82 #[.agg #[.int .i64 x.Client, .int .i64 x.No]] (.agg #[.int .i64 x.Client, .int .i64 x.No]) := by
  refine ans_of T (l := [.agg #[.int .i64 x.Client, .int .i64 x.No]]) mixed Tryz.func82 rfl (by kernel_rfl) (Nat.le_of_ble_eq_true rfl) ?_
  repeat' ((conv => whnf); first | with_reducible refine CondK.tt ?_ | with_reducible refine CondK.ff ?_ | with_reducible refine CondK.not ?_ | exact rfl)
end Go.Proofs.YthpnmempecelaaaGreat.Hlp
