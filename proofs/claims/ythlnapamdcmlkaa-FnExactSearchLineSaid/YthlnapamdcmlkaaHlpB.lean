/- The laws' helpers by the light walk: equal data are called equal; what a list measures; what is turned is the same. -/
import Derived.Test.YthlnapamdcmlkaaHlpA
namespace Go.Proofs.Ythlnapamdcmlkaa.Hlp
open Go Go.RowKit Go.Proofs Go.Proofs.Ythlnapamdcmlkaa.Lw
set_option linter.unusedVariables false
set_option linter.unusedSimpArgs false
set_option maxRecDepth 100000
set_option maxHeartbeats 4000000
theorem eqOp_a (M : Mem) (x : GOp) : Ans Try.prog M 33 #[.agg #[.int .i64 x.Kind, .int .i64 x.At, .string x.Bytes], .agg #[.int .i64 x.Kind, .int .i64 x.At, .string x.Bytes]] (.bool true) := by
  refine ans_of T (l := [.agg #[.int .i64 x.Kind, .int .i64 x.At, .string x.Bytes], .agg #[.int .i64 x.Kind, .int .i64 x.At, .string x.Bytes]]) mixed Try.func33 rfl (by kernel_rfl) (Nat.le_of_ble_eq_true rfl) ?_
  repeat' ((conv => whnf); first | with_reducible refine CondK.tt ?_ | with_reducible refine CondK.ff ?_ | with_reducible refine CondK.not ?_ | (refine CondK.no' ?_ ?_; focus (simp; done)) | (refine CondK.yes' ?_ ?_; focus (simp; done)) | exact rfl)
def szOp (x : GOp) (left : Int) : Int := szT (szSub (left) x.Bytes.size) fun left => left
theorem szOp_a (M : Mem) (x : GOp) (left : Int) : Ans Try.prog M 16 #[.agg #[.int .i64 x.Kind, .int .i64 x.At, .string x.Bytes], .int .i64 left] (.int .i64 (szOp x left)) := by
  refine ans_of T (l := [.agg #[.int .i64 x.Kind, .int .i64 x.At, .string x.Bytes], .int .i64 left]) mixed Try.func16 rfl (by kernel_rfl) (Nat.le_of_ble_eq_true rfl) ?_
  repeat' ((conv => whnf); first | with_reducible refine CondK.tt ?_ | with_reducible refine CondK.ff ?_ | with_reducible refine CondK.not ?_ | refine CondK.mk (fun h => ?_) (fun h => ?_) | exact rfl)
  all_goals refine ret_int ?_
  all_goals (simp only [decide_eq_true_eq, decide_eq_false_iff_not] at *)
  all_goals first | (simp only [szOp, szT, if_true, if_false, *]; done) | (simp [szOp, szT, *]; done) | (simp [szOp, szT, szSub, *]; done) | (unfold szOp szT szSub; simp [*]; done) | grind [szOp, szT, szSub]
theorem szOp_ok {M : Mem} {x : GOp} {cs : List Value} (hr : ROp M x cs) {left : Int} (h0 : 0 ≤ left) (h1 : left ≤ 1048576) (h : 0 ≤ szOp x left) : True ∧ szOp x left ≤ 1048576 := by
  obtain ⟨rfl, hb⟩ := hr
  unfold szOp at h ⊢
  obtain ⟨p2, h', e2⟩ := szT_ok h
  replace h := h'
  rw [e2]
  have q2 := szSub_ok h0 h1 (by simp_all) p2
  exact ⟨trivial, q2.2⟩
theorem toOp_a (M : Mem) (x : GOp) : Ans Try.prog M 23 #[.agg #[.int .i64 x.Kind, .int .i64 x.At, .string x.Bytes]] (.agg #[.int .i64 x.Kind, .int .i64 x.At, .string x.Bytes]) := by
  refine ans_of T (l := [.agg #[.int .i64 x.Kind, .int .i64 x.At, .string x.Bytes]]) mixed Try.func23 rfl (by kernel_rfl) (Nat.le_of_ble_eq_true rfl) ?_
  repeat' ((conv => whnf); first | with_reducible refine CondK.tt ?_ | with_reducible refine CondK.ff ?_ | with_reducible refine CondK.not ?_ | exact rfl)
end Go.Proofs.Ythlnapamdcmlkaa.Hlp
