/- The small functions of spec and impl by the light walk: one meaning for both. -/
import Derived.Test.YtmfcnjbmmjbdfaaHlpA
namespace Go.Proofs.Ytmfcnjbmmjbdfaa.Hlp
open Go Go.RowKit Go.Proofs Go.Proofs.Ytmfcnjbmmjbdfaa.Lw
set_option linter.unusedVariables false
set_option linter.unusedSimpArgs false
set_option maxRecDepth 100000
set_option maxHeartbeats 4000000
def inR (n lo hi : Int) : Bool := decide (lo ≤ n) && decide (n ≤ hi)
theorem between_a (M : Mem) (n lo hi : Int) : Ans Try.prog M 20 #[.int .i64 n, .int .i64 lo, .int .i64 hi] (.bool (inR n lo hi)) := by
  refine ans_of T (l := [.int .i64 n, .int .i64 lo, .int .i64 hi]) mixed Try.func20 rfl (by kernel_rfl) (Nat.le_of_ble_eq_true rfl) ?_
  repeat' ((conv => whnf); first | with_reducible refine CondK.tt ?_ | with_reducible refine CondK.ff ?_ | with_reducible refine CondK.not ?_ | refine GuardK.mk (fun h => ?_) (fun h => ?_) | refine CondK.mk (fun h => ?_) (fun h => ?_) | fail)
  all_goals refine ret_bool ?_
  all_goals ((unfold inR; simp_all) <;> omega)
theorem l00In_a (M : Mem) (n lo hi : Int) : Ans Try.prog M 9 #[.int .i64 n, .int .i64 lo, .int .i64 hi] (.bool (inR n lo hi)) := by
  refine ans_of T (l := [.int .i64 n, .int .i64 lo, .int .i64 hi]) mixed Try.func9 rfl (by kernel_rfl) (Nat.le_of_ble_eq_true rfl) ?_
  repeat' ((conv => whnf); first | with_reducible refine CondK.tt ?_ | with_reducible refine CondK.ff ?_ | with_reducible refine CondK.not ?_ | refine GuardK.mk (fun h => ?_) (fun h => ?_) | refine CondK.mk (fun h => ?_) (fun h => ?_) | fail)
  all_goals refine ret_bool ?_
  all_goals ((unfold inR; simp_all) <;> omega)
def isClientF (n : Int) : Bool := inR n 100 105
def verOkF (v : GVer) : Bool := decide (v = ⟨0, 0⟩) || inR v.Epoch 1 60 && inR v.Seq 1 1000
def fullF (v : GVer) : Bool := verOkF v && !decide (v = ⟨0, 0⟩)
def pgOkF (g : GPg) : Bool := inR g.Pool 1 4 && inR g.No 0 15
def reqOkF (r : GReq) : Bool := decide (r = ⟨0, 0⟩) || isClientF r.Client && inR r.No 1 1000
def sizeOkF (n s : Int) : Bool := inR n 0 64 && inR s 0 4294967295
def cmpI (a b : Int) : Int := if a < b then -1 else if a > b then 1 else 0
def verLessF (a b : GVer) : Bool := decide (a.Epoch < b.Epoch) || decide (a.Epoch = b.Epoch) && decide (a.Seq < b.Seq)
end Go.Proofs.Ytmfcnjbmmjbdfaa.Hlp
