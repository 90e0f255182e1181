/- The small functions of spec and impl by the light walk: one meaning for both. -/
import Derived.Test.YthpnmempecelaaaGreatHlpA
namespace Go.Proofs.YthpnmempecelaaaGreat.Hlp
open Go Go.RowKit Go.Proofs Go.Proofs.YthpnmempecelaaaGreat.Lw
set_option linter.unusedVariables false
set_option linter.unusedSimpArgs false
set_option maxRecDepth 100000
set_option maxHeartbeats 4000000
def inR (n lo hi : Int) : Bool := decide (lo ≤ n) && decide (n ≤ hi)
theorem between_a (M : Mem) (n lo hi : Int) : Ans Tryz.prog M 51 #[.int .i64 n, .int .i64 lo, .int .i64 hi] (.bool (inR n lo hi)) := by
  refine ans_of T (l := [.int .i64 n, .int .i64 lo, .int .i64 hi]) mixed Tryz.func51 rfl (by kernel_rfl) (Nat.le_of_ble_eq_true rfl) ?_
  repeat' ((conv => whnf); first | with_reducible refine CondK.tt ?_ | with_reducible refine CondK.ff ?_ | with_reducible refine CondK.not ?_ | refine GuardK.mk (fun h => ?_) (fun h => ?_) | refine CondK.mk (fun h => ?_) (fun h => ?_) | fail)
  all_goals refine ret_bool ?_
  all_goals ((unfold inR; simp_all) <;> omega)
theorem l00In_a (M : Mem) (n lo hi : Int) : Ans Tryz.prog M 33 #[.int .i64 n, .int .i64 lo, .int .i64 hi] (.bool (inR n lo hi)) := by
  refine ans_of T (l := [.int .i64 n, .int .i64 lo, .int .i64 hi]) mixed Tryz.func33 rfl (by kernel_rfl) (Nat.le_of_ble_eq_true rfl) ?_
  repeat' ((conv => whnf); first | with_reducible refine CondK.tt ?_ | with_reducible refine CondK.ff ?_ | with_reducible refine CondK.not ?_ | refine GuardK.mk (fun h => ?_) (fun h => ?_) | refine CondK.mk (fun h => ?_) (fun h => ?_) | fail)
  all_goals refine ret_bool ?_
  all_goals ((unfold inR; simp_all) <;> omega)
def isClientF (n : Int) : Bool := inR n 100 105
theorem isClient_a (M : Mem) (n : Int) : Ans Tryz.prog M 100 #[.int .i64 n] (.bool (isClientF n)) := by
  refine ans_of T (l := [.int .i64 n]) mixed Tryz.func100 rfl (by kernel_rfl) (Nat.le_of_ble_eq_true rfl) ?_
  repeat' ((conv => whnf); first | with_reducible refine CondK.tt ?_ | with_reducible refine CondK.ff ?_ | with_reducible refine CondK.not ?_ | refine CallK.mk _ (between_a _ _ _ _) ?_ | refine CondK.mk (fun h => ?_) (fun h => ?_) | fail)
  exact ret_bool rfl
theorem l17Client_a (M : Mem) (n : Int) : Ans Tryz.prog M 75 #[.int .i64 n] (.bool (isClientF n)) := by
  refine ans_of T (l := [.int .i64 n]) mixed Tryz.func75 rfl (by kernel_rfl) (Nat.le_of_ble_eq_true rfl) ?_
  repeat' ((conv => whnf); first | with_reducible refine CondK.tt ?_ | with_reducible refine CondK.ff ?_ | with_reducible refine CondK.not ?_ | refine CallK.mk _ (l00In_a _ _ _ _) ?_ | refine CondK.mk (fun h => ?_) (fun h => ?_) | fail)
  exact ret_bool rfl
def verOkF (v : GVer) : Bool := decide (v = ⟨0, 0⟩) || inR v.Epoch 1 60 && inR v.Seq 1 1000
theorem verOk_a (M : Mem) (v : GVer) : Ans Tryz.prog M 52 #[.agg #[.int .i64 v.Epoch, .int .i64 v.Seq]] (.bool (verOkF v)) := by
  refine ans_of T (l := [.agg #[.int .i64 v.Epoch, .int .i64 v.Seq]]) mixed Tryz.func52 rfl (by kernel_rfl) (Nat.le_of_ble_eq_true rfl) ?_
  repeat' ((conv => whnf); first | with_reducible refine CondK.tt ?_ | with_reducible refine CondK.ff ?_ | with_reducible refine CondK.not ?_ | refine CallK.mk _ (between_a _ _ _ _) ?_ | refine CallQ.mk _ (between_a _ _ _ _) ?_ | refine GuardK.mk (fun h => ?_) (fun h => ?_) | refine CondK.mk (fun h => ?_) (fun h => ?_) | fail)
  all_goals refine ret_bool ?_
  all_goals (unfold verOkF; rw [← eqv_Ver]; simp_all)
theorem l17Zero_a (M : Mem) (v : GVer) : Ans Tryz.prog M 71 #[.agg #[.int .i64 v.Epoch, .int .i64 v.Seq]] (.bool (decide (v = ⟨0, 0⟩))) := by
  refine ans_of T (l := [.agg #[.int .i64 v.Epoch, .int .i64 v.Seq]]) mixed Tryz.func71 rfl (by kernel_rfl) (Nat.le_of_ble_eq_true rfl) ?_
  repeat' ((conv => whnf); first | with_reducible refine CondK.tt ?_ | with_reducible refine CondK.ff ?_ | with_reducible refine CondK.not ?_ | refine LdK.mk _ (by assumption) ?_ | refine DrawN.q (by kernel_rfl) ?_ | refine GuardK.mk (fun h => ?_) (fun h => ?_) | refine CondK.mk (fun h => ?_) (fun h => ?_) | fail)
  all_goals refine ret_bool ?_
  all_goals (rw [← eqv_Ver])
theorem l17Ver_a (M : Mem) (v : GVer) : Ans Tryz.prog M 34 #[.agg #[.int .i64 v.Epoch, .int .i64 v.Seq]] (.bool (verOkF v)) := by
  refine ans_of T (l := [.agg #[.int .i64 v.Epoch, .int .i64 v.Seq]]) mixed Tryz.func34 rfl (by kernel_rfl) (Nat.le_of_ble_eq_true rfl) ?_
  repeat' ((conv => whnf); first | with_reducible refine CondK.tt ?_ | with_reducible refine CondK.ff ?_ | with_reducible refine CondK.not ?_ | refine LdK.mk _ (by assumption) ?_ | refine DrawN.q (by kernel_rfl) ?_ | refine CallK.mk _ (l17Zero_a _ _) ?_ | refine CallQ.mk _ (l17Zero_a _ _) ?_ | refine CallK.mk _ (l00In_a _ _ _ _) ?_ | refine CallQ.mk _ (l00In_a _ _ _ _) ?_ | refine GuardK.mk (fun h => ?_) (fun h => ?_) | refine CondK.mk (fun h => ?_) (fun h => ?_) | fail)
  all_goals refine ret_bool ?_
  all_goals (unfold verOkF; simp_all)
def fullF (v : GVer) : Bool := verOkF v && !decide (v = ⟨0, 0⟩)
theorem l17Full_a (M : Mem) (v : GVer) : Ans Tryz.prog M 73 #[.agg #[.int .i64 v.Epoch, .int .i64 v.Seq]] (.bool (fullF v)) := by
  refine ans_of T (l := [.agg #[.int .i64 v.Epoch, .int .i64 v.Seq]]) mixed Tryz.func73 rfl (by kernel_rfl) (Nat.le_of_ble_eq_true rfl) ?_
  repeat' ((conv => whnf); first | with_reducible refine CondK.tt ?_ | with_reducible refine CondK.ff ?_ | with_reducible refine CondK.not ?_ | refine LdK.mk _ (by assumption) ?_ | refine DrawN.q (by kernel_rfl) ?_ | refine CallK.mk _ (l17Ver_a _ _) ?_ | refine CallQ.mk _ (l17Ver_a _ _) ?_ | refine CallK.mk _ (l17Zero_a _ _) ?_ | refine CallQ.mk _ (l17Zero_a _ _) ?_ | refine GuardK.mk (fun h => ?_) (fun h => ?_) | refine CondK.mk (fun h => ?_) (fun h => ?_) | fail)
  all_goals refine ret_bool ?_
  all_goals (unfold fullF; simp_all)
def pgOkF (g : GPg) : Bool := inR g.Pool 1 4 && inR g.No 0 15
theorem pgOk_a (M : Mem) (g : GPg) : Ans Tryz.prog M 50 #[.agg #[.int .i64 g.Pool, .int .i64 g.No]] (.bool (pgOkF g)) := by
  refine ans_of T (l := [.agg #[.int .i64 g.Pool, .int .i64 g.No]]) mixed Tryz.func50 rfl (by kernel_rfl) (Nat.le_of_ble_eq_true rfl) ?_
  repeat' ((conv => whnf); first | with_reducible refine CondK.tt ?_ | with_reducible refine CondK.ff ?_ | with_reducible refine CondK.not ?_ | refine LdK.mk _ (by assumption) ?_ | refine DrawN.q (by kernel_rfl) ?_ | refine CallK.mk _ (between_a _ _ _ _) ?_ | refine CallQ.mk _ (between_a _ _ _ _) ?_ | refine GuardK.mk (fun h => ?_) (fun h => ?_) | refine CondK.mk (fun h => ?_) (fun h => ?_) | fail)
  all_goals refine ret_bool ?_
  all_goals (unfold pgOkF; simp_all)
theorem l17Pg_a (M : Mem) (g : GPg) : Ans Tryz.prog M 32 #[.agg #[.int .i64 g.Pool, .int .i64 g.No]] (.bool (pgOkF g)) := by
  refine ans_of T (l := [.agg #[.int .i64 g.Pool, .int .i64 g.No]]) mixed Tryz.func32 rfl (by kernel_rfl) (Nat.le_of_ble_eq_true rfl) ?_
  repeat' ((conv => whnf); first | with_reducible refine CondK.tt ?_ | with_reducible refine CondK.ff ?_ | with_reducible refine CondK.not ?_ | refine LdK.mk _ (by assumption) ?_ | refine DrawN.q (by kernel_rfl) ?_ | refine CallK.mk _ (l00In_a _ _ _ _) ?_ | refine CallQ.mk _ (l00In_a _ _ _ _) ?_ | refine GuardK.mk (fun h => ?_) (fun h => ?_) | refine CondK.mk (fun h => ?_) (fun h => ?_) | fail)
  all_goals refine ret_bool ?_
  all_goals (unfold pgOkF; simp_all)
def reqOkF (r : GReq) : Bool := decide (r = ⟨0, 0⟩) || isClientF r.Client && inR r.No 1 1000
theorem reqOk_a (M : Mem) (r : GReq) : Ans Tryz.prog M 86 #[.agg #[.int .i64 r.Client, .int .i64 r.No]] (.bool (reqOkF r)) := by
  refine ans_of T (l := [.agg #[.int .i64 r.Client, .int .i64 r.No]]) mixed Tryz.func86 rfl (by kernel_rfl) (Nat.le_of_ble_eq_true rfl) ?_
  repeat' ((conv => whnf); first | with_reducible refine CondK.tt ?_ | with_reducible refine CondK.ff ?_ | with_reducible refine CondK.not ?_ | refine LdK.mk _ (by assumption) ?_ | refine DrawN.q (by kernel_rfl) ?_ | refine CallK.mk _ (between_a _ _ _ _) ?_ | refine CallQ.mk _ (between_a _ _ _ _) ?_ | refine CallK.mk _ (isClient_a _ _) ?_ | refine CallQ.mk _ (isClient_a _ _) ?_ | refine GuardK.mk (fun h => ?_) (fun h => ?_) | refine CondK.mk (fun h => ?_) (fun h => ?_) | fail)
  all_goals refine ret_bool ?_
  all_goals (unfold reqOkF; rw [← eqv_Req]; simp_all)
theorem l17Req_a (M : Mem) (r : GReq) : Ans Tryz.prog M 99 #[.agg #[.int .i64 r.Client, .int .i64 r.No]] (.bool (reqOkF r)) := by
  refine ans_of T (l := [.agg #[.int .i64 r.Client, .int .i64 r.No]]) mixed Tryz.func99 rfl (by kernel_rfl) (Nat.le_of_ble_eq_true rfl) ?_
  repeat' ((conv => whnf); first | with_reducible refine CondK.tt ?_ | with_reducible refine CondK.ff ?_ | with_reducible refine CondK.not ?_ | refine LdK.mk _ (by assumption) ?_ | refine DrawN.q (by kernel_rfl) ?_ | refine CallK.mk _ (l00In_a _ _ _ _) ?_ | refine CallQ.mk _ (l00In_a _ _ _ _) ?_ | refine CallK.mk _ (l17Client_a _ _) ?_ | refine CallQ.mk _ (l17Client_a _ _) ?_ | refine GuardK.mk (fun h => ?_) (fun h => ?_) | refine CondK.mk (fun h => ?_) (fun h => ?_) | fail)
  all_goals refine ret_bool ?_
  all_goals (unfold reqOkF; rw [← eqv_Req]; simp_all)
def sizeOkF (n s : Int) : Bool := inR n 0 64 && inR s 0 4294967295
theorem sizeOk_a (M : Mem) (n s : Int) : Ans Tryz.prog M 85 #[.int .i64 n, .int .i64 s] (.bool (sizeOkF n s)) := by
  refine ans_of T (l := [.int .i64 n, .int .i64 s]) mixed Tryz.func85 rfl (by kernel_rfl) (Nat.le_of_ble_eq_true rfl) ?_
  repeat' ((conv => whnf); first | with_reducible refine CondK.tt ?_ | with_reducible refine CondK.ff ?_ | with_reducible refine CondK.not ?_ | refine LdK.mk _ (by assumption) ?_ | refine DrawN.q (by kernel_rfl) ?_ | refine CallK.mk _ (between_a _ _ _ _) ?_ | refine CallQ.mk _ (between_a _ _ _ _) ?_ | refine GuardK.mk (fun h => ?_) (fun h => ?_) | refine CondK.mk (fun h => ?_) (fun h => ?_) | fail)
  all_goals refine ret_bool ?_
  all_goals (unfold sizeOkF; simp_all)
theorem l17Sum_a (M : Mem) (n : Int) : Ans Tryz.prog M 74 #[.int .i64 n] (.bool (inR n 0 4294967295)) := by
  refine ans_of T (l := [.int .i64 n]) mixed Tryz.func74 rfl (by kernel_rfl) (Nat.le_of_ble_eq_true rfl) ?_
  repeat' ((conv => whnf); first | with_reducible refine CondK.tt ?_ | with_reducible refine CondK.ff ?_ | with_reducible refine CondK.not ?_ | refine LdK.mk _ (by assumption) ?_ | refine DrawN.q (by kernel_rfl) ?_ | refine CallK.mk _ (l00In_a _ _ _ _) ?_ | refine CallQ.mk _ (l00In_a _ _ _ _) ?_ | refine GuardK.mk (fun h => ?_) (fun h => ?_) | refine CondK.mk (fun h => ?_) (fun h => ?_) | fail)
  exact ret_bool rfl
def cmpI (a b : Int) : Int := if a < b then -1 else if a > b then 1 else 0
theorem isNaN_a (M : Mem) (n : Int) : Ans Tryz.prog M 105 #[.int .i64 n] (.bool false) := by
  refine ans_of T (l := [.int .i64 n]) mixed Tryz.func105 rfl (by kernel_rfl) (Nat.le_of_ble_eq_true rfl) ?_
  repeat' ((conv => whnf); first | with_reducible refine CondK.tt ?_ | with_reducible refine CondK.ff ?_ | with_reducible refine CondK.not ?_ | refine LdK.mk _ (by assumption) ?_ | refine DrawN.q (by kernel_rfl) ?_ | refine GuardK.mk (fun h => ?_) (fun h => ?_) | refine CondK.mk (fun h => ?_) (fun h => ?_) | fail)
  all_goals (refine ret_bool ?_; simp)
theorem cmpInt64_a (M : Mem) (a b : Int) : Ans Tryz.prog M 102 #[.int .i64 a, .int .i64 b] (.int .i64 (cmpI a b)) := by
  refine ans_of T (l := [.int .i64 a, .int .i64 b]) mixed Tryz.func102 rfl (by kernel_rfl) (Nat.le_of_ble_eq_true rfl) ?_
  repeat' ((conv => whnf); first | with_reducible refine CondK.tt ?_ | with_reducible refine CondK.ff ?_ | with_reducible refine CondK.not ?_ | refine LdK.mk _ (by assumption) ?_ | refine DrawN.q (by kernel_rfl) ?_ | refine CallK.mk _ (isNaN_a _ _) ?_ | refine CallQ.mk _ (isNaN_a _ _) ?_ | refine GuardK.mk (fun h => ?_) (fun h => ?_) | refine CondK.mk (fun h => ?_) (fun h => ?_) | fail)
  all_goals refine ret_int ?_
  all_goals ((unfold cmpI; simp_all) <;> omega)
def verLessF (a b : GVer) : Bool := decide (a.Epoch < b.Epoch) || decide (a.Epoch = b.Epoch) && decide (a.Seq < b.Seq)
theorem sVerLess_a (M : Mem) (a b : GVer) : Ans Tryz.prog M 38 #[.agg #[.int .i64 a.Epoch, .int .i64 a.Seq], .agg #[.int .i64 b.Epoch, .int .i64 b.Seq]] (.bool (verLessF a b)) := by
  refine ans_of T (l := [.agg #[.int .i64 a.Epoch, .int .i64 a.Seq], .agg #[.int .i64 b.Epoch, .int .i64 b.Seq]]) mixed Tryz.func38 rfl (by kernel_rfl) (Nat.le_of_ble_eq_true rfl) ?_
  repeat' ((conv => whnf); first | with_reducible refine CondK.tt ?_ | with_reducible refine CondK.ff ?_ | with_reducible refine CondK.not ?_ | refine LdK.mk _ (by assumption) ?_ | refine DrawN.q (by kernel_rfl) ?_ | refine GuardK.mk (fun h => ?_) (fun h => ?_) | refine CondK.mk (fun h => ?_) (fun h => ?_) | fail)
  all_goals refine ret_bool ?_
  all_goals (unfold verLessF; simp_all)
end Go.Proofs.YthpnmempecelaaaGreat.Hlp
