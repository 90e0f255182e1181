/- A state's last ver, and stores, by the light walk. -/
import Derived.Test.YtgeofmoojifkmaaGreatFunJ
namespace Go.Proofs.YtgeofmoojifkmaaGreat.Hlp
open Go Go.RowKit Go.Proofs Go.Proofs.YtgeofmoojifkmaaGreat.Lw
set_option linter.unusedVariables false
set_option linter.unusedSimpArgs false
set_option maxRecDepth 100000
set_option maxHeartbeats 4000000
def lastOfF (s : GPgState) : GVer := if stateOkF s = true then lastVerF s else ⟨0, 0⟩
theorem sLastOf_a (M : Mem) (s : GPgState) (cs : List Value) (h : RPgState M s cs) : Ans Tryz.prog M 106 #[.agg cs.toArray] (.agg #[.int .i64 (lastOfF s).Epoch, .int .i64 (lastOfF s).Seq]) := by
  have h0 := h
  obtain ⟨A0, c0, A1, c1, A2, c2, A3, c3, rfl, _⟩ := h
  refine ans_of T (l := [.agg (List.toArray _)]) mixed Tryz.func106 rfl (by kernel_rfl) (Nat.le_of_ble_eq_true rfl) ?_
  cases hs : stateOkF s with
  | true =>
    have e : lastOfF s = lastVerF s := by unfold lastOfF; rw [hs]; rfl
    rw [e]
    repeat' ((conv => whnf); first | with_reducible refine CondK.tt ?_ | with_reducible refine CondK.ff ?_ | with_reducible refine CondK.not ?_ | refine CondK.no' (show (!stateOkF s) = false by rw [hs]; rfl) ?_ | refine DrawN.q (by kernel_rfl) ?_ | refine CallK.mk _ (sStateOk_a _ _ _ h0) ?_ | refine CallK.mk _ (l17LastOf_a _ _ _ h0) ?_ | fail)
    exact rfl
  | false =>
    have e : lastOfF s = ⟨0, 0⟩ := by unfold lastOfF; rw [hs]; rfl
    rw [e]
    repeat' ((conv => whnf); first | with_reducible refine CondK.tt ?_ | with_reducible refine CondK.ff ?_ | with_reducible refine CondK.not ?_ | refine CondK.yes' (show (!stateOkF s) = true by rw [hs]; rfl) ?_ | refine DrawN.q (by kernel_rfl) ?_ | refine CallK.mk _ (sStateOk_a _ _ _ h0) ?_ | fail)
    exact rfl
def cmpPg (a b : GPg) : Int := orF [cmpI a.Pool b.Pool, cmpI a.No b.No]
def pgLessF (a b : GPg) : Bool := decide (a.Pool < b.Pool) || decide (a.Pool = b.Pool) && decide (a.No < b.No)
theorem cmpPg_less (a b : GPg) : decide (cmpPg a b ≥ 0) = !pgLessF a b := by
  rw [Bool.eq_iff_iff]
  unfold cmpPg pgLessF orF orF orF cmpI
  simp only [decide_eq_true_eq, Bool.not_eq_true', Bool.or_eq_false_iff, Bool.and_eq_false_iff, decide_eq_false_iff_not]
  split <;> split <;> (try split) <;> (try split) <;> (try split) <;> omega
def stF (l : List GPgState) (k : Nat) : Bool :=
  match l[k]? with
  | some x => stateOkF x && !(decide (0 < k) && match l[k - 1]? with | some y => !pgLessF y.Pg x.Pg | none => false)
  | none => true
theorem stF_at {l : List GPgState} {k : Nat} {x y : GPgState} (hx : l[k]? = some x) (hy : l[k - 1]? = some y) : stF l k = (stateOkF x && !(decide (0 < k) && !pgLessF y.Pg x.Pg)) := by
  unfold stF
  rw [hx, hy]
def statesOkF (l : List GPgState) : Bool := allR l.length (stF l) && decide ((l.length : Int) ≤ 8)
end Go.Proofs.YtgeofmoojifkmaaGreat.Hlp
