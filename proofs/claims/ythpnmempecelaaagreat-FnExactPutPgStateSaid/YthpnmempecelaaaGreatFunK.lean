/- A state's last ver, and stores, by the light walk. -/
import Derived.Test.YthpnmempecelaaaGreatFunJ
namespace Go.Proofs.YthpnmempecelaaaGreat.Hlp
open Go Go.RowKit Go.Proofs Go.Proofs.YthpnmempecelaaaGreat.Lw
set_option linter.unusedVariables false
set_option linter.unusedSimpArgs false
set_option maxRecDepth 100000
set_option maxHeartbeats 4000000
def lastOfF (s : GPgState) : GVer := if stateOkF s = true then lastVerF s else ⟨0, 0⟩
def cmpPg (a b : GPg) : Int := orF [cmpI a.Pool b.Pool, cmpI a.No b.No]
def pgLessF (a b : GPg) : Bool := decide (a.Pool < b.Pool) || decide (a.Pool = b.Pool) && decide (a.No < b.No)
theorem cmpPg_less (a b : GPg) : decide (cmpPg a b ≥ 0) = !pgLessF a b := by
  rw [Bool.eq_iff_iff]
  unfold cmpPg pgLessF orF orF orF cmpI
  simp only [decide_eq_true_eq, Bool.not_eq_true', Bool.or_eq_false_iff, Bool.and_eq_false_iff, decide_eq_false_iff_not]
  split <;> split <;> (try split) <;> (try split) <;> (try split) <;> omega
def stF (l : List GPgState) (k : Nat) : Bool :=
  match l[k]? with
  | some x => stateOkF x && !(decide (0 < k) && match l[k - 1]? with | some y => !pgLessF y.Pg x.Pg | none => false)
  | none => true
theorem stF_at {l : List GPgState} {k : Nat} {x y : GPgState} (hx : l[k]? = some x) (hy : l[k - 1]? = some y) : stF l k = (stateOkF x && !(decide (0 < k) && !pgLessF y.Pg x.Pg)) := by
  unfold stF
  rw [hx, hy]
def statesOkF (l : List GPgState) : Bool := allR l.length (stF l) && decide ((l.length : Int) ≤ 8)
end Go.Proofs.YthpnmempecelaaaGreat.Hlp
