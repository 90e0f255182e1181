/- The laws' helpers by the light walk: equal data are called equal; what a list measures; what is turned is the same. -/
import Derived.Test.YtimjdeddohcadaaGreatHlpD
namespace Go.Proofs.YtimjdeddohcadaaGreat.Hlp
open Go Go.RowKit Go.Proofs Go.Proofs.YtimjdeddohcadaaGreat.Lw
set_option linter.unusedVariables false
set_option linter.unusedSimpArgs false
set_option maxRecDepth 100000
set_option maxHeartbeats 4000000
theorem eqCursor_a (M : Mem) (x : GCursor) : Ans Tryz.prog M 11 #[.agg #[.bool x.Done, .string x.Name], .agg #[.bool x.Done, .string x.Name]] (.bool true) := by
  refine ans_of T (l := [.agg #[.bool x.Done, .string x.Name], .agg #[.bool x.Done, .string x.Name]]) mixed Tryz.func11 rfl (by kernel_rfl) (Nat.le_of_ble_eq_true rfl) ?_
  repeat' ((conv => whnf); first | with_reducible refine CondK.tt ?_ | with_reducible refine CondK.ff ?_ | with_reducible refine CondK.not ?_ | (refine CondK.no' ?_ ?_; focus (simp; done)) | (refine CondK.yes' ?_ ?_; focus (simp; done)) | exact rfl)
def szCursor (x : GCursor) (left : Int) : Int := szT (szSub (left) x.Name.size) fun left => left
theorem szCursor_a (M : Mem) (x : GCursor) (left : Int) : Ans Tryz.prog M 5 #[.agg #[.bool x.Done, .string x.Name], .int .i64 left] (.int .i64 (szCursor x left)) := by
  refine ans_of T (l := [.agg #[.bool x.Done, .string x.Name], .int .i64 left]) mixed Tryz.func5 rfl (by kernel_rfl) (Nat.le_of_ble_eq_true rfl) ?_
  repeat' ((conv => whnf); first | with_reducible refine CondK.tt ?_ | with_reducible refine CondK.ff ?_ | with_reducible refine CondK.not ?_ | refine CondK.mk (fun h => ?_) (fun h => ?_) | exact rfl)
  all_goals refine ret_int ?_
  all_goals (simp only [decide_eq_true_eq, decide_eq_false_iff_not] at *)
  all_goals first | (simp only [szCursor, szT, if_true, if_false, *]; done) | (simp [szCursor, szT, *]; done) | (simp [szCursor, szT, szSub, *]; done) | (unfold szCursor szT szSub; simp [*]; done) | grind [szCursor, szT, szSub]
theorem szCursor_ok {M : Mem} {x : GCursor} {cs : List Value} (hr : RCursor M x cs) {left : Int} (h0 : 0 ≤ left) (h1 : left ≤ 1048576) (h : 0 ≤ szCursor x left) : True ∧ szCursor x left ≤ 1048576 := by
  obtain ⟨rfl, hb⟩ := hr
  unfold szCursor at h ⊢
  obtain ⟨p1, h', e1⟩ := szT_ok h
  replace h := h'
  rw [e1]
  have q1 := szSub_ok h0 h1 (by simp_all) p1
  exact ⟨trivial, q1.2⟩
theorem toCursor_a (M : Mem) (x : GCursor) : Ans Tryz.prog M 8 #[.agg #[.bool x.Done, .string x.Name]] (.agg #[.bool x.Done, .string x.Name]) := by
  refine ans_of T (l := [.agg #[.bool x.Done, .string x.Name]]) mixed Tryz.func8 rfl (by kernel_rfl) (Nat.le_of_ble_eq_true rfl) ?_
  repeat' ((conv => whnf); first | with_reducible refine CondK.tt ?_ | with_reducible refine CondK.ff ?_ | with_reducible refine CondK.not ?_ | exact rfl)
end Go.Proofs.YtimjdeddohcadaaGreat.Hlp
