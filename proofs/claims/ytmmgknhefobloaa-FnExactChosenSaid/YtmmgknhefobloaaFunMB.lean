/- Tries and monitors: what is right of one, by the light walk. -/
import Derived.Test.YtmmgknhefobloaaFunMA
namespace Go.Proofs.Ytmmgknhefobloaa.Hlp
open Go Go.RowKit Go.Proofs Go.Proofs.Ytmmgknhefobloaa.Lw
set_option linter.unusedVariables false
set_option linter.unusedSimpArgs false
set_option maxRecDepth 100000
set_option maxHeartbeats 4000000
theorem rises_eq (l : List Int) (hi : Int) : (allR l.length (incP l) && !l.any fun x => !inR x 0 hi) = allR l.length (riseF l 0 hi) := by
  have key : ∀ j, j < l.length → riseF l 0 hi j = (inR (l.getD j 0) 0 hi && incP l j) := fun j hj => by
    unfold riseF incP
    rw [List.getElem?_eq_getElem hj]
    simp [List.getElem?_eq_getElem hj]
  rw [Bool.eq_iff_iff, Bool.and_eq_true, allR_iff, allR_iff]
  constructor
  · rintro ⟨h1, h2⟩ j hj
    rw [key j hj, h1 j hj, Bool.and_true]
    have h3 : ∀ x ∈ l, inR x 0 hi = true := by simpa using h2
    rw [List.getD_eq_getElem?_getD, List.getElem?_eq_getElem hj]
    exact h3 _ (List.getElem_mem hj)
  · intro h
    refine ⟨fun j hj => ?_, ?_⟩
    · have := h j hj
      rw [key j hj, Bool.and_eq_true] at this
      exact this.2
    · simp only [Bool.not_eq_true', List.any_eq_false, Bool.not_eq_true]
      intro x hx
      obtain ⟨j, hj, rfl⟩ := List.getElem_of_mem hx
      have := h j hj
      rw [key j hj, Bool.and_eq_true] at this
      have h1 := this.1
      rw [List.getD_eq_getElem?_getD, List.getElem?_eq_getElem hj] at h1
      simpa using h1
def idsF (many : Int) (l : List Int) : Bool := allR l.length (riseF l 0 (IntKind.i64.wrap (many - 1)))
def mostF (many : Int) (l : List Int) : Bool := decide (IntKind.i64.wrap (2 * (l.length : Int)) > many)
def zeroTryF (t : GTry) : Bool := (t.Epoch == 0) && decide (t.Ballot = ⟨0, 0⟩) && decide (t.Inc = ⟨0, 0, 0, 0⟩) && decide (t.Highest = ⟨0, 0⟩) && ((t.Promises.length : Int) == 0) && ((t.Accepts.length : Int) == 0) && !t.Decided
def tryOkF (m : GMon) : Bool := zeroTryF m.Try || inR m.Try.Epoch 2 60 && ballotOkF m.Try.Ballot && !decide (m.Try.Ballot = ⟨0, 0⟩) && (m.Try.Ballot.By == m.Id) && incForF m.Try.Inc m.Try.Epoch && ballotOkF m.Try.Highest && lessF m.Try.Highest m.Try.Ballot && idsF m.Many m.Try.Promises && idsF m.Many m.Try.Accepts && (((m.Try.Accepts.length : Int) == 0) || mostF m.Many m.Try.Promises) && (m.Try.Decided == mostF m.Many m.Try.Accepts)
theorem isZero_a (M : Mem) (t : GTry) (cs : List Value) (h : RTry M t cs) : Ans Try.prog M 54 #[.agg cs.toArray] (.bool (zeroTryF t)) := by
  obtain ⟨A0, c0, A1, c1, rfl, _, s0, s1⟩ := h
  have eb := eqv_Ballot t.Ballot ⟨0, 0⟩
  have ei := eqv_Inc t.Inc ⟨0, 0, 0, 0⟩
  have eh := eqv_Ballot t.Highest ⟨0, 0⟩
  have g1 := between_a M 0 0 0
  refine ans_of T (l := [.agg (List.toArray _)]) mixed Try.func54 rfl (by kernel_rfl) (Nat.le_of_ble_eq_true rfl) ?_
  cases z1 : (t.Epoch == 0) with
  | false =>
    repeat' ((conv => whnf); first | refine DrawN.q (by kernel_rfl) ?_ | with_reducible refine CondK.tt ?_ | with_reducible refine CondK.ff ?_ | refine LdK.mk _ (by assumption) ?_ | refine CallK.mk _ (g1) ?_ | refine CallQ.mk _ (g1) ?_ | rw [z1] | refine CondK.yes' (by assumption) ?_ | refine CondK.no' (by assumption) ?_ | fail)
    all_goals (refine ret_bool ?_; unfold zeroTryF; simp_all)
  | true =>
    cases z2 : (t.Ballot.No == 0 && (t.Ballot.By == 0 && true)) with
    | false =>
      repeat' ((conv => whnf); first | refine DrawN.q (by kernel_rfl) ?_ | with_reducible refine CondK.tt ?_ | with_reducible refine CondK.ff ?_ | refine LdK.mk _ (by assumption) ?_ | refine CallK.mk _ (g1) ?_ | refine CallQ.mk _ (g1) ?_ | rw [z1] | rw [z2] | refine CondK.yes' (by assumption) ?_ | refine CondK.no' (by assumption) ?_ | fail)
      all_goals (refine ret_bool ?_; unfold zeroTryF; simp_all)
    | true =>
      cases z3 : (t.Inc.Epoch == 0 && (t.Inc.Kind == 0 && (t.Inc.A == 0 && (t.Inc.B == 0 && true)))) with
      | false =>
        repeat' ((conv => whnf); first | refine DrawN.q (by kernel_rfl) ?_ | with_reducible refine CondK.tt ?_ | with_reducible refine CondK.ff ?_ | refine LdK.mk _ (by assumption) ?_ | refine CallK.mk _ (g1) ?_ | refine CallQ.mk _ (g1) ?_ | rw [z1] | rw [z2] | rw [z3] | refine CondK.yes' (by assumption) ?_ | refine CondK.no' (by assumption) ?_ | fail)
        all_goals (refine ret_bool ?_; unfold zeroTryF; simp_all)
      | true =>
        cases z4 : (t.Highest.No == 0 && (t.Highest.By == 0 && true)) with
        | false =>
          repeat' ((conv => whnf); first | refine DrawN.q (by kernel_rfl) ?_ | with_reducible refine CondK.tt ?_ | with_reducible refine CondK.ff ?_ | refine LdK.mk _ (by assumption) ?_ | refine CallK.mk _ (g1) ?_ | refine CallQ.mk _ (g1) ?_ | rw [z1] | rw [z2] | rw [z3] | rw [z4] | refine CondK.yes' (by assumption) ?_ | refine CondK.no' (by assumption) ?_ | fail)
          all_goals (refine ret_bool ?_; unfold zeroTryF; simp_all)
        | true =>
          cases z5 : ((t.Promises.length : Int) == 0) with
          | false =>
            repeat' ((conv => whnf); first | refine DrawN.q (by kernel_rfl) ?_ | with_reducible refine CondK.tt ?_ | with_reducible refine CondK.ff ?_ | refine LdK.mk _ (by assumption) ?_ | refine CallK.mk _ (g1) ?_ | refine CallQ.mk _ (g1) ?_ | rw [z1] | rw [z2] | rw [z3] | rw [z4] | rw [z5] | refine CondK.yes' (by assumption) ?_ | refine CondK.no' (by assumption) ?_ | fail)
            all_goals (refine ret_bool ?_; unfold zeroTryF; simp_all)
          | true =>
            cases z6 : ((t.Accepts.length : Int) == 0) with
            | false =>
              repeat' ((conv => whnf); first | refine DrawN.q (by kernel_rfl) ?_ | with_reducible refine CondK.tt ?_ | with_reducible refine CondK.ff ?_ | refine LdK.mk _ (by assumption) ?_ | refine CallK.mk _ (g1) ?_ | refine CallQ.mk _ (g1) ?_ | rw [z1] | rw [z2] | rw [z3] | rw [z4] | rw [z5] | rw [z6] | refine CondK.yes' (by assumption) ?_ | refine CondK.no' (by assumption) ?_ | fail)
              all_goals (refine ret_bool ?_; unfold zeroTryF; simp_all)
            | true =>
              repeat' ((conv => whnf); first | refine DrawN.q (by kernel_rfl) ?_ | with_reducible refine CondK.tt ?_ | with_reducible refine CondK.ff ?_ | refine LdK.mk _ (by assumption) ?_ | refine CallK.mk _ (g1) ?_ | refine CallQ.mk _ (g1) ?_ | rw [z1] | rw [z2] | rw [z3] | rw [z4] | rw [z5] | rw [z6] | refine CondK.yes' (by assumption) ?_ | refine CondK.no' (by assumption) ?_ | fail)
              all_goals (refine ret_bool ?_; unfold zeroTryF; simp_all)
theorem majority_a (M : Mem) (m : GMon) (cs : List Value) (h : RMon M m cs) (l : List Int) (A : Option Addr) (c : Nat) : Ans Try.prog M 21 #[.agg cs.toArray, .slice A l.length c] (.bool (mostF m.Many l)) := by
  obtain ⟨A0, c0, A1, c1, A2, c2, rfl, _, s0, s1, s2⟩ := h
  refine ans_of T (l := [.agg (List.toArray _), .slice A l.length c]) mixed Try.func21 rfl (by kernel_rfl) (Nat.le_of_ble_eq_true rfl) ?_
  repeat' ((conv => whnf); first | refine DrawN.q (by kernel_rfl) ?_ | with_reducible refine CondK.tt ?_ | with_reducible refine CondK.ff ?_ | with_reducible refine CondK.not ?_ | fail)
  exact ret_bool rfl
theorem l21Most_a (M : Mem) (many : Int) (l : List Int) (A : Option Addr) (c : Nat) : Ans Try.prog M 17 #[.slice A l.length c, .int .i64 many] (.bool (mostF many l)) := by
  refine ans_of T (l := [.slice A l.length c, .int .i64 many]) mixed Try.func17 rfl (by kernel_rfl) (Nat.le_of_ble_eq_true rfl) ?_
  repeat' ((conv => whnf); first | refine DrawN.q (by kernel_rfl) ?_ | with_reducible refine CondK.tt ?_ | with_reducible refine CondK.ff ?_ | with_reducible refine CondK.not ?_ | fail)
  exact ret_bool rfl
theorem idsOk_a (M : Mem) (m : GMon) (cs : List Value) (h : RMon M m cs) (l : List Int) (A : Option Addr) (c : Nat) (hl : SlR M RInt 1 8 A c l) : Ans Try.prog M 59 #[.agg cs.toArray, .slice A l.length c] (.bool (idsF m.Many l)) := by
  obtain ⟨A0, c0, A1, c1, A2, c2, rfl, _, s0, s1, s2⟩ := h
  have g1 := increasing_a M l A c hl
  have g2 := allBetween_a M l A c hl 0 (IntKind.i64.wrap (m.Many - 1))
  refine ans_of T (l := [.agg (List.toArray _), .slice A l.length c]) mixed Try.func59 rfl (by kernel_rfl) (Nat.le_of_ble_eq_true rfl) ?_
  cases q1 : allR l.length (incP l) with
  | false =>
    rw [q1] at g1
    repeat' ((conv => whnf); first | refine DrawN.q (by kernel_rfl) ?_ | with_reducible refine CondK.tt ?_ | with_reducible refine CondK.ff ?_ | refine LdK.mk _ (by assumption) ?_ | refine CallK.mk _ (g1) ?_ | refine CallQ.mk _ (g1) ?_ | refine CallK.mk _ (g2) ?_ | refine CallQ.mk _ (g2) ?_ | fail | refine CondK.yes' (by assumption) ?_ | refine CondK.no' (by assumption) ?_ | fail)
    all_goals (refine ret_bool ?_; unfold idsF; rw [← rises_eq, q1]; simp)
  | true =>
    rw [q1] at g1
    repeat' ((conv => whnf); first | refine DrawN.q (by kernel_rfl) ?_ | with_reducible refine CondK.tt ?_ | with_reducible refine CondK.ff ?_ | refine LdK.mk _ (by assumption) ?_ | refine CallK.mk _ (g1) ?_ | refine CallQ.mk _ (g1) ?_ | refine CallK.mk _ (g2) ?_ | refine CallQ.mk _ (g2) ?_ | fail | refine CondK.yes' (by assumption) ?_ | refine CondK.no' (by assumption) ?_ | fail)
    all_goals (refine ret_bool ?_; unfold idsF; rw [← rises_eq, q1]; simp)
theorem tryOk_a (M : Mem) (m : GMon) (cs : List Value) (h : RMon M m cs) : Ans Try.prog M 48 #[.agg cs.toArray] (.bool (tryOkF m)) := by
  obtain ⟨A0, c0, A1, c1, A2, c2, rfl, _, s0, s1, s2⟩ := h
  have eb := eqv_Ballot m.Try.Ballot ⟨0, 0⟩
  have g1 := isZero_a M m.Try _ ⟨A1, c1, A2, c2, rfl, trivial, s1, s2⟩
  have g2 := isDecidable_a M m.Try.Epoch
  have g3 := ballotOk_a M m.Try.Ballot
  have g4 := incFor_a M m.Try.Inc m.Try.Epoch
  have g5 := ballotOk_a M m.Try.Highest
  have g6 := lessBallot_a M m.Try.Highest m.Try.Ballot
  have g7 := idsOk_a M m _ ⟨A0, c0, A1, c1, A2, c2, rfl, trivial, s0, s1, s2⟩ m.Try.Promises A1 c1 s1
  have g8 := idsOk_a M m _ ⟨A0, c0, A1, c1, A2, c2, rfl, trivial, s0, s1, s2⟩ m.Try.Accepts A2 c2 s2
  have g9 := majority_a M m _ ⟨A0, c0, A1, c1, A2, c2, rfl, trivial, s0, s1, s2⟩ m.Try.Promises A1 c1
  have g10 := majority_a M m _ ⟨A0, c0, A1, c1, A2, c2, rfl, trivial, s0, s1, s2⟩ m.Try.Accepts A2 c2
  refine ans_of T (l := [.agg (List.toArray _)]) mixed Try.func48 rfl (by kernel_rfl) (Nat.le_of_ble_eq_true rfl) ?_
  cases p0 : zeroTryF m.Try with
  | false =>
    rw [p0] at g1
    cases p1 : inR m.Try.Epoch 2 60 with
    | false =>
      rw [p1] at g2
      repeat' ((conv => whnf); first | refine DrawN.q (by kernel_rfl) ?_ | with_reducible refine CondK.tt ?_ | with_reducible refine CondK.ff ?_ | refine LdK.mk _ (by assumption) ?_ | refine CallK.mk _ (g1) ?_ | refine CallQ.mk _ (g1) ?_ | refine CallK.mk _ (g2) ?_ | refine CallQ.mk _ (g2) ?_ | refine CallK.mk _ (g3) ?_ | refine CallQ.mk _ (g3) ?_ | refine CallK.mk _ (g4) ?_ | refine CallQ.mk _ (g4) ?_ | refine CallK.mk _ (g5) ?_ | refine CallQ.mk _ (g5) ?_ | refine CallK.mk _ (g6) ?_ | refine CallQ.mk _ (g6) ?_ | refine CallK.mk _ (g7) ?_ | refine CallQ.mk _ (g7) ?_ | refine CallK.mk _ (g8) ?_ | refine CallQ.mk _ (g8) ?_ | refine CallK.mk _ (g9) ?_ | refine CallQ.mk _ (g9) ?_ | refine CallK.mk _ (g10) ?_ | refine CallQ.mk _ (g10) ?_ | fail | refine CondK.yes' (by assumption) ?_ | refine CondK.no' (by assumption) ?_ | fail)
      all_goals (refine ret_bool ?_; unfold tryOkF; simp_all)
    | true =>
      rw [p1] at g2
      cases p2 : ballotOkF m.Try.Ballot with
      | false =>
        rw [p2] at g3
        repeat' ((conv => whnf); first | refine DrawN.q (by kernel_rfl) ?_ | with_reducible refine CondK.tt ?_ | with_reducible refine CondK.ff ?_ | refine LdK.mk _ (by assumption) ?_ | refine CallK.mk _ (g1) ?_ | refine CallQ.mk _ (g1) ?_ | refine CallK.mk _ (g2) ?_ | refine CallQ.mk _ (g2) ?_ | refine CallK.mk _ (g3) ?_ | refine CallQ.mk _ (g3) ?_ | refine CallK.mk _ (g4) ?_ | refine CallQ.mk _ (g4) ?_ | refine CallK.mk _ (g5) ?_ | refine CallQ.mk _ (g5) ?_ | refine CallK.mk _ (g6) ?_ | refine CallQ.mk _ (g6) ?_ | refine CallK.mk _ (g7) ?_ | refine CallQ.mk _ (g7) ?_ | refine CallK.mk _ (g8) ?_ | refine CallQ.mk _ (g8) ?_ | refine CallK.mk _ (g9) ?_ | refine CallQ.mk _ (g9) ?_ | refine CallK.mk _ (g10) ?_ | refine CallQ.mk _ (g10) ?_ | fail | refine CondK.yes' (by assumption) ?_ | refine CondK.no' (by assumption) ?_ | fail)
        all_goals (refine ret_bool ?_; unfold tryOkF; simp_all)
      | true =>
        rw [p2] at g3
        cases p3 : (m.Try.Ballot.No == 0 && (m.Try.Ballot.By == 0 && true)) with
        | false =>
          cases p4 : (m.Try.Ballot.By == m.Id) with
          | false =>
            repeat' ((conv => whnf); first | refine DrawN.q (by kernel_rfl) ?_ | with_reducible refine CondK.tt ?_ | with_reducible refine CondK.ff ?_ | refine LdK.mk _ (by assumption) ?_ | refine CallK.mk _ (g1) ?_ | refine CallQ.mk _ (g1) ?_ | refine CallK.mk _ (g2) ?_ | refine CallQ.mk _ (g2) ?_ | refine CallK.mk _ (g3) ?_ | refine CallQ.mk _ (g3) ?_ | refine CallK.mk _ (g4) ?_ | refine CallQ.mk _ (g4) ?_ | refine CallK.mk _ (g5) ?_ | refine CallQ.mk _ (g5) ?_ | refine CallK.mk _ (g6) ?_ | refine CallQ.mk _ (g6) ?_ | refine CallK.mk _ (g7) ?_ | refine CallQ.mk _ (g7) ?_ | refine CallK.mk _ (g8) ?_ | refine CallQ.mk _ (g8) ?_ | refine CallK.mk _ (g9) ?_ | refine CallQ.mk _ (g9) ?_ | refine CallK.mk _ (g10) ?_ | refine CallQ.mk _ (g10) ?_ | rw [p3] | rw [p4] | refine CondK.yes' (by assumption) ?_ | refine CondK.no' (by assumption) ?_ | fail)
            all_goals (refine ret_bool ?_; unfold tryOkF; simp_all)
          | true =>
            cases p5 : incForF m.Try.Inc m.Try.Epoch with
            | false =>
              rw [p5] at g4
              repeat' ((conv => whnf); first | refine DrawN.q (by kernel_rfl) ?_ | with_reducible refine CondK.tt ?_ | with_reducible refine CondK.ff ?_ | refine LdK.mk _ (by assumption) ?_ | refine CallK.mk _ (g1) ?_ | refine CallQ.mk _ (g1) ?_ | refine CallK.mk _ (g2) ?_ | refine CallQ.mk _ (g2) ?_ | refine CallK.mk _ (g3) ?_ | refine CallQ.mk _ (g3) ?_ | refine CallK.mk _ (g4) ?_ | refine CallQ.mk _ (g4) ?_ | refine CallK.mk _ (g5) ?_ | refine CallQ.mk _ (g5) ?_ | refine CallK.mk _ (g6) ?_ | refine CallQ.mk _ (g6) ?_ | refine CallK.mk _ (g7) ?_ | refine CallQ.mk _ (g7) ?_ | refine CallK.mk _ (g8) ?_ | refine CallQ.mk _ (g8) ?_ | refine CallK.mk _ (g9) ?_ | refine CallQ.mk _ (g9) ?_ | refine CallK.mk _ (g10) ?_ | refine CallQ.mk _ (g10) ?_ | rw [p3] | rw [p4] | refine CondK.yes' (by assumption) ?_ | refine CondK.no' (by assumption) ?_ | fail)
              all_goals (refine ret_bool ?_; unfold tryOkF; simp_all)
            | true =>
              rw [p5] at g4
              cases p6 : ballotOkF m.Try.Highest with
              | false =>
                rw [p6] at g5
                repeat' ((conv => whnf); first | refine DrawN.q (by kernel_rfl) ?_ | with_reducible refine CondK.tt ?_ | with_reducible refine CondK.ff ?_ | refine LdK.mk _ (by assumption) ?_ | refine CallK.mk _ (g1) ?_ | refine CallQ.mk _ (g1) ?_ | refine CallK.mk _ (g2) ?_ | refine CallQ.mk _ (g2) ?_ | refine CallK.mk _ (g3) ?_ | refine CallQ.mk _ (g3) ?_ | refine CallK.mk _ (g4) ?_ | refine CallQ.mk _ (g4) ?_ | refine CallK.mk _ (g5) ?_ | refine CallQ.mk _ (g5) ?_ | refine CallK.mk _ (g6) ?_ | refine CallQ.mk _ (g6) ?_ | refine CallK.mk _ (g7) ?_ | refine CallQ.mk _ (g7) ?_ | refine CallK.mk _ (g8) ?_ | refine CallQ.mk _ (g8) ?_ | refine CallK.mk _ (g9) ?_ | refine CallQ.mk _ (g9) ?_ | refine CallK.mk _ (g10) ?_ | refine CallQ.mk _ (g10) ?_ | rw [p3] | rw [p4] | refine CondK.yes' (by assumption) ?_ | refine CondK.no' (by assumption) ?_ | fail)
                all_goals (refine ret_bool ?_; unfold tryOkF; simp_all)
              | true =>
                rw [p6] at g5
                cases p7 : lessF m.Try.Highest m.Try.Ballot with
                | false =>
                  rw [p7] at g6
                  repeat' ((conv => whnf); first | refine DrawN.q (by kernel_rfl) ?_ | with_reducible refine CondK.tt ?_ | with_reducible refine CondK.ff ?_ | refine LdK.mk _ (by assumption) ?_ | refine CallK.mk _ (g1) ?_ | refine CallQ.mk _ (g1) ?_ | refine CallK.mk _ (g2) ?_ | refine CallQ.mk _ (g2) ?_ | refine CallK.mk _ (g3) ?_ | refine CallQ.mk _ (g3) ?_ | refine CallK.mk _ (g4) ?_ | refine CallQ.mk _ (g4) ?_ | refine CallK.mk _ (g5) ?_ | refine CallQ.mk _ (g5) ?_ | refine CallK.mk _ (g6) ?_ | refine CallQ.mk _ (g6) ?_ | refine CallK.mk _ (g7) ?_ | refine CallQ.mk _ (g7) ?_ | refine CallK.mk _ (g8) ?_ | refine CallQ.mk _ (g8) ?_ | refine CallK.mk _ (g9) ?_ | refine CallQ.mk _ (g9) ?_ | refine CallK.mk _ (g10) ?_ | refine CallQ.mk _ (g10) ?_ | rw [p3] | rw [p4] | refine CondK.yes' (by assumption) ?_ | refine CondK.no' (by assumption) ?_ | fail)
                  all_goals (refine ret_bool ?_; unfold tryOkF; simp_all)
                | true =>
                  rw [p7] at g6
                  cases p8 : idsF m.Many m.Try.Promises with
                  | false =>
                    rw [p8] at g7
                    repeat' ((conv => whnf); first | refine DrawN.q (by kernel_rfl) ?_ | with_reducible refine CondK.tt ?_ | with_reducible refine CondK.ff ?_ | refine LdK.mk _ (by assumption) ?_ | refine CallK.mk _ (g1) ?_ | refine CallQ.mk _ (g1) ?_ | refine CallK.mk _ (g2) ?_ | refine CallQ.mk _ (g2) ?_ | refine CallK.mk _ (g3) ?_ | refine CallQ.mk _ (g3) ?_ | refine CallK.mk _ (g4) ?_ | refine CallQ.mk _ (g4) ?_ | refine CallK.mk _ (g5) ?_ | refine CallQ.mk _ (g5) ?_ | refine CallK.mk _ (g6) ?_ | refine CallQ.mk _ (g6) ?_ | refine CallK.mk _ (g7) ?_ | refine CallQ.mk _ (g7) ?_ | refine CallK.mk _ (g8) ?_ | refine CallQ.mk _ (g8) ?_ | refine CallK.mk _ (g9) ?_ | refine CallQ.mk _ (g9) ?_ | refine CallK.mk _ (g10) ?_ | refine CallQ.mk _ (g10) ?_ | rw [p3] | rw [p4] | refine CondK.yes' (by assumption) ?_ | refine CondK.no' (by assumption) ?_ | fail)
                    all_goals (refine ret_bool ?_; unfold tryOkF; simp_all)
                  | true =>
                    rw [p8] at g7
                    cases p9 : idsF m.Many m.Try.Accepts with
                    | false =>
                      rw [p9] at g8
                      repeat' ((conv => whnf); first | refine DrawN.q (by kernel_rfl) ?_ | with_reducible refine CondK.tt ?_ | with_reducible refine CondK.ff ?_ | refine LdK.mk _ (by assumption) ?_ | refine CallK.mk _ (g1) ?_ | refine CallQ.mk _ (g1) ?_ | refine CallK.mk _ (g2) ?_ | refine CallQ.mk _ (g2) ?_ | refine CallK.mk _ (g3) ?_ | refine CallQ.mk _ (g3) ?_ | refine CallK.mk _ (g4) ?_ | refine CallQ.mk _ (g4) ?_ | refine CallK.mk _ (g5) ?_ | refine CallQ.mk _ (g5) ?_ | refine CallK.mk _ (g6) ?_ | refine CallQ.mk _ (g6) ?_ | refine CallK.mk _ (g7) ?_ | refine CallQ.mk _ (g7) ?_ | refine CallK.mk _ (g8) ?_ | refine CallQ.mk _ (g8) ?_ | refine CallK.mk _ (g9) ?_ | refine CallQ.mk _ (g9) ?_ | refine CallK.mk _ (g10) ?_ | refine CallQ.mk _ (g10) ?_ | rw [p3] | rw [p4] | refine CondK.yes' (by assumption) ?_ | refine CondK.no' (by assumption) ?_ | fail)
                      all_goals (refine ret_bool ?_; unfold tryOkF; simp_all)
                    | true =>
                      rw [p9] at g8
                      cases p10 : ((m.Try.Accepts.length : Int) == 0) with
                      | false =>
                        cases p11 : mostF m.Many m.Try.Promises with
                        | false =>
                          rw [p11] at g9
                          repeat' ((conv => whnf); first | refine DrawN.q (by kernel_rfl) ?_ | with_reducible refine CondK.tt ?_ | with_reducible refine CondK.ff ?_ | refine LdK.mk _ (by assumption) ?_ | refine CallK.mk _ (g1) ?_ | refine CallQ.mk _ (g1) ?_ | refine CallK.mk _ (g2) ?_ | refine CallQ.mk _ (g2) ?_ | refine CallK.mk _ (g3) ?_ | refine CallQ.mk _ (g3) ?_ | refine CallK.mk _ (g4) ?_ | refine CallQ.mk _ (g4) ?_ | refine CallK.mk _ (g5) ?_ | refine CallQ.mk _ (g5) ?_ | refine CallK.mk _ (g6) ?_ | refine CallQ.mk _ (g6) ?_ | refine CallK.mk _ (g7) ?_ | refine CallQ.mk _ (g7) ?_ | refine CallK.mk _ (g8) ?_ | refine CallQ.mk _ (g8) ?_ | refine CallK.mk _ (g9) ?_ | refine CallQ.mk _ (g9) ?_ | refine CallK.mk _ (g10) ?_ | refine CallQ.mk _ (g10) ?_ | rw [p3] | rw [p4] | rw [p10] | refine CondK.yes' (by assumption) ?_ | refine CondK.no' (by assumption) ?_ | fail)
                          all_goals (refine ret_bool ?_; unfold tryOkF; simp_all)
                        | true =>
                          rw [p11] at g9
                          repeat' ((conv => whnf); first | refine DrawN.q (by kernel_rfl) ?_ | with_reducible refine CondK.tt ?_ | with_reducible refine CondK.ff ?_ | refine LdK.mk _ (by assumption) ?_ | refine CallK.mk _ (g1) ?_ | refine CallQ.mk _ (g1) ?_ | refine CallK.mk _ (g2) ?_ | refine CallQ.mk _ (g2) ?_ | refine CallK.mk _ (g3) ?_ | refine CallQ.mk _ (g3) ?_ | refine CallK.mk _ (g4) ?_ | refine CallQ.mk _ (g4) ?_ | refine CallK.mk _ (g5) ?_ | refine CallQ.mk _ (g5) ?_ | refine CallK.mk _ (g6) ?_ | refine CallQ.mk _ (g6) ?_ | refine CallK.mk _ (g7) ?_ | refine CallQ.mk _ (g7) ?_ | refine CallK.mk _ (g8) ?_ | refine CallQ.mk _ (g8) ?_ | refine CallK.mk _ (g9) ?_ | refine CallQ.mk _ (g9) ?_ | refine CallK.mk _ (g10) ?_ | refine CallQ.mk _ (g10) ?_ | rw [p3] | rw [p4] | rw [p10] | refine CondK.yes' (by assumption) ?_ | refine CondK.no' (by assumption) ?_ | fail)
                          all_goals (refine ret_bool ?_; unfold tryOkF; simp_all)
                      | true =>
                        repeat' ((conv => whnf); first | refine DrawN.q (by kernel_rfl) ?_ | with_reducible refine CondK.tt ?_ | with_reducible refine CondK.ff ?_ | refine LdK.mk _ (by assumption) ?_ | refine CallK.mk _ (g1) ?_ | refine CallQ.mk _ (g1) ?_ | refine CallK.mk _ (g2) ?_ | refine CallQ.mk _ (g2) ?_ | refine CallK.mk _ (g3) ?_ | refine CallQ.mk _ (g3) ?_ | refine CallK.mk _ (g4) ?_ | refine CallQ.mk _ (g4) ?_ | refine CallK.mk _ (g5) ?_ | refine CallQ.mk _ (g5) ?_ | refine CallK.mk _ (g6) ?_ | refine CallQ.mk _ (g6) ?_ | refine CallK.mk _ (g7) ?_ | refine CallQ.mk _ (g7) ?_ | refine CallK.mk _ (g8) ?_ | refine CallQ.mk _ (g8) ?_ | refine CallK.mk _ (g9) ?_ | refine CallQ.mk _ (g9) ?_ | refine CallK.mk _ (g10) ?_ | refine CallQ.mk _ (g10) ?_ | rw [p3] | rw [p4] | rw [p10] | refine CondK.yes' (by assumption) ?_ | refine CondK.no' (by assumption) ?_ | fail)
                        all_goals (refine ret_bool ?_; unfold tryOkF; simp_all)
        | true =>
          repeat' ((conv => whnf); first | refine DrawN.q (by kernel_rfl) ?_ | with_reducible refine CondK.tt ?_ | with_reducible refine CondK.ff ?_ | refine LdK.mk _ (by assumption) ?_ | refine CallK.mk _ (g1) ?_ | refine CallQ.mk _ (g1) ?_ | refine CallK.mk _ (g2) ?_ | refine CallQ.mk _ (g2) ?_ | refine CallK.mk _ (g3) ?_ | refine CallQ.mk _ (g3) ?_ | refine CallK.mk _ (g4) ?_ | refine CallQ.mk _ (g4) ?_ | refine CallK.mk _ (g5) ?_ | refine CallQ.mk _ (g5) ?_ | refine CallK.mk _ (g6) ?_ | refine CallQ.mk _ (g6) ?_ | refine CallK.mk _ (g7) ?_ | refine CallQ.mk _ (g7) ?_ | refine CallK.mk _ (g8) ?_ | refine CallQ.mk _ (g8) ?_ | refine CallK.mk _ (g9) ?_ | refine CallQ.mk _ (g9) ?_ | refine CallK.mk _ (g10) ?_ | refine CallQ.mk _ (g10) ?_ | rw [p3] | refine CondK.yes' (by assumption) ?_ | refine CondK.no' (by assumption) ?_ | fail)
          all_goals (refine ret_bool ?_; unfold tryOkF; simp_all)
  | true =>
    rw [p0] at g1
    repeat' ((conv => whnf); first | refine DrawN.q (by kernel_rfl) ?_ | with_reducible refine CondK.tt ?_ | with_reducible refine CondK.ff ?_ | refine LdK.mk _ (by assumption) ?_ | refine CallK.mk _ (g1) ?_ | refine CallQ.mk _ (g1) ?_ | refine CallK.mk _ (g2) ?_ | refine CallQ.mk _ (g2) ?_ | refine CallK.mk _ (g3) ?_ | refine CallQ.mk _ (g3) ?_ | refine CallK.mk _ (g4) ?_ | refine CallQ.mk _ (g4) ?_ | refine CallK.mk _ (g5) ?_ | refine CallQ.mk _ (g5) ?_ | refine CallK.mk _ (g6) ?_ | refine CallQ.mk _ (g6) ?_ | refine CallK.mk _ (g7) ?_ | refine CallQ.mk _ (g7) ?_ | refine CallK.mk _ (g8) ?_ | refine CallQ.mk _ (g8) ?_ | refine CallK.mk _ (g9) ?_ | refine CallQ.mk _ (g9) ?_ | refine CallK.mk _ (g10) ?_ | refine CallQ.mk _ (g10) ?_ | fail | refine CondK.yes' (by assumption) ?_ | refine CondK.no' (by assumption) ?_ | fail)
    all_goals (refine ret_bool ?_; unfold tryOkF; simp_all)
theorem l21Try_a (M : Mem) (m : GMon) (cs : List Value) (h : RMon M m cs) : Ans Try.prog M 33 #[.agg cs.toArray] (.bool (tryOkF m)) := by
  obtain ⟨A0, c0, A1, c1, A2, c2, rfl, _, s0, s1, s2⟩ := h
  have hp : (inR 0 2 60) = false := rfl
  have eb := eqv_Ballot m.Try.Ballot ⟨0, 0⟩
  have ei := eqv_Inc m.Try.Inc ⟨0, 0, 0, 0⟩
  have eh := eqv_Ballot m.Try.Highest ⟨0, 0⟩
  have g1 := l21Epoch_a M m.Try.Epoch
  have g2 := l21Full_a M m.Try.Ballot
  have g3 := sIncOk_a M m.Try.Inc
  have g4 := l21Ballot_a M m.Try.Highest
  have g5 := l21Less_a M m.Try.Highest m.Try.Ballot
  have g6 : Ans Try.prog M 43 #[.slice A1 m.Try.Promises.length c1, .int .i64 0, .int .i64 (IntKind.i64.wrap (m.Many - 1))] (.bool (idsF m.Many m.Try.Promises)) := l00Rises_a M m.Try.Promises A1 c1 s1 0 (IntKind.i64.wrap (m.Many - 1))
  have g7 : Ans Try.prog M 43 #[.slice A2 m.Try.Accepts.length c2, .int .i64 0, .int .i64 (IntKind.i64.wrap (m.Many - 1))] (.bool (idsF m.Many m.Try.Accepts)) := l00Rises_a M m.Try.Accepts A2 c2 s2 0 (IntKind.i64.wrap (m.Many - 1))
  have g8 := l21Most_a M m.Many m.Try.Promises A1 c1
  have g9 := l21Most_a M m.Many m.Try.Accepts A2 c2
  refine ans_of T (l := [.agg (List.toArray _)]) mixed Try.func33 rfl (by kernel_rfl) (Nat.le_of_ble_eq_true rfl) ?_
  cases z1 : (m.Try.Epoch == 0) with
  | false =>
    cases p1 : inR m.Try.Epoch 2 60 with
    | false =>
      rw [p1] at g1
      repeat' ((conv => whnf); first | refine DrawN.q (by kernel_rfl) ?_ | with_reducible refine CondK.tt ?_ | with_reducible refine CondK.ff ?_ | refine LdK.mk _ (by assumption) ?_ | refine CallK.mk _ (g1) ?_ | refine CallQ.mk _ (g1) ?_ | refine CallK.mk _ (g2) ?_ | refine CallQ.mk _ (g2) ?_ | refine CallK.mk _ (g3) ?_ | refine CallQ.mk _ (g3) ?_ | refine CallK.mk _ (g4) ?_ | refine CallQ.mk _ (g4) ?_ | refine CallK.mk _ (g5) ?_ | refine CallQ.mk _ (g5) ?_ | refine CallK.mk _ (g6) ?_ | refine CallQ.mk _ (g6) ?_ | refine CallK.mk _ (g7) ?_ | refine CallQ.mk _ (g7) ?_ | refine CallK.mk _ (g8) ?_ | refine CallQ.mk _ (g8) ?_ | refine CallK.mk _ (g9) ?_ | refine CallQ.mk _ (g9) ?_ | rw [z1] | refine CondK.yes' (by assumption) ?_ | refine CondK.no' (by assumption) ?_ | fail)
      all_goals (refine ret_bool ?_; unfold tryOkF zeroTryF; (try unfold fullF at p2); (try unfold incForF); simp_all)
      all_goals first | (intro a b; exact absurd (p2 a) b) | (intro a; rw [a] at p10; exact absurd p10 (Nat.lt_irrefl 0))
    | true =>
      rw [p1] at g1
      cases p2 : fullF m.Try.Ballot with
      | false =>
        rw [p2] at g2
        repeat' ((conv => whnf); first | refine DrawN.q (by kernel_rfl) ?_ | with_reducible refine CondK.tt ?_ | with_reducible refine CondK.ff ?_ | refine LdK.mk _ (by assumption) ?_ | refine CallK.mk _ (g1) ?_ | refine CallQ.mk _ (g1) ?_ | refine CallK.mk _ (g2) ?_ | refine CallQ.mk _ (g2) ?_ | refine CallK.mk _ (g3) ?_ | refine CallQ.mk _ (g3) ?_ | refine CallK.mk _ (g4) ?_ | refine CallQ.mk _ (g4) ?_ | refine CallK.mk _ (g5) ?_ | refine CallQ.mk _ (g5) ?_ | refine CallK.mk _ (g6) ?_ | refine CallQ.mk _ (g6) ?_ | refine CallK.mk _ (g7) ?_ | refine CallQ.mk _ (g7) ?_ | refine CallK.mk _ (g8) ?_ | refine CallQ.mk _ (g8) ?_ | refine CallK.mk _ (g9) ?_ | refine CallQ.mk _ (g9) ?_ | rw [z1] | refine CondK.yes' (by assumption) ?_ | refine CondK.no' (by assumption) ?_ | fail)
        all_goals (refine ret_bool ?_; unfold tryOkF zeroTryF; (try unfold fullF at p2); (try unfold incForF); simp_all)
        all_goals first | (intro a b; exact absurd (p2 a) b) | (intro a; rw [a] at p10; exact absurd p10 (Nat.lt_irrefl 0))
      | true =>
        rw [p2] at g2
        cases p4 : (m.Try.Ballot.By != m.Id) with
        | false =>
          cases p5 : incOkF m.Try.Inc with
          | false =>
            rw [p5] at g3
            repeat' ((conv => whnf); first | refine DrawN.q (by kernel_rfl) ?_ | with_reducible refine CondK.tt ?_ | with_reducible refine CondK.ff ?_ | refine LdK.mk _ (by assumption) ?_ | refine CallK.mk _ (g1) ?_ | refine CallQ.mk _ (g1) ?_ | refine CallK.mk _ (g2) ?_ | refine CallQ.mk _ (g2) ?_ | refine CallK.mk _ (g3) ?_ | refine CallQ.mk _ (g3) ?_ | refine CallK.mk _ (g4) ?_ | refine CallQ.mk _ (g4) ?_ | refine CallK.mk _ (g5) ?_ | refine CallQ.mk _ (g5) ?_ | refine CallK.mk _ (g6) ?_ | refine CallQ.mk _ (g6) ?_ | refine CallK.mk _ (g7) ?_ | refine CallQ.mk _ (g7) ?_ | refine CallK.mk _ (g8) ?_ | refine CallQ.mk _ (g8) ?_ | refine CallK.mk _ (g9) ?_ | refine CallQ.mk _ (g9) ?_ | rw [z1] | rw [p4] | refine CondK.yes' (by assumption) ?_ | refine CondK.no' (by assumption) ?_ | fail)
            all_goals (refine ret_bool ?_; unfold tryOkF zeroTryF; (try unfold fullF at p2); (try unfold incForF); simp_all)
            all_goals first | (intro a b; exact absurd (p2 a) b) | (intro a; rw [a] at p10; exact absurd p10 (Nat.lt_irrefl 0))
          | true =>
            rw [p5] at g3
            cases p5e : (m.Try.Inc.Epoch != m.Try.Epoch) with
            | false =>
              cases p6 : ballotOkF m.Try.Highest with
              | false =>
                rw [p6] at g4
                repeat' ((conv => whnf); first | refine DrawN.q (by kernel_rfl) ?_ | with_reducible refine CondK.tt ?_ | with_reducible refine CondK.ff ?_ | refine LdK.mk _ (by assumption) ?_ | refine CallK.mk _ (g1) ?_ | refine CallQ.mk _ (g1) ?_ | refine CallK.mk _ (g2) ?_ | refine CallQ.mk _ (g2) ?_ | refine CallK.mk _ (g3) ?_ | refine CallQ.mk _ (g3) ?_ | refine CallK.mk _ (g4) ?_ | refine CallQ.mk _ (g4) ?_ | refine CallK.mk _ (g5) ?_ | refine CallQ.mk _ (g5) ?_ | refine CallK.mk _ (g6) ?_ | refine CallQ.mk _ (g6) ?_ | refine CallK.mk _ (g7) ?_ | refine CallQ.mk _ (g7) ?_ | refine CallK.mk _ (g8) ?_ | refine CallQ.mk _ (g8) ?_ | refine CallK.mk _ (g9) ?_ | refine CallQ.mk _ (g9) ?_ | rw [z1] | rw [p4] | rw [p5e] | refine CondK.yes' (by assumption) ?_ | refine CondK.no' (by assumption) ?_ | fail)
                all_goals (refine ret_bool ?_; unfold tryOkF zeroTryF; (try unfold fullF at p2); (try unfold incForF); simp_all)
                all_goals first | (intro a b; exact absurd (p2 a) b) | (intro a; rw [a] at p10; exact absurd p10 (Nat.lt_irrefl 0))
              | true =>
                rw [p6] at g4
                cases p7 : lessF m.Try.Highest m.Try.Ballot with
                | false =>
                  rw [p7] at g5
                  repeat' ((conv => whnf); first | refine DrawN.q (by kernel_rfl) ?_ | with_reducible refine CondK.tt ?_ | with_reducible refine CondK.ff ?_ | refine LdK.mk _ (by assumption) ?_ | refine CallK.mk _ (g1) ?_ | refine CallQ.mk _ (g1) ?_ | refine CallK.mk _ (g2) ?_ | refine CallQ.mk _ (g2) ?_ | refine CallK.mk _ (g3) ?_ | refine CallQ.mk _ (g3) ?_ | refine CallK.mk _ (g4) ?_ | refine CallQ.mk _ (g4) ?_ | refine CallK.mk _ (g5) ?_ | refine CallQ.mk _ (g5) ?_ | refine CallK.mk _ (g6) ?_ | refine CallQ.mk _ (g6) ?_ | refine CallK.mk _ (g7) ?_ | refine CallQ.mk _ (g7) ?_ | refine CallK.mk _ (g8) ?_ | refine CallQ.mk _ (g8) ?_ | refine CallK.mk _ (g9) ?_ | refine CallQ.mk _ (g9) ?_ | rw [z1] | rw [p4] | rw [p5e] | refine CondK.yes' (by assumption) ?_ | refine CondK.no' (by assumption) ?_ | fail)
                  all_goals (refine ret_bool ?_; unfold tryOkF zeroTryF; (try unfold fullF at p2); (try unfold incForF); simp_all)
                  all_goals first | (intro a b; exact absurd (p2 a) b) | (intro a; rw [a] at p10; exact absurd p10 (Nat.lt_irrefl 0))
                | true =>
                  rw [p7] at g5
                  cases p8 : idsF m.Many m.Try.Promises with
                  | false =>
                    rw [p8] at g6
                    repeat' ((conv => whnf); first | refine DrawN.q (by kernel_rfl) ?_ | with_reducible refine CondK.tt ?_ | with_reducible refine CondK.ff ?_ | refine LdK.mk _ (by assumption) ?_ | refine CallK.mk _ (g1) ?_ | refine CallQ.mk _ (g1) ?_ | refine CallK.mk _ (g2) ?_ | refine CallQ.mk _ (g2) ?_ | refine CallK.mk _ (g3) ?_ | refine CallQ.mk _ (g3) ?_ | refine CallK.mk _ (g4) ?_ | refine CallQ.mk _ (g4) ?_ | refine CallK.mk _ (g5) ?_ | refine CallQ.mk _ (g5) ?_ | refine CallK.mk _ (g6) ?_ | refine CallQ.mk _ (g6) ?_ | refine CallK.mk _ (g7) ?_ | refine CallQ.mk _ (g7) ?_ | refine CallK.mk _ (g8) ?_ | refine CallQ.mk _ (g8) ?_ | refine CallK.mk _ (g9) ?_ | refine CallQ.mk _ (g9) ?_ | rw [z1] | rw [p4] | rw [p5e] | refine CondK.yes' (by assumption) ?_ | refine CondK.no' (by assumption) ?_ | fail)
                    all_goals (refine ret_bool ?_; unfold tryOkF zeroTryF; (try unfold fullF at p2); (try unfold incForF); simp_all)
                    all_goals first | (intro a b; exact absurd (p2 a) b) | (intro a; rw [a] at p10; exact absurd p10 (Nat.lt_irrefl 0))
                  | true =>
                    rw [p8] at g6
                    cases p9 : idsF m.Many m.Try.Accepts with
                    | false =>
                      rw [p9] at g7
                      repeat' ((conv => whnf); first | refine DrawN.q (by kernel_rfl) ?_ | with_reducible refine CondK.tt ?_ | with_reducible refine CondK.ff ?_ | refine LdK.mk _ (by assumption) ?_ | refine CallK.mk _ (g1) ?_ | refine CallQ.mk _ (g1) ?_ | refine CallK.mk _ (g2) ?_ | refine CallQ.mk _ (g2) ?_ | refine CallK.mk _ (g3) ?_ | refine CallQ.mk _ (g3) ?_ | refine CallK.mk _ (g4) ?_ | refine CallQ.mk _ (g4) ?_ | refine CallK.mk _ (g5) ?_ | refine CallQ.mk _ (g5) ?_ | refine CallK.mk _ (g6) ?_ | refine CallQ.mk _ (g6) ?_ | refine CallK.mk _ (g7) ?_ | refine CallQ.mk _ (g7) ?_ | refine CallK.mk _ (g8) ?_ | refine CallQ.mk _ (g8) ?_ | refine CallK.mk _ (g9) ?_ | refine CallQ.mk _ (g9) ?_ | rw [z1] | rw [p4] | rw [p5e] | refine CondK.yes' (by assumption) ?_ | refine CondK.no' (by assumption) ?_ | fail)
                      all_goals (refine ret_bool ?_; unfold tryOkF zeroTryF; (try unfold fullF at p2); (try unfold incForF); simp_all)
                      all_goals first | (intro a b; exact absurd (p2 a) b) | (intro a; rw [a] at p10; exact absurd p10 (Nat.lt_irrefl 0))
                    | true =>
                      rw [p9] at g7
                      cases p11 : mostF m.Many m.Try.Promises with
                      | false =>
                        rw [p11] at g8
                        cases p10 : decide ((m.Try.Accepts.length : Int) > 0) with
                        | false =>
                          repeat' ((conv => whnf); first | refine DrawN.q (by kernel_rfl) ?_ | with_reducible refine CondK.tt ?_ | with_reducible refine CondK.ff ?_ | refine LdK.mk _ (by assumption) ?_ | refine CallK.mk _ (g1) ?_ | refine CallQ.mk _ (g1) ?_ | refine CallK.mk _ (g2) ?_ | refine CallQ.mk _ (g2) ?_ | refine CallK.mk _ (g3) ?_ | refine CallQ.mk _ (g3) ?_ | refine CallK.mk _ (g4) ?_ | refine CallQ.mk _ (g4) ?_ | refine CallK.mk _ (g5) ?_ | refine CallQ.mk _ (g5) ?_ | refine CallK.mk _ (g6) ?_ | refine CallQ.mk _ (g6) ?_ | refine CallK.mk _ (g7) ?_ | refine CallQ.mk _ (g7) ?_ | refine CallK.mk _ (g8) ?_ | refine CallQ.mk _ (g8) ?_ | refine CallK.mk _ (g9) ?_ | refine CallQ.mk _ (g9) ?_ | rw [z1] | rw [p4] | rw [p5e] | rw [p10] | refine CondK.yes' (by assumption) ?_ | refine CondK.no' (by assumption) ?_ | fail)
                          all_goals (refine ret_bool ?_; unfold tryOkF zeroTryF; (try unfold fullF at p2); (try unfold incForF); simp_all)
                          all_goals first | (intro a b; exact absurd (p2 a) b) | (intro a; rw [a] at p10; exact absurd p10 (Nat.lt_irrefl 0))
                        | true =>
                          repeat' ((conv => whnf); first | refine DrawN.q (by kernel_rfl) ?_ | with_reducible refine CondK.tt ?_ | with_reducible refine CondK.ff ?_ | refine LdK.mk _ (by assumption) ?_ | refine CallK.mk _ (g1) ?_ | refine CallQ.mk _ (g1) ?_ | refine CallK.mk _ (g2) ?_ | refine CallQ.mk _ (g2) ?_ | refine CallK.mk _ (g3) ?_ | refine CallQ.mk _ (g3) ?_ | refine CallK.mk _ (g4) ?_ | refine CallQ.mk _ (g4) ?_ | refine CallK.mk _ (g5) ?_ | refine CallQ.mk _ (g5) ?_ | refine CallK.mk _ (g6) ?_ | refine CallQ.mk _ (g6) ?_ | refine CallK.mk _ (g7) ?_ | refine CallQ.mk _ (g7) ?_ | refine CallK.mk _ (g8) ?_ | refine CallQ.mk _ (g8) ?_ | refine CallK.mk _ (g9) ?_ | refine CallQ.mk _ (g9) ?_ | rw [z1] | rw [p4] | rw [p5e] | rw [p10] | refine CondK.yes' (by assumption) ?_ | refine CondK.no' (by assumption) ?_ | fail)
                          all_goals (refine ret_bool ?_; unfold tryOkF zeroTryF; (try unfold fullF at p2); (try unfold incForF); simp_all)
                          all_goals first | (intro a b; exact absurd (p2 a) b) | (intro a; rw [a] at p10; exact absurd p10 (Nat.lt_irrefl 0))
                      | true =>
                        rw [p11] at g8
                        repeat' ((conv => whnf); first | refine DrawN.q (by kernel_rfl) ?_ | with_reducible refine CondK.tt ?_ | with_reducible refine CondK.ff ?_ | refine LdK.mk _ (by assumption) ?_ | refine CallK.mk _ (g1) ?_ | refine CallQ.mk _ (g1) ?_ | refine CallK.mk _ (g2) ?_ | refine CallQ.mk _ (g2) ?_ | refine CallK.mk _ (g3) ?_ | refine CallQ.mk _ (g3) ?_ | refine CallK.mk _ (g4) ?_ | refine CallQ.mk _ (g4) ?_ | refine CallK.mk _ (g5) ?_ | refine CallQ.mk _ (g5) ?_ | refine CallK.mk _ (g6) ?_ | refine CallQ.mk _ (g6) ?_ | refine CallK.mk _ (g7) ?_ | refine CallQ.mk _ (g7) ?_ | refine CallK.mk _ (g8) ?_ | refine CallQ.mk _ (g8) ?_ | refine CallK.mk _ (g9) ?_ | refine CallQ.mk _ (g9) ?_ | rw [z1] | rw [p4] | rw [p5e] | refine CondK.yes' (by assumption) ?_ | refine CondK.no' (by assumption) ?_ | fail)
                        all_goals (refine ret_bool ?_; unfold tryOkF zeroTryF; (try unfold fullF at p2); (try unfold incForF); simp_all)
                        all_goals first | (intro a b; exact absurd (p2 a) b) | (intro a; rw [a] at p10; exact absurd p10 (Nat.lt_irrefl 0))
            | true =>
              repeat' ((conv => whnf); first | refine DrawN.q (by kernel_rfl) ?_ | with_reducible refine CondK.tt ?_ | with_reducible refine CondK.ff ?_ | refine LdK.mk _ (by assumption) ?_ | refine CallK.mk _ (g1) ?_ | refine CallQ.mk _ (g1) ?_ | refine CallK.mk _ (g2) ?_ | refine CallQ.mk _ (g2) ?_ | refine CallK.mk _ (g3) ?_ | refine CallQ.mk _ (g3) ?_ | refine CallK.mk _ (g4) ?_ | refine CallQ.mk _ (g4) ?_ | refine CallK.mk _ (g5) ?_ | refine CallQ.mk _ (g5) ?_ | refine CallK.mk _ (g6) ?_ | refine CallQ.mk _ (g6) ?_ | refine CallK.mk _ (g7) ?_ | refine CallQ.mk _ (g7) ?_ | refine CallK.mk _ (g8) ?_ | refine CallQ.mk _ (g8) ?_ | refine CallK.mk _ (g9) ?_ | refine CallQ.mk _ (g9) ?_ | rw [z1] | rw [p4] | rw [p5e] | refine CondK.yes' (by assumption) ?_ | refine CondK.no' (by assumption) ?_ | fail)
              all_goals (refine ret_bool ?_; unfold tryOkF zeroTryF; (try unfold fullF at p2); (try unfold incForF); simp_all)
              all_goals first | (intro a b; exact absurd (p2 a) b) | (intro a; rw [a] at p10; exact absurd p10 (Nat.lt_irrefl 0))
        | true =>
          repeat' ((conv => whnf); first | refine DrawN.q (by kernel_rfl) ?_ | with_reducible refine CondK.tt ?_ | with_reducible refine CondK.ff ?_ | refine LdK.mk _ (by assumption) ?_ | refine CallK.mk _ (g1) ?_ | refine CallQ.mk _ (g1) ?_ | refine CallK.mk _ (g2) ?_ | refine CallQ.mk _ (g2) ?_ | refine CallK.mk _ (g3) ?_ | refine CallQ.mk _ (g3) ?_ | refine CallK.mk _ (g4) ?_ | refine CallQ.mk _ (g4) ?_ | refine CallK.mk _ (g5) ?_ | refine CallQ.mk _ (g5) ?_ | refine CallK.mk _ (g6) ?_ | refine CallQ.mk _ (g6) ?_ | refine CallK.mk _ (g7) ?_ | refine CallQ.mk _ (g7) ?_ | refine CallK.mk _ (g8) ?_ | refine CallQ.mk _ (g8) ?_ | refine CallK.mk _ (g9) ?_ | refine CallQ.mk _ (g9) ?_ | rw [z1] | rw [p4] | refine CondK.yes' (by assumption) ?_ | refine CondK.no' (by assumption) ?_ | fail)
          all_goals (refine ret_bool ?_; unfold tryOkF zeroTryF; (try unfold fullF at p2); (try unfold incForF); simp_all)
          all_goals first | (intro a b; exact absurd (p2 a) b) | (intro a; rw [a] at p10; exact absurd p10 (Nat.lt_irrefl 0))
  | true =>
    cases z2 : (m.Try.Ballot.No == 0 && (m.Try.Ballot.By == 0 && true)) with
    | false =>
      repeat' ((conv => whnf); first | refine DrawN.q (by kernel_rfl) ?_ | with_reducible refine CondK.tt ?_ | with_reducible refine CondK.ff ?_ | refine LdK.mk _ (by assumption) ?_ | refine CallK.mk _ (g1) ?_ | refine CallQ.mk _ (g1) ?_ | refine CallK.mk _ (g2) ?_ | refine CallQ.mk _ (g2) ?_ | refine CallK.mk _ (g3) ?_ | refine CallQ.mk _ (g3) ?_ | refine CallK.mk _ (g4) ?_ | refine CallQ.mk _ (g4) ?_ | refine CallK.mk _ (g5) ?_ | refine CallQ.mk _ (g5) ?_ | refine CallK.mk _ (g6) ?_ | refine CallQ.mk _ (g6) ?_ | refine CallK.mk _ (g7) ?_ | refine CallQ.mk _ (g7) ?_ | refine CallK.mk _ (g8) ?_ | refine CallQ.mk _ (g8) ?_ | refine CallK.mk _ (g9) ?_ | refine CallQ.mk _ (g9) ?_ | rw [z1] | rw [z2] | refine CondK.yes' (by assumption) ?_ | refine CondK.no' (by assumption) ?_ | fail)
      all_goals (refine ret_bool ?_; unfold tryOkF zeroTryF; (try unfold fullF at p2); (try unfold incForF); simp_all)
      all_goals first | (intro a b; exact absurd (p2 a) b) | (intro a; rw [a] at p10; exact absurd p10 (Nat.lt_irrefl 0))
    | true =>
      cases z3 : (m.Try.Inc.Epoch == 0 && (m.Try.Inc.Kind == 0 && (m.Try.Inc.A == 0 && (m.Try.Inc.B == 0 && true)))) with
      | false =>
        repeat' ((conv => whnf); first | refine DrawN.q (by kernel_rfl) ?_ | with_reducible refine CondK.tt ?_ | with_reducible refine CondK.ff ?_ | refine LdK.mk _ (by assumption) ?_ | refine CallK.mk _ (g1) ?_ | refine CallQ.mk _ (g1) ?_ | refine CallK.mk _ (g2) ?_ | refine CallQ.mk _ (g2) ?_ | refine CallK.mk _ (g3) ?_ | refine CallQ.mk _ (g3) ?_ | refine CallK.mk _ (g4) ?_ | refine CallQ.mk _ (g4) ?_ | refine CallK.mk _ (g5) ?_ | refine CallQ.mk _ (g5) ?_ | refine CallK.mk _ (g6) ?_ | refine CallQ.mk _ (g6) ?_ | refine CallK.mk _ (g7) ?_ | refine CallQ.mk _ (g7) ?_ | refine CallK.mk _ (g8) ?_ | refine CallQ.mk _ (g8) ?_ | refine CallK.mk _ (g9) ?_ | refine CallQ.mk _ (g9) ?_ | rw [z1] | rw [z2] | rw [z3] | refine CondK.yes' (by assumption) ?_ | refine CondK.no' (by assumption) ?_ | fail)
        all_goals (refine ret_bool ?_; unfold tryOkF zeroTryF; (try unfold fullF at p2); (try unfold incForF); simp_all)
        all_goals first | (intro a b; exact absurd (p2 a) b) | (intro a; rw [a] at p10; exact absurd p10 (Nat.lt_irrefl 0))
      | true =>
        cases z4 : (m.Try.Highest.No == 0 && (m.Try.Highest.By == 0 && true)) with
        | false =>
          repeat' ((conv => whnf); first | refine DrawN.q (by kernel_rfl) ?_ | with_reducible refine CondK.tt ?_ | with_reducible refine CondK.ff ?_ | refine LdK.mk _ (by assumption) ?_ | refine CallK.mk _ (g1) ?_ | refine CallQ.mk _ (g1) ?_ | refine CallK.mk _ (g2) ?_ | refine CallQ.mk _ (g2) ?_ | refine CallK.mk _ (g3) ?_ | refine CallQ.mk _ (g3) ?_ | refine CallK.mk _ (g4) ?_ | refine CallQ.mk _ (g4) ?_ | refine CallK.mk _ (g5) ?_ | refine CallQ.mk _ (g5) ?_ | refine CallK.mk _ (g6) ?_ | refine CallQ.mk _ (g6) ?_ | refine CallK.mk _ (g7) ?_ | refine CallQ.mk _ (g7) ?_ | refine CallK.mk _ (g8) ?_ | refine CallQ.mk _ (g8) ?_ | refine CallK.mk _ (g9) ?_ | refine CallQ.mk _ (g9) ?_ | rw [z1] | rw [z2] | rw [z3] | rw [z4] | refine CondK.yes' (by assumption) ?_ | refine CondK.no' (by assumption) ?_ | fail)
          all_goals (refine ret_bool ?_; unfold tryOkF zeroTryF; (try unfold fullF at p2); (try unfold incForF); simp_all)
          all_goals first | (intro a b; exact absurd (p2 a) b) | (intro a; rw [a] at p10; exact absurd p10 (Nat.lt_irrefl 0))
        | true =>
          cases z5 : ((m.Try.Promises.length : Int) == 0) with
          | false =>
            repeat' ((conv => whnf); first | refine DrawN.q (by kernel_rfl) ?_ | with_reducible refine CondK.tt ?_ | with_reducible refine CondK.ff ?_ | refine LdK.mk _ (by assumption) ?_ | refine CallK.mk _ (g1) ?_ | refine CallQ.mk _ (g1) ?_ | refine CallK.mk _ (g2) ?_ | refine CallQ.mk _ (g2) ?_ | refine CallK.mk _ (g3) ?_ | refine CallQ.mk _ (g3) ?_ | refine CallK.mk _ (g4) ?_ | refine CallQ.mk _ (g4) ?_ | refine CallK.mk _ (g5) ?_ | refine CallQ.mk _ (g5) ?_ | refine CallK.mk _ (g6) ?_ | refine CallQ.mk _ (g6) ?_ | refine CallK.mk _ (g7) ?_ | refine CallQ.mk _ (g7) ?_ | refine CallK.mk _ (g8) ?_ | refine CallQ.mk _ (g8) ?_ | refine CallK.mk _ (g9) ?_ | refine CallQ.mk _ (g9) ?_ | rw [z1] | rw [z2] | rw [z3] | rw [z4] | rw [z5] | refine CondK.yes' (by assumption) ?_ | refine CondK.no' (by assumption) ?_ | fail)
            all_goals (refine ret_bool ?_; unfold tryOkF zeroTryF; (try unfold fullF at p2); (try unfold incForF); simp_all)
            all_goals first | (intro a b; exact absurd (p2 a) b) | (intro a; rw [a] at p10; exact absurd p10 (Nat.lt_irrefl 0))
          | true =>
            cases z6 : ((m.Try.Accepts.length : Int) == 0) with
            | false =>
              repeat' ((conv => whnf); first | refine DrawN.q (by kernel_rfl) ?_ | with_reducible refine CondK.tt ?_ | with_reducible refine CondK.ff ?_ | refine LdK.mk _ (by assumption) ?_ | refine CallK.mk _ (g1) ?_ | refine CallQ.mk _ (g1) ?_ | refine CallK.mk _ (g2) ?_ | refine CallQ.mk _ (g2) ?_ | refine CallK.mk _ (g3) ?_ | refine CallQ.mk _ (g3) ?_ | refine CallK.mk _ (g4) ?_ | refine CallQ.mk _ (g4) ?_ | refine CallK.mk _ (g5) ?_ | refine CallQ.mk _ (g5) ?_ | refine CallK.mk _ (g6) ?_ | refine CallQ.mk _ (g6) ?_ | refine CallK.mk _ (g7) ?_ | refine CallQ.mk _ (g7) ?_ | refine CallK.mk _ (g8) ?_ | refine CallQ.mk _ (g8) ?_ | refine CallK.mk _ (g9) ?_ | refine CallQ.mk _ (g9) ?_ | rw [z1] | rw [z2] | rw [z3] | rw [z4] | rw [z5] | rw [z6] | refine CondK.yes' (by assumption) ?_ | refine CondK.no' (by assumption) ?_ | fail)
              all_goals (refine ret_bool ?_; unfold tryOkF zeroTryF; (try unfold fullF at p2); (try unfold incForF); simp_all)
              all_goals first | (intro a b; exact absurd (p2 a) b) | (intro a; rw [a] at p10; exact absurd p10 (Nat.lt_irrefl 0))
            | true =>
              repeat' ((conv => whnf); first | refine DrawN.q (by kernel_rfl) ?_ | with_reducible refine CondK.tt ?_ | with_reducible refine CondK.ff ?_ | refine LdK.mk _ (by assumption) ?_ | refine CallK.mk _ (g1) ?_ | refine CallQ.mk _ (g1) ?_ | refine CallK.mk _ (g2) ?_ | refine CallQ.mk _ (g2) ?_ | refine CallK.mk _ (g3) ?_ | refine CallQ.mk _ (g3) ?_ | refine CallK.mk _ (g4) ?_ | refine CallQ.mk _ (g4) ?_ | refine CallK.mk _ (g5) ?_ | refine CallQ.mk _ (g5) ?_ | refine CallK.mk _ (g6) ?_ | refine CallQ.mk _ (g6) ?_ | refine CallK.mk _ (g7) ?_ | refine CallQ.mk _ (g7) ?_ | refine CallK.mk _ (g8) ?_ | refine CallQ.mk _ (g8) ?_ | refine CallK.mk _ (g9) ?_ | refine CallQ.mk _ (g9) ?_ | rw [z1] | rw [z2] | rw [z3] | rw [z4] | rw [z5] | rw [z6] | refine CondK.yes' (by assumption) ?_ | refine CondK.no' (by assumption) ?_ | fail)
              all_goals (refine ret_bool ?_; unfold tryOkF zeroTryF; (try unfold fullF at p2); (try unfold incForF); simp_all)
              all_goals first | (intro a b; exact absurd (p2 a) b) | (intro a; rw [a] at p10; exact absurd p10 (Nat.lt_irrefl 0))
end Go.Proofs.Ytmmgknhefobloaa.Hlp
