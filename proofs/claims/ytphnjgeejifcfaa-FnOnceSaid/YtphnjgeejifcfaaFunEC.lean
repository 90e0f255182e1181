/- CallOk, l28Call, EndCall by the light walk. -/
import Derived.Test.YtphnjgeejifcfaaPlQ
import Derived.Test.YtphnjgeejifcfaaHlpG
namespace Go.Proofs.Ytphnjgeejifcfaa.Hlp
open Go Go.RowKit Go.Proofs Go.Proofs.Ytphnjgeejifcfaa.Lw
set_option linter.unusedVariables false
set_option linter.unusedSimpArgs false
set_option maxRecDepth 100000
set_option maxHeartbeats 4000000
theorem body_fin {b : Int} {t : List UInt8} (h : ¬ b < 1) : t.isEmpty = (!decide (b < 1) && decide (t = [])) := by
  rw [decide_eq_false h]
  cases t <;> simp
def callTail (l : GCall) : Bool :=
  if l.End = 0 then decide (l.Code = 0) && decide (l.Ver = ⟨0, 0⟩) && decide (l.Body = eB)
  else decide (l.Begin < l.End) && inR l.Code 0 99 && verOkF l.Ver && decide ((l.Body.size : Int) ≤ 64) && (decide (l.Code = 0) || decide (l.Body = eB))
def callHead (l : GCall) : Bool := isClientF l.Client && inR l.No 1 1000 && pgOkF l.Pg && nameOkF l.Name && opOkF ⟨1, 0⟩ l.Op && !decide (l.Begin < 1)
def callOkF (l : GCall) : Bool := callHead l && callTail l
theorem callOk_a (M : Mem) (l : GCall) (hn : l.Name.size ≤ 9223372036854775807) (hbd : l.Body.size ≤ 9223372036854775807) : Ans Try.prog M 31 #[.agg (List.toArray [.int .i64 l.Client, .int .i64 l.No, .int .i64 l.Pg.Pool, .int .i64 l.Pg.No, .string l.Name, .int .i64 l.Op.Kind, .int .i64 l.Op.At, .string l.Op.Bytes, .int .i64 l.Begin, .int .i64 l.End, .int .i64 l.Code, .int .i64 l.Ver.Epoch, .int .i64 l.Ver.Seq, .string l.Body])] (.bool (callOkF l)) := by
  have g1 := isClient_a M l.Client
  have g2 := between_a M l.No 1 1000
  have g3 := pgOk_a M l.Pg
  have g4 := nameOk_a M l.Name hn
  have g5 := plainCode_a M
  have g6 := opOk_a M ⟨1, 0⟩ l.Op
  have g7 := between_a M l.Code 0 99
  have g8 := verOk_a M l.Ver
  have eb := body_nil l.Body
  have ev := eqv_Ver l.Ver ⟨0, 0⟩
  refine ans_of T (l := [.agg (List.toArray [.int .i64 l.Client, .int .i64 l.No, .int .i64 l.Pg.Pool, .int .i64 l.Pg.No, .string l.Name, .int .i64 l.Op.Kind, .int .i64 l.Op.At, .string l.Op.Bytes, .int .i64 l.Begin, .int .i64 l.End, .int .i64 l.Code, .int .i64 l.Ver.Epoch, .int .i64 l.Ver.Seq, .string l.Body])]) mixed Try.func31 rfl (by kernel_rfl) (Nat.le_of_ble_eq_true rfl) ?_
  cases q1 : isClientF l.Client with
  | false =>
    rw [q1] at g1
    repeat' ((conv => whnf); first | refine DrawN.q (by kernel_rfl) ?_ | with_reducible refine CondK.tt ?_ | with_reducible refine CondK.ff ?_ | refine CallK.mk _ g1 ?_ | refine CallQ.mk _ g1 ?_ | refine CallK.mk _ g2 ?_ | refine CallQ.mk _ g2 ?_ | refine CallK.mk _ g3 ?_ | refine CallQ.mk _ g3 ?_ | refine CallK.mk _ g4 ?_ | refine CallQ.mk _ g4 ?_ | refine CallK.mk _ g5 ?_ | refine CallQ.mk _ g5 ?_ | refine CallK.mk _ g6 ?_ | refine CallQ.mk _ g6 ?_ | refine CallK.mk _ g7 ?_ | refine CallQ.mk _ g7 ?_ | refine CallK.mk _ g8 ?_ | refine CallQ.mk _ g8 ?_ | fail | refine CondK.yes' (by assumption) ?_ | refine CondK.no' (by assumption) ?_ | fail)
    all_goals (refine ret_bool ?_; unfold callOkF callHead callTail; simp_all)
    all_goals first | (intros; omega) | exact body_fin (by omega)
  | true =>
    rw [q1] at g1
    cases q2 : inR l.No 1 1000 with
    | false =>
      rw [q2] at g2
      repeat' ((conv => whnf); first | refine DrawN.q (by kernel_rfl) ?_ | with_reducible refine CondK.tt ?_ | with_reducible refine CondK.ff ?_ | refine CallK.mk _ g1 ?_ | refine CallQ.mk _ g1 ?_ | refine CallK.mk _ g2 ?_ | refine CallQ.mk _ g2 ?_ | refine CallK.mk _ g3 ?_ | refine CallQ.mk _ g3 ?_ | refine CallK.mk _ g4 ?_ | refine CallQ.mk _ g4 ?_ | refine CallK.mk _ g5 ?_ | refine CallQ.mk _ g5 ?_ | refine CallK.mk _ g6 ?_ | refine CallQ.mk _ g6 ?_ | refine CallK.mk _ g7 ?_ | refine CallQ.mk _ g7 ?_ | refine CallK.mk _ g8 ?_ | refine CallQ.mk _ g8 ?_ | fail | refine CondK.yes' (by assumption) ?_ | refine CondK.no' (by assumption) ?_ | fail)
      all_goals (refine ret_bool ?_; unfold callOkF callHead callTail; simp_all)
      all_goals first | (intros; omega) | exact body_fin (by omega)
    | true =>
      rw [q2] at g2
      cases q3 : pgOkF l.Pg with
      | false =>
        rw [q3] at g3
        repeat' ((conv => whnf); first | refine DrawN.q (by kernel_rfl) ?_ | with_reducible refine CondK.tt ?_ | with_reducible refine CondK.ff ?_ | refine CallK.mk _ g1 ?_ | refine CallQ.mk _ g1 ?_ | refine CallK.mk _ g2 ?_ | refine CallQ.mk _ g2 ?_ | refine CallK.mk _ g3 ?_ | refine CallQ.mk _ g3 ?_ | refine CallK.mk _ g4 ?_ | refine CallQ.mk _ g4 ?_ | refine CallK.mk _ g5 ?_ | refine CallQ.mk _ g5 ?_ | refine CallK.mk _ g6 ?_ | refine CallQ.mk _ g6 ?_ | refine CallK.mk _ g7 ?_ | refine CallQ.mk _ g7 ?_ | refine CallK.mk _ g8 ?_ | refine CallQ.mk _ g8 ?_ | fail | refine CondK.yes' (by assumption) ?_ | refine CondK.no' (by assumption) ?_ | fail)
        all_goals (refine ret_bool ?_; unfold callOkF callHead callTail; simp_all)
        all_goals first | (intros; omega) | exact body_fin (by omega)
      | true =>
        rw [q3] at g3
        cases q4 : nameOkF l.Name with
        | false =>
          rw [q4] at g4
          repeat' ((conv => whnf); first | refine DrawN.q (by kernel_rfl) ?_ | with_reducible refine CondK.tt ?_ | with_reducible refine CondK.ff ?_ | refine CallK.mk _ g1 ?_ | refine CallQ.mk _ g1 ?_ | refine CallK.mk _ g2 ?_ | refine CallQ.mk _ g2 ?_ | refine CallK.mk _ g3 ?_ | refine CallQ.mk _ g3 ?_ | refine CallK.mk _ g4 ?_ | refine CallQ.mk _ g4 ?_ | refine CallK.mk _ g5 ?_ | refine CallQ.mk _ g5 ?_ | refine CallK.mk _ g6 ?_ | refine CallQ.mk _ g6 ?_ | refine CallK.mk _ g7 ?_ | refine CallQ.mk _ g7 ?_ | refine CallK.mk _ g8 ?_ | refine CallQ.mk _ g8 ?_ | fail | refine CondK.yes' (by assumption) ?_ | refine CondK.no' (by assumption) ?_ | fail)
          all_goals (refine ret_bool ?_; unfold callOkF callHead callTail; simp_all)
          all_goals first | (intros; omega) | exact body_fin (by omega)
        | true =>
          rw [q4] at g4
          cases q5 : opOkF ⟨1, 0⟩ l.Op with
          | false =>
            rw [q5] at g6
            repeat' ((conv => whnf); first | refine DrawN.q (by kernel_rfl) ?_ | with_reducible refine CondK.tt ?_ | with_reducible refine CondK.ff ?_ | refine CallK.mk _ g1 ?_ | refine CallQ.mk _ g1 ?_ | refine CallK.mk _ g2 ?_ | refine CallQ.mk _ g2 ?_ | refine CallK.mk _ g3 ?_ | refine CallQ.mk _ g3 ?_ | refine CallK.mk _ g4 ?_ | refine CallQ.mk _ g4 ?_ | refine CallK.mk _ g5 ?_ | refine CallQ.mk _ g5 ?_ | refine CallK.mk _ g6 ?_ | refine CallQ.mk _ g6 ?_ | refine CallK.mk _ g7 ?_ | refine CallQ.mk _ g7 ?_ | refine CallK.mk _ g8 ?_ | refine CallQ.mk _ g8 ?_ | fail | refine CondK.yes' (by assumption) ?_ | refine CondK.no' (by assumption) ?_ | fail)
            all_goals (refine ret_bool ?_; unfold callOkF callHead callTail; simp_all)
            all_goals first | (intros; omega) | exact body_fin (by omega)
          | true =>
            rw [q5] at g6
            cases q6 : decide (l.Begin < 1) with
            | false =>
              cases qE : (l.End == 0) with
              | false =>
                cases u1 : decide (l.End > l.Begin) with
                | false =>
                  repeat' ((conv => whnf); first | refine DrawN.q (by kernel_rfl) ?_ | with_reducible refine CondK.tt ?_ | with_reducible refine CondK.ff ?_ | refine CallK.mk _ g1 ?_ | refine CallQ.mk _ g1 ?_ | refine CallK.mk _ g2 ?_ | refine CallQ.mk _ g2 ?_ | refine CallK.mk _ g3 ?_ | refine CallQ.mk _ g3 ?_ | refine CallK.mk _ g4 ?_ | refine CallQ.mk _ g4 ?_ | refine CallK.mk _ g5 ?_ | refine CallQ.mk _ g5 ?_ | refine CallK.mk _ g6 ?_ | refine CallQ.mk _ g6 ?_ | refine CallK.mk _ g7 ?_ | refine CallQ.mk _ g7 ?_ | refine CallK.mk _ g8 ?_ | refine CallQ.mk _ g8 ?_ | rw [q6] | rw [qE] | rw [u1] | refine CondK.yes' (by assumption) ?_ | refine CondK.no' (by assumption) ?_ | fail)
                  all_goals (refine ret_bool ?_; unfold callOkF callHead callTail; simp_all)
                  all_goals first | (intros; omega) | exact body_fin (by omega)
                | true =>
                  cases u2 : inR l.Code 0 99 with
                  | false =>
                    rw [u2] at g7
                    repeat' ((conv => whnf); first | refine DrawN.q (by kernel_rfl) ?_ | with_reducible refine CondK.tt ?_ | with_reducible refine CondK.ff ?_ | refine CallK.mk _ g1 ?_ | refine CallQ.mk _ g1 ?_ | refine CallK.mk _ g2 ?_ | refine CallQ.mk _ g2 ?_ | refine CallK.mk _ g3 ?_ | refine CallQ.mk _ g3 ?_ | refine CallK.mk _ g4 ?_ | refine CallQ.mk _ g4 ?_ | refine CallK.mk _ g5 ?_ | refine CallQ.mk _ g5 ?_ | refine CallK.mk _ g6 ?_ | refine CallQ.mk _ g6 ?_ | refine CallK.mk _ g7 ?_ | refine CallQ.mk _ g7 ?_ | refine CallK.mk _ g8 ?_ | refine CallQ.mk _ g8 ?_ | rw [q6] | rw [qE] | rw [u1] | refine CondK.yes' (by assumption) ?_ | refine CondK.no' (by assumption) ?_ | fail)
                    all_goals (refine ret_bool ?_; unfold callOkF callHead callTail; simp_all)
                    all_goals first | (intros; omega) | exact body_fin (by omega)
                  | true =>
                    rw [u2] at g7
                    cases u3 : verOkF l.Ver with
                    | false =>
                      rw [u3] at g8
                      repeat' ((conv => whnf); first | refine DrawN.q (by kernel_rfl) ?_ | with_reducible refine CondK.tt ?_ | with_reducible refine CondK.ff ?_ | refine CallK.mk _ g1 ?_ | refine CallQ.mk _ g1 ?_ | refine CallK.mk _ g2 ?_ | refine CallQ.mk _ g2 ?_ | refine CallK.mk _ g3 ?_ | refine CallQ.mk _ g3 ?_ | refine CallK.mk _ g4 ?_ | refine CallQ.mk _ g4 ?_ | refine CallK.mk _ g5 ?_ | refine CallQ.mk _ g5 ?_ | refine CallK.mk _ g6 ?_ | refine CallQ.mk _ g6 ?_ | refine CallK.mk _ g7 ?_ | refine CallQ.mk _ g7 ?_ | refine CallK.mk _ g8 ?_ | refine CallQ.mk _ g8 ?_ | rw [q6] | rw [qE] | rw [u1] | refine CondK.yes' (by assumption) ?_ | refine CondK.no' (by assumption) ?_ | fail)
                      all_goals (refine ret_bool ?_; unfold callOkF callHead callTail; simp_all)
                      all_goals first | (intros; omega) | exact body_fin (by omega)
                    | true =>
                      rw [u3] at g8
                      cases u4 : decide ((l.Body.size : Int) ≤ 64) with
                      | false =>
                        repeat' ((conv => whnf); first | refine DrawN.q (by kernel_rfl) ?_ | with_reducible refine CondK.tt ?_ | with_reducible refine CondK.ff ?_ | refine CallK.mk _ g1 ?_ | refine CallQ.mk _ g1 ?_ | refine CallK.mk _ g2 ?_ | refine CallQ.mk _ g2 ?_ | refine CallK.mk _ g3 ?_ | refine CallQ.mk _ g3 ?_ | refine CallK.mk _ g4 ?_ | refine CallQ.mk _ g4 ?_ | refine CallK.mk _ g5 ?_ | refine CallQ.mk _ g5 ?_ | refine CallK.mk _ g6 ?_ | refine CallQ.mk _ g6 ?_ | refine CallK.mk _ g7 ?_ | refine CallQ.mk _ g7 ?_ | refine CallK.mk _ g8 ?_ | refine CallQ.mk _ g8 ?_ | rw [q6] | rw [qE] | rw [u1] | rw [u4] | refine CondK.yes' (by assumption) ?_ | refine CondK.no' (by assumption) ?_ | fail)
                        all_goals (refine ret_bool ?_; unfold callOkF callHead callTail; simp_all)
                        all_goals first | (intros; omega) | exact body_fin (by omega)
                      | true =>
                        cases qC : (l.Code == 0) with
                        | false =>
                          repeat' ((conv => whnf); first | refine DrawN.q (by kernel_rfl) ?_ | with_reducible refine CondK.tt ?_ | with_reducible refine CondK.ff ?_ | refine CallK.mk _ g1 ?_ | refine CallQ.mk _ g1 ?_ | refine CallK.mk _ g2 ?_ | refine CallQ.mk _ g2 ?_ | refine CallK.mk _ g3 ?_ | refine CallQ.mk _ g3 ?_ | refine CallK.mk _ g4 ?_ | refine CallQ.mk _ g4 ?_ | refine CallK.mk _ g5 ?_ | refine CallQ.mk _ g5 ?_ | refine CallK.mk _ g6 ?_ | refine CallQ.mk _ g6 ?_ | refine CallK.mk _ g7 ?_ | refine CallQ.mk _ g7 ?_ | refine CallK.mk _ g8 ?_ | refine CallQ.mk _ g8 ?_ | rw [q6] | rw [qE] | rw [u1] | rw [u4] | rw [qC] | refine CondK.yes' (by assumption) ?_ | refine CondK.no' (by assumption) ?_ | fail)
                          all_goals (refine ret_bool ?_; unfold callOkF callHead callTail; simp_all)
                          all_goals first | (intros; omega) | exact body_fin (by omega)
                        | true =>
                          repeat' ((conv => whnf); first | refine DrawN.q (by kernel_rfl) ?_ | with_reducible refine CondK.tt ?_ | with_reducible refine CondK.ff ?_ | refine CallK.mk _ g1 ?_ | refine CallQ.mk _ g1 ?_ | refine CallK.mk _ g2 ?_ | refine CallQ.mk _ g2 ?_ | refine CallK.mk _ g3 ?_ | refine CallQ.mk _ g3 ?_ | refine CallK.mk _ g4 ?_ | refine CallQ.mk _ g4 ?_ | refine CallK.mk _ g5 ?_ | refine CallQ.mk _ g5 ?_ | refine CallK.mk _ g6 ?_ | refine CallQ.mk _ g6 ?_ | refine CallK.mk _ g7 ?_ | refine CallQ.mk _ g7 ?_ | refine CallK.mk _ g8 ?_ | refine CallQ.mk _ g8 ?_ | rw [q6] | rw [qE] | rw [u1] | rw [u4] | rw [qC] | refine CondK.yes' (by assumption) ?_ | refine CondK.no' (by assumption) ?_ | fail)
                          all_goals (refine ret_bool ?_; unfold callOkF callHead callTail; simp_all)
                          all_goals first | (intros; omega) | exact body_fin (by omega)
              | true =>
                cases qC : (l.Code == 0) with
                | false =>
                  repeat' ((conv => whnf); first | refine DrawN.q (by kernel_rfl) ?_ | with_reducible refine CondK.tt ?_ | with_reducible refine CondK.ff ?_ | refine CallK.mk _ g1 ?_ | refine CallQ.mk _ g1 ?_ | refine CallK.mk _ g2 ?_ | refine CallQ.mk _ g2 ?_ | refine CallK.mk _ g3 ?_ | refine CallQ.mk _ g3 ?_ | refine CallK.mk _ g4 ?_ | refine CallQ.mk _ g4 ?_ | refine CallK.mk _ g5 ?_ | refine CallQ.mk _ g5 ?_ | refine CallK.mk _ g6 ?_ | refine CallQ.mk _ g6 ?_ | refine CallK.mk _ g7 ?_ | refine CallQ.mk _ g7 ?_ | refine CallK.mk _ g8 ?_ | refine CallQ.mk _ g8 ?_ | rw [q6] | rw [qE] | rw [qC] | refine CondK.yes' (by assumption) ?_ | refine CondK.no' (by assumption) ?_ | fail)
                  all_goals (refine ret_bool ?_; unfold callOkF callHead callTail; simp_all)
                  all_goals first | (intros; omega) | exact body_fin (by omega)
                | true =>
                  cases qV : (l.Ver.Epoch == 0 && (l.Ver.Seq == 0 && true)) with
                  | false =>
                    repeat' ((conv => whnf); first | refine DrawN.q (by kernel_rfl) ?_ | with_reducible refine CondK.tt ?_ | with_reducible refine CondK.ff ?_ | refine CallK.mk _ g1 ?_ | refine CallQ.mk _ g1 ?_ | refine CallK.mk _ g2 ?_ | refine CallQ.mk _ g2 ?_ | refine CallK.mk _ g3 ?_ | refine CallQ.mk _ g3 ?_ | refine CallK.mk _ g4 ?_ | refine CallQ.mk _ g4 ?_ | refine CallK.mk _ g5 ?_ | refine CallQ.mk _ g5 ?_ | refine CallK.mk _ g6 ?_ | refine CallQ.mk _ g6 ?_ | refine CallK.mk _ g7 ?_ | refine CallQ.mk _ g7 ?_ | refine CallK.mk _ g8 ?_ | refine CallQ.mk _ g8 ?_ | rw [q6] | rw [qE] | rw [qC] | rw [qV] | refine CondK.yes' (by assumption) ?_ | refine CondK.no' (by assumption) ?_ | fail)
                    all_goals (refine ret_bool ?_; unfold callOkF callHead callTail; simp_all)
                    all_goals first | (intros; omega) | exact body_fin (by omega)
                  | true =>
                    repeat' ((conv => whnf); first | refine DrawN.q (by kernel_rfl) ?_ | with_reducible refine CondK.tt ?_ | with_reducible refine CondK.ff ?_ | refine CallK.mk _ g1 ?_ | refine CallQ.mk _ g1 ?_ | refine CallK.mk _ g2 ?_ | refine CallQ.mk _ g2 ?_ | refine CallK.mk _ g3 ?_ | refine CallQ.mk _ g3 ?_ | refine CallK.mk _ g4 ?_ | refine CallQ.mk _ g4 ?_ | refine CallK.mk _ g5 ?_ | refine CallQ.mk _ g5 ?_ | refine CallK.mk _ g6 ?_ | refine CallQ.mk _ g6 ?_ | refine CallK.mk _ g7 ?_ | refine CallQ.mk _ g7 ?_ | refine CallK.mk _ g8 ?_ | refine CallQ.mk _ g8 ?_ | rw [q6] | rw [qE] | rw [qC] | rw [qV] | refine CondK.yes' (by assumption) ?_ | refine CondK.no' (by assumption) ?_ | fail)
                    all_goals (refine ret_bool ?_; unfold callOkF callHead callTail; simp_all)
                    all_goals first | (intros; omega) | exact body_fin (by omega)
            | true =>
              repeat' ((conv => whnf); first | refine DrawN.q (by kernel_rfl) ?_ | with_reducible refine CondK.tt ?_ | with_reducible refine CondK.ff ?_ | refine CallK.mk _ g1 ?_ | refine CallQ.mk _ g1 ?_ | refine CallK.mk _ g2 ?_ | refine CallQ.mk _ g2 ?_ | refine CallK.mk _ g3 ?_ | refine CallQ.mk _ g3 ?_ | refine CallK.mk _ g4 ?_ | refine CallQ.mk _ g4 ?_ | refine CallK.mk _ g5 ?_ | refine CallQ.mk _ g5 ?_ | refine CallK.mk _ g6 ?_ | refine CallQ.mk _ g6 ?_ | refine CallK.mk _ g7 ?_ | refine CallQ.mk _ g7 ?_ | refine CallK.mk _ g8 ?_ | refine CallQ.mk _ g8 ?_ | rw [q6] | refine CondK.yes' (by assumption) ?_ | refine CondK.no' (by assumption) ?_ | fail)
              all_goals (refine ret_bool ?_; unfold callOkF callHead callTail; simp_all)
              all_goals first | (intros; omega) | exact body_fin (by omega)
def zCall : GCall := ⟨0, 0, ⟨0, 0⟩, eB, ⟨0, 0, eB⟩, 0, 0, 0, ⟨0, 0⟩, eB⟩
def endAns (l : GCall) (m : GMsg) : Bool := m.To == l.Client && decide (m.Pg = l.Pg) && decide (m.Req = ⟨l.Client, l.No⟩)
def endF (l : GCall) (m : GMsg) (e : Int) : GCall × Int :=
  if (callOkF l && (endsF m && hasMsgF m) && (m.Kind == 14)) = false then (zCall, 1) else if (l.End == 0) = false then (zCall, 5) else if endAns l m = false then (zCall, 3) else if e ≤ l.Begin then (zCall, 2) else ({ l with End := e, Code := m.Code, Ver := m.Ver, Body := m.Body }, 0)
theorem iEndCall_a (M : Mem) (l : GCall) (hn : l.Name.size ≤ 9223372036854775807) (hbd : l.Body.size ≤ 9223372036854775807) (m : GMsg) (cs : List Value) (h : RMsg M m cs) (e : Int) : AnsR Try.prog M 12 #[.agg (List.toArray [.int .i64 l.Client, .int .i64 l.No, .int .i64 l.Pg.Pool, .int .i64 l.Pg.No, .string l.Name, .int .i64 l.Op.Kind, .int .i64 l.Op.At, .string l.Op.Bytes, .int .i64 l.Begin, .int .i64 l.End, .int .i64 l.Code, .int .i64 l.Ver.Epoch, .int .i64 l.Ver.Seq, .string l.Body]), .agg cs.toArray, .int .i64 e] (fun _ v => v = .tuple #[.agg (List.toArray [.int .i64 (endF l m e).1.Client, .int .i64 (endF l m e).1.No, .int .i64 (endF l m e).1.Pg.Pool, .int .i64 (endF l m e).1.Pg.No, .string (endF l m e).1.Name, .int .i64 (endF l m e).1.Op.Kind, .int .i64 (endF l m e).1.Op.At, .string (endF l m e).1.Op.Bytes, .int .i64 (endF l m e).1.Begin, .int .i64 (endF l m e).1.End, .int .i64 (endF l m e).1.Code, .int .i64 (endF l m e).1.Ver.Epoch, .int .i64 (endF l m e).1.Ver.Seq, .string (endF l m e).1.Body]), .int .i64 (endF l m e).2]) := by
  have g1 := callOk_a M l hn hbd
  have g2 := msgOk_a M m cs h
  rw [Bool.and_assoc, msg_plain] at g2
  have eg := eqv_Pg m.Pg l.Pg
  have er := eqv_Req m.Req ⟨l.Client, l.No⟩
  obtain ⟨A0, c0, A1, c1, A2, c2, A3, c3, rfl, _⟩ := h
  refine ansR_of T (l := [.agg (List.toArray _), .agg (List.toArray _), .int .i64 e]) mixed Try.func12 rfl (by kernel_rfl) (Nat.le_of_ble_eq_true rfl) ?_
  cases q1 : callOkF l with
  | false =>
    rw [q1] at g1
    have he : endF l m e = (zCall, 1) := by unfold endF endAns; simp only [q1, Bool.true_and, Bool.and_true, Bool.false_and, Bool.and_false, if_true, if_false, Bool.true_eq_false, Bool.false_eq_true]
    rw [he]
    repeat' ((conv => whnf); first | with_reducible refine CondK.tt ?_ | with_reducible refine CondK.ff ?_ | refine CallK.mk _ g1 ?_ | refine CallQ.mk _ g1 ?_ | fail | refine CondK.yes' (by assumption) ?_ | refine CondK.no' (by assumption) ?_ | (refine CallK.mr _ g2 (fun v N1 hl1 hv => ?_); obtain rfl := hv) | fail)
    exact RetK.mk fun _ _ _ _ => rfl
  | true =>
    rw [q1] at g1
    cases q2 : (endsF m && hasMsgF m) with
    | false =>
      rw [q2] at g2
      have he : endF l m e = (zCall, 1) := by unfold endF endAns; simp only [q1, q2, Bool.true_and, Bool.and_true, Bool.false_and, Bool.and_false, if_true, if_false, Bool.true_eq_false, Bool.false_eq_true]
      rw [he]
      repeat' ((conv => whnf); first | with_reducible refine CondK.tt ?_ | with_reducible refine CondK.ff ?_ | refine CallK.mk _ g1 ?_ | refine CallQ.mk _ g1 ?_ | fail | refine CondK.yes' (by assumption) ?_ | refine CondK.no' (by assumption) ?_ | (refine CallK.mr _ g2 (fun v N1 hl1 hv => ?_); obtain rfl := hv) | fail)
      exact RetK.mk fun _ _ _ _ => rfl
    | true =>
      rw [q2] at g2
      cases k : (m.Kind == 14) with
      | false =>
        have kn : (m.Kind != 14) = true := by rw [bne, k]; rfl
        have he : endF l m e = (zCall, 1) := by unfold endF endAns; simp only [q1, q2, k, Bool.true_and, Bool.and_true, Bool.false_and, Bool.and_false, if_true, if_false, Bool.true_eq_false, Bool.false_eq_true]
        rw [he]
        repeat' ((conv => whnf); first | with_reducible refine CondK.tt ?_ | with_reducible refine CondK.ff ?_ | refine CallK.mk _ g1 ?_ | refine CallQ.mk _ g1 ?_ | rw [k] | rw [kn] | refine CondK.yes' (by assumption) ?_ | refine CondK.no' (by assumption) ?_ | (refine CallK.mr _ g2 (fun v N1 hl1 hv => ?_); obtain rfl := hv) | fail)
        exact RetK.mk fun _ _ _ _ => rfl
      | true =>
        have kn : (m.Kind != 14) = false := by rw [bne, k]; rfl
        cases qE : (l.End == 0) with
        | false =>
          have qEn : (l.End != 0) = true := by rw [bne, qE]; rfl
          have he : endF l m e = (zCall, 5) := by unfold endF endAns; simp only [q1, q2, k, qE, Bool.true_and, Bool.and_true, Bool.false_and, Bool.and_false, if_true, if_false, Bool.true_eq_false, Bool.false_eq_true]
          rw [he]
          repeat' ((conv => whnf); first | with_reducible refine CondK.tt ?_ | with_reducible refine CondK.ff ?_ | refine CallK.mk _ g1 ?_ | refine CallQ.mk _ g1 ?_ | rw [k] | rw [qE] | rw [kn] | rw [qEn] | refine CondK.yes' (by assumption) ?_ | refine CondK.no' (by assumption) ?_ | (refine CallK.mr _ g2 (fun v N1 hl1 hv => ?_); obtain rfl := hv) | fail)
          exact RetK.mk fun _ _ _ _ => rfl
        | true =>
          have qEn : (l.End != 0) = false := by rw [bne, qE]; rfl
          cases w1 : (m.To == l.Client) with
          | false =>
            have w1n : (m.To != l.Client) = true := by rw [bne, w1]; rfl
            have he : endF l m e = (zCall, 3) := by unfold endF endAns; simp only [q1, q2, k, qE, w1, Bool.true_and, Bool.and_true, Bool.false_and, Bool.and_false, if_true, if_false, Bool.true_eq_false, Bool.false_eq_true]
            rw [he]
            repeat' ((conv => whnf); first | with_reducible refine CondK.tt ?_ | with_reducible refine CondK.ff ?_ | refine CallK.mk _ g1 ?_ | refine CallQ.mk _ g1 ?_ | rw [k] | rw [qE] | rw [w1] | rw [kn] | rw [qEn] | rw [w1n] | refine CondK.yes' (by assumption) ?_ | refine CondK.no' (by assumption) ?_ | (refine CallK.mr _ g2 (fun v N1 hl1 hv => ?_); obtain rfl := hv) | fail)
            exact RetK.mk fun _ _ _ _ => rfl
          | true =>
            have w1n : (m.To != l.Client) = false := by rw [bne, w1]; rfl
            cases w2 : (m.Pg.Pool == l.Pg.Pool && (m.Pg.No == l.Pg.No && true)) with
            | false =>
              have he : endF l m e = (zCall, 3) := by unfold endF endAns; simp only [q1, q2, k, qE, w1, eg.symm.trans w2, Bool.true_and, Bool.and_true, Bool.false_and, Bool.and_false, if_true, if_false, Bool.true_eq_false, Bool.false_eq_true]
              rw [he]
              repeat' ((conv => whnf); first | with_reducible refine CondK.tt ?_ | with_reducible refine CondK.ff ?_ | refine CallK.mk _ g1 ?_ | refine CallQ.mk _ g1 ?_ | rw [k] | rw [qE] | rw [w1] | rw [w2] | rw [kn] | rw [qEn] | rw [w1n] | refine CondK.yes' (by assumption) ?_ | refine CondK.no' (by assumption) ?_ | (refine CallK.mr _ g2 (fun v N1 hl1 hv => ?_); obtain rfl := hv) | fail)
              exact RetK.mk fun _ _ _ _ => rfl
            | true =>
              cases w3 : (m.Req.Client == l.Client && (m.Req.No == l.No && true)) with
              | false =>
                have he : endF l m e = (zCall, 3) := by unfold endF endAns; simp only [q1, q2, k, qE, w1, eg.symm.trans w2, er.symm.trans w3, Bool.true_and, Bool.and_true, Bool.false_and, Bool.and_false, if_true, if_false, Bool.true_eq_false, Bool.false_eq_true]
                rw [he]
                repeat' ((conv => whnf); first | with_reducible refine CondK.tt ?_ | with_reducible refine CondK.ff ?_ | refine CallK.mk _ g1 ?_ | refine CallQ.mk _ g1 ?_ | rw [k] | rw [qE] | rw [w1] | rw [w2] | rw [w3] | rw [kn] | rw [qEn] | rw [w1n] | refine CondK.yes' (by assumption) ?_ | refine CondK.no' (by assumption) ?_ | (refine CallK.mr _ g2 (fun v N1 hl1 hv => ?_); obtain rfl := hv) | fail)
                exact RetK.mk fun _ _ _ _ => rfl
              | true =>
                cases w4 : decide (e ≤ l.Begin) with
                | false =>
                  have w4' := w4
                  have he : endF l m e = ({ l with End := e, Code := m.Code, Ver := m.Ver, Body := m.Body }, 0) := by unfold endF endAns; simp only [decide_eq_true_eq, decide_eq_false_iff_not] at w4'; simp only [q1, q2, k, qE, w1, eg.symm.trans w2, er.symm.trans w3, w4', Bool.true_and, Bool.and_true, Bool.false_and, Bool.and_false, if_true, if_false, Bool.true_eq_false, Bool.false_eq_true]
                  rw [he]
                  repeat' ((conv => whnf); first | with_reducible refine CondK.tt ?_ | with_reducible refine CondK.ff ?_ | refine CallK.mk _ g1 ?_ | refine CallQ.mk _ g1 ?_ | rw [k] | rw [qE] | rw [w1] | rw [w2] | rw [w3] | rw [w4] | rw [kn] | rw [qEn] | rw [w1n] | refine CondK.yes' (by assumption) ?_ | refine CondK.no' (by assumption) ?_ | (refine CallK.mr _ g2 (fun v N1 hl1 hv => ?_); obtain rfl := hv) | fail)
                  (conv => whnf)
                  refine DrawN.w [0] Unit (fun _ => [(3, .p 0 0), (6, .p 2 0)]) (fun _ => [(2, [.int .i64 zCall.Client, .int .i64 zCall.No, .int .i64 zCall.Pg.Pool, .int .i64 zCall.Pg.No, .string zCall.Name, .int .i64 zCall.Op.Kind, .int .i64 zCall.Op.At, .string zCall.Op.Bytes, .int .i64 zCall.Begin, .int .i64 zCall.End, .int .i64 zCall.Code, .int .i64 zCall.Ver.Epoch, .int .i64 zCall.Ver.Seq, .string zCall.Body]), (0, [.int .i64 ({ l with End := e, Code := m.Code, Ver := m.Ver, Body := m.Body } : GCall).Client, .int .i64 ({ l with End := e, Code := m.Code, Ver := m.Ver, Body := m.Body } : GCall).No, .int .i64 ({ l with End := e, Code := m.Code, Ver := m.Ver, Body := m.Body } : GCall).Pg.Pool, .int .i64 ({ l with End := e, Code := m.Code, Ver := m.Ver, Body := m.Body } : GCall).Pg.No, .string ({ l with End := e, Code := m.Code, Ver := m.Ver, Body := m.Body } : GCall).Name, .int .i64 ({ l with End := e, Code := m.Code, Ver := m.Ver, Body := m.Body } : GCall).Op.Kind, .int .i64 ({ l with End := e, Code := m.Code, Ver := m.Ver, Body := m.Body } : GCall).Op.At, .string ({ l with End := e, Code := m.Code, Ver := m.Ver, Body := m.Body } : GCall).Op.Bytes, .int .i64 ({ l with End := e, Code := m.Code, Ver := m.Ver, Body := m.Body } : GCall).Begin, .int .i64 ({ l with End := e, Code := m.Code, Ver := m.Ver, Body := m.Body } : GCall).End, .int .i64 ({ l with End := e, Code := m.Code, Ver := m.Ver, Body := m.Body } : GCall).Code, .int .i64 ({ l with End := e, Code := m.Code, Ver := m.Ver, Body := m.Body } : GCall).Ver.Epoch, .int .i64 ({ l with End := e, Code := m.Code, Ver := m.Ver, Body := m.Body } : GCall).Ver.Seq, .string ({ l with End := e, Code := m.Code, Ver := m.Ver, Body := m.Body } : GCall).Body])]) 9 (fun _ => N1) (by kernel_rfl) ?_ ?_
                  · repeat' ((conv => whnf); first | refine AndK.mk ?_ ?_ | refine HeldK.mk (by kernel_rfl) ?_ | fail)
                    all_goals exact ⟨(), ⟨⟨rfl, rfl, trivial⟩, ⟨rfl, rfl, trivial⟩, rfl, rfl⟩, rfl⟩
                  intro _
                  (conv => whnf)
                  exact RetK.mk fun _ _ _ _ => rfl
                | true =>
                  have w4' := w4
                  have he : endF l m e = (zCall, 2) := by unfold endF endAns; simp only [decide_eq_true_eq, decide_eq_false_iff_not] at w4'; simp only [q1, q2, k, qE, w1, eg.symm.trans w2, er.symm.trans w3, w4', Bool.true_and, Bool.and_true, Bool.false_and, Bool.and_false, if_true, if_false, Bool.true_eq_false, Bool.false_eq_true]
                  rw [he]
                  repeat' ((conv => whnf); first | with_reducible refine CondK.tt ?_ | with_reducible refine CondK.ff ?_ | refine CallK.mk _ g1 ?_ | refine CallQ.mk _ g1 ?_ | rw [k] | rw [qE] | rw [w1] | rw [w2] | rw [w3] | rw [w4] | rw [kn] | rw [qEn] | rw [w1n] | refine CondK.yes' (by assumption) ?_ | refine CondK.no' (by assumption) ?_ | (refine CallK.mr _ g2 (fun v N1 hl1 hv => ?_); obtain rfl := hv) | fail)
                  exact RetK.mk fun _ _ _ _ => rfl
end Go.Proofs.Ytphnjgeejifcfaa.Hlp
