/- The laws' helpers by the light walk: equal data are called equal; what a list measures; what is turned is the same. -/
import Derived.Test.YtbmechcabplcpaaHlpB
namespace Go.Proofs.Ytbmechcabplcpaa.Hlp
open Go Go.RowKit Go.Proofs Go.Proofs.Ytbmechcabplcpaa.Lw
set_option linter.unusedVariables false
set_option linter.unusedSimpArgs false
set_option maxRecDepth 100000
set_option maxHeartbeats 4000000
theorem eqLine_a (M : Mem) (x : GLine) (cs ds : List Value) (h : RLine M x cs) (h' : RLine M x ds) : Ans Try.prog M 22 #[.agg cs.toArray, .agg ds.toArray] (.bool true) := by
  obtain ⟨A0, c0, A1, c1, A2, c2, A3, c3, A4, c4, A5, c5, A6, c6, A7, c7, rfl, hb, s0, s1, s2, s3, s4, s5, s6, s7⟩ := h
  obtain ⟨B0, d0, B1, d1, B2, d2, B3, d3, B4, d4, B5, d5, B6, d6, B7, d7, rfl, _, t0, t1, t2, t3, t4, t5, t6, t7⟩ := h'
  refine ans_of T (l := [.agg #[.int .i64 x.Epoch, .int .i64 x.Code.K, .int .i64 x.Code.M, .slice A0 x.Acting.length c0, .int .i64 x.State.Pg.Pool, .int .i64 x.State.Pg.No, .int .i64 x.State.Seen, .int .i64 x.State.Started, .int .i64 x.State.Tail.Epoch, .int .i64 x.State.Tail.Seq, .slice A1 x.State.Base.length c1, .slice A2 x.State.Clients.length c2, .slice A3 x.State.Log.length c3, .int .i64 x.State.Firm.Epoch, .int .i64 x.State.Firm.Seq, .slice A4 x.State.Chunks.length c4, .slice A5 x.Way.length c5, .slice A6 x.Acks.length c6, .slice A7 x.Waits.length c7], .agg #[.int .i64 x.Epoch, .int .i64 x.Code.K, .int .i64 x.Code.M, .slice B0 x.Acting.length d0, .int .i64 x.State.Pg.Pool, .int .i64 x.State.Pg.No, .int .i64 x.State.Seen, .int .i64 x.State.Started, .int .i64 x.State.Tail.Epoch, .int .i64 x.State.Tail.Seq, .slice B1 x.State.Base.length d1, .slice B2 x.State.Clients.length d2, .slice B3 x.State.Log.length d3, .int .i64 x.State.Firm.Epoch, .int .i64 x.State.Firm.Seq, .slice B4 x.State.Chunks.length d4, .slice B5 x.Way.length d5, .slice B6 x.Acks.length d6, .slice B7 x.Waits.length d7]]) mixed Try.func22 rfl (by kernel_rfl) (Nat.le_of_ble_eq_true rfl) ?_
  repeat' ((conv => whnf); first | with_reducible refine CondK.tt ?_ | with_reducible refine CondK.ff ?_ | with_reducible refine CondK.not ?_ | refine CallK.mk _ (eqCode_a M _) ?_ | refine CallQ.mk _ (eqCode_a M _) ?_ | refine CallK.mk _ (eqInt64S_a M _ _ _ _ _ s0 t0) ?_ | refine CallQ.mk _ (eqInt64S_a M _ _ _ _ _ s0 t0) ?_ | refine CallK.mk _ (eqPgState_a M x.State _ _ ⟨_, _, _, _, _, _, _, _, rfl, trivial, s1, s2, s3, s4⟩ ⟨_, _, _, _, _, _, _, _, rfl, trivial, t1, t2, t3, t4⟩) ?_ | refine CallQ.mk _ (eqPgState_a M x.State _ _ ⟨_, _, _, _, _, _, _, _, rfl, trivial, s1, s2, s3, s4⟩ ⟨_, _, _, _, _, _, _, _, rfl, trivial, t1, t2, t3, t4⟩) ?_ | refine CallK.mk _ (eqWayS_a M _ _ _ _ _ s5 t5) ?_ | refine CallQ.mk _ (eqWayS_a M _ _ _ _ _ s5 t5) ?_ | refine CallK.mk _ (eqAckS_a M _ _ _ _ _ s6 t6) ?_ | refine CallQ.mk _ (eqAckS_a M _ _ _ _ _ s6 t6) ?_ | refine CallK.mk _ (eqWaitS_a M _ _ _ _ _ s7 t7) ?_ | refine CallQ.mk _ (eqWaitS_a M _ _ _ _ _ s7 t7) ?_ | (refine CondK.no' ?_ ?_; focus (simp; done)) | (refine CondK.yes' ?_ ?_; focus (simp; done)) | exact rfl)
def szLine (x : GLine) (left : Int) : Int := szT (szSub (left) x.Acting.length) fun left => szT (szPgState x.State (left)) fun left => szT (szL szWay x.Way (left)) fun left => szT (szSub (left) x.Acks.length) fun left => szT (szL szWait x.Waits (left)) fun left => left
theorem szLine_a (M : Mem) (x : GLine) (left : Int) (cs : List Value) (h : RLine M x cs) : Ans Try.prog M 18 #[.agg cs.toArray, .int .i64 left] (.int .i64 (szLine x left)) := by
  obtain ⟨A0, c0, A1, c1, A2, c2, A3, c3, A4, c4, A5, c5, A6, c6, A7, c7, rfl, hb, s0, s1, s2, s3, s4, s5, s6, s7⟩ := h
  refine ans_of T (l := [.agg #[.int .i64 x.Epoch, .int .i64 x.Code.K, .int .i64 x.Code.M, .slice A0 x.Acting.length c0, .int .i64 x.State.Pg.Pool, .int .i64 x.State.Pg.No, .int .i64 x.State.Seen, .int .i64 x.State.Started, .int .i64 x.State.Tail.Epoch, .int .i64 x.State.Tail.Seq, .slice A1 x.State.Base.length c1, .slice A2 x.State.Clients.length c2, .slice A3 x.State.Log.length c3, .int .i64 x.State.Firm.Epoch, .int .i64 x.State.Firm.Seq, .slice A4 x.State.Chunks.length c4, .slice A5 x.Way.length c5, .slice A6 x.Acks.length c6, .slice A7 x.Waits.length c7], .int .i64 left]) mixed Try.func18 rfl (by kernel_rfl) (Nat.le_of_ble_eq_true rfl) ?_
  repeat' ((conv => whnf); first | with_reducible refine CondK.tt ?_ | with_reducible refine CondK.ff ?_ | with_reducible refine CondK.not ?_ | refine CallK.mk _ (szInt64S_a M _ _ _ _ s0) ?_ | refine CallQ.mk _ (szInt64S_a M _ _ _ _ s0) ?_ | refine CallK.mk _ (szPgState_a M x.State _ _ ⟨_, _, _, _, _, _, _, _, rfl, trivial, s1, s2, s3, s4⟩) ?_ | refine CallQ.mk _ (szPgState_a M x.State _ _ ⟨_, _, _, _, _, _, _, _, rfl, trivial, s1, s2, s3, s4⟩) ?_ | refine CallK.mk _ (szWayS_a M _ _ _ _ s5) ?_ | refine CallQ.mk _ (szWayS_a M _ _ _ _ s5) ?_ | refine CallK.mk _ (szAckS_a M _ _ _ _ s6) ?_ | refine CallQ.mk _ (szAckS_a M _ _ _ _ s6) ?_ | refine CallK.mk _ (szWaitS_a M _ _ _ _ s7) ?_ | refine CallQ.mk _ (szWaitS_a M _ _ _ _ s7) ?_ | refine CondK.mk (fun h => ?_) (fun h => ?_) | exact rfl)
  all_goals refine ret_int ?_
  all_goals (simp only [decide_eq_true_eq, decide_eq_false_iff_not] at *)
  all_goals first | (simp [szLine, szT, szSub, *]; done) | (unfold szLine szT szSub; simp [*]; done) | grind [szLine, szT, szSub]
def SmallLine (x : GLine) : Prop := (x.Acting.length ≤ 1048576 ∧ ∀ y ∈ x.Acting, True) ∧ SmallPgState x.State ∧ (x.Way.length ≤ 1048576 ∧ ∀ y ∈ x.Way, True) ∧ (x.Acks.length ≤ 1048576 ∧ ∀ y ∈ x.Acks, True) ∧ (x.Waits.length ≤ 1048576 ∧ ∀ y ∈ x.Waits, SmallWait y)
theorem szLine_ok {M : Mem} {x : GLine} {cs : List Value} (hr : RLine M x cs) {left : Int} (h0 : 0 ≤ left) (h1 : left ≤ 1048576) (h : 0 ≤ szLine x left) : SmallLine x ∧ szLine x left ≤ 1048576 := by
  obtain ⟨A0, c0, A1, c1, A2, c2, A3, c3, A4, c4, A5, c5, A6, c6, A7, c7, rfl, hb, s0, s1, s2, s3, s4, s5, s6, s7⟩ := hr
  unfold szLine at h ⊢
  obtain ⟨p2, h', e2⟩ := szT_ok h
  replace h := h'
  rw [e2]
  have q2 := szSub_ok h0 h1 s0.1 p2
  obtain ⟨p3, h', e3⟩ := szT_ok h
  replace h := h'
  rw [e3]
  have q3 := szPgState_ok (show RPgState M x.State _ from ⟨A1, c1, A2, c2, A3, c3, A4, c4, rfl, trivial, s1, s2, s3, s4⟩) p2 q2.2 p3
  obtain ⟨p4, h', e4⟩ := szT_ok h
  replace h := h'
  rw [e4]
  have q4 := szL_ok s5.1 (fun y hy left h0 h1 h => let ⟨_, hr⟩ := s5.each hy; szWay_ok hr h0 h1 h) p3 q3.2 p4
  obtain ⟨p5, h', e5⟩ := szT_ok h
  replace h := h'
  rw [e5]
  have q5 := szSub_ok p4 q4.2 s6.1 p5
  obtain ⟨p6, h', e6⟩ := szT_ok h
  replace h := h'
  rw [e6]
  have q6 := szL_ok s7.1 (fun y hy left h0 h1 h => let ⟨_, hr⟩ := s7.each hy; szWait_ok hr h0 h1 h) p5 q5.2 p6
  exact ⟨⟨⟨q2.1, fun _ _ => trivial⟩, q3.1, q4.1, ⟨q5.1, fun _ _ => trivial⟩, q6.1⟩, q6.2⟩
theorem toLine_a (M : Mem) (x : GLine) (cs : List Value) (h : RLine M x cs) (hs : SmallLine x) : AnsR Try.prog M 20 #[.agg cs.toArray] (fun M' v => ∃ cs' : List Value, v = .agg cs'.toArray ∧ RLine M' x cs') := by
  obtain ⟨z0, z1, z2, z3, z4⟩ := hs
  obtain ⟨A0, c0, A1, c1, A2, c2, A3, c3, A4, c4, A5, c5, A6, c6, A7, c7, rfl, hb, s0, s1, s2, s3, s4, s5, s6, s7⟩ := h
  refine ansR_of T (l := [.agg #[.int .i64 x.Epoch, .int .i64 x.Code.K, .int .i64 x.Code.M, .slice A0 x.Acting.length c0, .int .i64 x.State.Pg.Pool, .int .i64 x.State.Pg.No, .int .i64 x.State.Seen, .int .i64 x.State.Started, .int .i64 x.State.Tail.Epoch, .int .i64 x.State.Tail.Seq, .slice A1 x.State.Base.length c1, .slice A2 x.State.Clients.length c2, .slice A3 x.State.Log.length c3, .int .i64 x.State.Firm.Epoch, .int .i64 x.State.Firm.Seq, .slice A4 x.State.Chunks.length c4, .slice A5 x.Way.length c5, .slice A6 x.Acks.length c6, .slice A7 x.Waits.length c7]]) mixed Try.func20 rfl (by kernel_rfl) (Nat.le_of_ble_eq_true rfl) ?_
  repeat' ((conv => whnf); first | with_reducible refine CondK.tt ?_ | with_reducible refine CondK.ff ?_ | with_reducible refine CondK.not ?_ | refine CallK.mk _ (toCode_a _ _) ?_ | refine CallQ.mk _ (toCode_a _ _) ?_ | exact rfl)
  refine CallK.mr _ (toInt64S_a _ _ _ _ s0 z0) (fun v1 M1 hl1 hv1 => ?_)
  obtain ⟨B0, d0, rfl, r0⟩ := hv1
  replace s1 := s1.mono hl1 (RHead.mono hl1)
  replace s2 := s2.mono hl1 (RLast.mono hl1)
  replace s3 := s3.mono hl1 (REntry.mono hl1)
  replace s4 := s4.mono hl1 (RChunk.mono hl1)
  replace s5 := s5.mono hl1 (RWay.mono hl1)
  replace s6 := s6.mono hl1 (RAck.mono hl1)
  replace s7 := s7.mono hl1 (RWait.mono hl1)
  repeat' ((conv => whnf); first | with_reducible refine CondK.tt ?_ | with_reducible refine CondK.ff ?_ | with_reducible refine CondK.not ?_ | refine CallK.mk _ (toCode_a _ _) ?_ | refine CallQ.mk _ (toCode_a _ _) ?_ | exact rfl)
  refine CallK.mr _ (toPgState_a _ x.State _ ⟨_, _, _, _, _, _, _, _, rfl, trivial, s1, s2, s3, s4⟩ z1) (fun v2 M2 hl2 hv2 => ?_)
  obtain ⟨_, rfl, ⟨B1, d1, B2, d2, B3, d3, B4, d4, rfl, _, r1, r2, r3, r4⟩⟩ := hv2
  replace s5 := s5.mono hl2 (RWay.mono hl2)
  replace s6 := s6.mono hl2 (RAck.mono hl2)
  replace s7 := s7.mono hl2 (RWait.mono hl2)
  replace r0 := r0.mono hl2 (RInt.mono hl2)
  repeat' ((conv => whnf); first | with_reducible refine CondK.tt ?_ | with_reducible refine CondK.ff ?_ | with_reducible refine CondK.not ?_ | refine CallK.mk _ (toCode_a _ _) ?_ | refine CallQ.mk _ (toCode_a _ _) ?_ | exact rfl)
  refine CallK.mr _ (toWayS_a _ _ _ _ s5 z2) (fun v3 M3 hl3 hv3 => ?_)
  obtain ⟨B5, d5, rfl, r5⟩ := hv3
  replace s6 := s6.mono hl3 (RAck.mono hl3)
  replace s7 := s7.mono hl3 (RWait.mono hl3)
  replace r0 := r0.mono hl3 (RInt.mono hl3)
  replace r1 := r1.mono hl3 (RHead.mono hl3)
  replace r2 := r2.mono hl3 (RLast.mono hl3)
  replace r3 := r3.mono hl3 (REntry.mono hl3)
  replace r4 := r4.mono hl3 (RChunk.mono hl3)
  repeat' ((conv => whnf); first | with_reducible refine CondK.tt ?_ | with_reducible refine CondK.ff ?_ | with_reducible refine CondK.not ?_ | refine CallK.mk _ (toCode_a _ _) ?_ | refine CallQ.mk _ (toCode_a _ _) ?_ | exact rfl)
  refine CallK.mr _ (toAckS_a _ _ _ _ s6 z3) (fun v4 M4 hl4 hv4 => ?_)
  obtain ⟨B6, d6, rfl, r6⟩ := hv4
  replace s7 := s7.mono hl4 (RWait.mono hl4)
  replace r0 := r0.mono hl4 (RInt.mono hl4)
  replace r1 := r1.mono hl4 (RHead.mono hl4)
  replace r2 := r2.mono hl4 (RLast.mono hl4)
  replace r3 := r3.mono hl4 (REntry.mono hl4)
  replace r4 := r4.mono hl4 (RChunk.mono hl4)
  replace r5 := r5.mono hl4 (RWay.mono hl4)
  repeat' ((conv => whnf); first | with_reducible refine CondK.tt ?_ | with_reducible refine CondK.ff ?_ | with_reducible refine CondK.not ?_ | refine CallK.mk _ (toCode_a _ _) ?_ | refine CallQ.mk _ (toCode_a _ _) ?_ | exact rfl)
  refine CallK.mr _ (toWaitS_a _ _ _ _ s7 z4) (fun v5 M5 hl5 hv5 => ?_)
  obtain ⟨B7, d7, rfl, r7⟩ := hv5
  replace r0 := r0.mono hl5 (RInt.mono hl5)
  replace r1 := r1.mono hl5 (RHead.mono hl5)
  replace r2 := r2.mono hl5 (RLast.mono hl5)
  replace r3 := r3.mono hl5 (REntry.mono hl5)
  replace r4 := r4.mono hl5 (RChunk.mono hl5)
  replace r5 := r5.mono hl5 (RWay.mono hl5)
  replace r6 := r6.mono hl5 (RAck.mono hl5)
  repeat' ((conv => whnf); first | with_reducible refine CondK.tt ?_ | with_reducible refine CondK.ff ?_ | with_reducible refine CondK.not ?_ | refine CallK.mk _ (toCode_a _ _) ?_ | refine CallQ.mk _ (toCode_a _ _) ?_ | exact rfl)
  exact RetK.mk fun g M' hl hg => ⟨_, rfl, _, _, _, _, _, _, _, _, _, _, _, _, _, _, _, _, rfl, hb, r0.mono hl (RInt.mono hl), r1.mono hl (RHead.mono hl), r2.mono hl (RLast.mono hl), r3.mono hl (REntry.mono hl), r4.mono hl (RChunk.mono hl), r5.mono hl (RWay.mono hl), r6.mono hl (RAck.mono hl), r7.mono hl (RWait.mono hl)⟩
end Go.Proofs.Ytbmechcabplcpaa.Hlp
