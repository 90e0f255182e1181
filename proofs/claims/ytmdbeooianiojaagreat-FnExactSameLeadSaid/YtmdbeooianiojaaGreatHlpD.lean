/- The laws' helpers by the light walk: equal data are called equal; what a list measures; what is turned is the same. -/
import Derived.Test.YtmdbeooianiojaaGreatHlpC
namespace Go.Proofs.YtmdbeooianiojaaGreat.Hlp
open Go Go.RowKit Go.Proofs Go.Proofs.YtmdbeooianiojaaGreat.Lw
set_option linter.unusedVariables false
set_option linter.unusedSimpArgs false
set_option maxRecDepth 100000
set_option maxHeartbeats 4000000
theorem eqLine_a (M : Mem) (x : GLine) (cs ds : List Value) (h : RLine M x cs) (h' : RLine M x ds) : Ans Tryz.prog M 47 #[.agg cs.toArray, .agg ds.toArray] (.bool true) := by
  obtain ⟨A0, c0, A1, c1, A2, c2, A3, c3, A4, c4, A5, c5, A6, c6, A7, c7, rfl, hb, s0, s1, s2, s3, s4, s5, s6, s7⟩ := h
  obtain ⟨B0, d0, B1, d1, B2, d2, B3, d3, B4, d4, B5, d5, B6, d6, B7, d7, rfl, _, t0, t1, t2, t3, t4, t5, t6, t7⟩ := h'
  refine ans_of T (l := [.agg #[.int .i64 x.Epoch, .int .i64 x.Code.K, .int .i64 x.Code.M, .slice A0 x.Acting.length c0, .int .i64 x.State.Pg.Pool, .int .i64 x.State.Pg.No, .int .i64 x.State.Seen, .int .i64 x.State.Started, .int .i64 x.State.Tail.Epoch, .int .i64 x.State.Tail.Seq, .slice A1 x.State.Base.length c1, .slice A2 x.State.Clients.length c2, .slice A3 x.State.Log.length c3, .int .i64 x.State.Firm.Epoch, .int .i64 x.State.Firm.Seq, .slice A4 x.State.Chunks.length c4, .slice A5 x.Way.length c5, .slice A6 x.Acks.length c6, .slice A7 x.Waits.length c7], .agg #[.int .i64 x.Epoch, .int .i64 x.Code.K, .int .i64 x.Code.M, .slice B0 x.Acting.length d0, .int .i64 x.State.Pg.Pool, .int .i64 x.State.Pg.No, .int .i64 x.State.Seen, .int .i64 x.State.Started, .int .i64 x.State.Tail.Epoch, .int .i64 x.State.Tail.Seq, .slice B1 x.State.Base.length d1, .slice B2 x.State.Clients.length d2, .slice B3 x.State.Log.length d3, .int .i64 x.State.Firm.Epoch, .int .i64 x.State.Firm.Seq, .slice B4 x.State.Chunks.length d4, .slice B5 x.Way.length d5, .slice B6 x.Acks.length d6, .slice B7 x.Waits.length d7]]) mixed Tryz.func47 rfl (by kernel_rfl) (Nat.le_of_ble_eq_true rfl) ?_
  repeat' ((conv => whnf); first | with_reducible refine CondK.tt ?_ | with_reducible refine CondK.ff ?_ | with_reducible refine CondK.not ?_ | refine CallK.mk _ (eqCode_a M _) ?_ | refine CallQ.mk _ (eqCode_a M _) ?_ | refine CallK.mk _ (eqInt64S_a M _ _ _ _ _ s0 t0) ?_ | refine CallQ.mk _ (eqInt64S_a M _ _ _ _ _ s0 t0) ?_ | refine CallK.mk _ (eqPgState_a M x.State _ _ ⟨_, _, _, _, _, _, _, _, rfl, trivial, s1, s2, s3, s4⟩ ⟨_, _, _, _, _, _, _, _, rfl, trivial, t1, t2, t3, t4⟩) ?_ | refine CallQ.mk _ (eqPgState_a M x.State _ _ ⟨_, _, _, _, _, _, _, _, rfl, trivial, s1, s2, s3, s4⟩ ⟨_, _, _, _, _, _, _, _, rfl, trivial, t1, t2, t3, t4⟩) ?_ | refine CallK.mk _ (eqWayS_a M _ _ _ _ _ s5 t5) ?_ | refine CallQ.mk _ (eqWayS_a M _ _ _ _ _ s5 t5) ?_ | refine CallK.mk _ (eqAckS_a M _ _ _ _ _ s6 t6) ?_ | refine CallQ.mk _ (eqAckS_a M _ _ _ _ _ s6 t6) ?_ | refine CallK.mk _ (eqWaitS_a M _ _ _ _ _ s7 t7) ?_ | refine CallQ.mk _ (eqWaitS_a M _ _ _ _ _ s7 t7) ?_ | (refine CondK.no' ?_ ?_; focus (simp; done)) | (refine CondK.yes' ?_ ?_; focus (simp; done)) | exact rfl)
def szLine (x : GLine) (left : Int) : Int := szT (szSub (left) x.Acting.length) fun left => szT (szPgState x.State (left)) fun left => szT (szL szWay x.Way (left)) fun left => szT (szSub (left) x.Acks.length) fun left => szT (szL szWait x.Waits (left)) fun left => left
theorem szLine_a (M : Mem) (x : GLine) (left : Int) (cs : List Value) (h : RLine M x cs) : Ans Tryz.prog M 15 #[.agg cs.toArray, .int .i64 left] (.int .i64 (szLine x left)) := by
  obtain ⟨A0, c0, A1, c1, A2, c2, A3, c3, A4, c4, A5, c5, A6, c6, A7, c7, rfl, hb, s0, s1, s2, s3, s4, s5, s6, s7⟩ := h
  refine ans_of T (l := [.agg #[.int .i64 x.Epoch, .int .i64 x.Code.K, .int .i64 x.Code.M, .slice A0 x.Acting.length c0, .int .i64 x.State.Pg.Pool, .int .i64 x.State.Pg.No, .int .i64 x.State.Seen, .int .i64 x.State.Started, .int .i64 x.State.Tail.Epoch, .int .i64 x.State.Tail.Seq, .slice A1 x.State.Base.length c1, .slice A2 x.State.Clients.length c2, .slice A3 x.State.Log.length c3, .int .i64 x.State.Firm.Epoch, .int .i64 x.State.Firm.Seq, .slice A4 x.State.Chunks.length c4, .slice A5 x.Way.length c5, .slice A6 x.Acks.length c6, .slice A7 x.Waits.length c7], .int .i64 left]) mixed Tryz.func15 rfl (by kernel_rfl) (Nat.le_of_ble_eq_true rfl) ?_
  repeat' ((conv => whnf); first | with_reducible refine CondK.tt ?_ | with_reducible refine CondK.ff ?_ | with_reducible refine CondK.not ?_ | refine CallK.mk _ (szInt64S_a M _ _ _ _ s0) ?_ | refine CallQ.mk _ (szInt64S_a M _ _ _ _ s0) ?_ | refine CallK.mk _ (szPgState_a M x.State _ _ ⟨_, _, _, _, _, _, _, _, rfl, trivial, s1, s2, s3, s4⟩) ?_ | refine CallQ.mk _ (szPgState_a M x.State _ _ ⟨_, _, _, _, _, _, _, _, rfl, trivial, s1, s2, s3, s4⟩) ?_ | refine CallK.mk _ (szWayS_a M _ _ _ _ s5) ?_ | refine CallQ.mk _ (szWayS_a M _ _ _ _ s5) ?_ | refine CallK.mk _ (szAckS_a M _ _ _ _ s6) ?_ | refine CallQ.mk _ (szAckS_a M _ _ _ _ s6) ?_ | refine CallK.mk _ (szWaitS_a M _ _ _ _ s7) ?_ | refine CallQ.mk _ (szWaitS_a M _ _ _ _ s7) ?_ | refine CondK.mk (fun h => ?_) (fun h => ?_) | exact rfl)
  all_goals refine ret_int ?_
  all_goals (simp only [decide_eq_true_eq, decide_eq_false_iff_not] at *)
  all_goals first | (simp only [szLine, szT, if_true, if_false, *]; done) | (simp [szLine, szT, *]; done) | (simp [szLine, szT, szSub, *]; done) | (unfold szLine szT szSub; simp [*]; done) | grind [szLine, szT, szSub]
def SmallLine (x : GLine) : Prop := (x.Acting.length ≤ 1048576 ∧ ∀ y ∈ x.Acting, True) ∧ SmallPgState x.State ∧ (x.Way.length ≤ 1048576 ∧ ∀ y ∈ x.Way, True) ∧ (x.Acks.length ≤ 1048576 ∧ ∀ y ∈ x.Acks, True) ∧ (x.Waits.length ≤ 1048576 ∧ ∀ y ∈ x.Waits, SmallWait y)
theorem szLine_ok {M : Mem} {x : GLine} {cs : List Value} (hr : RLine M x cs) {left : Int} (h0 : 0 ≤ left) (h1 : left ≤ 1048576) (h : 0 ≤ szLine x left) : SmallLine x ∧ szLine x left ≤ 1048576 := by
  obtain ⟨A0, c0, A1, c1, A2, c2, A3, c3, A4, c4, A5, c5, A6, c6, A7, c7, rfl, hb, s0, s1, s2, s3, s4, s5, s6, s7⟩ := hr
  unfold szLine at h ⊢
  obtain ⟨p2, h', e2⟩ := szT_ok h
  replace h := h'
  rw [e2]
  have q2 := szSub_ok h0 h1 s0.len p2
  obtain ⟨p3, h', e3⟩ := szT_ok h
  replace h := h'
  rw [e3]
  have q3 := szPgState_ok (show RPgState M x.State _ from ⟨A1, c1, A2, c2, A3, c3, A4, c4, rfl, trivial, s1, s2, s3, s4⟩) p2 q2.2 p3
  obtain ⟨p4, h', e4⟩ := szT_ok h
  replace h := h'
  rw [e4]
  have q4 := szL_ok s5.len (fun y hy left h0 h1 h => let ⟨_, hr⟩ := s5.each hy; szWay_ok hr h0 h1 h) p3 q3.2 p4
  obtain ⟨p5, h', e5⟩ := szT_ok h
  replace h := h'
  rw [e5]
  have q5 := szSub_ok p4 q4.2 s6.len p5
  obtain ⟨p6, h', e6⟩ := szT_ok h
  replace h := h'
  rw [e6]
  have q6 := szL_ok s7.len (fun y hy left h0 h1 h => let ⟨_, hr⟩ := s7.each hy; szWait_ok hr h0 h1 h) p5 q5.2 p6
  exact ⟨⟨⟨q2.1, fun _ _ => trivial⟩, q3.1, q4.1, ⟨q5.1, fun _ _ => trivial⟩, q6.1⟩, q6.2⟩
theorem toLine_a (M : Mem) (x : GLine) (cs : List Value) (h : RLine M x cs) (hs : SmallLine x) : AnsR Tryz.prog M 29 #[.agg cs.toArray] (fun M' v => ∃ cs' : List Value, v = .agg cs'.toArray ∧ RLine M' x cs') := by
  obtain ⟨z0, z1, z2, z3, z4⟩ := hs
  obtain ⟨A0, c0, A1, c1, A2, c2, A3, c3, A4, c4, A5, c5, A6, c6, A7, c7, rfl, hb, s0, s1, s2, s3, s4, s5, s6, s7⟩ := h
  refine ansR_of T (l := [.agg #[.int .i64 x.Epoch, .int .i64 x.Code.K, .int .i64 x.Code.M, .slice A0 x.Acting.length c0, .int .i64 x.State.Pg.Pool, .int .i64 x.State.Pg.No, .int .i64 x.State.Seen, .int .i64 x.State.Started, .int .i64 x.State.Tail.Epoch, .int .i64 x.State.Tail.Seq, .slice A1 x.State.Base.length c1, .slice A2 x.State.Clients.length c2, .slice A3 x.State.Log.length c3, .int .i64 x.State.Firm.Epoch, .int .i64 x.State.Firm.Seq, .slice A4 x.State.Chunks.length c4, .slice A5 x.Way.length c5, .slice A6 x.Acks.length c6, .slice A7 x.Waits.length c7]]) mixed Tryz.func29 rfl (by kernel_rfl) (Nat.le_of_ble_eq_true rfl) ?_
  repeat' ((conv => whnf); first | with_reducible refine CondK.tt ?_ | with_reducible refine CondK.ff ?_ | with_reducible refine CondK.not ?_ | refine CallK.mk _ (toCode_a _ _) ?_ | refine CallQ.mk _ (toCode_a _ _) ?_ | exact rfl)
  refine CallK.mr _ (toInt64S_a _ _ _ _ s0 z0) (fun v1 M1 hl1 hv1 => ?_)
  obtain ⟨B0, d0, rfl, r0⟩ := hv1
  replace s1 := s1.mono hl1 (RHead.mono hl1)
  replace s2 := s2.mono hl1 (RLast.mono hl1)
  replace s3 := s3.mono hl1 (REntry.mono hl1)
  replace s4 := s4.mono hl1 (RChunk.mono hl1)
  replace s5 := s5.mono hl1 (RWay.mono hl1)
  replace s6 := s6.mono hl1 (RAck.mono hl1)
  replace s7 := s7.mono hl1 (RWait.mono hl1)
  repeat' ((conv => whnf); first | with_reducible refine CondK.tt ?_ | with_reducible refine CondK.ff ?_ | with_reducible refine CondK.not ?_ | refine CallK.mk _ (toCode_a _ _) ?_ | refine CallQ.mk _ (toCode_a _ _) ?_ | exact rfl)
  refine CallK.mr _ (toPgState_a _ x.State _ ⟨_, _, _, _, _, _, _, _, rfl, trivial, s1, s2, s3, s4⟩ z1) (fun v2 M2 hl2 hv2 => ?_)
  obtain ⟨_, rfl, ⟨B1, d1, B2, d2, B3, d3, B4, d4, rfl, _, r1, r2, r3, r4⟩⟩ := hv2
  replace s5 := s5.mono hl2 (RWay.mono hl2)
  replace s6 := s6.mono hl2 (RAck.mono hl2)
  replace s7 := s7.mono hl2 (RWait.mono hl2)
  replace r0 := r0.mono hl2 (RInt.mono hl2)
  repeat' ((conv => whnf); first | with_reducible refine CondK.tt ?_ | with_reducible refine CondK.ff ?_ | with_reducible refine CondK.not ?_ | refine CallK.mk _ (toCode_a _ _) ?_ | refine CallQ.mk _ (toCode_a _ _) ?_ | exact rfl)
  refine CallK.mr _ (toWayS_a _ _ _ _ s5 z2) (fun v3 M3 hl3 hv3 => ?_)
  obtain ⟨B5, d5, rfl, r5⟩ := hv3
  replace s6 := s6.mono hl3 (RAck.mono hl3)
  replace s7 := s7.mono hl3 (RWait.mono hl3)
  replace r0 := r0.mono hl3 (RInt.mono hl3)
  replace r1 := r1.mono hl3 (RHead.mono hl3)
  replace r2 := r2.mono hl3 (RLast.mono hl3)
  replace r3 := r3.mono hl3 (REntry.mono hl3)
  replace r4 := r4.mono hl3 (RChunk.mono hl3)
  repeat' ((conv => whnf); first | with_reducible refine CondK.tt ?_ | with_reducible refine CondK.ff ?_ | with_reducible refine CondK.not ?_ | refine CallK.mk _ (toCode_a _ _) ?_ | refine CallQ.mk _ (toCode_a _ _) ?_ | exact rfl)
  refine CallK.mr _ (toAckS_a _ _ _ _ s6 z3) (fun v4 M4 hl4 hv4 => ?_)
  obtain ⟨B6, d6, rfl, r6⟩ := hv4
  replace s7 := s7.mono hl4 (RWait.mono hl4)
  replace r0 := r0.mono hl4 (RInt.mono hl4)
  replace r1 := r1.mono hl4 (RHead.mono hl4)
  replace r2 := r2.mono hl4 (RLast.mono hl4)
  replace r3 := r3.mono hl4 (REntry.mono hl4)
  replace r4 := r4.mono hl4 (RChunk.mono hl4)
  replace r5 := r5.mono hl4 (RWay.mono hl4)
  repeat' ((conv => whnf); first | with_reducible refine CondK.tt ?_ | with_reducible refine CondK.ff ?_ | with_reducible refine CondK.not ?_ | refine CallK.mk _ (toCode_a _ _) ?_ | refine CallQ.mk _ (toCode_a _ _) ?_ | exact rfl)
  refine CallK.mr _ (toWaitS_a _ _ _ _ s7 z4) (fun v5 M5 hl5 hv5 => ?_)
  obtain ⟨B7, d7, rfl, r7⟩ := hv5
  replace r0 := r0.mono hl5 (RInt.mono hl5)
  replace r1 := r1.mono hl5 (RHead.mono hl5)
  replace r2 := r2.mono hl5 (RLast.mono hl5)
  replace r3 := r3.mono hl5 (REntry.mono hl5)
  replace r4 := r4.mono hl5 (RChunk.mono hl5)
  replace r5 := r5.mono hl5 (RWay.mono hl5)
  replace r6 := r6.mono hl5 (RAck.mono hl5)
  repeat' ((conv => whnf); first | with_reducible refine CondK.tt ?_ | with_reducible refine CondK.ff ?_ | with_reducible refine CondK.not ?_ | refine CallK.mk _ (toCode_a _ _) ?_ | refine CallQ.mk _ (toCode_a _ _) ?_ | exact rfl)
  exact RetK.mk fun g M' hl hg => ⟨_, rfl, _, _, _, _, _, _, _, _, _, _, _, _, _, _, _, _, rfl, hb, r0.mono hl (RInt.mono hl), r1.mono hl (RHead.mono hl), r2.mono hl (RLast.mono hl), r3.mono hl (REntry.mono hl), r4.mono hl (RChunk.mono hl), r5.mono hl (RWay.mono hl), r6.mono hl (RAck.mono hl), r7.mono hl (RWait.mono hl)⟩
theorem eqNotice_a (M : Mem) (x : GNotice) (cs ds : List Value) (h : RNotice M x cs) (h' : RNotice M x ds) : Ans Tryz.prog M 78 #[.agg cs.toArray, .agg ds.toArray] (.bool true) := by
  obtain ⟨A0, c0, A1, c1, A2, c2, A3, c3, rfl, hb, s0, s1, s2, s3⟩ := h
  obtain ⟨B0, d0, B1, d1, B2, d2, B3, d3, rfl, _, t0, t1, t2, t3⟩ := h'
  refine ans_of T (l := [.agg #[.int .i64 x.From, .int .i64 x.State.Pg.Pool, .int .i64 x.State.Pg.No, .int .i64 x.State.Seen, .int .i64 x.State.Started, .int .i64 x.State.Tail.Epoch, .int .i64 x.State.Tail.Seq, .slice A0 x.State.Base.length c0, .slice A1 x.State.Clients.length c1, .slice A2 x.State.Log.length c2, .int .i64 x.State.Firm.Epoch, .int .i64 x.State.Firm.Seq, .slice A3 x.State.Chunks.length c3], .agg #[.int .i64 x.From, .int .i64 x.State.Pg.Pool, .int .i64 x.State.Pg.No, .int .i64 x.State.Seen, .int .i64 x.State.Started, .int .i64 x.State.Tail.Epoch, .int .i64 x.State.Tail.Seq, .slice B0 x.State.Base.length d0, .slice B1 x.State.Clients.length d1, .slice B2 x.State.Log.length d2, .int .i64 x.State.Firm.Epoch, .int .i64 x.State.Firm.Seq, .slice B3 x.State.Chunks.length d3]]) mixed Tryz.func78 rfl (by kernel_rfl) (Nat.le_of_ble_eq_true rfl) ?_
  repeat' ((conv => whnf); first | with_reducible refine CondK.tt ?_ | with_reducible refine CondK.ff ?_ | with_reducible refine CondK.not ?_ | refine CallK.mk _ (eqPgState_a M x.State _ _ ⟨_, _, _, _, _, _, _, _, rfl, trivial, s0, s1, s2, s3⟩ ⟨_, _, _, _, _, _, _, _, rfl, trivial, t0, t1, t2, t3⟩) ?_ | refine CallQ.mk _ (eqPgState_a M x.State _ _ ⟨_, _, _, _, _, _, _, _, rfl, trivial, s0, s1, s2, s3⟩ ⟨_, _, _, _, _, _, _, _, rfl, trivial, t0, t1, t2, t3⟩) ?_ | (refine CondK.no' ?_ ?_; focus (simp; done)) | (refine CondK.yes' ?_ ?_; focus (simp; done)) | exact rfl)
def szNotice (x : GNotice) (left : Int) : Int := szT (szPgState x.State (left)) fun left => left
theorem szNotice_a (M : Mem) (x : GNotice) (left : Int) (cs : List Value) (h : RNotice M x cs) : Ans Tryz.prog M 49 #[.agg cs.toArray, .int .i64 left] (.int .i64 (szNotice x left)) := by
  obtain ⟨A0, c0, A1, c1, A2, c2, A3, c3, rfl, hb, s0, s1, s2, s3⟩ := h
  refine ans_of T (l := [.agg #[.int .i64 x.From, .int .i64 x.State.Pg.Pool, .int .i64 x.State.Pg.No, .int .i64 x.State.Seen, .int .i64 x.State.Started, .int .i64 x.State.Tail.Epoch, .int .i64 x.State.Tail.Seq, .slice A0 x.State.Base.length c0, .slice A1 x.State.Clients.length c1, .slice A2 x.State.Log.length c2, .int .i64 x.State.Firm.Epoch, .int .i64 x.State.Firm.Seq, .slice A3 x.State.Chunks.length c3], .int .i64 left]) mixed Tryz.func49 rfl (by kernel_rfl) (Nat.le_of_ble_eq_true rfl) ?_
  repeat' ((conv => whnf); first | with_reducible refine CondK.tt ?_ | with_reducible refine CondK.ff ?_ | with_reducible refine CondK.not ?_ | refine CallK.mk _ (szPgState_a M x.State _ _ ⟨_, _, _, _, _, _, _, _, rfl, trivial, s0, s1, s2, s3⟩) ?_ | refine CallQ.mk _ (szPgState_a M x.State _ _ ⟨_, _, _, _, _, _, _, _, rfl, trivial, s0, s1, s2, s3⟩) ?_ | refine CondK.mk (fun h => ?_) (fun h => ?_) | exact rfl)
  all_goals refine ret_int ?_
  all_goals (simp only [decide_eq_true_eq, decide_eq_false_iff_not] at *)
  all_goals first | (simp only [szNotice, szT, if_true, if_false, *]; done) | (simp [szNotice, szT, *]; done) | (simp [szNotice, szT, szSub, *]; done) | (unfold szNotice szT szSub; simp [*]; done) | grind [szNotice, szT, szSub]
def SmallNotice (x : GNotice) : Prop := SmallPgState x.State
theorem szNotice_ok {M : Mem} {x : GNotice} {cs : List Value} (hr : RNotice M x cs) {left : Int} (h0 : 0 ≤ left) (h1 : left ≤ 1048576) (h : 0 ≤ szNotice x left) : SmallNotice x ∧ szNotice x left ≤ 1048576 := by
  obtain ⟨A0, c0, A1, c1, A2, c2, A3, c3, rfl, hb, s0, s1, s2, s3⟩ := hr
  unfold szNotice at h ⊢
  obtain ⟨p1, h', e1⟩ := szT_ok h
  replace h := h'
  rw [e1]
  have q1 := szPgState_ok (show RPgState M x.State _ from ⟨A0, c0, A1, c1, A2, c2, A3, c3, rfl, trivial, s0, s1, s2, s3⟩) h0 h1 p1
  exact ⟨q1.1, q1.2⟩
theorem toNotice_a (M : Mem) (x : GNotice) (cs : List Value) (h : RNotice M x cs) (hs : SmallNotice x) : AnsR Tryz.prog M 60 #[.agg cs.toArray] (fun M' v => ∃ cs' : List Value, v = .agg cs'.toArray ∧ RNotice M' x cs') := by
  have z0 := hs
  obtain ⟨A0, c0, A1, c1, A2, c2, A3, c3, rfl, hb, s0, s1, s2, s3⟩ := h
  refine ansR_of T (l := [.agg #[.int .i64 x.From, .int .i64 x.State.Pg.Pool, .int .i64 x.State.Pg.No, .int .i64 x.State.Seen, .int .i64 x.State.Started, .int .i64 x.State.Tail.Epoch, .int .i64 x.State.Tail.Seq, .slice A0 x.State.Base.length c0, .slice A1 x.State.Clients.length c1, .slice A2 x.State.Log.length c2, .int .i64 x.State.Firm.Epoch, .int .i64 x.State.Firm.Seq, .slice A3 x.State.Chunks.length c3]]) mixed Tryz.func60 rfl (by kernel_rfl) (Nat.le_of_ble_eq_true rfl) ?_
  repeat' ((conv => whnf); first | with_reducible refine CondK.tt ?_ | with_reducible refine CondK.ff ?_ | with_reducible refine CondK.not ?_ | exact rfl)
  refine CallK.mr _ (toPgState_a _ x.State _ ⟨_, _, _, _, _, _, _, _, rfl, trivial, s0, s1, s2, s3⟩ z0) (fun v1 M1 hl1 hv1 => ?_)
  obtain ⟨_, rfl, ⟨B0, d0, B1, d1, B2, d2, B3, d3, rfl, _, r0, r1, r2, r3⟩⟩ := hv1
  repeat' ((conv => whnf); first | with_reducible refine CondK.tt ?_ | with_reducible refine CondK.ff ?_ | with_reducible refine CondK.not ?_ | exact rfl)
  exact RetK.mk fun g M' hl hg => ⟨_, rfl, _, _, _, _, _, _, _, _, rfl, hb, r0.mono hl (RHead.mono hl), r1.mono hl (RLast.mono hl), r2.mono hl (REntry.mono hl), r3.mono hl (RChunk.mono hl)⟩
theorem eqNoticeS_a (M : Mem) (l : List GNotice) (A A' : Option Addr) (c c' : Nat) (h : SlR M RNotice 13 168 A c l) (h' : SlR M RNotice 13 168 A' c' l) : Ans Tryz.prog M 43 #[.slice A l.length c, .slice A' l.length c'] (.bool true) := by
  have hl := h.len
  refine ans_of T (l := [.slice A l.length c, .slice A' l.length c']) mixed Tryz.func43 rfl (by kernel_rfl) (Nat.le_of_ble_eq_true rfl) ?_
  (conv => whnf)
  refine CondK.mk (fun h1 => absurd h1 (by simp)) (fun _ => ?_)
  (conv => whnf)
  refine LoopK.mk {k : Nat // k ≤ l.length} (fun ⟨k, _⟩ => [(0, .v (.slice A l.length c)), (1, .v (.slice A' l.length c')), (5, .v (.int .i64 (k : Int)))]) (fun _ => []) (fun _ => M) (fun k => l.length - k.1) ⟨0, Nat.zero_le _⟩ ⟨⟨⟨rfl, rfl, rfl, trivial⟩, trivial, rfl, rfl⟩, rfl⟩ ?_
  rintro ⟨k, hk⟩
  (conv => whnf)
  refine CondK.mk (fun h1 => ?_) (fun h1 => ?_)
  · have hlt : k < l.length := by simpa using h1
    obtain ⟨ad, rfl, A0, c0, A1, c1, A2, c2, A3, c3, bnx, ⟨s0, s1, s2, s3⟩, x0, x1, x2, x3, x4, x5, x6, x7, x8, x9, x10, x11, x12⟩ := at_Notice h (List.getElem?_eq_getElem hlt)
    obtain ⟨ad', rfl, B0, d0, B1, d1, B2, d2, B3, d3, bny, ⟨t0, t1, t2, t3⟩, y0, y1, y2, y3, y4, y5, y6, y7, y8, y9, y10, y11, y12⟩ := at_Notice h' (List.getElem?_eq_getElem hlt)
    repeat' ((conv => whnf); first | with_reducible refine CondK.tt ?_ | with_reducible refine CondK.ff ?_ | with_reducible refine CondK.not ?_ | refine LdK.mk _ (by assumption) ?_ | refine IdxK.mk _ rfl (by omega) (by omega) ?_ | refine DrawN.q (by kernel_rfl) ?_ | refine CallK.mk _ (eqNotice_a M l[k] _ _ ⟨_, _, _, _, _, _, _, _, rfl, bnx, s0, s1, s2, s3⟩ ⟨_, _, _, _, _, _, _, _, rfl, bny, t0, t1, t2, t3⟩) ?_ | refine CallQ.mk _ (eqNotice_a M l[k] _ _ ⟨_, _, _, _, _, _, _, _, rfl, bnx, s0, s1, s2, s3⟩ ⟨_, _, _, _, _, _, _, _, rfl, bny, t0, t1, t2, t3⟩) ?_ | (refine CondK.no' ?_ ?_; focus (simp; done)) | (refine CondK.yes' ?_ ?_; focus (simp; done)) | exact rfl)
    exact ⟨⟨k + 1, hlt⟩, ⟨⟨rfl, rfl, look_int (i64_succ (by omega)), trivial⟩, trivial, rfl, rfl⟩, rfl, by simp; omega⟩
  · rfl
theorem szNoticeS_a (M : Mem) (l : List GNotice) (left : Int) (A : Option Addr) (c : Nat) (h : SlR M RNotice 13 168 A c l) : Ans Tryz.prog M 11 #[.slice A l.length c, .int .i64 left] (.int .i64 (szL szNotice l left)) := by
  have hl := h.len
  refine ans_of T (l := [.slice A l.length c, .int .i64 left]) mixed Tryz.func11 rfl (by kernel_rfl) (Nat.le_of_ble_eq_true rfl) ?_
  (conv => whnf)
  refine CondK.mk (fun h1 => ?_) (fun h1 => ?_)
  · refine ret_int ?_
    rw [szL, if_pos (by simpa using h1)]
  have h2 : szL szNotice l left = szRun szNotice l (IntKind.i64.wrap (left - (l.length : Int))) := by rw [szL, if_neg (by simpa using h1)]
  rw [h2]
  clear h1 h2
  generalize IntKind.i64.wrap (left - (l.length : Int)) = n0
  (conv => whnf)
  refine LoopK.mk {p : Nat × Int // p.1 ≤ l.length ∧ szRun szNotice l n0 = szRun szNotice (l.drop p.1) p.2} (fun ⟨(k, n), _⟩ => [(0, .v (.slice A l.length c)), (1, .v (.int .i64 n)), (5, .v (.int .i64 (k : Int)))]) (fun _ => []) (fun _ => M) (fun p => l.length - p.1.1) ⟨(0, n0), Nat.zero_le _, rfl⟩ ⟨⟨⟨rfl, rfl, rfl, trivial⟩, trivial, rfl, rfl⟩, rfl⟩ ?_
  rintro ⟨⟨k, n⟩, hk, hn⟩
  (conv => whnf)
  refine CondK.mk (fun h1 => ?_) (fun h1 => ?_)
  · have hlt : k < l.length := by simpa using h1
    obtain ⟨ad, rfl, A0, c0, A1, c1, A2, c2, A3, c3, bnx, ⟨s0, s1, s2, s3⟩, x0, x1, x2, x3, x4, x5, x6, x7, x8, x9, x10, x11, x12⟩ := at_Notice h (List.getElem?_eq_getElem hlt)
    simp only [] at hn
    rw [szRun_step hlt] at hn
    repeat' ((conv => whnf); first | with_reducible refine CondK.tt ?_ | with_reducible refine CondK.ff ?_ | with_reducible refine CondK.not ?_ | refine LdK.mk _ (by assumption) ?_ | refine IdxK.mk _ rfl (by omega) (by omega) ?_ | refine DrawN.q (by kernel_rfl) ?_ | refine CallK.mk _ (szNotice_a M l[k] n _ ⟨_, _, _, _, _, _, _, _, rfl, bnx, s0, s1, s2, s3⟩) ?_ | refine CallQ.mk _ (szNotice_a M l[k] n _ ⟨_, _, _, _, _, _, _, _, rfl, bnx, s0, s1, s2, s3⟩) ?_ | refine CondK.mk (fun h => ?_) (fun h => ?_) | exact rfl)
    · refine ret_int ?_
      rw [hn, if_pos (by simpa using h)]
    · rw [if_neg (by simpa using h)] at hn
      exact ⟨⟨(k + 1, _), hlt, hn⟩, ⟨⟨rfl, rfl, look_int (i64_succ (by omega)), trivial⟩, trivial, rfl, rfl⟩, rfl, by simp; omega⟩
  · refine ret_int ?_
    simp only [] at hn
    rw [hn, List.drop_eq_nil_of_le (by simp at h1; omega)]
    rfl
theorem toNoticeS_a (M : Mem) (l : List GNotice) (A : Option Addr) (c : Nat) (h : SlR M RNotice 13 168 A c l) (hsm : l.length ≤ 1048576 ∧ ∀ y ∈ l, SmallNotice y) : AnsR Tryz.prog M 25 #[.slice A l.length c] (fun M' v => ∃ A' c', v = .slice A' l.length c' ∧ SlR M' RNotice 13 168 A' c' l) := by
  have hl := hsm.1
  refine ansR_of T (l := [.slice A l.length c]) mixed Tryz.func25 rfl (by kernel_rfl) (Nat.le_of_ble_eq_true rfl) ?_
  (conv => whnf)
  refine MkK.mk rfl (by omega) (by omega) (by show ((168 : Nat) : Int) * (l.length : Int) ≤ _; omega) ?_
  (conv => whnf)
  refine LoopK.mk (Fill M RNotice 13 l) (fun q => [(0, .v (.slice A l.length c)), (3, .s 0 l.length l.length 13), (4, .v (.int .i64 (q.css.length : Int)))]) (fun q => [(0, q.cells [.int .i64 0, .int .i64 0, .int .i64 0, .int .i64 0, .int .i64 0, .int .i64 0, .int .i64 0, .slice none 0 0, .slice none 0 0, .slice none 0 0, .int .i64 0, .int .i64 0, .slice none 0 0])]) (fun q => q.M) (fun q => l.length - q.css.length) (Fill.start M RNotice 13 l) ⟨⟨⟨rfl, rfl, rfl, trivial⟩, ⟨rfl, trivial⟩, rfl, rfl⟩, rfl⟩ ?_
  intro q
  have h := h.mono q.le (RNotice.mono q.le)
  (conv => whnf)
  refine CondK.mk (fun h1 => ?_) (fun h1 => ?_)
  · have hlt : q.css.length < l.length := by simpa using h1
    have hx := List.getElem?_eq_getElem hlt
    obtain ⟨ad, rfl, A0, c0, A1, c1, A2, c2, A3, c3, bnx, ⟨s0, s1, s2, s3⟩, x0, x1, x2, x3, x4, x5, x6, x7, x8, x9, x10, x11, x12⟩ := at_Notice h hx
    repeat' ((conv => whnf); first | with_reducible refine CondK.tt ?_ | with_reducible refine CondK.ff ?_ | with_reducible refine CondK.not ?_ | refine LdK.mk _ (by assumption) ?_ | refine IdxK.mk _ rfl (by omega) (by omega) ?_ | refine DrawN.q (by kernel_rfl) ?_ | refine IdxA.mk (q.css.length * 13) rfl (by omega) (by omega) ?_ | exact rfl)
    refine CallK.mr _ (toNotice_a _ l[q.css.length] _ ⟨_, _, _, _, _, _, _, _, rfl, bnx, s0, s1, s2, s3⟩ (hsm.2 _ (List.getElem_mem hlt))) (fun v M1 hl1 hv => ?_)
    obtain ⟨cs', rfl, hr⟩ := hv
    have hz : cs'.length = 13 := by obtain ⟨E0, e0, E1, e1, E2, e2, E3, e3, rfl, _⟩ := hr; rfl
    have hs := q.store hl1 (RNotice.mono hl1) hx hr hz (Z := [.int .i64 0, .int .i64 0, .int .i64 0, .int .i64 0, .int .i64 0, .int .i64 0, .int .i64 0, .slice none 0 0, .slice none 0 0, .slice none 0 0, .int .i64 0, .int .i64 0, .slice none 0 0]) rfl
    have hroom := q.room1 (Z := [.int .i64 0, .int .i64 0, .int .i64 0, .int .i64 0, .int .i64 0, .int .i64 0, .int .i64 0, .slice none 0 0, .slice none 0 0, .slice none 0 0, .int .i64 0, .int .i64 0, .slice none 0 0]) rfl hlt
    obtain ⟨E0, e0, E1, e1, E2, e2, E3, e3, rfl, hrb, hrs⟩ := hr
    repeat' ((conv => whnf); first | with_reducible refine CondK.tt ?_ | with_reducible refine CondK.ff ?_ | with_reducible refine CondK.not ?_ | refine IdxA.mk (q.css.length * 13) rfl (by omega) (by omega) ?_ | exact rfl)
    refine Owe.mk hroom ?_
    (conv => whnf)
    exact ⟨q.step hl1 (RNotice.mono hl1) hx ⟨_, _, _, _, _, _, _, _, rfl, hrb, hrs⟩ hz, ⟨⟨rfl, rfl, look_int ((i64_succ (by omega)).trans (by simp [Fill.step])), trivial⟩, ⟨congrArg some hs, trivial⟩, rfl, rfl⟩, rfl, by simp [Fill.step]; omega⟩
  · refine RetK.mk fun g M' hl hg => ⟨_, _, rfl, ?_⟩
    exact q.done (Z := [.int .i64 0, .int .i64 0, .int .i64 0, .int .i64 0, .int .i64 0, .int .i64 0, .int .i64 0, .slice none 0 0, .slice none 0 0, .slice none 0 0, .int .i64 0, .int .i64 0, .slice none 0 0]) (by simpa using h1) (RNotice.mono hl) (hg 0 _ rfl) h.len
theorem eqLead_a (M : Mem) (x : GLead) (cs ds : List Value) (h : RLead M x cs) (h' : RLead M x ds) : Ans Tryz.prog M 8 #[.agg cs.toArray, .agg ds.toArray] (.bool true) := by
  obtain ⟨A0, c0, A1, c1, A2, c2, A3, c3, A4, c4, A5, c5, A6, c6, A7, c7, A8, c8, A9, c9, A10, c10, A11, c11, A12, c12, A13, c13, A14, c14, A15, c15, A16, c16, A17, c17, rfl, hb, s0, s1, s2, s3, s4, s5, s6, s7, s8, s9, s10, s11, s12, s13, s14, s15, s16, s17⟩ := h
  obtain ⟨B0, d0, B1, d1, B2, d2, B3, d3, B4, d4, B5, d5, B6, d6, B7, d7, B8, d8, B9, d9, B10, d10, B11, d11, B12, d12, B13, d13, B14, d14, B15, d15, B16, d16, B17, d17, rfl, _, t0, t1, t2, t3, t4, t5, t6, t7, t8, t9, t10, t11, t12, t13, t14, t15, t16, t17⟩ := h'
  refine ans_of T (l := [.agg #[.int .i64 x.Pg.Pool, .int .i64 x.Pg.No, .int .i64 x.Epoch, .int .i64 x.Phase, .int .i64 x.Code.K, .int .i64 x.Code.M, .slice A0 x.Acting.length c0, .slice A1 x.Ivs.length c1, .slice A2 x.Heard.length c2, .int .i64 x.Pick.Pg.Pool, .int .i64 x.Pick.Pg.No, .int .i64 x.Pick.Seen, .int .i64 x.Pick.Started, .int .i64 x.Pick.Tail.Epoch, .int .i64 x.Pick.Tail.Seq, .slice A3 x.Pick.Base.length c3, .slice A4 x.Pick.Clients.length c4, .slice A5 x.Pick.Log.length c5, .int .i64 x.Pick.Firm.Epoch, .int .i64 x.Pick.Firm.Seq, .slice A6 x.Pick.Chunks.length c6, .slice A7 x.Fills.length c7, .slice A8 x.Have.length c8, .slice A9 x.Ready.length c9, .int .i64 x.Line.Epoch, .int .i64 x.Line.Code.K, .int .i64 x.Line.Code.M, .slice A10 x.Line.Acting.length c10, .int .i64 x.Line.State.Pg.Pool, .int .i64 x.Line.State.Pg.No, .int .i64 x.Line.State.Seen, .int .i64 x.Line.State.Started, .int .i64 x.Line.State.Tail.Epoch, .int .i64 x.Line.State.Tail.Seq, .slice A11 x.Line.State.Base.length c11, .slice A12 x.Line.State.Clients.length c12, .slice A13 x.Line.State.Log.length c13, .int .i64 x.Line.State.Firm.Epoch, .int .i64 x.Line.State.Firm.Seq, .slice A14 x.Line.State.Chunks.length c14, .slice A15 x.Line.Way.length c15, .slice A16 x.Line.Acks.length c16, .slice A17 x.Line.Waits.length c17], .agg #[.int .i64 x.Pg.Pool, .int .i64 x.Pg.No, .int .i64 x.Epoch, .int .i64 x.Phase, .int .i64 x.Code.K, .int .i64 x.Code.M, .slice B0 x.Acting.length d0, .slice B1 x.Ivs.length d1, .slice B2 x.Heard.length d2, .int .i64 x.Pick.Pg.Pool, .int .i64 x.Pick.Pg.No, .int .i64 x.Pick.Seen, .int .i64 x.Pick.Started, .int .i64 x.Pick.Tail.Epoch, .int .i64 x.Pick.Tail.Seq, .slice B3 x.Pick.Base.length d3, .slice B4 x.Pick.Clients.length d4, .slice B5 x.Pick.Log.length d5, .int .i64 x.Pick.Firm.Epoch, .int .i64 x.Pick.Firm.Seq, .slice B6 x.Pick.Chunks.length d6, .slice B7 x.Fills.length d7, .slice B8 x.Have.length d8, .slice B9 x.Ready.length d9, .int .i64 x.Line.Epoch, .int .i64 x.Line.Code.K, .int .i64 x.Line.Code.M, .slice B10 x.Line.Acting.length d10, .int .i64 x.Line.State.Pg.Pool, .int .i64 x.Line.State.Pg.No, .int .i64 x.Line.State.Seen, .int .i64 x.Line.State.Started, .int .i64 x.Line.State.Tail.Epoch, .int .i64 x.Line.State.Tail.Seq, .slice B11 x.Line.State.Base.length d11, .slice B12 x.Line.State.Clients.length d12, .slice B13 x.Line.State.Log.length d13, .int .i64 x.Line.State.Firm.Epoch, .int .i64 x.Line.State.Firm.Seq, .slice B14 x.Line.State.Chunks.length d14, .slice B15 x.Line.Way.length d15, .slice B16 x.Line.Acks.length d16, .slice B17 x.Line.Waits.length d17]]) mixed Tryz.func8 rfl (by kernel_rfl) (Nat.le_of_ble_eq_true rfl) ?_
  repeat' ((conv => whnf); first | with_reducible refine CondK.tt ?_ | with_reducible refine CondK.ff ?_ | with_reducible refine CondK.not ?_ | refine CallK.mk _ (eqPg_a M _) ?_ | refine CallQ.mk _ (eqPg_a M _) ?_ | refine CallK.mk _ (eqCode_a M _) ?_ | refine CallQ.mk _ (eqCode_a M _) ?_ | refine CallK.mk _ (eqInt64S_a M _ _ _ _ _ s0 t0) ?_ | refine CallQ.mk _ (eqInt64S_a M _ _ _ _ _ s0 t0) ?_ | refine CallK.mk _ (eqIntervalS_a M _ _ _ _ _ s1 t1) ?_ | refine CallQ.mk _ (eqIntervalS_a M _ _ _ _ _ s1 t1) ?_ | refine CallK.mk _ (eqNoticeS_a M _ _ _ _ _ s2 t2) ?_ | refine CallQ.mk _ (eqNoticeS_a M _ _ _ _ _ s2 t2) ?_ | refine CallK.mk _ (eqPgState_a M x.Pick _ _ ⟨_, _, _, _, _, _, _, _, rfl, trivial, s3, s4, s5, s6⟩ ⟨_, _, _, _, _, _, _, _, rfl, trivial, t3, t4, t5, t6⟩) ?_ | refine CallQ.mk _ (eqPgState_a M x.Pick _ _ ⟨_, _, _, _, _, _, _, _, rfl, trivial, s3, s4, s5, s6⟩ ⟨_, _, _, _, _, _, _, _, rfl, trivial, t3, t4, t5, t6⟩) ?_ | refine CallK.mk _ (eqFillS_a M _ _ _ _ _ s7 t7) ?_ | refine CallQ.mk _ (eqFillS_a M _ _ _ _ _ s7 t7) ?_ | refine CallK.mk _ (eqChunkS_a M _ _ _ _ _ s8 t8) ?_ | refine CallQ.mk _ (eqChunkS_a M _ _ _ _ _ s8 t8) ?_ | refine CallK.mk _ (eqInt64S_a M _ _ _ _ _ s9 t9) ?_ | refine CallQ.mk _ (eqInt64S_a M _ _ _ _ _ s9 t9) ?_ | refine CallK.mk _ (eqLine_a M x.Line _ _ ⟨_, _, _, _, _, _, _, _, _, _, _, _, _, _, _, _, rfl, trivial, s10, s11, s12, s13, s14, s15, s16, s17⟩ ⟨_, _, _, _, _, _, _, _, _, _, _, _, _, _, _, _, rfl, trivial, t10, t11, t12, t13, t14, t15, t16, t17⟩) ?_ | refine CallQ.mk _ (eqLine_a M x.Line _ _ ⟨_, _, _, _, _, _, _, _, _, _, _, _, _, _, _, _, rfl, trivial, s10, s11, s12, s13, s14, s15, s16, s17⟩ ⟨_, _, _, _, _, _, _, _, _, _, _, _, _, _, _, _, rfl, trivial, t10, t11, t12, t13, t14, t15, t16, t17⟩) ?_ | (refine CondK.no' ?_ ?_; focus (simp; done)) | (refine CondK.yes' ?_ ?_; focus (simp; done)) | exact rfl)
def szLead (x : GLead) (left : Int) : Int := szT (szSub (left) x.Acting.length) fun left => szT (szL szInterval x.Ivs (left)) fun left => szT (szL szNotice x.Heard (left)) fun left => szT (szPgState x.Pick (left)) fun left => szT (szL szFill x.Fills (left)) fun left => szT (szL szChunk x.Have (left)) fun left => szT (szSub (left) x.Ready.length) fun left => szT (szLine x.Line (left)) fun left => left
theorem szLead_a (M : Mem) (x : GLead) (left : Int) (cs : List Value) (h : RLead M x cs) : Ans Tryz.prog M 4 #[.agg cs.toArray, .int .i64 left] (.int .i64 (szLead x left)) := by
  obtain ⟨A0, c0, A1, c1, A2, c2, A3, c3, A4, c4, A5, c5, A6, c6, A7, c7, A8, c8, A9, c9, A10, c10, A11, c11, A12, c12, A13, c13, A14, c14, A15, c15, A16, c16, A17, c17, rfl, hb, s0, s1, s2, s3, s4, s5, s6, s7, s8, s9, s10, s11, s12, s13, s14, s15, s16, s17⟩ := h
  refine ans_of T (l := [.agg #[.int .i64 x.Pg.Pool, .int .i64 x.Pg.No, .int .i64 x.Epoch, .int .i64 x.Phase, .int .i64 x.Code.K, .int .i64 x.Code.M, .slice A0 x.Acting.length c0, .slice A1 x.Ivs.length c1, .slice A2 x.Heard.length c2, .int .i64 x.Pick.Pg.Pool, .int .i64 x.Pick.Pg.No, .int .i64 x.Pick.Seen, .int .i64 x.Pick.Started, .int .i64 x.Pick.Tail.Epoch, .int .i64 x.Pick.Tail.Seq, .slice A3 x.Pick.Base.length c3, .slice A4 x.Pick.Clients.length c4, .slice A5 x.Pick.Log.length c5, .int .i64 x.Pick.Firm.Epoch, .int .i64 x.Pick.Firm.Seq, .slice A6 x.Pick.Chunks.length c6, .slice A7 x.Fills.length c7, .slice A8 x.Have.length c8, .slice A9 x.Ready.length c9, .int .i64 x.Line.Epoch, .int .i64 x.Line.Code.K, .int .i64 x.Line.Code.M, .slice A10 x.Line.Acting.length c10, .int .i64 x.Line.State.Pg.Pool, .int .i64 x.Line.State.Pg.No, .int .i64 x.Line.State.Seen, .int .i64 x.Line.State.Started, .int .i64 x.Line.State.Tail.Epoch, .int .i64 x.Line.State.Tail.Seq, .slice A11 x.Line.State.Base.length c11, .slice A12 x.Line.State.Clients.length c12, .slice A13 x.Line.State.Log.length c13, .int .i64 x.Line.State.Firm.Epoch, .int .i64 x.Line.State.Firm.Seq, .slice A14 x.Line.State.Chunks.length c14, .slice A15 x.Line.Way.length c15, .slice A16 x.Line.Acks.length c16, .slice A17 x.Line.Waits.length c17], .int .i64 left]) mixed Tryz.func4 rfl (by kernel_rfl) (Nat.le_of_ble_eq_true rfl) ?_
  repeat' ((conv => whnf); first | with_reducible refine CondK.tt ?_ | with_reducible refine CondK.ff ?_ | with_reducible refine CondK.not ?_ | refine CallK.mk _ (szInt64S_a M _ _ _ _ s0) ?_ | refine CallQ.mk _ (szInt64S_a M _ _ _ _ s0) ?_ | refine CallK.mk _ (szIntervalS_a M _ _ _ _ s1) ?_ | refine CallQ.mk _ (szIntervalS_a M _ _ _ _ s1) ?_ | refine CallK.mk _ (szNoticeS_a M _ _ _ _ s2) ?_ | refine CallQ.mk _ (szNoticeS_a M _ _ _ _ s2) ?_ | refine CallK.mk _ (szPgState_a M x.Pick _ _ ⟨_, _, _, _, _, _, _, _, rfl, trivial, s3, s4, s5, s6⟩) ?_ | refine CallQ.mk _ (szPgState_a M x.Pick _ _ ⟨_, _, _, _, _, _, _, _, rfl, trivial, s3, s4, s5, s6⟩) ?_ | refine CallK.mk _ (szFillS_a M _ _ _ _ s7) ?_ | refine CallQ.mk _ (szFillS_a M _ _ _ _ s7) ?_ | refine CallK.mk _ (szChunkS_a M _ _ _ _ s8) ?_ | refine CallQ.mk _ (szChunkS_a M _ _ _ _ s8) ?_ | refine CallK.mk _ (szInt64S_a M _ _ _ _ s9) ?_ | refine CallQ.mk _ (szInt64S_a M _ _ _ _ s9) ?_ | refine CallK.mk _ (szLine_a M x.Line _ _ ⟨_, _, _, _, _, _, _, _, _, _, _, _, _, _, _, _, rfl, trivial, s10, s11, s12, s13, s14, s15, s16, s17⟩) ?_ | refine CallQ.mk _ (szLine_a M x.Line _ _ ⟨_, _, _, _, _, _, _, _, _, _, _, _, _, _, _, _, rfl, trivial, s10, s11, s12, s13, s14, s15, s16, s17⟩) ?_ | refine CondK.mk (fun h => ?_) (fun h => ?_) | exact rfl)
  all_goals refine ret_int ?_
  all_goals (simp only [decide_eq_true_eq, decide_eq_false_iff_not] at *)
  all_goals first | (simp only [szLead, szT, if_true, if_false, *]; done) | (simp [szLead, szT, *]; done) | (simp [szLead, szT, szSub, *]; done) | (unfold szLead szT szSub; simp [*]; done) | grind [szLead, szT, szSub]
def SmallLead (x : GLead) : Prop := (x.Acting.length ≤ 1048576 ∧ ∀ y ∈ x.Acting, True) ∧ (x.Ivs.length ≤ 1048576 ∧ ∀ y ∈ x.Ivs, SmallInterval y) ∧ (x.Heard.length ≤ 1048576 ∧ ∀ y ∈ x.Heard, SmallNotice y) ∧ SmallPgState x.Pick ∧ (x.Fills.length ≤ 1048576 ∧ ∀ y ∈ x.Fills, True) ∧ (x.Have.length ≤ 1048576 ∧ ∀ y ∈ x.Have, True) ∧ (x.Ready.length ≤ 1048576 ∧ ∀ y ∈ x.Ready, True) ∧ SmallLine x.Line
theorem szLead_ok {M : Mem} {x : GLead} {cs : List Value} (hr : RLead M x cs) {left : Int} (h0 : 0 ≤ left) (h1 : left ≤ 1048576) (h : 0 ≤ szLead x left) : SmallLead x ∧ szLead x left ≤ 1048576 := by
  obtain ⟨A0, c0, A1, c1, A2, c2, A3, c3, A4, c4, A5, c5, A6, c6, A7, c7, A8, c8, A9, c9, A10, c10, A11, c11, A12, c12, A13, c13, A14, c14, A15, c15, A16, c16, A17, c17, rfl, hb, s0, s1, s2, s3, s4, s5, s6, s7, s8, s9, s10, s11, s12, s13, s14, s15, s16, s17⟩ := hr
  unfold szLead at h ⊢
  obtain ⟨p4, h', e4⟩ := szT_ok h
  replace h := h'
  rw [e4]
  have q4 := szSub_ok h0 h1 s0.len p4
  obtain ⟨p5, h', e5⟩ := szT_ok h
  replace h := h'
  rw [e5]
  have q5 := szL_ok s1.len (fun y hy left h0 h1 h => let ⟨_, hr⟩ := s1.each hy; szInterval_ok hr h0 h1 h) p4 q4.2 p5
  obtain ⟨p6, h', e6⟩ := szT_ok h
  replace h := h'
  rw [e6]
  have q6 := szL_ok s2.len (fun y hy left h0 h1 h => let ⟨_, hr⟩ := s2.each hy; szNotice_ok hr h0 h1 h) p5 q5.2 p6
  obtain ⟨p7, h', e7⟩ := szT_ok h
  replace h := h'
  rw [e7]
  have q7 := szPgState_ok (show RPgState M x.Pick _ from ⟨A3, c3, A4, c4, A5, c5, A6, c6, rfl, trivial, s3, s4, s5, s6⟩) p6 q6.2 p7
  obtain ⟨p8, h', e8⟩ := szT_ok h
  replace h := h'
  rw [e8]
  have q8 := szL_ok s7.len (fun y hy left h0 h1 h => let ⟨_, hr⟩ := s7.each hy; szFill_ok hr h0 h1 h) p7 q7.2 p8
  obtain ⟨p9, h', e9⟩ := szT_ok h
  replace h := h'
  rw [e9]
  have q9 := szL_ok s8.len (fun y hy left h0 h1 h => let ⟨_, hr⟩ := s8.each hy; szChunk_ok hr h0 h1 h) p8 q8.2 p9
  obtain ⟨p10, h', e10⟩ := szT_ok h
  replace h := h'
  rw [e10]
  have q10 := szSub_ok p9 q9.2 s9.len p10
  obtain ⟨p11, h', e11⟩ := szT_ok h
  replace h := h'
  rw [e11]
  have q11 := szLine_ok (show RLine M x.Line _ from ⟨A10, c10, A11, c11, A12, c12, A13, c13, A14, c14, A15, c15, A16, c16, A17, c17, rfl, trivial, s10, s11, s12, s13, s14, s15, s16, s17⟩) p10 q10.2 p11
  exact ⟨⟨⟨q4.1, fun _ _ => trivial⟩, q5.1, q6.1, q7.1, q8.1, q9.1, ⟨q10.1, fun _ _ => trivial⟩, q11.1⟩, q11.2⟩
theorem toLead_a (M : Mem) (x : GLead) (cs : List Value) (h : RLead M x cs) (hs : SmallLead x) : AnsR Tryz.prog M 6 #[.agg cs.toArray] (fun M' v => ∃ cs' : List Value, v = .agg cs'.toArray ∧ RLead M' x cs') := by
  obtain ⟨z0, z1, z2, z3, z4, z5, z6, z7⟩ := hs
  obtain ⟨A0, c0, A1, c1, A2, c2, A3, c3, A4, c4, A5, c5, A6, c6, A7, c7, A8, c8, A9, c9, A10, c10, A11, c11, A12, c12, A13, c13, A14, c14, A15, c15, A16, c16, A17, c17, rfl, hb, s0, s1, s2, s3, s4, s5, s6, s7, s8, s9, s10, s11, s12, s13, s14, s15, s16, s17⟩ := h
  refine ansR_of T (l := [.agg #[.int .i64 x.Pg.Pool, .int .i64 x.Pg.No, .int .i64 x.Epoch, .int .i64 x.Phase, .int .i64 x.Code.K, .int .i64 x.Code.M, .slice A0 x.Acting.length c0, .slice A1 x.Ivs.length c1, .slice A2 x.Heard.length c2, .int .i64 x.Pick.Pg.Pool, .int .i64 x.Pick.Pg.No, .int .i64 x.Pick.Seen, .int .i64 x.Pick.Started, .int .i64 x.Pick.Tail.Epoch, .int .i64 x.Pick.Tail.Seq, .slice A3 x.Pick.Base.length c3, .slice A4 x.Pick.Clients.length c4, .slice A5 x.Pick.Log.length c5, .int .i64 x.Pick.Firm.Epoch, .int .i64 x.Pick.Firm.Seq, .slice A6 x.Pick.Chunks.length c6, .slice A7 x.Fills.length c7, .slice A8 x.Have.length c8, .slice A9 x.Ready.length c9, .int .i64 x.Line.Epoch, .int .i64 x.Line.Code.K, .int .i64 x.Line.Code.M, .slice A10 x.Line.Acting.length c10, .int .i64 x.Line.State.Pg.Pool, .int .i64 x.Line.State.Pg.No, .int .i64 x.Line.State.Seen, .int .i64 x.Line.State.Started, .int .i64 x.Line.State.Tail.Epoch, .int .i64 x.Line.State.Tail.Seq, .slice A11 x.Line.State.Base.length c11, .slice A12 x.Line.State.Clients.length c12, .slice A13 x.Line.State.Log.length c13, .int .i64 x.Line.State.Firm.Epoch, .int .i64 x.Line.State.Firm.Seq, .slice A14 x.Line.State.Chunks.length c14, .slice A15 x.Line.Way.length c15, .slice A16 x.Line.Acks.length c16, .slice A17 x.Line.Waits.length c17]]) mixed Tryz.func6 rfl (by kernel_rfl) (Nat.le_of_ble_eq_true rfl) ?_
  repeat' ((conv => whnf); first | with_reducible refine CondK.tt ?_ | with_reducible refine CondK.ff ?_ | with_reducible refine CondK.not ?_ | refine CallK.mk _ (toPg_a _ _) ?_ | refine CallQ.mk _ (toPg_a _ _) ?_ | refine CallK.mk _ (toCode_a _ _) ?_ | refine CallQ.mk _ (toCode_a _ _) ?_ | exact rfl)
  refine CallK.mr _ (toInt64S_a _ _ _ _ s0 z0) (fun v1 M1 hl1 hv1 => ?_)
  obtain ⟨B0, d0, rfl, r0⟩ := hv1
  replace s1 := s1.mono hl1 (RInterval.mono hl1)
  replace s2 := s2.mono hl1 (RNotice.mono hl1)
  replace s3 := s3.mono hl1 (RHead.mono hl1)
  replace s4 := s4.mono hl1 (RLast.mono hl1)
  replace s5 := s5.mono hl1 (REntry.mono hl1)
  replace s6 := s6.mono hl1 (RChunk.mono hl1)
  replace s7 := s7.mono hl1 (RFill.mono hl1)
  replace s8 := s8.mono hl1 (RChunk.mono hl1)
  replace s9 := s9.mono hl1 (RInt.mono hl1)
  replace s10 := s10.mono hl1 (RInt.mono hl1)
  replace s11 := s11.mono hl1 (RHead.mono hl1)
  replace s12 := s12.mono hl1 (RLast.mono hl1)
  replace s13 := s13.mono hl1 (REntry.mono hl1)
  replace s14 := s14.mono hl1 (RChunk.mono hl1)
  replace s15 := s15.mono hl1 (RWay.mono hl1)
  replace s16 := s16.mono hl1 (RAck.mono hl1)
  replace s17 := s17.mono hl1 (RWait.mono hl1)
  repeat' ((conv => whnf); first | with_reducible refine CondK.tt ?_ | with_reducible refine CondK.ff ?_ | with_reducible refine CondK.not ?_ | refine CallK.mk _ (toPg_a _ _) ?_ | refine CallQ.mk _ (toPg_a _ _) ?_ | refine CallK.mk _ (toCode_a _ _) ?_ | refine CallQ.mk _ (toCode_a _ _) ?_ | exact rfl)
  refine CallK.mr _ (toIntervalS_a _ _ _ _ s1 z1) (fun v2 M2 hl2 hv2 => ?_)
  obtain ⟨B1, d1, rfl, r1⟩ := hv2
  replace s2 := s2.mono hl2 (RNotice.mono hl2)
  replace s3 := s3.mono hl2 (RHead.mono hl2)
  replace s4 := s4.mono hl2 (RLast.mono hl2)
  replace s5 := s5.mono hl2 (REntry.mono hl2)
  replace s6 := s6.mono hl2 (RChunk.mono hl2)
  replace s7 := s7.mono hl2 (RFill.mono hl2)
  replace s8 := s8.mono hl2 (RChunk.mono hl2)
  replace s9 := s9.mono hl2 (RInt.mono hl2)
  replace s10 := s10.mono hl2 (RInt.mono hl2)
  replace s11 := s11.mono hl2 (RHead.mono hl2)
  replace s12 := s12.mono hl2 (RLast.mono hl2)
  replace s13 := s13.mono hl2 (REntry.mono hl2)
  replace s14 := s14.mono hl2 (RChunk.mono hl2)
  replace s15 := s15.mono hl2 (RWay.mono hl2)
  replace s16 := s16.mono hl2 (RAck.mono hl2)
  replace s17 := s17.mono hl2 (RWait.mono hl2)
  replace r0 := r0.mono hl2 (RInt.mono hl2)
  repeat' ((conv => whnf); first | with_reducible refine CondK.tt ?_ | with_reducible refine CondK.ff ?_ | with_reducible refine CondK.not ?_ | refine CallK.mk _ (toPg_a _ _) ?_ | refine CallQ.mk _ (toPg_a _ _) ?_ | refine CallK.mk _ (toCode_a _ _) ?_ | refine CallQ.mk _ (toCode_a _ _) ?_ | exact rfl)
  refine CallK.mr _ (toNoticeS_a _ _ _ _ s2 z2) (fun v3 M3 hl3 hv3 => ?_)
  obtain ⟨B2, d2, rfl, r2⟩ := hv3
  replace s3 := s3.mono hl3 (RHead.mono hl3)
  replace s4 := s4.mono hl3 (RLast.mono hl3)
  replace s5 := s5.mono hl3 (REntry.mono hl3)
  replace s6 := s6.mono hl3 (RChunk.mono hl3)
  replace s7 := s7.mono hl3 (RFill.mono hl3)
  replace s8 := s8.mono hl3 (RChunk.mono hl3)
  replace s9 := s9.mono hl3 (RInt.mono hl3)
  replace s10 := s10.mono hl3 (RInt.mono hl3)
  replace s11 := s11.mono hl3 (RHead.mono hl3)
  replace s12 := s12.mono hl3 (RLast.mono hl3)
  replace s13 := s13.mono hl3 (REntry.mono hl3)
  replace s14 := s14.mono hl3 (RChunk.mono hl3)
  replace s15 := s15.mono hl3 (RWay.mono hl3)
  replace s16 := s16.mono hl3 (RAck.mono hl3)
  replace s17 := s17.mono hl3 (RWait.mono hl3)
  replace r0 := r0.mono hl3 (RInt.mono hl3)
  replace r1 := r1.mono hl3 (RInterval.mono hl3)
  repeat' ((conv => whnf); first | with_reducible refine CondK.tt ?_ | with_reducible refine CondK.ff ?_ | with_reducible refine CondK.not ?_ | refine CallK.mk _ (toPg_a _ _) ?_ | refine CallQ.mk _ (toPg_a _ _) ?_ | refine CallK.mk _ (toCode_a _ _) ?_ | refine CallQ.mk _ (toCode_a _ _) ?_ | exact rfl)
  refine CallK.mr _ (toPgState_a _ x.Pick _ ⟨_, _, _, _, _, _, _, _, rfl, trivial, s3, s4, s5, s6⟩ z3) (fun v4 M4 hl4 hv4 => ?_)
  obtain ⟨_, rfl, ⟨B3, d3, B4, d4, B5, d5, B6, d6, rfl, _, r3, r4, r5, r6⟩⟩ := hv4
  replace s7 := s7.mono hl4 (RFill.mono hl4)
  replace s8 := s8.mono hl4 (RChunk.mono hl4)
  replace s9 := s9.mono hl4 (RInt.mono hl4)
  replace s10 := s10.mono hl4 (RInt.mono hl4)
  replace s11 := s11.mono hl4 (RHead.mono hl4)
  replace s12 := s12.mono hl4 (RLast.mono hl4)
  replace s13 := s13.mono hl4 (REntry.mono hl4)
  replace s14 := s14.mono hl4 (RChunk.mono hl4)
  replace s15 := s15.mono hl4 (RWay.mono hl4)
  replace s16 := s16.mono hl4 (RAck.mono hl4)
  replace s17 := s17.mono hl4 (RWait.mono hl4)
  replace r0 := r0.mono hl4 (RInt.mono hl4)
  replace r1 := r1.mono hl4 (RInterval.mono hl4)
  replace r2 := r2.mono hl4 (RNotice.mono hl4)
  repeat' ((conv => whnf); first | with_reducible refine CondK.tt ?_ | with_reducible refine CondK.ff ?_ | with_reducible refine CondK.not ?_ | refine CallK.mk _ (toPg_a _ _) ?_ | refine CallQ.mk _ (toPg_a _ _) ?_ | refine CallK.mk _ (toCode_a _ _) ?_ | refine CallQ.mk _ (toCode_a _ _) ?_ | exact rfl)
  refine CallK.mr _ (toFillS_a _ _ _ _ s7 z4) (fun v5 M5 hl5 hv5 => ?_)
  obtain ⟨B7, d7, rfl, r7⟩ := hv5
  replace s8 := s8.mono hl5 (RChunk.mono hl5)
  replace s9 := s9.mono hl5 (RInt.mono hl5)
  replace s10 := s10.mono hl5 (RInt.mono hl5)
  replace s11 := s11.mono hl5 (RHead.mono hl5)
  replace s12 := s12.mono hl5 (RLast.mono hl5)
  replace s13 := s13.mono hl5 (REntry.mono hl5)
  replace s14 := s14.mono hl5 (RChunk.mono hl5)
  replace s15 := s15.mono hl5 (RWay.mono hl5)
  replace s16 := s16.mono hl5 (RAck.mono hl5)
  replace s17 := s17.mono hl5 (RWait.mono hl5)
  replace r0 := r0.mono hl5 (RInt.mono hl5)
  replace r1 := r1.mono hl5 (RInterval.mono hl5)
  replace r2 := r2.mono hl5 (RNotice.mono hl5)
  replace r3 := r3.mono hl5 (RHead.mono hl5)
  replace r4 := r4.mono hl5 (RLast.mono hl5)
  replace r5 := r5.mono hl5 (REntry.mono hl5)
  replace r6 := r6.mono hl5 (RChunk.mono hl5)
  repeat' ((conv => whnf); first | with_reducible refine CondK.tt ?_ | with_reducible refine CondK.ff ?_ | with_reducible refine CondK.not ?_ | refine CallK.mk _ (toPg_a _ _) ?_ | refine CallQ.mk _ (toPg_a _ _) ?_ | refine CallK.mk _ (toCode_a _ _) ?_ | refine CallQ.mk _ (toCode_a _ _) ?_ | exact rfl)
  refine CallK.mr _ (toChunkS_a _ _ _ _ s8 z5) (fun v6 M6 hl6 hv6 => ?_)
  obtain ⟨B8, d8, rfl, r8⟩ := hv6
  replace s9 := s9.mono hl6 (RInt.mono hl6)
  replace s10 := s10.mono hl6 (RInt.mono hl6)
  replace s11 := s11.mono hl6 (RHead.mono hl6)
  replace s12 := s12.mono hl6 (RLast.mono hl6)
  replace s13 := s13.mono hl6 (REntry.mono hl6)
  replace s14 := s14.mono hl6 (RChunk.mono hl6)
  replace s15 := s15.mono hl6 (RWay.mono hl6)
  replace s16 := s16.mono hl6 (RAck.mono hl6)
  replace s17 := s17.mono hl6 (RWait.mono hl6)
  replace r0 := r0.mono hl6 (RInt.mono hl6)
  replace r1 := r1.mono hl6 (RInterval.mono hl6)
  replace r2 := r2.mono hl6 (RNotice.mono hl6)
  replace r3 := r3.mono hl6 (RHead.mono hl6)
  replace r4 := r4.mono hl6 (RLast.mono hl6)
  replace r5 := r5.mono hl6 (REntry.mono hl6)
  replace r6 := r6.mono hl6 (RChunk.mono hl6)
  replace r7 := r7.mono hl6 (RFill.mono hl6)
  repeat' ((conv => whnf); first | with_reducible refine CondK.tt ?_ | with_reducible refine CondK.ff ?_ | with_reducible refine CondK.not ?_ | refine CallK.mk _ (toPg_a _ _) ?_ | refine CallQ.mk _ (toPg_a _ _) ?_ | refine CallK.mk _ (toCode_a _ _) ?_ | refine CallQ.mk _ (toCode_a _ _) ?_ | exact rfl)
  refine CallK.mr _ (toInt64S_a _ _ _ _ s9 z6) (fun v7 M7 hl7 hv7 => ?_)
  obtain ⟨B9, d9, rfl, r9⟩ := hv7
  replace s10 := s10.mono hl7 (RInt.mono hl7)
  replace s11 := s11.mono hl7 (RHead.mono hl7)
  replace s12 := s12.mono hl7 (RLast.mono hl7)
  replace s13 := s13.mono hl7 (REntry.mono hl7)
  replace s14 := s14.mono hl7 (RChunk.mono hl7)
  replace s15 := s15.mono hl7 (RWay.mono hl7)
  replace s16 := s16.mono hl7 (RAck.mono hl7)
  replace s17 := s17.mono hl7 (RWait.mono hl7)
  replace r0 := r0.mono hl7 (RInt.mono hl7)
  replace r1 := r1.mono hl7 (RInterval.mono hl7)
  replace r2 := r2.mono hl7 (RNotice.mono hl7)
  replace r3 := r3.mono hl7 (RHead.mono hl7)
  replace r4 := r4.mono hl7 (RLast.mono hl7)
  replace r5 := r5.mono hl7 (REntry.mono hl7)
  replace r6 := r6.mono hl7 (RChunk.mono hl7)
  replace r7 := r7.mono hl7 (RFill.mono hl7)
  replace r8 := r8.mono hl7 (RChunk.mono hl7)
  repeat' ((conv => whnf); first | with_reducible refine CondK.tt ?_ | with_reducible refine CondK.ff ?_ | with_reducible refine CondK.not ?_ | refine CallK.mk _ (toPg_a _ _) ?_ | refine CallQ.mk _ (toPg_a _ _) ?_ | refine CallK.mk _ (toCode_a _ _) ?_ | refine CallQ.mk _ (toCode_a _ _) ?_ | exact rfl)
  refine CallK.mr _ (toLine_a _ x.Line _ ⟨_, _, _, _, _, _, _, _, _, _, _, _, _, _, _, _, rfl, trivial, s10, s11, s12, s13, s14, s15, s16, s17⟩ z7) (fun v8 M8 hl8 hv8 => ?_)
  obtain ⟨_, rfl, ⟨B10, d10, B11, d11, B12, d12, B13, d13, B14, d14, B15, d15, B16, d16, B17, d17, rfl, _, r10, r11, r12, r13, r14, r15, r16, r17⟩⟩ := hv8
  replace r0 := r0.mono hl8 (RInt.mono hl8)
  replace r1 := r1.mono hl8 (RInterval.mono hl8)
  replace r2 := r2.mono hl8 (RNotice.mono hl8)
  replace r3 := r3.mono hl8 (RHead.mono hl8)
  replace r4 := r4.mono hl8 (RLast.mono hl8)
  replace r5 := r5.mono hl8 (REntry.mono hl8)
  replace r6 := r6.mono hl8 (RChunk.mono hl8)
  replace r7 := r7.mono hl8 (RFill.mono hl8)
  replace r8 := r8.mono hl8 (RChunk.mono hl8)
  replace r9 := r9.mono hl8 (RInt.mono hl8)
  repeat' ((conv => whnf); first | with_reducible refine CondK.tt ?_ | with_reducible refine CondK.ff ?_ | with_reducible refine CondK.not ?_ | refine CallK.mk _ (toPg_a _ _) ?_ | refine CallQ.mk _ (toPg_a _ _) ?_ | refine CallK.mk _ (toCode_a _ _) ?_ | refine CallQ.mk _ (toCode_a _ _) ?_ | exact rfl)
  exact RetK.mk fun g M' hl hg => ⟨_, rfl, _, _, _, _, _, _, _, _, _, _, _, _, _, _, _, _, _, _, _, _, _, _, _, _, _, _, _, _, _, _, _, _, _, _, _, _, rfl, hb, r0.mono hl (RInt.mono hl), r1.mono hl (RInterval.mono hl), r2.mono hl (RNotice.mono hl), r3.mono hl (RHead.mono hl), r4.mono hl (RLast.mono hl), r5.mono hl (REntry.mono hl), r6.mono hl (RChunk.mono hl), r7.mono hl (RFill.mono hl), r8.mono hl (RChunk.mono hl), r9.mono hl (RInt.mono hl), r10.mono hl (RInt.mono hl), r11.mono hl (RHead.mono hl), r12.mono hl (RLast.mono hl), r13.mono hl (REntry.mono hl), r14.mono hl (RChunk.mono hl), r15.mono hl (RWay.mono hl), r16.mono hl (RAck.mono hl), r17.mono hl (RWait.mono hl)⟩
end Go.Proofs.YtmdbeooianiojaaGreat.Hlp
