/- The laws' helpers by the light walk: equal data are called equal; what a list measures; what is turned is the same. -/
import Derived.Test.YtkadfdkalglblaaGreatHlpE
namespace Go.Proofs.YtkadfdkalglblaaGreat.Hlp
open Go Go.RowKit Go.Proofs Go.Proofs.YtkadfdkalglblaaGreat.Lw
set_option linter.unusedVariables false
set_option linter.unusedSimpArgs false
set_option maxRecDepth 100000
set_option maxHeartbeats 4000000
theorem eqOp_a (M : Mem) (x : GOp) : Ans Tryz.prog M 28 #[.agg #[.int .i64 x.Kind, .int .i64 x.At, .string x.Bytes], .agg #[.int .i64 x.Kind, .int .i64 x.At, .string x.Bytes]] (.bool true) := by
  refine ans_of T (l := [.agg #[.int .i64 x.Kind, .int .i64 x.At, .string x.Bytes], .agg #[.int .i64 x.Kind, .int .i64 x.At, .string x.Bytes]]) mixed Tryz.func28 rfl (by kernel_rfl) (Nat.le_of_ble_eq_true rfl) ?_
  repeat' ((conv => whnf); first | with_reducible refine CondK.tt ?_ | with_reducible refine CondK.ff ?_ | with_reducible refine CondK.not ?_ | (refine CondK.no' ?_ ?_; focus (simp; done)) | (refine CondK.yes' ?_ ?_; focus (simp; done)) | exact rfl)
def szOp (x : GOp) (left : Int) : Int := szT (szSub (left) x.Bytes.size) fun left => left
theorem szOp_a (M : Mem) (x : GOp) (left : Int) : Ans Tryz.prog M 12 #[.agg #[.int .i64 x.Kind, .int .i64 x.At, .string x.Bytes], .int .i64 left] (.int .i64 (szOp x left)) := by
  refine ans_of T (l := [.agg #[.int .i64 x.Kind, .int .i64 x.At, .string x.Bytes], .int .i64 left]) mixed Tryz.func12 rfl (by kernel_rfl) (Nat.le_of_ble_eq_true rfl) ?_
  repeat' ((conv => whnf); first | with_reducible refine CondK.tt ?_ | with_reducible refine CondK.ff ?_ | with_reducible refine CondK.not ?_ | refine CondK.mk (fun h => ?_) (fun h => ?_) | exact rfl)
  all_goals refine ret_int ?_
  all_goals (simp only [decide_eq_true_eq, decide_eq_false_iff_not] at *)
  all_goals first | (simp only [szOp, szT, if_true, if_false, *]; done) | (simp [szOp, szT, *]; done) | (simp [szOp, szT, szSub, *]; done) | (unfold szOp szT szSub; simp [*]; done) | grind [szOp, szT, szSub]
theorem szOp_ok {M : Mem} {x : GOp} {cs : List Value} (hr : ROp M x cs) {left : Int} (h0 : 0 ≤ left) (h1 : left ≤ 1048576) (h : 0 ≤ szOp x left) : True ∧ szOp x left ≤ 1048576 := by
  obtain ⟨rfl, hb⟩ := hr
  unfold szOp at h ⊢
  obtain ⟨p2, h', e2⟩ := szT_ok h
  replace h := h'
  rw [e2]
  have q2 := szSub_ok h0 h1 (by simp_all) p2
  exact ⟨trivial, q2.2⟩
theorem toOp_a (M : Mem) (x : GOp) : Ans Tryz.prog M 19 #[.agg #[.int .i64 x.Kind, .int .i64 x.At, .string x.Bytes]] (.agg #[.int .i64 x.Kind, .int .i64 x.At, .string x.Bytes]) := by
  refine ans_of T (l := [.agg #[.int .i64 x.Kind, .int .i64 x.At, .string x.Bytes]]) mixed Tryz.func19 rfl (by kernel_rfl) (Nat.le_of_ble_eq_true rfl) ?_
  repeat' ((conv => whnf); first | with_reducible refine CondK.tt ?_ | with_reducible refine CondK.ff ?_ | with_reducible refine CondK.not ?_ | exact rfl)
theorem eqMsg_a (M : Mem) (x : GMsg) (cs ds : List Value) (h : RMsg M x cs) (h' : RMsg M x ds) : Ans Tryz.prog M 11 #[.agg cs.toArray, .agg ds.toArray] (.bool true) := by
  obtain ⟨A0, c0, A1, c1, A2, c2, A3, c3, rfl, hb, s0, s1, s2, s3⟩ := h
  obtain ⟨B0, d0, B1, d1, B2, d2, B3, d3, rfl, _, t0, t1, t2, t3⟩ := h'
  refine ans_of T (l := [.agg #[.int .i64 x.Kind, .int .i64 x.From, .int .i64 x.To, .int .i64 x.Pg.Pool, .int .i64 x.Pg.No, .int .i64 x.Epoch, .string x.Name, .int .i64 x.Ver.Epoch, .int .i64 x.Ver.Seq, .int .i64 x.Firm.Epoch, .int .i64 x.Firm.Seq, .int .i64 x.State.Pg.Pool, .int .i64 x.State.Pg.No, .int .i64 x.State.Seen, .int .i64 x.State.Started, .int .i64 x.State.Tail.Epoch, .int .i64 x.State.Tail.Seq, .slice A0 x.State.Base.length c0, .slice A1 x.State.Clients.length c1, .slice A2 x.State.Log.length c2, .int .i64 x.State.Firm.Epoch, .int .i64 x.State.Firm.Seq, .slice A3 x.State.Chunks.length c3, .int .i64 x.Entry.Ver.Epoch, .int .i64 x.Entry.Ver.Seq, .int .i64 x.Entry.Prior.Epoch, .int .i64 x.Entry.Prior.Seq, .string x.Entry.Name, .bool x.Entry.Gone, .int .i64 x.Entry.Size, .int .i64 x.Entry.Sum, .int .i64 x.Entry.Req.Client, .int .i64 x.Entry.Req.No, .string x.Chunk.Name, .int .i64 x.Chunk.Ver.Epoch, .int .i64 x.Chunk.Ver.Seq, .int .i64 x.Chunk.Pos, .int .i64 x.Chunk.Sum, .string x.Chunk.Bytes, .int .i64 x.Op.Kind, .int .i64 x.Op.At, .string x.Op.Bytes, .int .i64 x.Req.Client, .int .i64 x.Req.No, .int .i64 x.Code, .string x.Body], .agg #[.int .i64 x.Kind, .int .i64 x.From, .int .i64 x.To, .int .i64 x.Pg.Pool, .int .i64 x.Pg.No, .int .i64 x.Epoch, .string x.Name, .int .i64 x.Ver.Epoch, .int .i64 x.Ver.Seq, .int .i64 x.Firm.Epoch, .int .i64 x.Firm.Seq, .int .i64 x.State.Pg.Pool, .int .i64 x.State.Pg.No, .int .i64 x.State.Seen, .int .i64 x.State.Started, .int .i64 x.State.Tail.Epoch, .int .i64 x.State.Tail.Seq, .slice B0 x.State.Base.length d0, .slice B1 x.State.Clients.length d1, .slice B2 x.State.Log.length d2, .int .i64 x.State.Firm.Epoch, .int .i64 x.State.Firm.Seq, .slice B3 x.State.Chunks.length d3, .int .i64 x.Entry.Ver.Epoch, .int .i64 x.Entry.Ver.Seq, .int .i64 x.Entry.Prior.Epoch, .int .i64 x.Entry.Prior.Seq, .string x.Entry.Name, .bool x.Entry.Gone, .int .i64 x.Entry.Size, .int .i64 x.Entry.Sum, .int .i64 x.Entry.Req.Client, .int .i64 x.Entry.Req.No, .string x.Chunk.Name, .int .i64 x.Chunk.Ver.Epoch, .int .i64 x.Chunk.Ver.Seq, .int .i64 x.Chunk.Pos, .int .i64 x.Chunk.Sum, .string x.Chunk.Bytes, .int .i64 x.Op.Kind, .int .i64 x.Op.At, .string x.Op.Bytes, .int .i64 x.Req.Client, .int .i64 x.Req.No, .int .i64 x.Code, .string x.Body]]) mixed Tryz.func11 rfl (by kernel_rfl) (Nat.le_of_ble_eq_true rfl) ?_
  repeat' ((conv => whnf); first | with_reducible refine CondK.tt ?_ | with_reducible refine CondK.ff ?_ | with_reducible refine CondK.not ?_ | refine CallK.mk _ (eqPg_a M _) ?_ | refine CallQ.mk _ (eqPg_a M _) ?_ | refine CallK.mk _ (eqVer_a M _) ?_ | refine CallQ.mk _ (eqVer_a M _) ?_ | refine CallK.mk _ (eqVer_a M _) ?_ | refine CallQ.mk _ (eqVer_a M _) ?_ | refine CallK.mk _ (eqPgState_a M x.State _ _ ⟨_, _, _, _, _, _, _, _, rfl, trivial, s0, s1, s2, s3⟩ ⟨_, _, _, _, _, _, _, _, rfl, trivial, t0, t1, t2, t3⟩) ?_ | refine CallQ.mk _ (eqPgState_a M x.State _ _ ⟨_, _, _, _, _, _, _, _, rfl, trivial, s0, s1, s2, s3⟩ ⟨_, _, _, _, _, _, _, _, rfl, trivial, t0, t1, t2, t3⟩) ?_ | refine CallK.mk _ (eqEntry_a M _) ?_ | refine CallQ.mk _ (eqEntry_a M _) ?_ | refine CallK.mk _ (eqChunk_a M _) ?_ | refine CallQ.mk _ (eqChunk_a M _) ?_ | refine CallK.mk _ (eqOp_a M _) ?_ | refine CallQ.mk _ (eqOp_a M _) ?_ | refine CallK.mk _ (eqReq_a M _) ?_ | refine CallQ.mk _ (eqReq_a M _) ?_ | (refine CondK.no' ?_ ?_; focus (simp; done)) | (refine CondK.yes' ?_ ?_; focus (simp; done)) | exact rfl)
def szMsg (x : GMsg) (left : Int) : Int := szT (szSub (left) x.Name.size) fun left => szT (szPgState x.State (left)) fun left => szT (szEntry x.Entry (left)) fun left => szT (szChunk x.Chunk (left)) fun left => szT (szOp x.Op (left)) fun left => szT (szSub (left) x.Body.size) fun left => left
theorem szMsg_a (M : Mem) (x : GMsg) (left : Int) (cs : List Value) (h : RMsg M x cs) : Ans Tryz.prog M 5 #[.agg cs.toArray, .int .i64 left] (.int .i64 (szMsg x left)) := by
  obtain ⟨A0, c0, A1, c1, A2, c2, A3, c3, rfl, hb, s0, s1, s2, s3⟩ := h
  refine ans_of T (l := [.agg #[.int .i64 x.Kind, .int .i64 x.From, .int .i64 x.To, .int .i64 x.Pg.Pool, .int .i64 x.Pg.No, .int .i64 x.Epoch, .string x.Name, .int .i64 x.Ver.Epoch, .int .i64 x.Ver.Seq, .int .i64 x.Firm.Epoch, .int .i64 x.Firm.Seq, .int .i64 x.State.Pg.Pool, .int .i64 x.State.Pg.No, .int .i64 x.State.Seen, .int .i64 x.State.Started, .int .i64 x.State.Tail.Epoch, .int .i64 x.State.Tail.Seq, .slice A0 x.State.Base.length c0, .slice A1 x.State.Clients.length c1, .slice A2 x.State.Log.length c2, .int .i64 x.State.Firm.Epoch, .int .i64 x.State.Firm.Seq, .slice A3 x.State.Chunks.length c3, .int .i64 x.Entry.Ver.Epoch, .int .i64 x.Entry.Ver.Seq, .int .i64 x.Entry.Prior.Epoch, .int .i64 x.Entry.Prior.Seq, .string x.Entry.Name, .bool x.Entry.Gone, .int .i64 x.Entry.Size, .int .i64 x.Entry.Sum, .int .i64 x.Entry.Req.Client, .int .i64 x.Entry.Req.No, .string x.Chunk.Name, .int .i64 x.Chunk.Ver.Epoch, .int .i64 x.Chunk.Ver.Seq, .int .i64 x.Chunk.Pos, .int .i64 x.Chunk.Sum, .string x.Chunk.Bytes, .int .i64 x.Op.Kind, .int .i64 x.Op.At, .string x.Op.Bytes, .int .i64 x.Req.Client, .int .i64 x.Req.No, .int .i64 x.Code, .string x.Body], .int .i64 left]) mixed Tryz.func5 rfl (by kernel_rfl) (Nat.le_of_ble_eq_true rfl) ?_
  repeat' ((conv => whnf); first | with_reducible refine CondK.tt ?_ | with_reducible refine CondK.ff ?_ | with_reducible refine CondK.not ?_ | refine CallK.mk _ (szPgState_a M x.State _ _ ⟨_, _, _, _, _, _, _, _, rfl, trivial, s0, s1, s2, s3⟩) ?_ | refine CallQ.mk _ (szPgState_a M x.State _ _ ⟨_, _, _, _, _, _, _, _, rfl, trivial, s0, s1, s2, s3⟩) ?_ | refine CallK.mk _ (szEntry_a M x.Entry _) ?_ | refine CallQ.mk _ (szEntry_a M x.Entry _) ?_ | refine CallK.mk _ (szChunk_a M x.Chunk _) ?_ | refine CallQ.mk _ (szChunk_a M x.Chunk _) ?_ | refine CallK.mk _ (szOp_a M x.Op _) ?_ | refine CallQ.mk _ (szOp_a M x.Op _) ?_ | refine CondK.mk (fun h => ?_) (fun h => ?_) | exact rfl)
  all_goals refine ret_int ?_
  all_goals (simp only [decide_eq_true_eq, decide_eq_false_iff_not] at *)
  all_goals first | (simp only [szMsg, szT, if_true, if_false, *]; done) | (simp [szMsg, szT, *]; done) | (simp [szMsg, szT, szSub, *]; done) | (unfold szMsg szT szSub; simp [*]; done) | grind [szMsg, szT, szSub]
def SmallMsg (x : GMsg) : Prop := SmallPgState x.State
theorem szMsg_ok {M : Mem} {x : GMsg} {cs : List Value} (hr : RMsg M x cs) {left : Int} (h0 : 0 ≤ left) (h1 : left ≤ 1048576) (h : 0 ≤ szMsg x left) : SmallMsg x ∧ szMsg x left ≤ 1048576 := by
  obtain ⟨A0, c0, A1, c1, A2, c2, A3, c3, rfl, hb, s0, s1, s2, s3⟩ := hr
  unfold szMsg at h ⊢
  obtain ⟨p5, h', e5⟩ := szT_ok h
  replace h := h'
  rw [e5]
  have q5 := szSub_ok h0 h1 (by simp_all) p5
  obtain ⟨p8, h', e8⟩ := szT_ok h
  replace h := h'
  rw [e8]
  have q8 := szPgState_ok (show RPgState M x.State _ from ⟨A0, c0, A1, c1, A2, c2, A3, c3, rfl, trivial, s0, s1, s2, s3⟩) p5 q5.2 p8
  obtain ⟨p9, h', e9⟩ := szT_ok h
  replace h := h'
  rw [e9]
  have q9 := szEntry_ok (show REntry M x.Entry _ from ⟨rfl, (by simp_all)⟩) p8 q8.2 p9
  obtain ⟨p10, h', e10⟩ := szT_ok h
  replace h := h'
  rw [e10]
  have q10 := szChunk_ok (show RChunk M x.Chunk _ from ⟨rfl, (by simp_all)⟩) p9 q9.2 p10
  obtain ⟨p11, h', e11⟩ := szT_ok h
  replace h := h'
  rw [e11]
  have q11 := szOp_ok (show ROp M x.Op _ from ⟨rfl, (by simp_all)⟩) p10 q10.2 p11
  obtain ⟨p14, h', e14⟩ := szT_ok h
  replace h := h'
  rw [e14]
  have q14 := szSub_ok p11 q11.2 (by simp_all) p14
  exact ⟨q8.1, q14.2⟩
theorem toMsg_f (M : Mem) (x : GMsg) (cs : List Value) (h : RMsg M x cs) (hs : SmallMsg x) : AnsR Tryz.prog M 8 #[.agg cs.toArray] (fun M' v => ∃ cs' : List Value, v = .agg cs'.toArray ∧ RMsg (sub M' M) x cs') := by
  have z0 := hs
  obtain ⟨A0, c0, A1, c1, A2, c2, A3, c3, rfl, hb, s0, s1, s2, s3⟩ := h
  refine ansR_of T (l := [.agg #[.int .i64 x.Kind, .int .i64 x.From, .int .i64 x.To, .int .i64 x.Pg.Pool, .int .i64 x.Pg.No, .int .i64 x.Epoch, .string x.Name, .int .i64 x.Ver.Epoch, .int .i64 x.Ver.Seq, .int .i64 x.Firm.Epoch, .int .i64 x.Firm.Seq, .int .i64 x.State.Pg.Pool, .int .i64 x.State.Pg.No, .int .i64 x.State.Seen, .int .i64 x.State.Started, .int .i64 x.State.Tail.Epoch, .int .i64 x.State.Tail.Seq, .slice A0 x.State.Base.length c0, .slice A1 x.State.Clients.length c1, .slice A2 x.State.Log.length c2, .int .i64 x.State.Firm.Epoch, .int .i64 x.State.Firm.Seq, .slice A3 x.State.Chunks.length c3, .int .i64 x.Entry.Ver.Epoch, .int .i64 x.Entry.Ver.Seq, .int .i64 x.Entry.Prior.Epoch, .int .i64 x.Entry.Prior.Seq, .string x.Entry.Name, .bool x.Entry.Gone, .int .i64 x.Entry.Size, .int .i64 x.Entry.Sum, .int .i64 x.Entry.Req.Client, .int .i64 x.Entry.Req.No, .string x.Chunk.Name, .int .i64 x.Chunk.Ver.Epoch, .int .i64 x.Chunk.Ver.Seq, .int .i64 x.Chunk.Pos, .int .i64 x.Chunk.Sum, .string x.Chunk.Bytes, .int .i64 x.Op.Kind, .int .i64 x.Op.At, .string x.Op.Bytes, .int .i64 x.Req.Client, .int .i64 x.Req.No, .int .i64 x.Code, .string x.Body]]) mixed Tryz.func8 rfl (by kernel_rfl) (Nat.le_of_ble_eq_true rfl) ?_
  repeat' ((conv => whnf); first | with_reducible refine CondK.tt ?_ | with_reducible refine CondK.ff ?_ | with_reducible refine CondK.not ?_ | refine CallK.mk _ (toPg_a _ _) ?_ | refine CallQ.mk _ (toPg_a _ _) ?_ | refine CallK.mk _ (toVer_a _ _) ?_ | refine CallQ.mk _ (toVer_a _ _) ?_ | refine CallK.mk _ (toVer_a _ _) ?_ | refine CallQ.mk _ (toVer_a _ _) ?_ | refine CallK.mk _ (toEntry_a _ _) ?_ | refine CallQ.mk _ (toEntry_a _ _) ?_ | refine CallK.mk _ (toChunk_a _ _) ?_ | refine CallQ.mk _ (toChunk_a _ _) ?_ | refine CallK.mk _ (toOp_a _ _) ?_ | refine CallQ.mk _ (toOp_a _ _) ?_ | refine CallK.mk _ (toReq_a _ _) ?_ | refine CallQ.mk _ (toReq_a _ _) ?_ | exact rfl)
  refine CallK.mr _ (toPgState_f _ x.State _ ⟨_, _, _, _, _, _, _, _, rfl, trivial, s0, s1, s2, s3⟩ z0) (fun v1 M1 hl1 hv1 => ?_)
  obtain ⟨_, rfl, ⟨B0, d0, B1, d1, B2, d2, B3, d3, rfl, _, r0, r1, r2, r3⟩⟩ := hv1
  have hle := hl1
  repeat' ((conv => whnf); first | with_reducible refine CondK.tt ?_ | with_reducible refine CondK.ff ?_ | with_reducible refine CondK.not ?_ | refine CallK.mk _ (toPg_a _ _) ?_ | refine CallQ.mk _ (toPg_a _ _) ?_ | refine CallK.mk _ (toVer_a _ _) ?_ | refine CallQ.mk _ (toVer_a _ _) ?_ | refine CallK.mk _ (toVer_a _ _) ?_ | refine CallQ.mk _ (toVer_a _ _) ?_ | refine CallK.mk _ (toEntry_a _ _) ?_ | refine CallQ.mk _ (toEntry_a _ _) ?_ | refine CallK.mk _ (toChunk_a _ _) ?_ | refine CallQ.mk _ (toChunk_a _ _) ?_ | refine CallK.mk _ (toOp_a _ _) ?_ | refine CallQ.mk _ (toOp_a _ _) ?_ | refine CallK.mk _ (toReq_a _ _) ?_ | refine CallQ.mk _ (toReq_a _ _) ?_ | exact rfl)
  exact RetK.mk fun g M' hl hg => ⟨_, rfl, _, _, _, _, _, _, _, _, rfl, hb, r0.mono (sub_mono _ hl) (RHead.mono (sub_mono _ hl)), r1.mono (sub_mono _ hl) (RLast.mono (sub_mono _ hl)), r2.mono (sub_mono _ hl) (REntry.mono (sub_mono _ hl)), r3.mono (sub_mono _ hl) (RChunk.mono (sub_mono _ hl))⟩
theorem toMsg_a (M : Mem) (x : GMsg) (cs : List Value) (h : RMsg M x cs) (hs : SmallMsg x) : AnsR Tryz.prog M 8 #[.agg cs.toArray] (fun M' v => ∃ cs' : List Value, v = .agg cs'.toArray ∧ RMsg M' x cs') :=
  (toMsg_f M x cs h hs).imp fun M' v _ ⟨cs', h1, h2⟩ => ⟨cs', h1, RMsg.mono (sub_le _ _) _ _ h2⟩
end Go.Proofs.YtkadfdkalglblaaGreat.Hlp
