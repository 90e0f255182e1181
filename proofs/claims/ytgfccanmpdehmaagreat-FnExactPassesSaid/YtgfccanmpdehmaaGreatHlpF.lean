/- The laws' helpers by the light walk: equal data are called equal; what a list measures; what is turned is the same. -/
import Derived.Test.YtgfccanmpdehmaaGreatHlpE
namespace Go.Proofs.YtgfccanmpdehmaaGreat.Hlp
open Go Go.RowKit Go.Proofs Go.Proofs.YtgfccanmpdehmaaGreat.Lw
set_option linter.unusedVariables false
set_option linter.unusedSimpArgs false
set_option maxRecDepth 100000
set_option maxHeartbeats 4000000
theorem eqOp_a (M : Mem) (x : GOp) : Ans Tryz.prog M 40 #[.agg #[.int .i64 x.Kind, .int .i64 x.At, .string x.Bytes], .agg #[.int .i64 x.Kind, .int .i64 x.At, .string x.Bytes]] (.bool true) := by
  refine ans_of T (l := [.agg #[.int .i64 x.Kind, .int .i64 x.At, .string x.Bytes], .agg #[.int .i64 x.Kind, .int .i64 x.At, .string x.Bytes]]) mixed Tryz.func40 rfl (by kernel_rfl) (Nat.le_of_ble_eq_true rfl) ?_
  repeat' ((conv => whnf); first | with_reducible refine CondK.tt ?_ | with_reducible refine CondK.ff ?_ | with_reducible refine CondK.not ?_ | (refine CondK.no' ?_ ?_; focus (simp; done)) | (refine CondK.yes' ?_ ?_; focus (simp; done)) | exact rfl)
def szOp (x : GOp) (left : Int) : Int := szT (szSub (left) x.Bytes.size) fun left => left
theorem szOp_a (M : Mem) (x : GOp) (left : Int) : Ans Tryz.prog M 17 #[.agg #[.int .i64 x.Kind, .int .i64 x.At, .string x.Bytes], .int .i64 left] (.int .i64 (szOp x left)) := by
  refine ans_of T (l := [.agg #[.int .i64 x.Kind, .int .i64 x.At, .string x.Bytes], .int .i64 left]) mixed Tryz.func17 rfl (by kernel_rfl) (Nat.le_of_ble_eq_true rfl) ?_
  repeat' ((conv => whnf); first | with_reducible refine CondK.tt ?_ | with_reducible refine CondK.ff ?_ | with_reducible refine CondK.not ?_ | refine CondK.mk (fun h => ?_) (fun h => ?_) | exact rfl)
  all_goals refine ret_int ?_
  all_goals (simp only [decide_eq_true_eq, decide_eq_false_iff_not] at *)
  all_goals first | (simp only [szOp, szT, if_true, if_false, *]; done) | (simp [szOp, szT, *]; done) | (simp [szOp, szT, szSub, *]; done) | (unfold szOp szT szSub; simp [*]; done) | grind [szOp, szT, szSub]
theorem szOp_ok {M : Mem} {x : GOp} {cs : List Value} (hr : ROp M x cs) {left : Int} (h0 : 0 ≤ left) (h1 : left ≤ 1048576) (h : 0 ≤ szOp x left) : True ∧ szOp x left ≤ 1048576 := by
  obtain ⟨rfl, hb⟩ := hr
  unfold szOp at h ⊢
  obtain ⟨p2, h', e2⟩ := szT_ok h
  replace h := h'
  rw [e2]
  have q2 := szSub_ok h0 h1 (by simp_all) p2
  exact ⟨trivial, q2.2⟩
theorem toOp_a (M : Mem) (x : GOp) : Ans Tryz.prog M 28 #[.agg #[.int .i64 x.Kind, .int .i64 x.At, .string x.Bytes]] (.agg #[.int .i64 x.Kind, .int .i64 x.At, .string x.Bytes]) := by
  refine ans_of T (l := [.agg #[.int .i64 x.Kind, .int .i64 x.At, .string x.Bytes]]) mixed Tryz.func28 rfl (by kernel_rfl) (Nat.le_of_ble_eq_true rfl) ?_
  repeat' ((conv => whnf); first | with_reducible refine CondK.tt ?_ | with_reducible refine CondK.ff ?_ | with_reducible refine CondK.not ?_ | exact rfl)
theorem eqMsg_a (M : Mem) (x : GMsg) (cs ds : List Value) (h : RMsg M x cs) (h' : RMsg M x ds) : Ans Tryz.prog M 11 #[.agg cs.toArray, .agg ds.toArray] (.bool true) := by
  obtain ⟨A0, c0, A1, c1, A2, c2, A3, c3, rfl, hb, s0, s1, s2, s3⟩ := h
  obtain ⟨B0, d0, B1, d1, B2, d2, B3, d3, rfl, _, t0, t1, t2, t3⟩ := h'
  refine ans_of T (l := [.agg #[.int .i64 x.Kind, .int .i64 x.From, .int .i64 x.To, .int .i64 x.Pg.Pool, .int .i64 x.Pg.No, .int .i64 x.Epoch, .string x.Name, .int .i64 x.Ver.Epoch, .int .i64 x.Ver.Seq, .int .i64 x.Firm.Epoch, .int .i64 x.Firm.Seq, .int .i64 x.State.Pg.Pool, .int .i64 x.State.Pg.No, .int .i64 x.State.Seen, .int .i64 x.State.Started, .int .i64 x.State.Tail.Epoch, .int .i64 x.State.Tail.Seq, .slice A0 x.State.Base.length c0, .slice A1 x.State.Clients.length c1, .slice A2 x.State.Log.length c2, .int .i64 x.State.Firm.Epoch, .int .i64 x.State.Firm.Seq, .slice A3 x.State.Chunks.length c3, .int .i64 x.Entry.Ver.Epoch, .int .i64 x.Entry.Ver.Seq, .int .i64 x.Entry.Prior.Epoch, .int .i64 x.Entry.Prior.Seq, .string x.Entry.Name, .bool x.Entry.Gone, .int .i64 x.Entry.Size, .int .i64 x.Entry.Sum, .int .i64 x.Entry.Req.Client, .int .i64 x.Entry.Req.No, .string x.Chunk.Name, .int .i64 x.Chunk.Ver.Epoch, .int .i64 x.Chunk.Ver.Seq, .int .i64 x.Chunk.Pos, .int .i64 x.Chunk.Sum, .string x.Chunk.Bytes, .int .i64 x.Op.Kind, .int .i64 x.Op.At, .string x.Op.Bytes, .int .i64 x.Req.Client, .int .i64 x.Req.No, .int .i64 x.Code, .string x.Body], .agg #[.int .i64 x.Kind, .int .i64 x.From, .int .i64 x.To, .int .i64 x.Pg.Pool, .int .i64 x.Pg.No, .int .i64 x.Epoch, .string x.Name, .int .i64 x.Ver.Epoch, .int .i64 x.Ver.Seq, .int .i64 x.Firm.Epoch, .int .i64 x.Firm.Seq, .int .i64 x.State.Pg.Pool, .int .i64 x.State.Pg.No, .int .i64 x.State.Seen, .int .i64 x.State.Started, .int .i64 x.State.Tail.Epoch, .int .i64 x.State.Tail.Seq, .slice B0 x.State.Base.length d0, .slice B1 x.State.Clients.length d1, .slice B2 x.State.Log.length d2, .int .i64 x.State.Firm.Epoch, .int .i64 x.State.Firm.Seq, .slice B3 x.State.Chunks.length d3, .int .i64 x.Entry.Ver.Epoch, .int .i64 x.Entry.Ver.Seq, .int .i64 x.Entry.Prior.Epoch, .int .i64 x.Entry.Prior.Seq, .string x.Entry.Name, .bool x.Entry.Gone, .int .i64 x.Entry.Size, .int .i64 x.Entry.Sum, .int .i64 x.Entry.Req.Client, .int .i64 x.Entry.Req.No, .string x.Chunk.Name, .int .i64 x.Chunk.Ver.Epoch, .int .i64 x.Chunk.Ver.Seq, .int .i64 x.Chunk.Pos, .int .i64 x.Chunk.Sum, .string x.Chunk.Bytes, .int .i64 x.Op.Kind, .int .i64 x.Op.At, .string x.Op.Bytes, .int .i64 x.Req.Client, .int .i64 x.Req.No, .int .i64 x.Code, .string x.Body]]) mixed Tryz.func11 rfl (by kernel_rfl) (Nat.le_of_ble_eq_true rfl) ?_
  repeat' ((conv => whnf); first | with_reducible refine CondK.tt ?_ | with_reducible refine CondK.ff ?_ | with_reducible refine CondK.not ?_ | refine CallK.mk _ (eqPg_a M _) ?_ | refine CallQ.mk _ (eqPg_a M _) ?_ | refine CallK.mk _ (eqVer_a M _) ?_ | refine CallQ.mk _ (eqVer_a M _) ?_ | refine CallK.mk _ (eqVer_a M _) ?_ | refine CallQ.mk _ (eqVer_a M _) ?_ | refine CallK.mk _ (eqPgState_a M x.State _ _ ⟨_, _, _, _, _, _, _, _, rfl, trivial, s0, s1, s2, s3⟩ ⟨_, _, _, _, _, _, _, _, rfl, trivial, t0, t1, t2, t3⟩) ?_ | refine CallQ.mk _ (eqPgState_a M x.State _ _ ⟨_, _, _, _, _, _, _, _, rfl, trivial, s0, s1, s2, s3⟩ ⟨_, _, _, _, _, _, _, _, rfl, trivial, t0, t1, t2, t3⟩) ?_ | refine CallK.mk _ (eqEntry_a M _) ?_ | refine CallQ.mk _ (eqEntry_a M _) ?_ | refine CallK.mk _ (eqChunk_a M _) ?_ | refine CallQ.mk _ (eqChunk_a M _) ?_ | refine CallK.mk _ (eqOp_a M _) ?_ | refine CallQ.mk _ (eqOp_a M _) ?_ | refine CallK.mk _ (eqReq_a M _) ?_ | refine CallQ.mk _ (eqReq_a M _) ?_ | (refine CondK.no' ?_ ?_; focus (simp; done)) | (refine CondK.yes' ?_ ?_; focus (simp; done)) | exact rfl)
def szMsg (x : GMsg) (left : Int) : Int := szT (szSub (left) x.Name.size) fun left => szT (szPgState x.State (left)) fun left => szT (szEntry x.Entry (left)) fun left => szT (szChunk x.Chunk (left)) fun left => szT (szOp x.Op (left)) fun left => szT (szSub (left) x.Body.size) fun left => left
theorem szMsg_a (M : Mem) (x : GMsg) (left : Int) (cs : List Value) (h : RMsg M x cs) : Ans Tryz.prog M 5 #[.agg cs.toArray, .int .i64 left] (.int .i64 (szMsg x left)) := by
  obtain ⟨A0, c0, A1, c1, A2, c2, A3, c3, rfl, hb, s0, s1, s2, s3⟩ := h
  refine ans_of T (l := [.agg #[.int .i64 x.Kind, .int .i64 x.From, .int .i64 x.To, .int .i64 x.Pg.Pool, .int .i64 x.Pg.No, .int .i64 x.Epoch, .string x.Name, .int .i64 x.Ver.Epoch, .int .i64 x.Ver.Seq, .int .i64 x.Firm.Epoch, .int .i64 x.Firm.Seq, .int .i64 x.State.Pg.Pool, .int .i64 x.State.Pg.No, .int .i64 x.State.Seen, .int .i64 x.State.Started, .int .i64 x.State.Tail.Epoch, .int .i64 x.State.Tail.Seq, .slice A0 x.State.Base.length c0, .slice A1 x.State.Clients.length c1, .slice A2 x.State.Log.length c2, .int .i64 x.State.Firm.Epoch, .int .i64 x.State.Firm.Seq, .slice A3 x.State.Chunks.length c3, .int .i64 x.Entry.Ver.Epoch, .int .i64 x.Entry.Ver.Seq, .int .i64 x.Entry.Prior.Epoch, .int .i64 x.Entry.Prior.Seq, .string x.Entry.Name, .bool x.Entry.Gone, .int .i64 x.Entry.Size, .int .i64 x.Entry.Sum, .int .i64 x.Entry.Req.Client, .int .i64 x.Entry.Req.No, .string x.Chunk.Name, .int .i64 x.Chunk.Ver.Epoch, .int .i64 x.Chunk.Ver.Seq, .int .i64 x.Chunk.Pos, .int .i64 x.Chunk.Sum, .string x.Chunk.Bytes, .int .i64 x.Op.Kind, .int .i64 x.Op.At, .string x.Op.Bytes, .int .i64 x.Req.Client, .int .i64 x.Req.No, .int .i64 x.Code, .string x.Body], .int .i64 left]) mixed Tryz.func5 rfl (by kernel_rfl) (Nat.le_of_ble_eq_true rfl) ?_
  repeat' ((conv => whnf); first | with_reducible refine CondK.tt ?_ | with_reducible refine CondK.ff ?_ | with_reducible refine CondK.not ?_ | refine CallK.mk _ (szPgState_a M x.State _ _ ⟨_, _, _, _, _, _, _, _, rfl, trivial, s0, s1, s2, s3⟩) ?_ | refine CallQ.mk _ (szPgState_a M x.State _ _ ⟨_, _, _, _, _, _, _, _, rfl, trivial, s0, s1, s2, s3⟩) ?_ | refine CallK.mk _ (szEntry_a M x.Entry _) ?_ | refine CallQ.mk _ (szEntry_a M x.Entry _) ?_ | refine CallK.mk _ (szChunk_a M x.Chunk _) ?_ | refine CallQ.mk _ (szChunk_a M x.Chunk _) ?_ | refine CallK.mk _ (szOp_a M x.Op _) ?_ | refine CallQ.mk _ (szOp_a M x.Op _) ?_ | refine CondK.mk (fun h => ?_) (fun h => ?_) | exact rfl)
  all_goals refine ret_int ?_
  all_goals (simp only [decide_eq_true_eq, decide_eq_false_iff_not] at *)
  all_goals first | (simp only [szMsg, szT, if_true, if_false, *]; done) | (simp [szMsg, szT, *]; done) | (simp [szMsg, szT, szSub, *]; done) | (unfold szMsg szT szSub; simp [*]; done) | grind [szMsg, szT, szSub]
def SmallMsg (x : GMsg) : Prop := SmallPgState x.State
theorem szMsg_ok {M : Mem} {x : GMsg} {cs : List Value} (hr : RMsg M x cs) {left : Int} (h0 : 0 ≤ left) (h1 : left ≤ 1048576) (h : 0 ≤ szMsg x left) : SmallMsg x ∧ szMsg x left ≤ 1048576 := by
  obtain ⟨A0, c0, A1, c1, A2, c2, A3, c3, rfl, hb, s0, s1, s2, s3⟩ := hr
  unfold szMsg at h ⊢
  obtain ⟨p5, h', e5⟩ := szT_ok h
  replace h := h'
  rw [e5]
  have q5 := szSub_ok h0 h1 (by simp_all) p5
  obtain ⟨p8, h', e8⟩ := szT_ok h
  replace h := h'
  rw [e8]
  have q8 := szPgState_ok (show RPgState M x.State _ from ⟨A0, c0, A1, c1, A2, c2, A3, c3, rfl, trivial, s0, s1, s2, s3⟩) p5 q5.2 p8
  obtain ⟨p9, h', e9⟩ := szT_ok h
  replace h := h'
  rw [e9]
  have q9 := szEntry_ok (show REntry M x.Entry _ from ⟨rfl, (by simp_all)⟩) p8 q8.2 p9
  obtain ⟨p10, h', e10⟩ := szT_ok h
  replace h := h'
  rw [e10]
  have q10 := szChunk_ok (show RChunk M x.Chunk _ from ⟨rfl, (by simp_all)⟩) p9 q9.2 p10
  obtain ⟨p11, h', e11⟩ := szT_ok h
  replace h := h'
  rw [e11]
  have q11 := szOp_ok (show ROp M x.Op _ from ⟨rfl, (by simp_all)⟩) p10 q10.2 p11
  obtain ⟨p14, h', e14⟩ := szT_ok h
  replace h := h'
  rw [e14]
  have q14 := szSub_ok p11 q11.2 (by simp_all) p14
  exact ⟨q8.1, q14.2⟩
theorem toMsg_a (M : Mem) (x : GMsg) (cs : List Value) (h : RMsg M x cs) (hs : SmallMsg x) : AnsR Tryz.prog M 8 #[.agg cs.toArray] (fun M' v => ∃ cs' : List Value, v = .agg cs'.toArray ∧ RMsg M' x cs') := by
  have z0 := hs
  obtain ⟨A0, c0, A1, c1, A2, c2, A3, c3, rfl, hb, s0, s1, s2, s3⟩ := h
  refine ansR_of T (l := [.agg #[.int .i64 x.Kind, .int .i64 x.From, .int .i64 x.To, .int .i64 x.Pg.Pool, .int .i64 x.Pg.No, .int .i64 x.Epoch, .string x.Name, .int .i64 x.Ver.Epoch, .int .i64 x.Ver.Seq, .int .i64 x.Firm.Epoch, .int .i64 x.Firm.Seq, .int .i64 x.State.Pg.Pool, .int .i64 x.State.Pg.No, .int .i64 x.State.Seen, .int .i64 x.State.Started, .int .i64 x.State.Tail.Epoch, .int .i64 x.State.Tail.Seq, .slice A0 x.State.Base.length c0, .slice A1 x.State.Clients.length c1, .slice A2 x.State.Log.length c2, .int .i64 x.State.Firm.Epoch, .int .i64 x.State.Firm.Seq, .slice A3 x.State.Chunks.length c3, .int .i64 x.Entry.Ver.Epoch, .int .i64 x.Entry.Ver.Seq, .int .i64 x.Entry.Prior.Epoch, .int .i64 x.Entry.Prior.Seq, .string x.Entry.Name, .bool x.Entry.Gone, .int .i64 x.Entry.Size, .int .i64 x.Entry.Sum, .int .i64 x.Entry.Req.Client, .int .i64 x.Entry.Req.No, .string x.Chunk.Name, .int .i64 x.Chunk.Ver.Epoch, .int .i64 x.Chunk.Ver.Seq, .int .i64 x.Chunk.Pos, .int .i64 x.Chunk.Sum, .string x.Chunk.Bytes, .int .i64 x.Op.Kind, .int .i64 x.Op.At, .string x.Op.Bytes, .int .i64 x.Req.Client, .int .i64 x.Req.No, .int .i64 x.Code, .string x.Body]]) mixed Tryz.func8 rfl (by kernel_rfl) (Nat.le_of_ble_eq_true rfl) ?_
  repeat' ((conv => whnf); first | with_reducible refine CondK.tt ?_ | with_reducible refine CondK.ff ?_ | with_reducible refine CondK.not ?_ | refine CallK.mk _ (toPg_a _ _) ?_ | refine CallQ.mk _ (toPg_a _ _) ?_ | refine CallK.mk _ (toVer_a _ _) ?_ | refine CallQ.mk _ (toVer_a _ _) ?_ | refine CallK.mk _ (toVer_a _ _) ?_ | refine CallQ.mk _ (toVer_a _ _) ?_ | refine CallK.mk _ (toEntry_a _ _) ?_ | refine CallQ.mk _ (toEntry_a _ _) ?_ | refine CallK.mk _ (toChunk_a _ _) ?_ | refine CallQ.mk _ (toChunk_a _ _) ?_ | refine CallK.mk _ (toOp_a _ _) ?_ | refine CallQ.mk _ (toOp_a _ _) ?_ | refine CallK.mk _ (toReq_a _ _) ?_ | refine CallQ.mk _ (toReq_a _ _) ?_ | exact rfl)
  refine CallK.mr _ (toPgState_a _ x.State _ ⟨_, _, _, _, _, _, _, _, rfl, trivial, s0, s1, s2, s3⟩ z0) (fun v1 M1 hl1 hv1 => ?_)
  obtain ⟨_, rfl, ⟨B0, d0, B1, d1, B2, d2, B3, d3, rfl, _, r0, r1, r2, r3⟩⟩ := hv1
  repeat' ((conv => whnf); first | with_reducible refine CondK.tt ?_ | with_reducible refine CondK.ff ?_ | with_reducible refine CondK.not ?_ | refine CallK.mk _ (toPg_a _ _) ?_ | refine CallQ.mk _ (toPg_a _ _) ?_ | refine CallK.mk _ (toVer_a _ _) ?_ | refine CallQ.mk _ (toVer_a _ _) ?_ | refine CallK.mk _ (toVer_a _ _) ?_ | refine CallQ.mk _ (toVer_a _ _) ?_ | refine CallK.mk _ (toEntry_a _ _) ?_ | refine CallQ.mk _ (toEntry_a _ _) ?_ | refine CallK.mk _ (toChunk_a _ _) ?_ | refine CallQ.mk _ (toChunk_a _ _) ?_ | refine CallK.mk _ (toOp_a _ _) ?_ | refine CallQ.mk _ (toOp_a _ _) ?_ | refine CallK.mk _ (toReq_a _ _) ?_ | refine CallQ.mk _ (toReq_a _ _) ?_ | exact rfl)
  exact RetK.mk fun g M' hl hg => ⟨_, rfl, _, _, _, _, _, _, _, _, rfl, hb, r0.mono hl (RHead.mono hl), r1.mono hl (RLast.mono hl), r2.mono hl (REntry.mono hl), r3.mono hl (RChunk.mono hl)⟩
theorem eqMsgS_a (M : Mem) (l : List GMsg) (A A' : Option Addr) (c c' : Nat) (h : SlR M RMsg 46 480 A c l) (h' : SlR M RMsg 46 480 A' c' l) : Ans Tryz.prog M 33 #[.slice A l.length c, .slice A' l.length c'] (.bool true) := by
  have hl := h.len
  refine ans_of T (l := [.slice A l.length c, .slice A' l.length c']) mixed Tryz.func33 rfl (by kernel_rfl) (Nat.le_of_ble_eq_true rfl) ?_
  (conv => whnf)
  refine CondK.mk (fun h1 => absurd h1 (by simp)) (fun _ => ?_)
  (conv => whnf)
  refine LoopK.mk {k : Nat // k ≤ l.length} (fun ⟨k, _⟩ => [(0, .v (.slice A l.length c)), (1, .v (.slice A' l.length c')), (5, .v (.int .i64 (k : Int)))]) (fun _ => []) (fun _ => M) (fun k => l.length - k.1) ⟨0, Nat.zero_le _⟩ ⟨⟨⟨rfl, rfl, rfl, trivial⟩, trivial, rfl, rfl⟩, rfl⟩ ?_
  rintro ⟨k, hk⟩
  (conv => whnf)
  refine CondK.mk (fun h1 => ?_) (fun h1 => ?_)
  · have hlt : k < l.length := by simpa using h1
    obtain ⟨ad, rfl, A0, c0, A1, c1, A2, c2, A3, c3, bnx, ⟨s0, s1, s2, s3⟩, x0, x1, x2, x3, x4, x5, x6, x7, x8, x9, x10, x11, x12, x13, x14, x15, x16, x17, x18, x19, x20, x21, x22, x23, x24, x25, x26, x27, x28, x29, x30, x31, x32, x33, x34, x35, x36, x37, x38, x39, x40, x41, x42, x43, x44, x45⟩ := at_Msg h (List.getElem?_eq_getElem hlt)
    obtain ⟨ad', rfl, B0, d0, B1, d1, B2, d2, B3, d3, bny, ⟨t0, t1, t2, t3⟩, y0, y1, y2, y3, y4, y5, y6, y7, y8, y9, y10, y11, y12, y13, y14, y15, y16, y17, y18, y19, y20, y21, y22, y23, y24, y25, y26, y27, y28, y29, y30, y31, y32, y33, y34, y35, y36, y37, y38, y39, y40, y41, y42, y43, y44, y45⟩ := at_Msg h' (List.getElem?_eq_getElem hlt)
    repeat' ((conv => whnf); first | with_reducible refine CondK.tt ?_ | with_reducible refine CondK.ff ?_ | with_reducible refine CondK.not ?_ | refine LdK.mk _ (by assumption) ?_ | refine IdxK.mk _ rfl (by omega) (by omega) ?_ | refine DrawN.q (by kernel_rfl) ?_ | refine CallK.mk _ (eqMsg_a M l[k] _ _ ⟨_, _, _, _, _, _, _, _, rfl, bnx, s0, s1, s2, s3⟩ ⟨_, _, _, _, _, _, _, _, rfl, bny, t0, t1, t2, t3⟩) ?_ | refine CallQ.mk _ (eqMsg_a M l[k] _ _ ⟨_, _, _, _, _, _, _, _, rfl, bnx, s0, s1, s2, s3⟩ ⟨_, _, _, _, _, _, _, _, rfl, bny, t0, t1, t2, t3⟩) ?_ | (refine CondK.no' ?_ ?_; focus (simp; done)) | (refine CondK.yes' ?_ ?_; focus (simp; done)) | exact rfl)
    exact ⟨⟨k + 1, hlt⟩, ⟨⟨rfl, rfl, look_int (i64_succ (by omega)), trivial⟩, trivial, rfl, rfl⟩, rfl, by simp; omega⟩
  · rfl
theorem szMsgS_a (M : Mem) (l : List GMsg) (left : Int) (A : Option Addr) (c : Nat) (h : SlR M RMsg 46 480 A c l) : Ans Tryz.prog M 12 #[.slice A l.length c, .int .i64 left] (.int .i64 (szL szMsg l left)) := by
  have hl := h.len
  refine ans_of T (l := [.slice A l.length c, .int .i64 left]) mixed Tryz.func12 rfl (by kernel_rfl) (Nat.le_of_ble_eq_true rfl) ?_
  (conv => whnf)
  refine CondK.mk (fun h1 => ?_) (fun h1 => ?_)
  · refine ret_int ?_
    rw [szL, if_pos (by simpa using h1)]
  have h2 : szL szMsg l left = szRun szMsg l (IntKind.i64.wrap (left - (l.length : Int))) := by rw [szL, if_neg (by simpa using h1)]
  rw [h2]
  clear h1 h2
  generalize IntKind.i64.wrap (left - (l.length : Int)) = n0
  (conv => whnf)
  refine LoopK.mk {p : Nat × Int // p.1 ≤ l.length ∧ szRun szMsg l n0 = szRun szMsg (l.drop p.1) p.2} (fun ⟨(k, n), _⟩ => [(0, .v (.slice A l.length c)), (1, .v (.int .i64 n)), (5, .v (.int .i64 (k : Int)))]) (fun _ => []) (fun _ => M) (fun p => l.length - p.1.1) ⟨(0, n0), Nat.zero_le _, rfl⟩ ⟨⟨⟨rfl, rfl, rfl, trivial⟩, trivial, rfl, rfl⟩, rfl⟩ ?_
  rintro ⟨⟨k, n⟩, hk, hn⟩
  (conv => whnf)
  refine CondK.mk (fun h1 => ?_) (fun h1 => ?_)
  · have hlt : k < l.length := by simpa using h1
    obtain ⟨ad, rfl, A0, c0, A1, c1, A2, c2, A3, c3, bnx, ⟨s0, s1, s2, s3⟩, x0, x1, x2, x3, x4, x5, x6, x7, x8, x9, x10, x11, x12, x13, x14, x15, x16, x17, x18, x19, x20, x21, x22, x23, x24, x25, x26, x27, x28, x29, x30, x31, x32, x33, x34, x35, x36, x37, x38, x39, x40, x41, x42, x43, x44, x45⟩ := at_Msg h (List.getElem?_eq_getElem hlt)
    simp only [] at hn
    rw [szRun_step hlt] at hn
    repeat' ((conv => whnf); first | with_reducible refine CondK.tt ?_ | with_reducible refine CondK.ff ?_ | with_reducible refine CondK.not ?_ | refine LdK.mk _ (by assumption) ?_ | refine IdxK.mk _ rfl (by omega) (by omega) ?_ | refine DrawN.q (by kernel_rfl) ?_ | refine CallK.mk _ (szMsg_a M l[k] n _ ⟨_, _, _, _, _, _, _, _, rfl, bnx, s0, s1, s2, s3⟩) ?_ | refine CallQ.mk _ (szMsg_a M l[k] n _ ⟨_, _, _, _, _, _, _, _, rfl, bnx, s0, s1, s2, s3⟩) ?_ | refine CondK.mk (fun h => ?_) (fun h => ?_) | exact rfl)
    · refine ret_int ?_
      rw [hn, if_pos (by simpa using h)]
    · rw [if_neg (by simpa using h)] at hn
      exact ⟨⟨(k + 1, _), hlt, hn⟩, ⟨⟨rfl, rfl, look_int (i64_succ (by omega)), trivial⟩, trivial, rfl, rfl⟩, rfl, by simp; omega⟩
  · refine ret_int ?_
    simp only [] at hn
    rw [hn, List.drop_eq_nil_of_le (by simp at h1; omega)]
    rfl
theorem toMsgS_a (M : Mem) (l : List GMsg) (A : Option Addr) (c : Nat) (h : SlR M RMsg 46 480 A c l) (hsm : l.length ≤ 1048576 ∧ ∀ y ∈ l, SmallMsg y) : AnsR Tryz.prog M 21 #[.slice A l.length c] (fun M' v => ∃ A' c', v = .slice A' l.length c' ∧ SlR M' RMsg 46 480 A' c' l) := by
  have hl := hsm.1
  refine ansR_of T (l := [.slice A l.length c]) mixed Tryz.func21 rfl (by kernel_rfl) (Nat.le_of_ble_eq_true rfl) ?_
  (conv => whnf)
  refine MkK.mk rfl (by omega) (by omega) (by show ((480 : Nat) : Int) * (l.length : Int) ≤ _; omega) ?_
  (conv => whnf)
  refine LoopK.mk (Fill M RMsg 46 l) (fun q => [(0, .v (.slice A l.length c)), (3, .s 0 l.length l.length 46), (4, .v (.int .i64 (q.css.length : Int)))]) (fun q => [(0, q.cells [.int .i64 0, .int .i64 0, .int .i64 0, .int .i64 0, .int .i64 0, .int .i64 0, .string ⟨#[]⟩, .int .i64 0, .int .i64 0, .int .i64 0, .int .i64 0, .int .i64 0, .int .i64 0, .int .i64 0, .int .i64 0, .int .i64 0, .int .i64 0, .slice none 0 0, .slice none 0 0, .slice none 0 0, .int .i64 0, .int .i64 0, .slice none 0 0, .int .i64 0, .int .i64 0, .int .i64 0, .int .i64 0, .string ⟨#[]⟩, .bool false, .int .i64 0, .int .i64 0, .int .i64 0, .int .i64 0, .string ⟨#[]⟩, .int .i64 0, .int .i64 0, .int .i64 0, .int .i64 0, .string ⟨#[]⟩, .int .i64 0, .int .i64 0, .string ⟨#[]⟩, .int .i64 0, .int .i64 0, .int .i64 0, .string ⟨#[]⟩])]) (fun q => q.M) (fun q => l.length - q.css.length) (Fill.start M RMsg 46 l) ⟨⟨⟨rfl, rfl, rfl, trivial⟩, ⟨rfl, trivial⟩, rfl, rfl⟩, rfl⟩ ?_
  intro q
  have h := h.mono q.le (RMsg.mono q.le)
  (conv => whnf)
  refine CondK.mk (fun h1 => ?_) (fun h1 => ?_)
  · have hlt : q.css.length < l.length := by simpa using h1
    have hx := List.getElem?_eq_getElem hlt
    obtain ⟨ad, rfl, A0, c0, A1, c1, A2, c2, A3, c3, bnx, ⟨s0, s1, s2, s3⟩, x0, x1, x2, x3, x4, x5, x6, x7, x8, x9, x10, x11, x12, x13, x14, x15, x16, x17, x18, x19, x20, x21, x22, x23, x24, x25, x26, x27, x28, x29, x30, x31, x32, x33, x34, x35, x36, x37, x38, x39, x40, x41, x42, x43, x44, x45⟩ := at_Msg h hx
    repeat' ((conv => whnf); first | with_reducible refine CondK.tt ?_ | with_reducible refine CondK.ff ?_ | with_reducible refine CondK.not ?_ | refine LdK.mk _ (by assumption) ?_ | refine IdxK.mk _ rfl (by omega) (by omega) ?_ | refine DrawN.q (by kernel_rfl) ?_ | refine IdxA.mk (q.css.length * 46) rfl (by omega) (by omega) ?_ | exact rfl)
    refine CallK.mr _ (toMsg_a _ l[q.css.length] _ ⟨_, _, _, _, _, _, _, _, rfl, bnx, s0, s1, s2, s3⟩ (hsm.2 _ (List.getElem_mem hlt))) (fun v M1 hl1 hv => ?_)
    obtain ⟨cs', rfl, hr⟩ := hv
    have hz : cs'.length = 46 := by obtain ⟨E0, e0, E1, e1, E2, e2, E3, e3, rfl, _⟩ := hr; rfl
    have hs := q.store hl1 (RMsg.mono hl1) hx hr hz (Z := [.int .i64 0, .int .i64 0, .int .i64 0, .int .i64 0, .int .i64 0, .int .i64 0, .string ⟨#[]⟩, .int .i64 0, .int .i64 0, .int .i64 0, .int .i64 0, .int .i64 0, .int .i64 0, .int .i64 0, .int .i64 0, .int .i64 0, .int .i64 0, .slice none 0 0, .slice none 0 0, .slice none 0 0, .int .i64 0, .int .i64 0, .slice none 0 0, .int .i64 0, .int .i64 0, .int .i64 0, .int .i64 0, .string ⟨#[]⟩, .bool false, .int .i64 0, .int .i64 0, .int .i64 0, .int .i64 0, .string ⟨#[]⟩, .int .i64 0, .int .i64 0, .int .i64 0, .int .i64 0, .string ⟨#[]⟩, .int .i64 0, .int .i64 0, .string ⟨#[]⟩, .int .i64 0, .int .i64 0, .int .i64 0, .string ⟨#[]⟩]) rfl
    have hroom := q.room1 (Z := [.int .i64 0, .int .i64 0, .int .i64 0, .int .i64 0, .int .i64 0, .int .i64 0, .string ⟨#[]⟩, .int .i64 0, .int .i64 0, .int .i64 0, .int .i64 0, .int .i64 0, .int .i64 0, .int .i64 0, .int .i64 0, .int .i64 0, .int .i64 0, .slice none 0 0, .slice none 0 0, .slice none 0 0, .int .i64 0, .int .i64 0, .slice none 0 0, .int .i64 0, .int .i64 0, .int .i64 0, .int .i64 0, .string ⟨#[]⟩, .bool false, .int .i64 0, .int .i64 0, .int .i64 0, .int .i64 0, .string ⟨#[]⟩, .int .i64 0, .int .i64 0, .int .i64 0, .int .i64 0, .string ⟨#[]⟩, .int .i64 0, .int .i64 0, .string ⟨#[]⟩, .int .i64 0, .int .i64 0, .int .i64 0, .string ⟨#[]⟩]) rfl hlt
    obtain ⟨E0, e0, E1, e1, E2, e2, E3, e3, rfl, hrb, hrs⟩ := hr
    repeat' ((conv => whnf); first | with_reducible refine CondK.tt ?_ | with_reducible refine CondK.ff ?_ | with_reducible refine CondK.not ?_ | refine IdxA.mk (q.css.length * 46) rfl (by omega) (by omega) ?_ | exact rfl)
    refine Owe.mk hroom ?_
    (conv => whnf)
    exact ⟨q.step hl1 (RMsg.mono hl1) hx ⟨_, _, _, _, _, _, _, _, rfl, hrb, hrs⟩ hz, ⟨⟨rfl, rfl, look_int ((i64_succ (by omega)).trans (by simp [Fill.step])), trivial⟩, ⟨congrArg some hs, trivial⟩, rfl, rfl⟩, rfl, by simp [Fill.step]; omega⟩
  · refine RetK.mk fun g M' hl hg => ⟨_, _, rfl, ?_⟩
    exact q.done (Z := [.int .i64 0, .int .i64 0, .int .i64 0, .int .i64 0, .int .i64 0, .int .i64 0, .string ⟨#[]⟩, .int .i64 0, .int .i64 0, .int .i64 0, .int .i64 0, .int .i64 0, .int .i64 0, .int .i64 0, .int .i64 0, .int .i64 0, .int .i64 0, .slice none 0 0, .slice none 0 0, .slice none 0 0, .int .i64 0, .int .i64 0, .slice none 0 0, .int .i64 0, .int .i64 0, .int .i64 0, .int .i64 0, .string ⟨#[]⟩, .bool false, .int .i64 0, .int .i64 0, .int .i64 0, .int .i64 0, .string ⟨#[]⟩, .int .i64 0, .int .i64 0, .int .i64 0, .int .i64 0, .string ⟨#[]⟩, .int .i64 0, .int .i64 0, .string ⟨#[]⟩, .int .i64 0, .int .i64 0, .int .i64 0, .string ⟨#[]⟩]) (by simpa using h1) (RMsg.mono hl) (hg 0 _ rfl) h.len
end Go.Proofs.YtgfccanmpdehmaaGreat.Hlp
