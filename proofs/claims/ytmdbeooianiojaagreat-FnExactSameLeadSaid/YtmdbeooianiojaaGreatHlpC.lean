/- The laws' helpers by the light walk: equal data are called equal; what a list measures; what is turned is the same. -/
import Derived.Test.YtmdbeooianiojaaGreatHlpB
namespace Go.Proofs.YtmdbeooianiojaaGreat.Hlp
open Go Go.RowKit Go.Proofs Go.Proofs.YtmdbeooianiojaaGreat.Lw
set_option linter.unusedVariables false
set_option linter.unusedSimpArgs false
set_option maxRecDepth 100000
set_option maxHeartbeats 4000000
theorem eqPgState_a (M : Mem) (x : GPgState) (cs ds : List Value) (h : RPgState M x cs) (h' : RPgState M x ds) : Ans Tryz.prog M 44 #[.agg cs.toArray, .agg ds.toArray] (.bool true) := by
  obtain ⟨A0, c0, A1, c1, A2, c2, A3, c3, rfl, hb, s0, s1, s2, s3⟩ := h
  obtain ⟨B0, d0, B1, d1, B2, d2, B3, d3, rfl, _, t0, t1, t2, t3⟩ := h'
  refine ans_of T (l := [.agg #[.int .i64 x.Pg.Pool, .int .i64 x.Pg.No, .int .i64 x.Seen, .int .i64 x.Started, .int .i64 x.Tail.Epoch, .int .i64 x.Tail.Seq, .slice A0 x.Base.length c0, .slice A1 x.Clients.length c1, .slice A2 x.Log.length c2, .int .i64 x.Firm.Epoch, .int .i64 x.Firm.Seq, .slice A3 x.Chunks.length c3], .agg #[.int .i64 x.Pg.Pool, .int .i64 x.Pg.No, .int .i64 x.Seen, .int .i64 x.Started, .int .i64 x.Tail.Epoch, .int .i64 x.Tail.Seq, .slice B0 x.Base.length d0, .slice B1 x.Clients.length d1, .slice B2 x.Log.length d2, .int .i64 x.Firm.Epoch, .int .i64 x.Firm.Seq, .slice B3 x.Chunks.length d3]]) mixed Tryz.func44 rfl (by kernel_rfl) (Nat.le_of_ble_eq_true rfl) ?_
  repeat' ((conv => whnf); first | with_reducible refine CondK.tt ?_ | with_reducible refine CondK.ff ?_ | with_reducible refine CondK.not ?_ | refine CallK.mk _ (eqPg_a M _) ?_ | refine CallQ.mk _ (eqPg_a M _) ?_ | refine CallK.mk _ (eqVer_a M _) ?_ | refine CallQ.mk _ (eqVer_a M _) ?_ | refine CallK.mk _ (eqHeadS_a M _ _ _ _ _ s0 t0) ?_ | refine CallQ.mk _ (eqHeadS_a M _ _ _ _ _ s0 t0) ?_ | refine CallK.mk _ (eqLastS_a M _ _ _ _ _ s1 t1) ?_ | refine CallQ.mk _ (eqLastS_a M _ _ _ _ _ s1 t1) ?_ | refine CallK.mk _ (eqEntryS_a M _ _ _ _ _ s2 t2) ?_ | refine CallQ.mk _ (eqEntryS_a M _ _ _ _ _ s2 t2) ?_ | refine CallK.mk _ (eqVer_a M _) ?_ | refine CallQ.mk _ (eqVer_a M _) ?_ | refine CallK.mk _ (eqChunkS_a M _ _ _ _ _ s3 t3) ?_ | refine CallQ.mk _ (eqChunkS_a M _ _ _ _ _ s3 t3) ?_ | (refine CondK.no' ?_ ?_; focus (simp; done)) | (refine CondK.yes' ?_ ?_; focus (simp; done)) | exact rfl)
def szPgState (x : GPgState) (left : Int) : Int := szT (szL szHead x.Base (left)) fun left => szT (szSub (left) x.Clients.length) fun left => szT (szL szEntry x.Log (left)) fun left => szT (szL szChunk x.Chunks (left)) fun left => left
theorem szPgState_a (M : Mem) (x : GPgState) (left : Int) (cs : List Value) (h : RPgState M x cs) : Ans Tryz.prog M 12 #[.agg cs.toArray, .int .i64 left] (.int .i64 (szPgState x left)) := by
  obtain ⟨A0, c0, A1, c1, A2, c2, A3, c3, rfl, hb, s0, s1, s2, s3⟩ := h
  refine ans_of T (l := [.agg #[.int .i64 x.Pg.Pool, .int .i64 x.Pg.No, .int .i64 x.Seen, .int .i64 x.Started, .int .i64 x.Tail.Epoch, .int .i64 x.Tail.Seq, .slice A0 x.Base.length c0, .slice A1 x.Clients.length c1, .slice A2 x.Log.length c2, .int .i64 x.Firm.Epoch, .int .i64 x.Firm.Seq, .slice A3 x.Chunks.length c3], .int .i64 left]) mixed Tryz.func12 rfl (by kernel_rfl) (Nat.le_of_ble_eq_true rfl) ?_
  repeat' ((conv => whnf); first | with_reducible refine CondK.tt ?_ | with_reducible refine CondK.ff ?_ | with_reducible refine CondK.not ?_ | refine CallK.mk _ (szHeadS_a M _ _ _ _ s0) ?_ | refine CallQ.mk _ (szHeadS_a M _ _ _ _ s0) ?_ | refine CallK.mk _ (szLastS_a M _ _ _ _ s1) ?_ | refine CallQ.mk _ (szLastS_a M _ _ _ _ s1) ?_ | refine CallK.mk _ (szEntryS_a M _ _ _ _ s2) ?_ | refine CallQ.mk _ (szEntryS_a M _ _ _ _ s2) ?_ | refine CallK.mk _ (szChunkS_a M _ _ _ _ s3) ?_ | refine CallQ.mk _ (szChunkS_a M _ _ _ _ s3) ?_ | refine CondK.mk (fun h => ?_) (fun h => ?_) | exact rfl)
  all_goals refine ret_int ?_
  all_goals (simp only [decide_eq_true_eq, decide_eq_false_iff_not] at *)
  all_goals first | (simp only [szPgState, szT, if_true, if_false, *]; done) | (simp [szPgState, szT, *]; done) | (simp [szPgState, szT, szSub, *]; done) | (unfold szPgState szT szSub; simp [*]; done) | grind [szPgState, szT, szSub]
def SmallPgState (x : GPgState) : Prop := (x.Base.length ≤ 1048576 ∧ ∀ y ∈ x.Base, True) ∧ (x.Clients.length ≤ 1048576 ∧ ∀ y ∈ x.Clients, True) ∧ (x.Log.length ≤ 1048576 ∧ ∀ y ∈ x.Log, True) ∧ (x.Chunks.length ≤ 1048576 ∧ ∀ y ∈ x.Chunks, True)
theorem szPgState_ok {M : Mem} {x : GPgState} {cs : List Value} (hr : RPgState M x cs) {left : Int} (h0 : 0 ≤ left) (h1 : left ≤ 1048576) (h : 0 ≤ szPgState x left) : SmallPgState x ∧ szPgState x left ≤ 1048576 := by
  obtain ⟨A0, c0, A1, c1, A2, c2, A3, c3, rfl, hb, s0, s1, s2, s3⟩ := hr
  unfold szPgState at h ⊢
  obtain ⟨p4, h', e4⟩ := szT_ok h
  replace h := h'
  rw [e4]
  have q4 := szL_ok s0.len (fun y hy left h0 h1 h => let ⟨_, hr⟩ := s0.each hy; szHead_ok hr h0 h1 h) h0 h1 p4
  obtain ⟨p5, h', e5⟩ := szT_ok h
  replace h := h'
  rw [e5]
  have q5 := szSub_ok p4 q4.2 s1.len p5
  obtain ⟨p6, h', e6⟩ := szT_ok h
  replace h := h'
  rw [e6]
  have q6 := szL_ok s2.len (fun y hy left h0 h1 h => let ⟨_, hr⟩ := s2.each hy; szEntry_ok hr h0 h1 h) p5 q5.2 p6
  obtain ⟨p8, h', e8⟩ := szT_ok h
  replace h := h'
  rw [e8]
  have q8 := szL_ok s3.len (fun y hy left h0 h1 h => let ⟨_, hr⟩ := s3.each hy; szChunk_ok hr h0 h1 h) p6 q6.2 p8
  exact ⟨⟨q4.1, ⟨q5.1, fun _ _ => trivial⟩, q6.1, q8.1⟩, q8.2⟩
theorem toPgState_a (M : Mem) (x : GPgState) (cs : List Value) (h : RPgState M x cs) (hs : SmallPgState x) : AnsR Tryz.prog M 26 #[.agg cs.toArray] (fun M' v => ∃ cs' : List Value, v = .agg cs'.toArray ∧ RPgState M' x cs') := by
  obtain ⟨z0, z1, z2, z3⟩ := hs
  obtain ⟨A0, c0, A1, c1, A2, c2, A3, c3, rfl, hb, s0, s1, s2, s3⟩ := h
  refine ansR_of T (l := [.agg #[.int .i64 x.Pg.Pool, .int .i64 x.Pg.No, .int .i64 x.Seen, .int .i64 x.Started, .int .i64 x.Tail.Epoch, .int .i64 x.Tail.Seq, .slice A0 x.Base.length c0, .slice A1 x.Clients.length c1, .slice A2 x.Log.length c2, .int .i64 x.Firm.Epoch, .int .i64 x.Firm.Seq, .slice A3 x.Chunks.length c3]]) mixed Tryz.func26 rfl (by kernel_rfl) (Nat.le_of_ble_eq_true rfl) ?_
  repeat' ((conv => whnf); first | with_reducible refine CondK.tt ?_ | with_reducible refine CondK.ff ?_ | with_reducible refine CondK.not ?_ | refine CallK.mk _ (toPg_a _ _) ?_ | refine CallQ.mk _ (toPg_a _ _) ?_ | refine CallK.mk _ (toVer_a _ _) ?_ | refine CallQ.mk _ (toVer_a _ _) ?_ | refine CallK.mk _ (toVer_a _ _) ?_ | refine CallQ.mk _ (toVer_a _ _) ?_ | exact rfl)
  refine CallK.mr _ (toHeadS_a _ _ _ _ s0 z0) (fun v1 M1 hl1 hv1 => ?_)
  obtain ⟨B0, d0, rfl, r0⟩ := hv1
  replace s1 := s1.mono hl1 (RLast.mono hl1)
  replace s2 := s2.mono hl1 (REntry.mono hl1)
  replace s3 := s3.mono hl1 (RChunk.mono hl1)
  repeat' ((conv => whnf); first | with_reducible refine CondK.tt ?_ | with_reducible refine CondK.ff ?_ | with_reducible refine CondK.not ?_ | refine CallK.mk _ (toPg_a _ _) ?_ | refine CallQ.mk _ (toPg_a _ _) ?_ | refine CallK.mk _ (toVer_a _ _) ?_ | refine CallQ.mk _ (toVer_a _ _) ?_ | refine CallK.mk _ (toVer_a _ _) ?_ | refine CallQ.mk _ (toVer_a _ _) ?_ | exact rfl)
  refine CallK.mr _ (toLastS_a _ _ _ _ s1 z1) (fun v2 M2 hl2 hv2 => ?_)
  obtain ⟨B1, d1, rfl, r1⟩ := hv2
  replace s2 := s2.mono hl2 (REntry.mono hl2)
  replace s3 := s3.mono hl2 (RChunk.mono hl2)
  replace r0 := r0.mono hl2 (RHead.mono hl2)
  repeat' ((conv => whnf); first | with_reducible refine CondK.tt ?_ | with_reducible refine CondK.ff ?_ | with_reducible refine CondK.not ?_ | refine CallK.mk _ (toPg_a _ _) ?_ | refine CallQ.mk _ (toPg_a _ _) ?_ | refine CallK.mk _ (toVer_a _ _) ?_ | refine CallQ.mk _ (toVer_a _ _) ?_ | refine CallK.mk _ (toVer_a _ _) ?_ | refine CallQ.mk _ (toVer_a _ _) ?_ | exact rfl)
  refine CallK.mr _ (toEntryS_a _ _ _ _ s2 z2) (fun v3 M3 hl3 hv3 => ?_)
  obtain ⟨B2, d2, rfl, r2⟩ := hv3
  replace s3 := s3.mono hl3 (RChunk.mono hl3)
  replace r0 := r0.mono hl3 (RHead.mono hl3)
  replace r1 := r1.mono hl3 (RLast.mono hl3)
  repeat' ((conv => whnf); first | with_reducible refine CondK.tt ?_ | with_reducible refine CondK.ff ?_ | with_reducible refine CondK.not ?_ | refine CallK.mk _ (toPg_a _ _) ?_ | refine CallQ.mk _ (toPg_a _ _) ?_ | refine CallK.mk _ (toVer_a _ _) ?_ | refine CallQ.mk _ (toVer_a _ _) ?_ | refine CallK.mk _ (toVer_a _ _) ?_ | refine CallQ.mk _ (toVer_a _ _) ?_ | exact rfl)
  refine CallK.mr _ (toChunkS_a _ _ _ _ s3 z3) (fun v4 M4 hl4 hv4 => ?_)
  obtain ⟨B3, d3, rfl, r3⟩ := hv4
  replace r0 := r0.mono hl4 (RHead.mono hl4)
  replace r1 := r1.mono hl4 (RLast.mono hl4)
  replace r2 := r2.mono hl4 (REntry.mono hl4)
  repeat' ((conv => whnf); first | with_reducible refine CondK.tt ?_ | with_reducible refine CondK.ff ?_ | with_reducible refine CondK.not ?_ | refine CallK.mk _ (toPg_a _ _) ?_ | refine CallQ.mk _ (toPg_a _ _) ?_ | refine CallK.mk _ (toVer_a _ _) ?_ | refine CallQ.mk _ (toVer_a _ _) ?_ | refine CallK.mk _ (toVer_a _ _) ?_ | refine CallQ.mk _ (toVer_a _ _) ?_ | exact rfl)
  exact RetK.mk fun g M' hl hg => ⟨_, rfl, _, _, _, _, _, _, _, _, rfl, hb, r0.mono hl (RHead.mono hl), r1.mono hl (RLast.mono hl), r2.mono hl (REntry.mono hl), r3.mono hl (RChunk.mono hl)⟩
theorem eqGot_a (M : Mem) (x : GGot) : Ans Tryz.prog M 112 #[.agg #[.int .i64 x.Node, .int .i64 x.Entry.Ver.Epoch, .int .i64 x.Entry.Ver.Seq, .int .i64 x.Entry.Prior.Epoch, .int .i64 x.Entry.Prior.Seq, .string x.Entry.Name, .bool x.Entry.Gone, .int .i64 x.Entry.Size, .int .i64 x.Entry.Sum, .int .i64 x.Entry.Req.Client, .int .i64 x.Entry.Req.No, .string x.Chunk.Name, .int .i64 x.Chunk.Ver.Epoch, .int .i64 x.Chunk.Ver.Seq, .int .i64 x.Chunk.Pos, .int .i64 x.Chunk.Sum, .string x.Chunk.Bytes], .agg #[.int .i64 x.Node, .int .i64 x.Entry.Ver.Epoch, .int .i64 x.Entry.Ver.Seq, .int .i64 x.Entry.Prior.Epoch, .int .i64 x.Entry.Prior.Seq, .string x.Entry.Name, .bool x.Entry.Gone, .int .i64 x.Entry.Size, .int .i64 x.Entry.Sum, .int .i64 x.Entry.Req.Client, .int .i64 x.Entry.Req.No, .string x.Chunk.Name, .int .i64 x.Chunk.Ver.Epoch, .int .i64 x.Chunk.Ver.Seq, .int .i64 x.Chunk.Pos, .int .i64 x.Chunk.Sum, .string x.Chunk.Bytes]] (.bool true) := by
  refine ans_of T (l := [.agg #[.int .i64 x.Node, .int .i64 x.Entry.Ver.Epoch, .int .i64 x.Entry.Ver.Seq, .int .i64 x.Entry.Prior.Epoch, .int .i64 x.Entry.Prior.Seq, .string x.Entry.Name, .bool x.Entry.Gone, .int .i64 x.Entry.Size, .int .i64 x.Entry.Sum, .int .i64 x.Entry.Req.Client, .int .i64 x.Entry.Req.No, .string x.Chunk.Name, .int .i64 x.Chunk.Ver.Epoch, .int .i64 x.Chunk.Ver.Seq, .int .i64 x.Chunk.Pos, .int .i64 x.Chunk.Sum, .string x.Chunk.Bytes], .agg #[.int .i64 x.Node, .int .i64 x.Entry.Ver.Epoch, .int .i64 x.Entry.Ver.Seq, .int .i64 x.Entry.Prior.Epoch, .int .i64 x.Entry.Prior.Seq, .string x.Entry.Name, .bool x.Entry.Gone, .int .i64 x.Entry.Size, .int .i64 x.Entry.Sum, .int .i64 x.Entry.Req.Client, .int .i64 x.Entry.Req.No, .string x.Chunk.Name, .int .i64 x.Chunk.Ver.Epoch, .int .i64 x.Chunk.Ver.Seq, .int .i64 x.Chunk.Pos, .int .i64 x.Chunk.Sum, .string x.Chunk.Bytes]]) mixed Tryz.func112 rfl (by kernel_rfl) (Nat.le_of_ble_eq_true rfl) ?_
  repeat' ((conv => whnf); first | with_reducible refine CondK.tt ?_ | with_reducible refine CondK.ff ?_ | with_reducible refine CondK.not ?_ | refine CallK.mk _ (eqEntry_a M _) ?_ | refine CallQ.mk _ (eqEntry_a M _) ?_ | refine CallK.mk _ (eqChunk_a M _) ?_ | refine CallQ.mk _ (eqChunk_a M _) ?_ | (refine CondK.no' ?_ ?_; focus (simp; done)) | (refine CondK.yes' ?_ ?_; focus (simp; done)) | exact rfl)
def szGot (x : GGot) (left : Int) : Int := szT (szEntry x.Entry (left)) fun left => szT (szChunk x.Chunk (left)) fun left => left
theorem szGot_a (M : Mem) (x : GGot) (left : Int) : Ans Tryz.prog M 110 #[.agg #[.int .i64 x.Node, .int .i64 x.Entry.Ver.Epoch, .int .i64 x.Entry.Ver.Seq, .int .i64 x.Entry.Prior.Epoch, .int .i64 x.Entry.Prior.Seq, .string x.Entry.Name, .bool x.Entry.Gone, .int .i64 x.Entry.Size, .int .i64 x.Entry.Sum, .int .i64 x.Entry.Req.Client, .int .i64 x.Entry.Req.No, .string x.Chunk.Name, .int .i64 x.Chunk.Ver.Epoch, .int .i64 x.Chunk.Ver.Seq, .int .i64 x.Chunk.Pos, .int .i64 x.Chunk.Sum, .string x.Chunk.Bytes], .int .i64 left] (.int .i64 (szGot x left)) := by
  refine ans_of T (l := [.agg #[.int .i64 x.Node, .int .i64 x.Entry.Ver.Epoch, .int .i64 x.Entry.Ver.Seq, .int .i64 x.Entry.Prior.Epoch, .int .i64 x.Entry.Prior.Seq, .string x.Entry.Name, .bool x.Entry.Gone, .int .i64 x.Entry.Size, .int .i64 x.Entry.Sum, .int .i64 x.Entry.Req.Client, .int .i64 x.Entry.Req.No, .string x.Chunk.Name, .int .i64 x.Chunk.Ver.Epoch, .int .i64 x.Chunk.Ver.Seq, .int .i64 x.Chunk.Pos, .int .i64 x.Chunk.Sum, .string x.Chunk.Bytes], .int .i64 left]) mixed Tryz.func110 rfl (by kernel_rfl) (Nat.le_of_ble_eq_true rfl) ?_
  repeat' ((conv => whnf); first | with_reducible refine CondK.tt ?_ | with_reducible refine CondK.ff ?_ | with_reducible refine CondK.not ?_ | refine CallK.mk _ (szEntry_a M x.Entry _) ?_ | refine CallQ.mk _ (szEntry_a M x.Entry _) ?_ | refine CallK.mk _ (szChunk_a M x.Chunk _) ?_ | refine CallQ.mk _ (szChunk_a M x.Chunk _) ?_ | refine CondK.mk (fun h => ?_) (fun h => ?_) | exact rfl)
  all_goals refine ret_int ?_
  all_goals (simp only [decide_eq_true_eq, decide_eq_false_iff_not] at *)
  all_goals first | (simp only [szGot, szT, if_true, if_false, *]; done) | (simp [szGot, szT, *]; done) | (simp [szGot, szT, szSub, *]; done) | (unfold szGot szT szSub; simp [*]; done) | grind [szGot, szT, szSub]
theorem szGot_ok {M : Mem} {x : GGot} {cs : List Value} (hr : RGot M x cs) {left : Int} (h0 : 0 ≤ left) (h1 : left ≤ 1048576) (h : 0 ≤ szGot x left) : True ∧ szGot x left ≤ 1048576 := by
  obtain ⟨rfl, hb⟩ := hr
  unfold szGot at h ⊢
  obtain ⟨p1, h', e1⟩ := szT_ok h
  replace h := h'
  rw [e1]
  have q1 := szEntry_ok (show REntry M x.Entry _ from ⟨rfl, (by simp_all)⟩) h0 h1 p1
  obtain ⟨p2, h', e2⟩ := szT_ok h
  replace h := h'
  rw [e2]
  have q2 := szChunk_ok (show RChunk M x.Chunk _ from ⟨rfl, (by simp_all)⟩) p1 q1.2 p2
  exact ⟨trivial, q2.2⟩
theorem toGot_a (M : Mem) (x : GGot) : Ans Tryz.prog M 111 #[.agg #[.int .i64 x.Node, .int .i64 x.Entry.Ver.Epoch, .int .i64 x.Entry.Ver.Seq, .int .i64 x.Entry.Prior.Epoch, .int .i64 x.Entry.Prior.Seq, .string x.Entry.Name, .bool x.Entry.Gone, .int .i64 x.Entry.Size, .int .i64 x.Entry.Sum, .int .i64 x.Entry.Req.Client, .int .i64 x.Entry.Req.No, .string x.Chunk.Name, .int .i64 x.Chunk.Ver.Epoch, .int .i64 x.Chunk.Ver.Seq, .int .i64 x.Chunk.Pos, .int .i64 x.Chunk.Sum, .string x.Chunk.Bytes]] (.agg #[.int .i64 x.Node, .int .i64 x.Entry.Ver.Epoch, .int .i64 x.Entry.Ver.Seq, .int .i64 x.Entry.Prior.Epoch, .int .i64 x.Entry.Prior.Seq, .string x.Entry.Name, .bool x.Entry.Gone, .int .i64 x.Entry.Size, .int .i64 x.Entry.Sum, .int .i64 x.Entry.Req.Client, .int .i64 x.Entry.Req.No, .string x.Chunk.Name, .int .i64 x.Chunk.Ver.Epoch, .int .i64 x.Chunk.Ver.Seq, .int .i64 x.Chunk.Pos, .int .i64 x.Chunk.Sum, .string x.Chunk.Bytes]) := by
  refine ans_of T (l := [.agg #[.int .i64 x.Node, .int .i64 x.Entry.Ver.Epoch, .int .i64 x.Entry.Ver.Seq, .int .i64 x.Entry.Prior.Epoch, .int .i64 x.Entry.Prior.Seq, .string x.Entry.Name, .bool x.Entry.Gone, .int .i64 x.Entry.Size, .int .i64 x.Entry.Sum, .int .i64 x.Entry.Req.Client, .int .i64 x.Entry.Req.No, .string x.Chunk.Name, .int .i64 x.Chunk.Ver.Epoch, .int .i64 x.Chunk.Ver.Seq, .int .i64 x.Chunk.Pos, .int .i64 x.Chunk.Sum, .string x.Chunk.Bytes]]) mixed Tryz.func111 rfl (by kernel_rfl) (Nat.le_of_ble_eq_true rfl) ?_
  repeat' ((conv => whnf); first | with_reducible refine CondK.tt ?_ | with_reducible refine CondK.ff ?_ | with_reducible refine CondK.not ?_ | refine CallK.mk _ (toEntry_a M _) ?_ | refine CallQ.mk _ (toEntry_a M _) ?_ | refine CallK.mk _ (toChunk_a M _) ?_ | refine CallQ.mk _ (toChunk_a M _) ?_ | exact rfl)
theorem eqGotS_a (M : Mem) (l : List GGot) (A A' : Option Addr) (c c' : Nat) (h : SlR M RGot 17 160 A c l) (h' : SlR M RGot 17 160 A' c' l) : Ans Tryz.prog M 109 #[.slice A l.length c, .slice A' l.length c'] (.bool true) := by
  have hl := h.len
  refine ans_of T (l := [.slice A l.length c, .slice A' l.length c']) mixed Tryz.func109 rfl (by kernel_rfl) (Nat.le_of_ble_eq_true rfl) ?_
  (conv => whnf)
  refine CondK.mk (fun h1 => absurd h1 (by simp)) (fun _ => ?_)
  (conv => whnf)
  refine LoopK.mk {k : Nat // k ≤ l.length} (fun ⟨k, _⟩ => [(0, .v (.slice A l.length c)), (1, .v (.slice A' l.length c')), (5, .v (.int .i64 (k : Int)))]) (fun _ => []) (fun _ => M) (fun k => l.length - k.1) ⟨0, Nat.zero_le _⟩ ⟨⟨⟨rfl, rfl, rfl, trivial⟩, trivial, rfl, rfl⟩, rfl⟩ ?_
  rintro ⟨k, hk⟩
  (conv => whnf)
  refine CondK.mk (fun h1 => ?_) (fun h1 => ?_)
  · have hlt : k < l.length := by simpa using h1
    obtain ⟨ad, rfl, bnx, x0, x1, x2, x3, x4, x5, x6, x7, x8, x9, x10, x11, x12, x13, x14, x15, x16⟩ := at_Got h (List.getElem?_eq_getElem hlt)
    obtain ⟨ad', rfl, bny, y0, y1, y2, y3, y4, y5, y6, y7, y8, y9, y10, y11, y12, y13, y14, y15, y16⟩ := at_Got h' (List.getElem?_eq_getElem hlt)
    repeat' ((conv => whnf); first | with_reducible refine CondK.tt ?_ | with_reducible refine CondK.ff ?_ | with_reducible refine CondK.not ?_ | refine LdK.mk _ (by assumption) ?_ | refine IdxK.mk _ rfl (by omega) (by omega) ?_ | refine DrawN.q (by kernel_rfl) ?_ | refine CallK.mk _ (eqGot_a M l[k]) ?_ | refine CallQ.mk _ (eqGot_a M l[k]) ?_ | (refine CondK.no' ?_ ?_; focus (simp; done)) | (refine CondK.yes' ?_ ?_; focus (simp; done)) | exact rfl)
    exact ⟨⟨k + 1, hlt⟩, ⟨⟨rfl, rfl, look_int (i64_succ (by omega)), trivial⟩, trivial, rfl, rfl⟩, rfl, by simp; omega⟩
  · rfl
theorem szGotS_a (M : Mem) (l : List GGot) (left : Int) (A : Option Addr) (c : Nat) (h : SlR M RGot 17 160 A c l) : Ans Tryz.prog M 105 #[.slice A l.length c, .int .i64 left] (.int .i64 (szL szGot l left)) := by
  have hl := h.len
  refine ans_of T (l := [.slice A l.length c, .int .i64 left]) mixed Tryz.func105 rfl (by kernel_rfl) (Nat.le_of_ble_eq_true rfl) ?_
  (conv => whnf)
  refine CondK.mk (fun h1 => ?_) (fun h1 => ?_)
  · refine ret_int ?_
    rw [szL, if_pos (by simpa using h1)]
  have h2 : szL szGot l left = szRun szGot l (IntKind.i64.wrap (left - (l.length : Int))) := by rw [szL, if_neg (by simpa using h1)]
  rw [h2]
  clear h1 h2
  generalize IntKind.i64.wrap (left - (l.length : Int)) = n0
  (conv => whnf)
  refine LoopK.mk {p : Nat × Int // p.1 ≤ l.length ∧ szRun szGot l n0 = szRun szGot (l.drop p.1) p.2} (fun ⟨(k, n), _⟩ => [(0, .v (.slice A l.length c)), (1, .v (.int .i64 n)), (5, .v (.int .i64 (k : Int)))]) (fun _ => []) (fun _ => M) (fun p => l.length - p.1.1) ⟨(0, n0), Nat.zero_le _, rfl⟩ ⟨⟨⟨rfl, rfl, rfl, trivial⟩, trivial, rfl, rfl⟩, rfl⟩ ?_
  rintro ⟨⟨k, n⟩, hk, hn⟩
  (conv => whnf)
  refine CondK.mk (fun h1 => ?_) (fun h1 => ?_)
  · have hlt : k < l.length := by simpa using h1
    obtain ⟨ad, rfl, bnx, x0, x1, x2, x3, x4, x5, x6, x7, x8, x9, x10, x11, x12, x13, x14, x15, x16⟩ := at_Got h (List.getElem?_eq_getElem hlt)
    simp only [] at hn
    rw [szRun_step hlt] at hn
    repeat' ((conv => whnf); first | with_reducible refine CondK.tt ?_ | with_reducible refine CondK.ff ?_ | with_reducible refine CondK.not ?_ | refine LdK.mk _ (by assumption) ?_ | refine IdxK.mk _ rfl (by omega) (by omega) ?_ | refine DrawN.q (by kernel_rfl) ?_ | refine CallK.mk _ (szGot_a M l[k] n) ?_ | refine CallQ.mk _ (szGot_a M l[k] n) ?_ | refine CondK.mk (fun h => ?_) (fun h => ?_) | exact rfl)
    · refine ret_int ?_
      rw [hn, if_pos (by simpa using h)]
    · rw [if_neg (by simpa using h)] at hn
      exact ⟨⟨(k + 1, _), hlt, hn⟩, ⟨⟨rfl, rfl, look_int (i64_succ (by omega)), trivial⟩, trivial, rfl, rfl⟩, rfl, by simp; omega⟩
  · refine ret_int ?_
    simp only [] at hn
    rw [hn, List.drop_eq_nil_of_le (by simp at h1; omega)]
    rfl
theorem toGotS_a (M : Mem) (l : List GGot) (A : Option Addr) (c : Nat) (h : SlR M RGot 17 160 A c l) (hsm : l.length ≤ 1048576 ∧ ∀ y ∈ l, True) : AnsR Tryz.prog M 107 #[.slice A l.length c] (fun M' v => ∃ A' c', v = .slice A' l.length c' ∧ SlR M' RGot 17 160 A' c' l) := by
  have hl := hsm.1
  refine ansR_of T (l := [.slice A l.length c]) mixed Tryz.func107 rfl (by kernel_rfl) (Nat.le_of_ble_eq_true rfl) ?_
  (conv => whnf)
  refine MkK.mk rfl (by omega) (by omega) (by show ((160 : Nat) : Int) * (l.length : Int) ≤ _; omega) ?_
  (conv => whnf)
  refine LoopK.mk (Fill M RGot 17 l) (fun q => [(0, .v (.slice A l.length c)), (3, .s 0 l.length l.length 17), (4, .v (.int .i64 (q.css.length : Int)))]) (fun q => [(0, q.cells [.int .i64 0, .int .i64 0, .int .i64 0, .int .i64 0, .int .i64 0, .string ⟨#[]⟩, .bool false, .int .i64 0, .int .i64 0, .int .i64 0, .int .i64 0, .string ⟨#[]⟩, .int .i64 0, .int .i64 0, .int .i64 0, .int .i64 0, .string ⟨#[]⟩])]) (fun q => q.M) (fun q => l.length - q.css.length) (Fill.start M RGot 17 l) ⟨⟨⟨rfl, rfl, rfl, trivial⟩, ⟨rfl, trivial⟩, rfl, rfl⟩, rfl⟩ ?_
  intro q
  have h := h.mono q.le (RGot.mono q.le)
  (conv => whnf)
  refine CondK.mk (fun h1 => ?_) (fun h1 => ?_)
  · have hlt : q.css.length < l.length := by simpa using h1
    have hx := List.getElem?_eq_getElem hlt
    obtain ⟨ad, rfl, bnx, x0, x1, x2, x3, x4, x5, x6, x7, x8, x9, x10, x11, x12, x13, x14, x15, x16⟩ := at_Got h hx
    repeat' ((conv => whnf); first | with_reducible refine CondK.tt ?_ | with_reducible refine CondK.ff ?_ | with_reducible refine CondK.not ?_ | refine LdK.mk _ (by assumption) ?_ | refine IdxK.mk _ rfl (by omega) (by omega) ?_ | refine DrawN.q (by kernel_rfl) ?_ | refine IdxA.mk (q.css.length * 17) rfl (by omega) (by omega) ?_ | refine CallK.mk _ (toGot_a _ l[q.css.length]) ?_ | refine CallQ.mk _ (toGot_a _ l[q.css.length]) ?_ | exact rfl)
    have hs := q.store (Le.refl _) (fun _ _ h => h) hx ⟨rfl, bnx⟩ rfl (Z := [.int .i64 0, .int .i64 0, .int .i64 0, .int .i64 0, .int .i64 0, .string ⟨#[]⟩, .bool false, .int .i64 0, .int .i64 0, .int .i64 0, .int .i64 0, .string ⟨#[]⟩, .int .i64 0, .int .i64 0, .int .i64 0, .int .i64 0, .string ⟨#[]⟩]) rfl
    have hroom := q.room1 (Z := [.int .i64 0, .int .i64 0, .int .i64 0, .int .i64 0, .int .i64 0, .string ⟨#[]⟩, .bool false, .int .i64 0, .int .i64 0, .int .i64 0, .int .i64 0, .string ⟨#[]⟩, .int .i64 0, .int .i64 0, .int .i64 0, .int .i64 0, .string ⟨#[]⟩]) rfl hlt
    refine Owe.mk hroom ?_
    (conv => whnf)
    exact ⟨q.step (Le.refl _) (fun _ _ h => h) hx ⟨rfl, bnx⟩ rfl, ⟨⟨rfl, rfl, look_int ((i64_succ (by omega)).trans (by simp [Fill.step])), trivial⟩, ⟨congrArg some hs, trivial⟩, rfl, rfl⟩, rfl, by simp [Fill.step]; omega⟩
  · refine RetK.mk fun g M' hl hg => ⟨_, _, rfl, ?_⟩
    exact q.done (Z := [.int .i64 0, .int .i64 0, .int .i64 0, .int .i64 0, .int .i64 0, .string ⟨#[]⟩, .bool false, .int .i64 0, .int .i64 0, .int .i64 0, .int .i64 0, .string ⟨#[]⟩, .int .i64 0, .int .i64 0, .int .i64 0, .int .i64 0, .string ⟨#[]⟩]) (by simpa using h1) (RGot.mono hl) (hg 0 _ rfl) h.len
theorem eqWait_a (M : Mem) (x : GWait) (cs ds : List Value) (h : RWait M x cs) (h' : RWait M x ds) : Ans Tryz.prog M 104 #[.agg cs.toArray, .agg ds.toArray] (.bool true) := by
  obtain ⟨A0, c0, rfl, hb, s0⟩ := h
  obtain ⟨B0, d0, rfl, _, t0⟩ := h'
  refine ans_of T (l := [.agg #[.int .i64 x.Req.Client, .int .i64 x.Req.No, .string x.Name, .int .i64 x.Ver.Epoch, .int .i64 x.Ver.Seq, .slice A0 x.Got.length c0], .agg #[.int .i64 x.Req.Client, .int .i64 x.Req.No, .string x.Name, .int .i64 x.Ver.Epoch, .int .i64 x.Ver.Seq, .slice B0 x.Got.length d0]]) mixed Tryz.func104 rfl (by kernel_rfl) (Nat.le_of_ble_eq_true rfl) ?_
  repeat' ((conv => whnf); first | with_reducible refine CondK.tt ?_ | with_reducible refine CondK.ff ?_ | with_reducible refine CondK.not ?_ | refine CallK.mk _ (eqReq_a M _) ?_ | refine CallQ.mk _ (eqReq_a M _) ?_ | refine CallK.mk _ (eqVer_a M _) ?_ | refine CallQ.mk _ (eqVer_a M _) ?_ | refine CallK.mk _ (eqGotS_a M _ _ _ _ _ s0 t0) ?_ | refine CallQ.mk _ (eqGotS_a M _ _ _ _ _ s0 t0) ?_ | (refine CondK.no' ?_ ?_; focus (simp; done)) | (refine CondK.yes' ?_ ?_; focus (simp; done)) | exact rfl)
def szWait (x : GWait) (left : Int) : Int := szT (szSub (left) x.Name.size) fun left => szT (szL szGot x.Got (left)) fun left => left
theorem szWait_a (M : Mem) (x : GWait) (left : Int) (cs : List Value) (h : RWait M x cs) : Ans Tryz.prog M 91 #[.agg cs.toArray, .int .i64 left] (.int .i64 (szWait x left)) := by
  obtain ⟨A0, c0, rfl, hb, s0⟩ := h
  refine ans_of T (l := [.agg #[.int .i64 x.Req.Client, .int .i64 x.Req.No, .string x.Name, .int .i64 x.Ver.Epoch, .int .i64 x.Ver.Seq, .slice A0 x.Got.length c0], .int .i64 left]) mixed Tryz.func91 rfl (by kernel_rfl) (Nat.le_of_ble_eq_true rfl) ?_
  repeat' ((conv => whnf); first | with_reducible refine CondK.tt ?_ | with_reducible refine CondK.ff ?_ | with_reducible refine CondK.not ?_ | refine CallK.mk _ (szGotS_a M _ _ _ _ s0) ?_ | refine CallQ.mk _ (szGotS_a M _ _ _ _ s0) ?_ | refine CondK.mk (fun h => ?_) (fun h => ?_) | exact rfl)
  all_goals refine ret_int ?_
  all_goals (simp only [decide_eq_true_eq, decide_eq_false_iff_not] at *)
  all_goals first | (simp only [szWait, szT, if_true, if_false, *]; done) | (simp [szWait, szT, *]; done) | (simp [szWait, szT, szSub, *]; done) | (unfold szWait szT szSub; simp [*]; done) | grind [szWait, szT, szSub]
def SmallWait (x : GWait) : Prop := (x.Got.length ≤ 1048576 ∧ ∀ y ∈ x.Got, True)
theorem szWait_ok {M : Mem} {x : GWait} {cs : List Value} (hr : RWait M x cs) {left : Int} (h0 : 0 ≤ left) (h1 : left ≤ 1048576) (h : 0 ≤ szWait x left) : SmallWait x ∧ szWait x left ≤ 1048576 := by
  obtain ⟨A0, c0, rfl, hb, s0⟩ := hr
  unfold szWait at h ⊢
  obtain ⟨p1, h', e1⟩ := szT_ok h
  replace h := h'
  rw [e1]
  have q1 := szSub_ok h0 h1 (by simp_all) p1
  obtain ⟨p3, h', e3⟩ := szT_ok h
  replace h := h'
  rw [e3]
  have q3 := szL_ok s0.len (fun y hy left h0 h1 h => let ⟨_, hr⟩ := s0.each hy; szGot_ok hr h0 h1 h) p1 q1.2 p3
  exact ⟨q3.1, q3.2⟩
theorem toWait_a (M : Mem) (x : GWait) (cs : List Value) (h : RWait M x cs) (hs : SmallWait x) : AnsR Tryz.prog M 97 #[.agg cs.toArray] (fun M' v => ∃ cs' : List Value, v = .agg cs'.toArray ∧ RWait M' x cs') := by
  have z0 := hs
  obtain ⟨A0, c0, rfl, hb, s0⟩ := h
  refine ansR_of T (l := [.agg #[.int .i64 x.Req.Client, .int .i64 x.Req.No, .string x.Name, .int .i64 x.Ver.Epoch, .int .i64 x.Ver.Seq, .slice A0 x.Got.length c0]]) mixed Tryz.func97 rfl (by kernel_rfl) (Nat.le_of_ble_eq_true rfl) ?_
  repeat' ((conv => whnf); first | with_reducible refine CondK.tt ?_ | with_reducible refine CondK.ff ?_ | with_reducible refine CondK.not ?_ | refine CallK.mk _ (toReq_a _ _) ?_ | refine CallQ.mk _ (toReq_a _ _) ?_ | refine CallK.mk _ (toVer_a _ _) ?_ | refine CallQ.mk _ (toVer_a _ _) ?_ | exact rfl)
  refine CallK.mr _ (toGotS_a _ _ _ _ s0 z0) (fun v1 M1 hl1 hv1 => ?_)
  obtain ⟨B0, d0, rfl, r0⟩ := hv1
  repeat' ((conv => whnf); first | with_reducible refine CondK.tt ?_ | with_reducible refine CondK.ff ?_ | with_reducible refine CondK.not ?_ | refine CallK.mk _ (toReq_a _ _) ?_ | refine CallQ.mk _ (toReq_a _ _) ?_ | refine CallK.mk _ (toVer_a _ _) ?_ | refine CallQ.mk _ (toVer_a _ _) ?_ | exact rfl)
  exact RetK.mk fun g M' hl hg => ⟨_, rfl, _, _, rfl, hb, r0.mono hl (RGot.mono hl)⟩
theorem eqWaitS_a (M : Mem) (l : List GWait) (A A' : Option Addr) (c c' : Nat) (h : SlR M RWait 6 72 A c l) (h' : SlR M RWait 6 72 A' c' l) : Ans Tryz.prog M 87 #[.slice A l.length c, .slice A' l.length c'] (.bool true) := by
  have hl := h.len
  refine ans_of T (l := [.slice A l.length c, .slice A' l.length c']) mixed Tryz.func87 rfl (by kernel_rfl) (Nat.le_of_ble_eq_true rfl) ?_
  (conv => whnf)
  refine CondK.mk (fun h1 => absurd h1 (by simp)) (fun _ => ?_)
  (conv => whnf)
  refine LoopK.mk {k : Nat // k ≤ l.length} (fun ⟨k, _⟩ => [(0, .v (.slice A l.length c)), (1, .v (.slice A' l.length c')), (5, .v (.int .i64 (k : Int)))]) (fun _ => []) (fun _ => M) (fun k => l.length - k.1) ⟨0, Nat.zero_le _⟩ ⟨⟨⟨rfl, rfl, rfl, trivial⟩, trivial, rfl, rfl⟩, rfl⟩ ?_
  rintro ⟨k, hk⟩
  (conv => whnf)
  refine CondK.mk (fun h1 => ?_) (fun h1 => ?_)
  · have hlt : k < l.length := by simpa using h1
    obtain ⟨ad, rfl, A0, c0, bnx, s0, x0, x1, x2, x3, x4, x5⟩ := at_Wait h (List.getElem?_eq_getElem hlt)
    obtain ⟨ad', rfl, B0, d0, bny, t0, y0, y1, y2, y3, y4, y5⟩ := at_Wait h' (List.getElem?_eq_getElem hlt)
    repeat' ((conv => whnf); first | with_reducible refine CondK.tt ?_ | with_reducible refine CondK.ff ?_ | with_reducible refine CondK.not ?_ | refine LdK.mk _ (by assumption) ?_ | refine IdxK.mk _ rfl (by omega) (by omega) ?_ | refine DrawN.q (by kernel_rfl) ?_ | refine CallK.mk _ (eqWait_a M l[k] _ _ ⟨_, _, rfl, bnx, s0⟩ ⟨_, _, rfl, bny, t0⟩) ?_ | refine CallQ.mk _ (eqWait_a M l[k] _ _ ⟨_, _, rfl, bnx, s0⟩ ⟨_, _, rfl, bny, t0⟩) ?_ | (refine CondK.no' ?_ ?_; focus (simp; done)) | (refine CondK.yes' ?_ ?_; focus (simp; done)) | exact rfl)
    exact ⟨⟨k + 1, hlt⟩, ⟨⟨rfl, rfl, look_int (i64_succ (by omega)), trivial⟩, trivial, rfl, rfl⟩, rfl, by simp; omega⟩
  · rfl
theorem szWaitS_a (M : Mem) (l : List GWait) (left : Int) (A : Option Addr) (c : Nat) (h : SlR M RWait 6 72 A c l) : Ans Tryz.prog M 57 #[.slice A l.length c, .int .i64 left] (.int .i64 (szL szWait l left)) := by
  have hl := h.len
  refine ans_of T (l := [.slice A l.length c, .int .i64 left]) mixed Tryz.func57 rfl (by kernel_rfl) (Nat.le_of_ble_eq_true rfl) ?_
  (conv => whnf)
  refine CondK.mk (fun h1 => ?_) (fun h1 => ?_)
  · refine ret_int ?_
    rw [szL, if_pos (by simpa using h1)]
  have h2 : szL szWait l left = szRun szWait l (IntKind.i64.wrap (left - (l.length : Int))) := by rw [szL, if_neg (by simpa using h1)]
  rw [h2]
  clear h1 h2
  generalize IntKind.i64.wrap (left - (l.length : Int)) = n0
  (conv => whnf)
  refine LoopK.mk {p : Nat × Int // p.1 ≤ l.length ∧ szRun szWait l n0 = szRun szWait (l.drop p.1) p.2} (fun ⟨(k, n), _⟩ => [(0, .v (.slice A l.length c)), (1, .v (.int .i64 n)), (5, .v (.int .i64 (k : Int)))]) (fun _ => []) (fun _ => M) (fun p => l.length - p.1.1) ⟨(0, n0), Nat.zero_le _, rfl⟩ ⟨⟨⟨rfl, rfl, rfl, trivial⟩, trivial, rfl, rfl⟩, rfl⟩ ?_
  rintro ⟨⟨k, n⟩, hk, hn⟩
  (conv => whnf)
  refine CondK.mk (fun h1 => ?_) (fun h1 => ?_)
  · have hlt : k < l.length := by simpa using h1
    obtain ⟨ad, rfl, A0, c0, bnx, s0, x0, x1, x2, x3, x4, x5⟩ := at_Wait h (List.getElem?_eq_getElem hlt)
    simp only [] at hn
    rw [szRun_step hlt] at hn
    repeat' ((conv => whnf); first | with_reducible refine CondK.tt ?_ | with_reducible refine CondK.ff ?_ | with_reducible refine CondK.not ?_ | refine LdK.mk _ (by assumption) ?_ | refine IdxK.mk _ rfl (by omega) (by omega) ?_ | refine DrawN.q (by kernel_rfl) ?_ | refine CallK.mk _ (szWait_a M l[k] n _ ⟨_, _, rfl, bnx, s0⟩) ?_ | refine CallQ.mk _ (szWait_a M l[k] n _ ⟨_, _, rfl, bnx, s0⟩) ?_ | refine CondK.mk (fun h => ?_) (fun h => ?_) | exact rfl)
    · refine ret_int ?_
      rw [hn, if_pos (by simpa using h)]
    · rw [if_neg (by simpa using h)] at hn
      exact ⟨⟨(k + 1, _), hlt, hn⟩, ⟨⟨rfl, rfl, look_int (i64_succ (by omega)), trivial⟩, trivial, rfl, rfl⟩, rfl, by simp; omega⟩
  · refine ret_int ?_
    simp only [] at hn
    rw [hn, List.drop_eq_nil_of_le (by simp at h1; omega)]
    rfl
theorem toWaitS_a (M : Mem) (l : List GWait) (A : Option Addr) (c : Nat) (h : SlR M RWait 6 72 A c l) (hsm : l.length ≤ 1048576 ∧ ∀ y ∈ l, SmallWait y) : AnsR Tryz.prog M 69 #[.slice A l.length c] (fun M' v => ∃ A' c', v = .slice A' l.length c' ∧ SlR M' RWait 6 72 A' c' l) := by
  have hl := hsm.1
  refine ansR_of T (l := [.slice A l.length c]) mixed Tryz.func69 rfl (by kernel_rfl) (Nat.le_of_ble_eq_true rfl) ?_
  (conv => whnf)
  refine MkK.mk rfl (by omega) (by omega) (by show ((72 : Nat) : Int) * (l.length : Int) ≤ _; omega) ?_
  (conv => whnf)
  refine LoopK.mk (Fill M RWait 6 l) (fun q => [(0, .v (.slice A l.length c)), (3, .s 0 l.length l.length 6), (4, .v (.int .i64 (q.css.length : Int)))]) (fun q => [(0, q.cells [.int .i64 0, .int .i64 0, .string ⟨#[]⟩, .int .i64 0, .int .i64 0, .slice none 0 0])]) (fun q => q.M) (fun q => l.length - q.css.length) (Fill.start M RWait 6 l) ⟨⟨⟨rfl, rfl, rfl, trivial⟩, ⟨rfl, trivial⟩, rfl, rfl⟩, rfl⟩ ?_
  intro q
  have h := h.mono q.le (RWait.mono q.le)
  (conv => whnf)
  refine CondK.mk (fun h1 => ?_) (fun h1 => ?_)
  · have hlt : q.css.length < l.length := by simpa using h1
    have hx := List.getElem?_eq_getElem hlt
    obtain ⟨ad, rfl, A0, c0, bnx, s0, x0, x1, x2, x3, x4, x5⟩ := at_Wait h hx
    repeat' ((conv => whnf); first | with_reducible refine CondK.tt ?_ | with_reducible refine CondK.ff ?_ | with_reducible refine CondK.not ?_ | refine LdK.mk _ (by assumption) ?_ | refine IdxK.mk _ rfl (by omega) (by omega) ?_ | refine DrawN.q (by kernel_rfl) ?_ | refine IdxA.mk (q.css.length * 6) rfl (by omega) (by omega) ?_ | exact rfl)
    refine CallK.mr _ (toWait_a _ l[q.css.length] _ ⟨_, _, rfl, bnx, s0⟩ (hsm.2 _ (List.getElem_mem hlt))) (fun v M1 hl1 hv => ?_)
    obtain ⟨cs', rfl, hr⟩ := hv
    have hz : cs'.length = 6 := by obtain ⟨E0, e0, rfl, _⟩ := hr; rfl
    have hs := q.store hl1 (RWait.mono hl1) hx hr hz (Z := [.int .i64 0, .int .i64 0, .string ⟨#[]⟩, .int .i64 0, .int .i64 0, .slice none 0 0]) rfl
    have hroom := q.room1 (Z := [.int .i64 0, .int .i64 0, .string ⟨#[]⟩, .int .i64 0, .int .i64 0, .slice none 0 0]) rfl hlt
    obtain ⟨E0, e0, rfl, hrb, hrs⟩ := hr
    repeat' ((conv => whnf); first | with_reducible refine CondK.tt ?_ | with_reducible refine CondK.ff ?_ | with_reducible refine CondK.not ?_ | refine IdxA.mk (q.css.length * 6) rfl (by omega) (by omega) ?_ | exact rfl)
    refine Owe.mk hroom ?_
    (conv => whnf)
    exact ⟨q.step hl1 (RWait.mono hl1) hx ⟨_, _, rfl, hrb, hrs⟩ hz, ⟨⟨rfl, rfl, look_int ((i64_succ (by omega)).trans (by simp [Fill.step])), trivial⟩, ⟨congrArg some hs, trivial⟩, rfl, rfl⟩, rfl, by simp [Fill.step]; omega⟩
  · refine RetK.mk fun g M' hl hg => ⟨_, _, rfl, ?_⟩
    exact q.done (Z := [.int .i64 0, .int .i64 0, .string ⟨#[]⟩, .int .i64 0, .int .i64 0, .slice none 0 0]) (by simpa using h1) (RWait.mono hl) (hg 0 _ rfl) h.len
theorem eqInterval_a (M : Mem) (x : GInterval) (cs ds : List Value) (h : RInterval M x cs) (h' : RInterval M x ds) : Ans Tryz.prog M 77 #[.agg cs.toArray, .agg ds.toArray] (.bool true) := by
  obtain ⟨A0, c0, rfl, hb, s0⟩ := h
  obtain ⟨B0, d0, rfl, _, t0⟩ := h'
  refine ans_of T (l := [.agg #[.int .i64 x.First, .int .i64 x.Last, .slice A0 x.Acting.length c0, .bool x.May], .agg #[.int .i64 x.First, .int .i64 x.Last, .slice B0 x.Acting.length d0, .bool x.May]]) mixed Tryz.func77 rfl (by kernel_rfl) (Nat.le_of_ble_eq_true rfl) ?_
  repeat' ((conv => whnf); first | with_reducible refine CondK.tt ?_ | with_reducible refine CondK.ff ?_ | with_reducible refine CondK.not ?_ | refine CallK.mk _ (eqInt64S_a M _ _ _ _ _ s0 t0) ?_ | refine CallQ.mk _ (eqInt64S_a M _ _ _ _ _ s0 t0) ?_ | (refine CondK.no' ?_ ?_; focus (simp; done)) | (refine CondK.yes' ?_ ?_; focus (simp; done)) | exact rfl)
def szInterval (x : GInterval) (left : Int) : Int := szT (szSub (left) x.Acting.length) fun left => left
theorem szInterval_a (M : Mem) (x : GInterval) (left : Int) (cs : List Value) (h : RInterval M x cs) : Ans Tryz.prog M 48 #[.agg cs.toArray, .int .i64 left] (.int .i64 (szInterval x left)) := by
  obtain ⟨A0, c0, rfl, hb, s0⟩ := h
  refine ans_of T (l := [.agg #[.int .i64 x.First, .int .i64 x.Last, .slice A0 x.Acting.length c0, .bool x.May], .int .i64 left]) mixed Tryz.func48 rfl (by kernel_rfl) (Nat.le_of_ble_eq_true rfl) ?_
  repeat' ((conv => whnf); first | with_reducible refine CondK.tt ?_ | with_reducible refine CondK.ff ?_ | with_reducible refine CondK.not ?_ | refine CallK.mk _ (szInt64S_a M _ _ _ _ s0) ?_ | refine CallQ.mk _ (szInt64S_a M _ _ _ _ s0) ?_ | refine CondK.mk (fun h => ?_) (fun h => ?_) | exact rfl)
  all_goals refine ret_int ?_
  all_goals (simp only [decide_eq_true_eq, decide_eq_false_iff_not] at *)
  all_goals first | (simp only [szInterval, szT, if_true, if_false, *]; done) | (simp [szInterval, szT, *]; done) | (simp [szInterval, szT, szSub, *]; done) | (unfold szInterval szT szSub; simp [*]; done) | grind [szInterval, szT, szSub]
def SmallInterval (x : GInterval) : Prop := (x.Acting.length ≤ 1048576 ∧ ∀ y ∈ x.Acting, True)
theorem szInterval_ok {M : Mem} {x : GInterval} {cs : List Value} (hr : RInterval M x cs) {left : Int} (h0 : 0 ≤ left) (h1 : left ≤ 1048576) (h : 0 ≤ szInterval x left) : SmallInterval x ∧ szInterval x left ≤ 1048576 := by
  obtain ⟨A0, c0, rfl, hb, s0⟩ := hr
  unfold szInterval at h ⊢
  obtain ⟨p2, h', e2⟩ := szT_ok h
  replace h := h'
  rw [e2]
  have q2 := szSub_ok h0 h1 s0.len p2
  exact ⟨⟨q2.1, fun _ _ => trivial⟩, q2.2⟩
theorem toInterval_a (M : Mem) (x : GInterval) (cs : List Value) (h : RInterval M x cs) (hs : SmallInterval x) : AnsR Tryz.prog M 59 #[.agg cs.toArray] (fun M' v => ∃ cs' : List Value, v = .agg cs'.toArray ∧ RInterval M' x cs') := by
  have z0 := hs
  obtain ⟨A0, c0, rfl, hb, s0⟩ := h
  refine ansR_of T (l := [.agg #[.int .i64 x.First, .int .i64 x.Last, .slice A0 x.Acting.length c0, .bool x.May]]) mixed Tryz.func59 rfl (by kernel_rfl) (Nat.le_of_ble_eq_true rfl) ?_
  repeat' ((conv => whnf); first | with_reducible refine CondK.tt ?_ | with_reducible refine CondK.ff ?_ | with_reducible refine CondK.not ?_ | exact rfl)
  refine CallK.mr _ (toInt64S_a _ _ _ _ s0 z0) (fun v1 M1 hl1 hv1 => ?_)
  obtain ⟨B0, d0, rfl, r0⟩ := hv1
  repeat' ((conv => whnf); first | with_reducible refine CondK.tt ?_ | with_reducible refine CondK.ff ?_ | with_reducible refine CondK.not ?_ | exact rfl)
  exact RetK.mk fun g M' hl hg => ⟨_, rfl, _, _, rfl, hb, r0.mono hl (RInt.mono hl)⟩
theorem eqIntervalS_a (M : Mem) (l : List GInterval) (A A' : Option Addr) (c c' : Nat) (h : SlR M RInterval 4 48 A c l) (h' : SlR M RInterval 4 48 A' c' l) : Ans Tryz.prog M 42 #[.slice A l.length c, .slice A' l.length c'] (.bool true) := by
  have hl := h.len
  refine ans_of T (l := [.slice A l.length c, .slice A' l.length c']) mixed Tryz.func42 rfl (by kernel_rfl) (Nat.le_of_ble_eq_true rfl) ?_
  (conv => whnf)
  refine CondK.mk (fun h1 => absurd h1 (by simp)) (fun _ => ?_)
  (conv => whnf)
  refine LoopK.mk {k : Nat // k ≤ l.length} (fun ⟨k, _⟩ => [(0, .v (.slice A l.length c)), (1, .v (.slice A' l.length c')), (5, .v (.int .i64 (k : Int)))]) (fun _ => []) (fun _ => M) (fun k => l.length - k.1) ⟨0, Nat.zero_le _⟩ ⟨⟨⟨rfl, rfl, rfl, trivial⟩, trivial, rfl, rfl⟩, rfl⟩ ?_
  rintro ⟨k, hk⟩
  (conv => whnf)
  refine CondK.mk (fun h1 => ?_) (fun h1 => ?_)
  · have hlt : k < l.length := by simpa using h1
    obtain ⟨ad, rfl, A0, c0, bnx, s0, x0, x1, x2, x3⟩ := at_Interval h (List.getElem?_eq_getElem hlt)
    obtain ⟨ad', rfl, B0, d0, bny, t0, y0, y1, y2, y3⟩ := at_Interval h' (List.getElem?_eq_getElem hlt)
    repeat' ((conv => whnf); first | with_reducible refine CondK.tt ?_ | with_reducible refine CondK.ff ?_ | with_reducible refine CondK.not ?_ | refine LdK.mk _ (by assumption) ?_ | refine IdxK.mk _ rfl (by omega) (by omega) ?_ | refine DrawN.q (by kernel_rfl) ?_ | refine CallK.mk _ (eqInterval_a M l[k] _ _ ⟨_, _, rfl, bnx, s0⟩ ⟨_, _, rfl, bny, t0⟩) ?_ | refine CallQ.mk _ (eqInterval_a M l[k] _ _ ⟨_, _, rfl, bnx, s0⟩ ⟨_, _, rfl, bny, t0⟩) ?_ | (refine CondK.no' ?_ ?_; focus (simp; done)) | (refine CondK.yes' ?_ ?_; focus (simp; done)) | exact rfl)
    exact ⟨⟨k + 1, hlt⟩, ⟨⟨rfl, rfl, look_int (i64_succ (by omega)), trivial⟩, trivial, rfl, rfl⟩, rfl, by simp; omega⟩
  · rfl
theorem szIntervalS_a (M : Mem) (l : List GInterval) (left : Int) (A : Option Addr) (c : Nat) (h : SlR M RInterval 4 48 A c l) : Ans Tryz.prog M 10 #[.slice A l.length c, .int .i64 left] (.int .i64 (szL szInterval l left)) := by
  have hl := h.len
  refine ans_of T (l := [.slice A l.length c, .int .i64 left]) mixed Tryz.func10 rfl (by kernel_rfl) (Nat.le_of_ble_eq_true rfl) ?_
  (conv => whnf)
  refine CondK.mk (fun h1 => ?_) (fun h1 => ?_)
  · refine ret_int ?_
    rw [szL, if_pos (by simpa using h1)]
  have h2 : szL szInterval l left = szRun szInterval l (IntKind.i64.wrap (left - (l.length : Int))) := by rw [szL, if_neg (by simpa using h1)]
  rw [h2]
  clear h1 h2
  generalize IntKind.i64.wrap (left - (l.length : Int)) = n0
  (conv => whnf)
  refine LoopK.mk {p : Nat × Int // p.1 ≤ l.length ∧ szRun szInterval l n0 = szRun szInterval (l.drop p.1) p.2} (fun ⟨(k, n), _⟩ => [(0, .v (.slice A l.length c)), (1, .v (.int .i64 n)), (5, .v (.int .i64 (k : Int)))]) (fun _ => []) (fun _ => M) (fun p => l.length - p.1.1) ⟨(0, n0), Nat.zero_le _, rfl⟩ ⟨⟨⟨rfl, rfl, rfl, trivial⟩, trivial, rfl, rfl⟩, rfl⟩ ?_
  rintro ⟨⟨k, n⟩, hk, hn⟩
  (conv => whnf)
  refine CondK.mk (fun h1 => ?_) (fun h1 => ?_)
  · have hlt : k < l.length := by simpa using h1
    obtain ⟨ad, rfl, A0, c0, bnx, s0, x0, x1, x2, x3⟩ := at_Interval h (List.getElem?_eq_getElem hlt)
    simp only [] at hn
    rw [szRun_step hlt] at hn
    repeat' ((conv => whnf); first | with_reducible refine CondK.tt ?_ | with_reducible refine CondK.ff ?_ | with_reducible refine CondK.not ?_ | refine LdK.mk _ (by assumption) ?_ | refine IdxK.mk _ rfl (by omega) (by omega) ?_ | refine DrawN.q (by kernel_rfl) ?_ | refine CallK.mk _ (szInterval_a M l[k] n _ ⟨_, _, rfl, bnx, s0⟩) ?_ | refine CallQ.mk _ (szInterval_a M l[k] n _ ⟨_, _, rfl, bnx, s0⟩) ?_ | refine CondK.mk (fun h => ?_) (fun h => ?_) | exact rfl)
    · refine ret_int ?_
      rw [hn, if_pos (by simpa using h)]
    · rw [if_neg (by simpa using h)] at hn
      exact ⟨⟨(k + 1, _), hlt, hn⟩, ⟨⟨rfl, rfl, look_int (i64_succ (by omega)), trivial⟩, trivial, rfl, rfl⟩, rfl, by simp; omega⟩
  · refine ret_int ?_
    simp only [] at hn
    rw [hn, List.drop_eq_nil_of_le (by simp at h1; omega)]
    rfl
theorem toIntervalS_a (M : Mem) (l : List GInterval) (A : Option Addr) (c : Nat) (h : SlR M RInterval 4 48 A c l) (hsm : l.length ≤ 1048576 ∧ ∀ y ∈ l, SmallInterval y) : AnsR Tryz.prog M 24 #[.slice A l.length c] (fun M' v => ∃ A' c', v = .slice A' l.length c' ∧ SlR M' RInterval 4 48 A' c' l) := by
  have hl := hsm.1
  refine ansR_of T (l := [.slice A l.length c]) mixed Tryz.func24 rfl (by kernel_rfl) (Nat.le_of_ble_eq_true rfl) ?_
  (conv => whnf)
  refine MkK.mk rfl (by omega) (by omega) (by show ((48 : Nat) : Int) * (l.length : Int) ≤ _; omega) ?_
  (conv => whnf)
  refine LoopK.mk (Fill M RInterval 4 l) (fun q => [(0, .v (.slice A l.length c)), (3, .s 0 l.length l.length 4), (4, .v (.int .i64 (q.css.length : Int)))]) (fun q => [(0, q.cells [.int .i64 0, .int .i64 0, .slice none 0 0, .bool false])]) (fun q => q.M) (fun q => l.length - q.css.length) (Fill.start M RInterval 4 l) ⟨⟨⟨rfl, rfl, rfl, trivial⟩, ⟨rfl, trivial⟩, rfl, rfl⟩, rfl⟩ ?_
  intro q
  have h := h.mono q.le (RInterval.mono q.le)
  (conv => whnf)
  refine CondK.mk (fun h1 => ?_) (fun h1 => ?_)
  · have hlt : q.css.length < l.length := by simpa using h1
    have hx := List.getElem?_eq_getElem hlt
    obtain ⟨ad, rfl, A0, c0, bnx, s0, x0, x1, x2, x3⟩ := at_Interval h hx
    repeat' ((conv => whnf); first | with_reducible refine CondK.tt ?_ | with_reducible refine CondK.ff ?_ | with_reducible refine CondK.not ?_ | refine LdK.mk _ (by assumption) ?_ | refine IdxK.mk _ rfl (by omega) (by omega) ?_ | refine DrawN.q (by kernel_rfl) ?_ | refine IdxA.mk (q.css.length * 4) rfl (by omega) (by omega) ?_ | exact rfl)
    refine CallK.mr _ (toInterval_a _ l[q.css.length] _ ⟨_, _, rfl, bnx, s0⟩ (hsm.2 _ (List.getElem_mem hlt))) (fun v M1 hl1 hv => ?_)
    obtain ⟨cs', rfl, hr⟩ := hv
    have hz : cs'.length = 4 := by obtain ⟨E0, e0, rfl, _⟩ := hr; rfl
    have hs := q.store hl1 (RInterval.mono hl1) hx hr hz (Z := [.int .i64 0, .int .i64 0, .slice none 0 0, .bool false]) rfl
    have hroom := q.room1 (Z := [.int .i64 0, .int .i64 0, .slice none 0 0, .bool false]) rfl hlt
    obtain ⟨E0, e0, rfl, hrb, hrs⟩ := hr
    repeat' ((conv => whnf); first | with_reducible refine CondK.tt ?_ | with_reducible refine CondK.ff ?_ | with_reducible refine CondK.not ?_ | refine IdxA.mk (q.css.length * 4) rfl (by omega) (by omega) ?_ | exact rfl)
    refine Owe.mk hroom ?_
    (conv => whnf)
    exact ⟨q.step hl1 (RInterval.mono hl1) hx ⟨_, _, rfl, hrb, hrs⟩ hz, ⟨⟨rfl, rfl, look_int ((i64_succ (by omega)).trans (by simp [Fill.step])), trivial⟩, ⟨congrArg some hs, trivial⟩, rfl, rfl⟩, rfl, by simp [Fill.step]; omega⟩
  · refine RetK.mk fun g M' hl hg => ⟨_, _, rfl, ?_⟩
    exact q.done (Z := [.int .i64 0, .int .i64 0, .slice none 0 0, .bool false]) (by simpa using h1) (RInterval.mono hl) (hg 0 _ rfl) h.len
end Go.Proofs.YtmdbeooianiojaaGreat.Hlp
