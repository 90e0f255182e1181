/- The laws' helpers by the light walk: equal data are called equal; what a list measures; what is turned is the same. -/
import Derived.Test.YthpnmempecelaaaGreatHlpC
namespace Go.Proofs.YthpnmempecelaaaGreat.Hlp
open Go Go.RowKit Go.Proofs Go.Proofs.YthpnmempecelaaaGreat.Lw
set_option linter.unusedVariables false
set_option linter.unusedSimpArgs false
set_option maxRecDepth 100000
set_option maxHeartbeats 4000000
theorem eqPgState_a (M : Mem) (x : GPgState) (cs ds : List Value) (h : RPgState M x cs) (h' : RPgState M x ds) : Ans Tryz.prog M 8 #[.agg cs.toArray, .agg ds.toArray] (.bool true) := by
  obtain ⟨A0, c0, A1, c1, A2, c2, A3, c3, rfl, hb, s0, s1, s2, s3⟩ := h
  obtain ⟨B0, d0, B1, d1, B2, d2, B3, d3, rfl, _, t0, t1, t2, t3⟩ := h'
  refine ans_of T (l := [.agg #[.int .i64 x.Pg.Pool, .int .i64 x.Pg.No, .int .i64 x.Seen, .int .i64 x.Started, .int .i64 x.Tail.Epoch, .int .i64 x.Tail.Seq, .slice A0 x.Base.length c0, .slice A1 x.Clients.length c1, .slice A2 x.Log.length c2, .int .i64 x.Firm.Epoch, .int .i64 x.Firm.Seq, .slice A3 x.Chunks.length c3], .agg #[.int .i64 x.Pg.Pool, .int .i64 x.Pg.No, .int .i64 x.Seen, .int .i64 x.Started, .int .i64 x.Tail.Epoch, .int .i64 x.Tail.Seq, .slice B0 x.Base.length d0, .slice B1 x.Clients.length d1, .slice B2 x.Log.length d2, .int .i64 x.Firm.Epoch, .int .i64 x.Firm.Seq, .slice B3 x.Chunks.length d3]]) mixed Tryz.func8 rfl (by kernel_rfl) (Nat.le_of_ble_eq_true rfl) ?_
  repeat' ((conv => whnf); first | with_reducible refine CondK.tt ?_ | with_reducible refine CondK.ff ?_ | with_reducible refine CondK.not ?_ | refine CallK.mk _ (eqPg_a M _) ?_ | refine CallQ.mk _ (eqPg_a M _) ?_ | refine CallK.mk _ (eqVer_a M _) ?_ | refine CallQ.mk _ (eqVer_a M _) ?_ | refine CallK.mk _ (eqHeadS_a M _ _ _ _ _ s0 t0) ?_ | refine CallQ.mk _ (eqHeadS_a M _ _ _ _ _ s0 t0) ?_ | refine CallK.mk _ (eqLastS_a M _ _ _ _ _ s1 t1) ?_ | refine CallQ.mk _ (eqLastS_a M _ _ _ _ _ s1 t1) ?_ | refine CallK.mk _ (eqEntryS_a M _ _ _ _ _ s2 t2) ?_ | refine CallQ.mk _ (eqEntryS_a M _ _ _ _ _ s2 t2) ?_ | refine CallK.mk _ (eqVer_a M _) ?_ | refine CallQ.mk _ (eqVer_a M _) ?_ | refine CallK.mk _ (eqChunkS_a M _ _ _ _ _ s3 t3) ?_ | refine CallQ.mk _ (eqChunkS_a M _ _ _ _ _ s3 t3) ?_ | (refine CondK.no' ?_ ?_; focus (simp; done)) | (refine CondK.yes' ?_ ?_; focus (simp; done)) | exact rfl)
def szPgState (x : GPgState) (left : Int) : Int := szT (szL szHead x.Base (left)) fun left => szT (szSub (left) x.Clients.length) fun left => szT (szL szEntry x.Log (left)) fun left => szT (szL szChunk x.Chunks (left)) fun left => left
theorem szPgState_a (M : Mem) (x : GPgState) (left : Int) (cs : List Value) (h : RPgState M x cs) : Ans Tryz.prog M 4 #[.agg cs.toArray, .int .i64 left] (.int .i64 (szPgState x left)) := by
  obtain ⟨A0, c0, A1, c1, A2, c2, A3, c3, rfl, hb, s0, s1, s2, s3⟩ := h
  refine ans_of T (l := [.agg #[.int .i64 x.Pg.Pool, .int .i64 x.Pg.No, .int .i64 x.Seen, .int .i64 x.Started, .int .i64 x.Tail.Epoch, .int .i64 x.Tail.Seq, .slice A0 x.Base.length c0, .slice A1 x.Clients.length c1, .slice A2 x.Log.length c2, .int .i64 x.Firm.Epoch, .int .i64 x.Firm.Seq, .slice A3 x.Chunks.length c3], .int .i64 left]) mixed Tryz.func4 rfl (by kernel_rfl) (Nat.le_of_ble_eq_true rfl) ?_
  repeat' ((conv => whnf); first | with_reducible refine CondK.tt ?_ | with_reducible refine CondK.ff ?_ | with_reducible refine CondK.not ?_ | refine CallK.mk _ (szHeadS_a M _ _ _ _ s0) ?_ | refine CallQ.mk _ (szHeadS_a M _ _ _ _ s0) ?_ | refine CallK.mk _ (szLastS_a M _ _ _ _ s1) ?_ | refine CallQ.mk _ (szLastS_a M _ _ _ _ s1) ?_ | refine CallK.mk _ (szEntryS_a M _ _ _ _ s2) ?_ | refine CallQ.mk _ (szEntryS_a M _ _ _ _ s2) ?_ | refine CallK.mk _ (szChunkS_a M _ _ _ _ s3) ?_ | refine CallQ.mk _ (szChunkS_a M _ _ _ _ s3) ?_ | refine CondK.mk (fun h => ?_) (fun h => ?_) | exact rfl)
  all_goals refine ret_int ?_
  all_goals (simp only [decide_eq_true_eq, decide_eq_false_iff_not] at *)
  all_goals first | (simp only [szPgState, szT, if_true, if_false, *]; done) | (simp [szPgState, szT, *]; done) | (simp [szPgState, szT, szSub, *]; done) | (unfold szPgState szT szSub; simp [*]; done) | grind [szPgState, szT, szSub]
def SmallPgState (x : GPgState) : Prop := (x.Base.length ≤ 1048576 ∧ ∀ y ∈ x.Base, True) ∧ (x.Clients.length ≤ 1048576 ∧ ∀ y ∈ x.Clients, True) ∧ (x.Log.length ≤ 1048576 ∧ ∀ y ∈ x.Log, True) ∧ (x.Chunks.length ≤ 1048576 ∧ ∀ y ∈ x.Chunks, True)
theorem szPgState_ok {M : Mem} {x : GPgState} {cs : List Value} (hr : RPgState M x cs) {left : Int} (h0 : 0 ≤ left) (h1 : left ≤ 1048576) (h : 0 ≤ szPgState x left) : SmallPgState x ∧ szPgState x left ≤ 1048576 := by
  obtain ⟨A0, c0, A1, c1, A2, c2, A3, c3, rfl, hb, s0, s1, s2, s3⟩ := hr
  unfold szPgState at h ⊢
  obtain ⟨p4, h', e4⟩ := szT_ok h
  replace h := h'
  rw [e4]
  have q4 := szL_ok s0.len (fun y hy left h0 h1 h => let ⟨_, hr⟩ := s0.each hy; szHead_ok hr h0 h1 h) h0 h1 p4
  obtain ⟨p5, h', e5⟩ := szT_ok h
  replace h := h'
  rw [e5]
  have q5 := szSub_ok p4 q4.2 s1.len p5
  obtain ⟨p6, h', e6⟩ := szT_ok h
  replace h := h'
  rw [e6]
  have q6 := szL_ok s2.len (fun y hy left h0 h1 h => let ⟨_, hr⟩ := s2.each hy; szEntry_ok hr h0 h1 h) p5 q5.2 p6
  obtain ⟨p8, h', e8⟩ := szT_ok h
  replace h := h'
  rw [e8]
  have q8 := szL_ok s3.len (fun y hy left h0 h1 h => let ⟨_, hr⟩ := s3.each hy; szChunk_ok hr h0 h1 h) p6 q6.2 p8
  exact ⟨⟨q4.1, ⟨q5.1, fun _ _ => trivial⟩, q6.1, q8.1⟩, q8.2⟩
theorem toPgState_f (M : Mem) (x : GPgState) (cs : List Value) (h : RPgState M x cs) (hs : SmallPgState x) : AnsR Tryz.prog M 6 #[.agg cs.toArray] (fun M' v => ∃ cs' : List Value, v = .agg cs'.toArray ∧ RPgState (sub M' M) x cs') := by
  obtain ⟨z0, z1, z2, z3⟩ := hs
  obtain ⟨A0, c0, A1, c1, A2, c2, A3, c3, rfl, hb, s0, s1, s2, s3⟩ := h
  refine ansR_of T (l := [.agg #[.int .i64 x.Pg.Pool, .int .i64 x.Pg.No, .int .i64 x.Seen, .int .i64 x.Started, .int .i64 x.Tail.Epoch, .int .i64 x.Tail.Seq, .slice A0 x.Base.length c0, .slice A1 x.Clients.length c1, .slice A2 x.Log.length c2, .int .i64 x.Firm.Epoch, .int .i64 x.Firm.Seq, .slice A3 x.Chunks.length c3]]) mixed Tryz.func6 rfl (by kernel_rfl) (Nat.le_of_ble_eq_true rfl) ?_
  repeat' ((conv => whnf); first | with_reducible refine CondK.tt ?_ | with_reducible refine CondK.ff ?_ | with_reducible refine CondK.not ?_ | refine CallK.mk _ (toPg_a _ _) ?_ | refine CallQ.mk _ (toPg_a _ _) ?_ | refine CallK.mk _ (toVer_a _ _) ?_ | refine CallQ.mk _ (toVer_a _ _) ?_ | refine CallK.mk _ (toVer_a _ _) ?_ | refine CallQ.mk _ (toVer_a _ _) ?_ | exact rfl)
  refine CallK.mr _ (toHeadS_f _ _ _ _ s0 z0) (fun v1 M1 hl1 hv1 => ?_)
  obtain ⟨B0, d0, rfl, r0⟩ := hv1
  replace s1 := s1.mono hl1 (RLast.mono hl1)
  replace s2 := s2.mono hl1 (REntry.mono hl1)
  replace s3 := s3.mono hl1 (RChunk.mono hl1)
  have hle := hl1
  repeat' ((conv => whnf); first | with_reducible refine CondK.tt ?_ | with_reducible refine CondK.ff ?_ | with_reducible refine CondK.not ?_ | refine CallK.mk _ (toPg_a _ _) ?_ | refine CallQ.mk _ (toPg_a _ _) ?_ | refine CallK.mk _ (toVer_a _ _) ?_ | refine CallQ.mk _ (toVer_a _ _) ?_ | refine CallK.mk _ (toVer_a _ _) ?_ | refine CallQ.mk _ (toVer_a _ _) ?_ | exact rfl)
  refine CallK.mr _ (toLastS_f _ _ _ _ s1 z1) (fun v2 M2 hl2 hv2 => ?_)
  obtain ⟨B1, d1, rfl, r1⟩ := hv2
  replace s2 := s2.mono hl2 (REntry.mono hl2)
  replace s3 := s3.mono hl2 (RChunk.mono hl2)
  replace r0 := r0.mono (sub_mono _ hl2) (RHead.mono (sub_mono _ hl2))
  replace r1 := r1.mono (sub_anti _ hle) (RLast.mono (sub_anti _ hle))
  replace hle := hle.trans hl2
  repeat' ((conv => whnf); first | with_reducible refine CondK.tt ?_ | with_reducible refine CondK.ff ?_ | with_reducible refine CondK.not ?_ | refine CallK.mk _ (toPg_a _ _) ?_ | refine CallQ.mk _ (toPg_a _ _) ?_ | refine CallK.mk _ (toVer_a _ _) ?_ | refine CallQ.mk _ (toVer_a _ _) ?_ | refine CallK.mk _ (toVer_a _ _) ?_ | refine CallQ.mk _ (toVer_a _ _) ?_ | exact rfl)
  refine CallK.mr _ (toEntryS_f _ _ _ _ s2 z2) (fun v3 M3 hl3 hv3 => ?_)
  obtain ⟨B2, d2, rfl, r2⟩ := hv3
  replace s3 := s3.mono hl3 (RChunk.mono hl3)
  replace r0 := r0.mono (sub_mono _ hl3) (RHead.mono (sub_mono _ hl3))
  replace r1 := r1.mono (sub_mono _ hl3) (RLast.mono (sub_mono _ hl3))
  replace r2 := r2.mono (sub_anti _ hle) (REntry.mono (sub_anti _ hle))
  replace hle := hle.trans hl3
  repeat' ((conv => whnf); first | with_reducible refine CondK.tt ?_ | with_reducible refine CondK.ff ?_ | with_reducible refine CondK.not ?_ | refine CallK.mk _ (toPg_a _ _) ?_ | refine CallQ.mk _ (toPg_a _ _) ?_ | refine CallK.mk _ (toVer_a _ _) ?_ | refine CallQ.mk _ (toVer_a _ _) ?_ | refine CallK.mk _ (toVer_a _ _) ?_ | refine CallQ.mk _ (toVer_a _ _) ?_ | exact rfl)
  refine CallK.mr _ (toChunkS_f _ _ _ _ s3 z3) (fun v4 M4 hl4 hv4 => ?_)
  obtain ⟨B3, d3, rfl, r3⟩ := hv4
  replace r0 := r0.mono (sub_mono _ hl4) (RHead.mono (sub_mono _ hl4))
  replace r1 := r1.mono (sub_mono _ hl4) (RLast.mono (sub_mono _ hl4))
  replace r2 := r2.mono (sub_mono _ hl4) (REntry.mono (sub_mono _ hl4))
  replace r3 := r3.mono (sub_anti _ hle) (RChunk.mono (sub_anti _ hle))
  replace hle := hle.trans hl4
  repeat' ((conv => whnf); first | with_reducible refine CondK.tt ?_ | with_reducible refine CondK.ff ?_ | with_reducible refine CondK.not ?_ | refine CallK.mk _ (toPg_a _ _) ?_ | refine CallQ.mk _ (toPg_a _ _) ?_ | refine CallK.mk _ (toVer_a _ _) ?_ | refine CallQ.mk _ (toVer_a _ _) ?_ | refine CallK.mk _ (toVer_a _ _) ?_ | refine CallQ.mk _ (toVer_a _ _) ?_ | exact rfl)
  exact RetK.mk fun g M' hl hg => ⟨_, rfl, _, _, _, _, _, _, _, _, rfl, hb, r0.mono (sub_mono _ hl) (RHead.mono (sub_mono _ hl)), r1.mono (sub_mono _ hl) (RLast.mono (sub_mono _ hl)), r2.mono (sub_mono _ hl) (REntry.mono (sub_mono _ hl)), r3.mono (sub_mono _ hl) (RChunk.mono (sub_mono _ hl))⟩
theorem toPgState_a (M : Mem) (x : GPgState) (cs : List Value) (h : RPgState M x cs) (hs : SmallPgState x) : AnsR Tryz.prog M 6 #[.agg cs.toArray] (fun M' v => ∃ cs' : List Value, v = .agg cs'.toArray ∧ RPgState M' x cs') :=
  (toPgState_f M x cs h hs).imp fun M' v _ ⟨cs', h1, h2⟩ => ⟨cs', h1, RPgState.mono (sub_le _ _) _ _ h2⟩
end Go.Proofs.YthpnmempecelaaaGreat.Hlp
