/- The laws' helpers by the light walk: equal data are called equal; what a list measures; what is turned is the same. -/
import Derived.Test.YtpflpmdbgnmamaaHlpC
namespace Go.Proofs.Ytpflpmdbgnmamaa.Hlp
open Go Go.RowKit Go.Proofs Go.Proofs.Ytpflpmdbgnmamaa.Lw
set_option linter.unusedVariables false
set_option linter.unusedSimpArgs false
set_option maxRecDepth 100000
set_option maxHeartbeats 4000000
theorem eqPgState_a (M : Mem) (x : GPgState) (cs ds : List Value) (h : RPgState M x cs) (h' : RPgState M x ds) : Ans Try.prog M 11 #[.agg cs.toArray, .agg ds.toArray] (.bool true) := by
  obtain ⟨A0, c0, A1, c1, A2, c2, A3, c3, rfl, hb, s0, s1, s2, s3⟩ := h
  obtain ⟨B0, d0, B1, d1, B2, d2, B3, d3, rfl, _, t0, t1, t2, t3⟩ := h'
  refine ans_of T (l := [.agg #[.int .i64 x.Pg.Pool, .int .i64 x.Pg.No, .int .i64 x.Seen, .int .i64 x.Started, .int .i64 x.Tail.Epoch, .int .i64 x.Tail.Seq, .slice A0 x.Base.length c0, .slice A1 x.Clients.length c1, .slice A2 x.Log.length c2, .int .i64 x.Firm.Epoch, .int .i64 x.Firm.Seq, .slice A3 x.Chunks.length c3], .agg #[.int .i64 x.Pg.Pool, .int .i64 x.Pg.No, .int .i64 x.Seen, .int .i64 x.Started, .int .i64 x.Tail.Epoch, .int .i64 x.Tail.Seq, .slice B0 x.Base.length d0, .slice B1 x.Clients.length d1, .slice B2 x.Log.length d2, .int .i64 x.Firm.Epoch, .int .i64 x.Firm.Seq, .slice B3 x.Chunks.length d3]]) mixed Try.func11 rfl (by kernel_rfl) (Nat.le_of_ble_eq_true rfl) ?_
  repeat' ((conv => whnf); first | with_reducible refine CondK.tt ?_ | with_reducible refine CondK.ff ?_ | with_reducible refine CondK.not ?_ | refine CallK.mk _ (eqPg_a M _) ?_ | refine CallQ.mk _ (eqPg_a M _) ?_ | refine CallK.mk _ (eqVer_a M _) ?_ | refine CallQ.mk _ (eqVer_a M _) ?_ | refine CallK.mk _ (eqHeadS_a M _ _ _ _ _ s0 t0) ?_ | refine CallQ.mk _ (eqHeadS_a M _ _ _ _ _ s0 t0) ?_ | refine CallK.mk _ (eqLastS_a M _ _ _ _ _ s1 t1) ?_ | refine CallQ.mk _ (eqLastS_a M _ _ _ _ _ s1 t1) ?_ | refine CallK.mk _ (eqEntryS_a M _ _ _ _ _ s2 t2) ?_ | refine CallQ.mk _ (eqEntryS_a M _ _ _ _ _ s2 t2) ?_ | refine CallK.mk _ (eqVer_a M _) ?_ | refine CallQ.mk _ (eqVer_a M _) ?_ | refine CallK.mk _ (eqChunkS_a M _ _ _ _ _ s3 t3) ?_ | refine CallQ.mk _ (eqChunkS_a M _ _ _ _ _ s3 t3) ?_ | (refine CondK.no' ?_ ?_; focus (simp; done)) | (refine CondK.yes' ?_ ?_; focus (simp; done)) | exact rfl)
def szPgState (x : GPgState) (left : Int) : Int := szT (szL szHead x.Base (left)) fun left => szT (szSub (left) x.Clients.length) fun left => szT (szL szEntry x.Log (left)) fun left => szT (szL szChunk x.Chunks (left)) fun left => left
theorem szPgState_a (M : Mem) (x : GPgState) (left : Int) (cs : List Value) (h : RPgState M x cs) : Ans Try.prog M 7 #[.agg cs.toArray, .int .i64 left] (.int .i64 (szPgState x left)) := by
  obtain ⟨A0, c0, A1, c1, A2, c2, A3, c3, rfl, hb, s0, s1, s2, s3⟩ := h
  refine ans_of T (l := [.agg #[.int .i64 x.Pg.Pool, .int .i64 x.Pg.No, .int .i64 x.Seen, .int .i64 x.Started, .int .i64 x.Tail.Epoch, .int .i64 x.Tail.Seq, .slice A0 x.Base.length c0, .slice A1 x.Clients.length c1, .slice A2 x.Log.length c2, .int .i64 x.Firm.Epoch, .int .i64 x.Firm.Seq, .slice A3 x.Chunks.length c3], .int .i64 left]) mixed Try.func7 rfl (by kernel_rfl) (Nat.le_of_ble_eq_true rfl) ?_
  repeat' ((conv => whnf); first | with_reducible refine CondK.tt ?_ | with_reducible refine CondK.ff ?_ | with_reducible refine CondK.not ?_ | refine CallK.mk _ (szHeadS_a M _ _ _ _ s0) ?_ | refine CallQ.mk _ (szHeadS_a M _ _ _ _ s0) ?_ | refine CallK.mk _ (szLastS_a M _ _ _ _ s1) ?_ | refine CallQ.mk _ (szLastS_a M _ _ _ _ s1) ?_ | refine CallK.mk _ (szEntryS_a M _ _ _ _ s2) ?_ | refine CallQ.mk _ (szEntryS_a M _ _ _ _ s2) ?_ | refine CallK.mk _ (szChunkS_a M _ _ _ _ s3) ?_ | refine CallQ.mk _ (szChunkS_a M _ _ _ _ s3) ?_ | refine CondK.mk (fun h => ?_) (fun h => ?_) | exact rfl)
  all_goals refine ret_int ?_
  all_goals (simp only [decide_eq_true_eq, decide_eq_false_iff_not] at *)
  all_goals first | (simp [szPgState, szT, szSub, *]; done) | (unfold szPgState szT szSub; simp [*]; done) | grind [szPgState, szT, szSub]
def SmallPgState (x : GPgState) : Prop := (x.Base.length ≤ 1048576 ∧ ∀ y ∈ x.Base, True) ∧ (x.Clients.length ≤ 1048576 ∧ ∀ y ∈ x.Clients, True) ∧ (x.Log.length ≤ 1048576 ∧ ∀ y ∈ x.Log, True) ∧ (x.Chunks.length ≤ 1048576 ∧ ∀ y ∈ x.Chunks, True)
theorem szPgState_ok {M : Mem} {x : GPgState} {cs : List Value} (hr : RPgState M x cs) {left : Int} (h0 : 0 ≤ left) (h1 : left ≤ 1048576) (h : 0 ≤ szPgState x left) : SmallPgState x ∧ szPgState x left ≤ 1048576 := by
  obtain ⟨A0, c0, A1, c1, A2, c2, A3, c3, rfl, hb, s0, s1, s2, s3⟩ := hr
  unfold szPgState at h ⊢
  obtain ⟨p4, h', e4⟩ := szT_ok h
  replace h := h'
  rw [e4]
  have q4 := szL_ok s0.len (fun y hy left h0 h1 h => let ⟨_, hr⟩ := s0.each hy; szHead_ok hr h0 h1 h) h0 h1 p4
  obtain ⟨p5, h', e5⟩ := szT_ok h
  replace h := h'
  rw [e5]
  have q5 := szSub_ok p4 q4.2 s1.len p5
  obtain ⟨p6, h', e6⟩ := szT_ok h
  replace h := h'
  rw [e6]
  have q6 := szL_ok s2.len (fun y hy left h0 h1 h => let ⟨_, hr⟩ := s2.each hy; szEntry_ok hr h0 h1 h) p5 q5.2 p6
  obtain ⟨p8, h', e8⟩ := szT_ok h
  replace h := h'
  rw [e8]
  have q8 := szL_ok s3.len (fun y hy left h0 h1 h => let ⟨_, hr⟩ := s3.each hy; szChunk_ok hr h0 h1 h) p6 q6.2 p8
  exact ⟨⟨q4.1, ⟨q5.1, fun _ _ => trivial⟩, q6.1, q8.1⟩, q8.2⟩
theorem toPgState_a (M : Mem) (x : GPgState) (cs : List Value) (h : RPgState M x cs) (hs : SmallPgState x) : AnsR Try.prog M 9 #[.agg cs.toArray] (fun M' v => ∃ cs' : List Value, v = .agg cs'.toArray ∧ RPgState M' x cs') := by
  obtain ⟨z0, z1, z2, z3⟩ := hs
  obtain ⟨A0, c0, A1, c1, A2, c2, A3, c3, rfl, hb, s0, s1, s2, s3⟩ := h
  refine ansR_of T (l := [.agg #[.int .i64 x.Pg.Pool, .int .i64 x.Pg.No, .int .i64 x.Seen, .int .i64 x.Started, .int .i64 x.Tail.Epoch, .int .i64 x.Tail.Seq, .slice A0 x.Base.length c0, .slice A1 x.Clients.length c1, .slice A2 x.Log.length c2, .int .i64 x.Firm.Epoch, .int .i64 x.Firm.Seq, .slice A3 x.Chunks.length c3]]) mixed Try.func9 rfl (by kernel_rfl) (Nat.le_of_ble_eq_true rfl) ?_
  repeat' ((conv => whnf); first | with_reducible refine CondK.tt ?_ | with_reducible refine CondK.ff ?_ | with_reducible refine CondK.not ?_ | refine CallK.mk _ (toPg_a _ _) ?_ | refine CallQ.mk _ (toPg_a _ _) ?_ | refine CallK.mk _ (toVer_a _ _) ?_ | refine CallQ.mk _ (toVer_a _ _) ?_ | refine CallK.mk _ (toVer_a _ _) ?_ | refine CallQ.mk _ (toVer_a _ _) ?_ | exact rfl)
  refine CallK.mr _ (toHeadS_a _ _ _ _ s0 z0) (fun v1 M1 hl1 hv1 => ?_)
  obtain ⟨B0, d0, rfl, r0⟩ := hv1
  replace s1 := s1.mono hl1 (RLast.mono hl1)
  replace s2 := s2.mono hl1 (REntry.mono hl1)
  replace s3 := s3.mono hl1 (RChunk.mono hl1)
  repeat' ((conv => whnf); first | with_reducible refine CondK.tt ?_ | with_reducible refine CondK.ff ?_ | with_reducible refine CondK.not ?_ | refine CallK.mk _ (toPg_a _ _) ?_ | refine CallQ.mk _ (toPg_a _ _) ?_ | refine CallK.mk _ (toVer_a _ _) ?_ | refine CallQ.mk _ (toVer_a _ _) ?_ | refine CallK.mk _ (toVer_a _ _) ?_ | refine CallQ.mk _ (toVer_a _ _) ?_ | exact rfl)
  refine CallK.mr _ (toLastS_a _ _ _ _ s1 z1) (fun v2 M2 hl2 hv2 => ?_)
  obtain ⟨B1, d1, rfl, r1⟩ := hv2
  replace s2 := s2.mono hl2 (REntry.mono hl2)
  replace s3 := s3.mono hl2 (RChunk.mono hl2)
  replace r0 := r0.mono hl2 (RHead.mono hl2)
  repeat' ((conv => whnf); first | with_reducible refine CondK.tt ?_ | with_reducible refine CondK.ff ?_ | with_reducible refine CondK.not ?_ | refine CallK.mk _ (toPg_a _ _) ?_ | refine CallQ.mk _ (toPg_a _ _) ?_ | refine CallK.mk _ (toVer_a _ _) ?_ | refine CallQ.mk _ (toVer_a _ _) ?_ | refine CallK.mk _ (toVer_a _ _) ?_ | refine CallQ.mk _ (toVer_a _ _) ?_ | exact rfl)
  refine CallK.mr _ (toEntryS_a _ _ _ _ s2 z2) (fun v3 M3 hl3 hv3 => ?_)
  obtain ⟨B2, d2, rfl, r2⟩ := hv3
  replace s3 := s3.mono hl3 (RChunk.mono hl3)
  replace r0 := r0.mono hl3 (RHead.mono hl3)
  replace r1 := r1.mono hl3 (RLast.mono hl3)
  repeat' ((conv => whnf); first | with_reducible refine CondK.tt ?_ | with_reducible refine CondK.ff ?_ | with_reducible refine CondK.not ?_ | refine CallK.mk _ (toPg_a _ _) ?_ | refine CallQ.mk _ (toPg_a _ _) ?_ | refine CallK.mk _ (toVer_a _ _) ?_ | refine CallQ.mk _ (toVer_a _ _) ?_ | refine CallK.mk _ (toVer_a _ _) ?_ | refine CallQ.mk _ (toVer_a _ _) ?_ | exact rfl)
  refine CallK.mr _ (toChunkS_a _ _ _ _ s3 z3) (fun v4 M4 hl4 hv4 => ?_)
  obtain ⟨B3, d3, rfl, r3⟩ := hv4
  replace r0 := r0.mono hl4 (RHead.mono hl4)
  replace r1 := r1.mono hl4 (RLast.mono hl4)
  replace r2 := r2.mono hl4 (REntry.mono hl4)
  repeat' ((conv => whnf); first | with_reducible refine CondK.tt ?_ | with_reducible refine CondK.ff ?_ | with_reducible refine CondK.not ?_ | refine CallK.mk _ (toPg_a _ _) ?_ | refine CallQ.mk _ (toPg_a _ _) ?_ | refine CallK.mk _ (toVer_a _ _) ?_ | refine CallQ.mk _ (toVer_a _ _) ?_ | refine CallK.mk _ (toVer_a _ _) ?_ | refine CallQ.mk _ (toVer_a _ _) ?_ | exact rfl)
  exact RetK.mk fun g M' hl hg => ⟨_, rfl, _, _, _, _, _, _, _, _, rfl, hb, r0.mono hl (RHead.mono hl), r1.mono hl (RLast.mono hl), r2.mono hl (REntry.mono hl), r3.mono hl (RChunk.mono hl)⟩
theorem eqPgStateS_a (M : Mem) (l : List GPgState) (A A' : Option Addr) (c c' : Nat) (h : SlR M RPgState 12 160 A c l) (h' : SlR M RPgState 12 160 A' c' l) : Ans Try.prog M 61 #[.slice A l.length c, .slice A' l.length c'] (.bool true) := by
  have hl := h.len
  refine ans_of T (l := [.slice A l.length c, .slice A' l.length c']) mixed Try.func61 rfl (by kernel_rfl) (Nat.le_of_ble_eq_true rfl) ?_
  (conv => whnf)
  refine CondK.mk (fun h1 => absurd h1 (by simp)) (fun _ => ?_)
  (conv => whnf)
  refine LoopK.mk {k : Nat // k ≤ l.length} (fun ⟨k, _⟩ => [(0, .v (.slice A l.length c)), (1, .v (.slice A' l.length c')), (5, .v (.int .i64 (k : Int)))]) (fun _ => []) (fun _ => M) (fun k => l.length - k.1) ⟨0, Nat.zero_le _⟩ ⟨⟨⟨rfl, rfl, rfl, trivial⟩, trivial, rfl, rfl⟩, rfl⟩ ?_
  rintro ⟨k, hk⟩
  (conv => whnf)
  refine CondK.mk (fun h1 => ?_) (fun h1 => ?_)
  · have hlt : k < l.length := by simpa using h1
    obtain ⟨ad, rfl, A0, c0, A1, c1, A2, c2, A3, c3, bnx, ⟨s0, s1, s2, s3⟩, x0, x1, x2, x3, x4, x5, x6, x7, x8, x9, x10, x11⟩ := at_PgState h (List.getElem?_eq_getElem hlt)
    obtain ⟨ad', rfl, B0, d0, B1, d1, B2, d2, B3, d3, bny, ⟨t0, t1, t2, t3⟩, y0, y1, y2, y3, y4, y5, y6, y7, y8, y9, y10, y11⟩ := at_PgState h' (List.getElem?_eq_getElem hlt)
    repeat' ((conv => whnf); first | with_reducible refine CondK.tt ?_ | with_reducible refine CondK.ff ?_ | with_reducible refine CondK.not ?_ | refine LdK.mk _ (by assumption) ?_ | refine IdxK.mk _ rfl (by omega) (by omega) ?_ | refine DrawN.q (by kernel_rfl) ?_ | refine CallK.mk _ (eqPgState_a M l[k] _ _ ⟨_, _, _, _, _, _, _, _, rfl, bnx, s0, s1, s2, s3⟩ ⟨_, _, _, _, _, _, _, _, rfl, bny, t0, t1, t2, t3⟩) ?_ | refine CallQ.mk _ (eqPgState_a M l[k] _ _ ⟨_, _, _, _, _, _, _, _, rfl, bnx, s0, s1, s2, s3⟩ ⟨_, _, _, _, _, _, _, _, rfl, bny, t0, t1, t2, t3⟩) ?_ | (refine CondK.no' ?_ ?_; focus (simp; done)) | (refine CondK.yes' ?_ ?_; focus (simp; done)) | exact rfl)
    exact ⟨⟨k + 1, hlt⟩, ⟨⟨rfl, rfl, look_int (i64_succ (by omega)), trivial⟩, trivial, rfl, rfl⟩, rfl, by simp; omega⟩
  · rfl
theorem szPgStateS_a (M : Mem) (l : List GPgState) (left : Int) (A : Option Addr) (c : Nat) (h : SlR M RPgState 12 160 A c l) : Ans Try.prog M 57 #[.slice A l.length c, .int .i64 left] (.int .i64 (szL szPgState l left)) := by
  have hl := h.len
  refine ans_of T (l := [.slice A l.length c, .int .i64 left]) mixed Try.func57 rfl (by kernel_rfl) (Nat.le_of_ble_eq_true rfl) ?_
  (conv => whnf)
  refine CondK.mk (fun h1 => ?_) (fun h1 => ?_)
  · refine ret_int ?_
    rw [szL, if_pos (by simpa using h1)]
  have h2 : szL szPgState l left = szRun szPgState l (IntKind.i64.wrap (left - (l.length : Int))) := by rw [szL, if_neg (by simpa using h1)]
  rw [h2]
  clear h1 h2
  generalize IntKind.i64.wrap (left - (l.length : Int)) = n0
  (conv => whnf)
  refine LoopK.mk {p : Nat × Int // p.1 ≤ l.length ∧ szRun szPgState l n0 = szRun szPgState (l.drop p.1) p.2} (fun ⟨(k, n), _⟩ => [(0, .v (.slice A l.length c)), (1, .v (.int .i64 n)), (5, .v (.int .i64 (k : Int)))]) (fun _ => []) (fun _ => M) (fun p => l.length - p.1.1) ⟨(0, n0), Nat.zero_le _, rfl⟩ ⟨⟨⟨rfl, rfl, rfl, trivial⟩, trivial, rfl, rfl⟩, rfl⟩ ?_
  rintro ⟨⟨k, n⟩, hk, hn⟩
  (conv => whnf)
  refine CondK.mk (fun h1 => ?_) (fun h1 => ?_)
  · have hlt : k < l.length := by simpa using h1
    obtain ⟨ad, rfl, A0, c0, A1, c1, A2, c2, A3, c3, bnx, ⟨s0, s1, s2, s3⟩, x0, x1, x2, x3, x4, x5, x6, x7, x8, x9, x10, x11⟩ := at_PgState h (List.getElem?_eq_getElem hlt)
    simp only [] at hn
    rw [szRun_step hlt] at hn
    repeat' ((conv => whnf); first | with_reducible refine CondK.tt ?_ | with_reducible refine CondK.ff ?_ | with_reducible refine CondK.not ?_ | refine LdK.mk _ (by assumption) ?_ | refine IdxK.mk _ rfl (by omega) (by omega) ?_ | refine DrawN.q (by kernel_rfl) ?_ | refine CallK.mk _ (szPgState_a M l[k] n _ ⟨_, _, _, _, _, _, _, _, rfl, bnx, s0, s1, s2, s3⟩) ?_ | refine CallQ.mk _ (szPgState_a M l[k] n _ ⟨_, _, _, _, _, _, _, _, rfl, bnx, s0, s1, s2, s3⟩) ?_ | refine CondK.mk (fun h => ?_) (fun h => ?_) | exact rfl)
    · refine ret_int ?_
      rw [hn, if_pos (by simpa using h)]
    · rw [if_neg (by simpa using h)] at hn
      exact ⟨⟨(k + 1, _), hlt, hn⟩, ⟨⟨rfl, rfl, look_int (i64_succ (by omega)), trivial⟩, trivial, rfl, rfl⟩, rfl, by simp; omega⟩
  · refine ret_int ?_
    simp only [] at hn
    rw [hn, List.drop_eq_nil_of_le (by simp at h1; omega)]
    rfl
theorem toPgStateS_a (M : Mem) (l : List GPgState) (A : Option Addr) (c : Nat) (h : SlR M RPgState 12 160 A c l) (hsm : l.length ≤ 1048576 ∧ ∀ y ∈ l, SmallPgState y) : AnsR Try.prog M 59 #[.slice A l.length c] (fun M' v => ∃ A' c', v = .slice A' l.length c' ∧ SlR M' RPgState 12 160 A' c' l) := by
  have hl := hsm.1
  refine ansR_of T (l := [.slice A l.length c]) mixed Try.func59 rfl (by kernel_rfl) (Nat.le_of_ble_eq_true rfl) ?_
  (conv => whnf)
  refine MkK.mk rfl (by omega) (by omega) (by show ((160 : Nat) : Int) * (l.length : Int) ≤ _; omega) ?_
  (conv => whnf)
  refine LoopK.mk (Fill M RPgState 12 l) (fun q => [(0, .v (.slice A l.length c)), (3, .s 0 l.length l.length 12), (4, .v (.int .i64 (q.css.length : Int)))]) (fun q => [(0, q.cells [.int .i64 0, .int .i64 0, .int .i64 0, .int .i64 0, .int .i64 0, .int .i64 0, .slice none 0 0, .slice none 0 0, .slice none 0 0, .int .i64 0, .int .i64 0, .slice none 0 0])]) (fun q => q.M) (fun q => l.length - q.css.length) (Fill.start M RPgState 12 l) ⟨⟨⟨rfl, rfl, rfl, trivial⟩, ⟨rfl, trivial⟩, rfl, rfl⟩, rfl⟩ ?_
  intro q
  have h := h.mono q.le (RPgState.mono q.le)
  (conv => whnf)
  refine CondK.mk (fun h1 => ?_) (fun h1 => ?_)
  · have hlt : q.css.length < l.length := by simpa using h1
    have hx := List.getElem?_eq_getElem hlt
    obtain ⟨ad, rfl, A0, c0, A1, c1, A2, c2, A3, c3, bnx, ⟨s0, s1, s2, s3⟩, x0, x1, x2, x3, x4, x5, x6, x7, x8, x9, x10, x11⟩ := at_PgState h hx
    repeat' ((conv => whnf); first | with_reducible refine CondK.tt ?_ | with_reducible refine CondK.ff ?_ | with_reducible refine CondK.not ?_ | refine LdK.mk _ (by assumption) ?_ | refine IdxK.mk _ rfl (by omega) (by omega) ?_ | refine DrawN.q (by kernel_rfl) ?_ | refine IdxA.mk (q.css.length * 12) rfl (by omega) (by omega) ?_ | exact rfl)
    refine CallK.mr _ (toPgState_a _ l[q.css.length] _ ⟨_, _, _, _, _, _, _, _, rfl, bnx, s0, s1, s2, s3⟩ (hsm.2 _ (List.getElem_mem hlt))) (fun v M1 hl1 hv => ?_)
    obtain ⟨cs', rfl, hr⟩ := hv
    have hz : cs'.length = 12 := by obtain ⟨E0, e0, E1, e1, E2, e2, E3, e3, rfl, _⟩ := hr; rfl
    have hs := q.store hl1 (RPgState.mono hl1) hx hr hz (Z := [.int .i64 0, .int .i64 0, .int .i64 0, .int .i64 0, .int .i64 0, .int .i64 0, .slice none 0 0, .slice none 0 0, .slice none 0 0, .int .i64 0, .int .i64 0, .slice none 0 0]) rfl
    have hroom := q.room1 (Z := [.int .i64 0, .int .i64 0, .int .i64 0, .int .i64 0, .int .i64 0, .int .i64 0, .slice none 0 0, .slice none 0 0, .slice none 0 0, .int .i64 0, .int .i64 0, .slice none 0 0]) rfl hlt
    obtain ⟨E0, e0, E1, e1, E2, e2, E3, e3, rfl, hrb, hrs⟩ := hr
    repeat' ((conv => whnf); first | with_reducible refine CondK.tt ?_ | with_reducible refine CondK.ff ?_ | with_reducible refine CondK.not ?_ | refine IdxA.mk (q.css.length * 12) rfl (by omega) (by omega) ?_ | exact rfl)
    refine Owe.mk hroom ?_
    (conv => whnf)
    exact ⟨q.step hl1 (RPgState.mono hl1) hx ⟨_, _, _, _, _, _, _, _, rfl, hrb, hrs⟩ hz, ⟨⟨rfl, rfl, look_int ((i64_succ (by omega)).trans (by simp [Fill.step])), trivial⟩, ⟨congrArg some hs, trivial⟩, rfl, rfl⟩, rfl, by simp [Fill.step]; omega⟩
  · refine RetK.mk fun g M' hl hg => ⟨_, _, rfl, ?_⟩
    exact q.done (Z := [.int .i64 0, .int .i64 0, .int .i64 0, .int .i64 0, .int .i64 0, .int .i64 0, .slice none 0 0, .slice none 0 0, .slice none 0 0, .int .i64 0, .int .i64 0, .slice none 0 0]) (by simpa using h1) (RPgState.mono hl) (hg 0 _ rfl) h.len
theorem eqStore_a (M : Mem) (x : GStore) (cs ds : List Value) (h : RStore M x cs) (h' : RStore M x ds) : Ans Try.prog M 23 #[.agg cs.toArray, .agg ds.toArray] (.bool true) := by
  obtain ⟨A0, c0, A1, c1, rfl, hb, s0, s1⟩ := h
  obtain ⟨B0, d0, B1, d1, rfl, _, t0, t1⟩ := h'
  refine ans_of T (l := [.agg #[.slice A0 x.Live.length c0, .slice A1 x.Kept.length c1], .agg #[.slice B0 x.Live.length d0, .slice B1 x.Kept.length d1]]) mixed Try.func23 rfl (by kernel_rfl) (Nat.le_of_ble_eq_true rfl) ?_
  repeat' ((conv => whnf); first | with_reducible refine CondK.tt ?_ | with_reducible refine CondK.ff ?_ | with_reducible refine CondK.not ?_ | refine CallK.mk _ (eqPgStateS_a M _ _ _ _ _ s0 t0) ?_ | refine CallQ.mk _ (eqPgStateS_a M _ _ _ _ _ s0 t0) ?_ | refine CallK.mk _ (eqPgStateS_a M _ _ _ _ _ s1 t1) ?_ | refine CallQ.mk _ (eqPgStateS_a M _ _ _ _ _ s1 t1) ?_ | (refine CondK.no' ?_ ?_; focus (simp; done)) | (refine CondK.yes' ?_ ?_; focus (simp; done)) | exact rfl)
def szStore (x : GStore) (left : Int) : Int := szT (szL szPgState x.Live (left)) fun left => szT (szL szPgState x.Kept (left)) fun left => left
theorem szStore_a (M : Mem) (x : GStore) (left : Int) (cs : List Value) (h : RStore M x cs) : Ans Try.prog M 19 #[.agg cs.toArray, .int .i64 left] (.int .i64 (szStore x left)) := by
  obtain ⟨A0, c0, A1, c1, rfl, hb, s0, s1⟩ := h
  refine ans_of T (l := [.agg #[.slice A0 x.Live.length c0, .slice A1 x.Kept.length c1], .int .i64 left]) mixed Try.func19 rfl (by kernel_rfl) (Nat.le_of_ble_eq_true rfl) ?_
  repeat' ((conv => whnf); first | with_reducible refine CondK.tt ?_ | with_reducible refine CondK.ff ?_ | with_reducible refine CondK.not ?_ | refine CallK.mk _ (szPgStateS_a M _ _ _ _ s0) ?_ | refine CallQ.mk _ (szPgStateS_a M _ _ _ _ s0) ?_ | refine CallK.mk _ (szPgStateS_a M _ _ _ _ s1) ?_ | refine CallQ.mk _ (szPgStateS_a M _ _ _ _ s1) ?_ | refine CondK.mk (fun h => ?_) (fun h => ?_) | exact rfl)
  all_goals refine ret_int ?_
  all_goals (simp only [decide_eq_true_eq, decide_eq_false_iff_not] at *)
  all_goals first | (simp [szStore, szT, szSub, *]; done) | (unfold szStore szT szSub; simp [*]; done) | grind [szStore, szT, szSub]
def SmallStore (x : GStore) : Prop := (x.Live.length ≤ 1048576 ∧ ∀ y ∈ x.Live, SmallPgState y) ∧ (x.Kept.length ≤ 1048576 ∧ ∀ y ∈ x.Kept, SmallPgState y)
theorem szStore_ok {M : Mem} {x : GStore} {cs : List Value} (hr : RStore M x cs) {left : Int} (h0 : 0 ≤ left) (h1 : left ≤ 1048576) (h : 0 ≤ szStore x left) : SmallStore x ∧ szStore x left ≤ 1048576 := by
  obtain ⟨A0, c0, A1, c1, rfl, hb, s0, s1⟩ := hr
  unfold szStore at h ⊢
  obtain ⟨p0, h', e0⟩ := szT_ok h
  replace h := h'
  rw [e0]
  have q0 := szL_ok s0.len (fun y hy left h0 h1 h => let ⟨_, hr⟩ := s0.each hy; szPgState_ok hr h0 h1 h) h0 h1 p0
  obtain ⟨p1, h', e1⟩ := szT_ok h
  replace h := h'
  rw [e1]
  have q1 := szL_ok s1.len (fun y hy left h0 h1 h => let ⟨_, hr⟩ := s1.each hy; szPgState_ok hr h0 h1 h) p0 q0.2 p1
  exact ⟨⟨q0.1, q1.1⟩, q1.2⟩
theorem toStore_a (M : Mem) (x : GStore) (cs : List Value) (h : RStore M x cs) (hs : SmallStore x) : AnsR Try.prog M 21 #[.agg cs.toArray] (fun M' v => ∃ cs' : List Value, v = .agg cs'.toArray ∧ RStore M' x cs') := by
  obtain ⟨z0, z1⟩ := hs
  obtain ⟨A0, c0, A1, c1, rfl, hb, s0, s1⟩ := h
  refine ansR_of T (l := [.agg #[.slice A0 x.Live.length c0, .slice A1 x.Kept.length c1]]) mixed Try.func21 rfl (by kernel_rfl) (Nat.le_of_ble_eq_true rfl) ?_
  repeat' ((conv => whnf); first | with_reducible refine CondK.tt ?_ | with_reducible refine CondK.ff ?_ | with_reducible refine CondK.not ?_ | exact rfl)
  refine CallK.mr _ (toPgStateS_a _ _ _ _ s0 z0) (fun v1 M1 hl1 hv1 => ?_)
  obtain ⟨B0, d0, rfl, r0⟩ := hv1
  replace s1 := s1.mono hl1 (RPgState.mono hl1)
  repeat' ((conv => whnf); first | with_reducible refine CondK.tt ?_ | with_reducible refine CondK.ff ?_ | with_reducible refine CondK.not ?_ | exact rfl)
  refine CallK.mr _ (toPgStateS_a _ _ _ _ s1 z1) (fun v2 M2 hl2 hv2 => ?_)
  obtain ⟨B1, d1, rfl, r1⟩ := hv2
  replace r0 := r0.mono hl2 (RPgState.mono hl2)
  repeat' ((conv => whnf); first | with_reducible refine CondK.tt ?_ | with_reducible refine CondK.ff ?_ | with_reducible refine CondK.not ?_ | exact rfl)
  exact RetK.mk fun g M' hl hg => ⟨_, rfl, _, _, _, _, rfl, hb, r0.mono hl (RPgState.mono hl), r1.mono hl (RPgState.mono hl)⟩
end Go.Proofs.Ytpflpmdbgnmamaa.Hlp
