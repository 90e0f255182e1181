/- The laws' helpers by the light walk: equal data are called equal; what a list measures; what is turned is the same. -/
import Derived.Test.YtoedjkeahjmpiaaGreatHlpD
namespace Go.Proofs.YtoedjkeahjmpiaaGreat.Hlp
open Go Go.RowKit Go.Proofs Go.Proofs.YtoedjkeahjmpiaaGreat.Lw
set_option linter.unusedVariables false
set_option linter.unusedSimpArgs false
set_option maxRecDepth 100000
set_option maxHeartbeats 4000000
theorem eqNotice_a (M : Mem) (x : GNotice) (cs ds : List Value) (h : RNotice M x cs) (h' : RNotice M x ds) : Ans Tryz.prog M 31 #[.agg cs.toArray, .agg ds.toArray] (.bool true) := by
  obtain ⟨A0, c0, A1, c1, A2, c2, A3, c3, rfl, hb, s0, s1, s2, s3⟩ := h
  obtain ⟨B0, d0, B1, d1, B2, d2, B3, d3, rfl, _, t0, t1, t2, t3⟩ := h'
  refine ans_of T (l := [.agg #[.int .i64 x.From, .int .i64 x.State.Pg.Pool, .int .i64 x.State.Pg.No, .int .i64 x.State.Seen, .int .i64 x.State.Started, .int .i64 x.State.Tail.Epoch, .int .i64 x.State.Tail.Seq, .slice A0 x.State.Base.length c0, .slice A1 x.State.Clients.length c1, .slice A2 x.State.Log.length c2, .int .i64 x.State.Firm.Epoch, .int .i64 x.State.Firm.Seq, .slice A3 x.State.Chunks.length c3], .agg #[.int .i64 x.From, .int .i64 x.State.Pg.Pool, .int .i64 x.State.Pg.No, .int .i64 x.State.Seen, .int .i64 x.State.Started, .int .i64 x.State.Tail.Epoch, .int .i64 x.State.Tail.Seq, .slice B0 x.State.Base.length d0, .slice B1 x.State.Clients.length d1, .slice B2 x.State.Log.length d2, .int .i64 x.State.Firm.Epoch, .int .i64 x.State.Firm.Seq, .slice B3 x.State.Chunks.length d3]]) mixed Tryz.func31 rfl (by kernel_rfl) (Nat.le_of_ble_eq_true rfl) ?_
  repeat' ((conv => whnf); first | with_reducible refine CondK.tt ?_ | with_reducible refine CondK.ff ?_ | with_reducible refine CondK.not ?_ | refine CallK.mk _ (eqPgState_a M x.State _ _ ⟨_, _, _, _, _, _, _, _, rfl, trivial, s0, s1, s2, s3⟩ ⟨_, _, _, _, _, _, _, _, rfl, trivial, t0, t1, t2, t3⟩) ?_ | refine CallQ.mk _ (eqPgState_a M x.State _ _ ⟨_, _, _, _, _, _, _, _, rfl, trivial, s0, s1, s2, s3⟩ ⟨_, _, _, _, _, _, _, _, rfl, trivial, t0, t1, t2, t3⟩) ?_ | (refine CondK.no' ?_ ?_; focus (simp; done)) | (refine CondK.yes' ?_ ?_; focus (simp; done)) | exact rfl)
def szNotice (x : GNotice) (left : Int) : Int := szT (szPgState x.State (left)) fun left => left
theorem szNotice_a (M : Mem) (x : GNotice) (left : Int) (cs : List Value) (h : RNotice M x cs) : Ans Tryz.prog M 23 #[.agg cs.toArray, .int .i64 left] (.int .i64 (szNotice x left)) := by
  obtain ⟨A0, c0, A1, c1, A2, c2, A3, c3, rfl, hb, s0, s1, s2, s3⟩ := h
  refine ans_of T (l := [.agg #[.int .i64 x.From, .int .i64 x.State.Pg.Pool, .int .i64 x.State.Pg.No, .int .i64 x.State.Seen, .int .i64 x.State.Started, .int .i64 x.State.Tail.Epoch, .int .i64 x.State.Tail.Seq, .slice A0 x.State.Base.length c0, .slice A1 x.State.Clients.length c1, .slice A2 x.State.Log.length c2, .int .i64 x.State.Firm.Epoch, .int .i64 x.State.Firm.Seq, .slice A3 x.State.Chunks.length c3], .int .i64 left]) mixed Tryz.func23 rfl (by kernel_rfl) (Nat.le_of_ble_eq_true rfl) ?_
  repeat' ((conv => whnf); first | with_reducible refine CondK.tt ?_ | with_reducible refine CondK.ff ?_ | with_reducible refine CondK.not ?_ | refine CallK.mk _ (szPgState_a M x.State _ _ ⟨_, _, _, _, _, _, _, _, rfl, trivial, s0, s1, s2, s3⟩) ?_ | refine CallQ.mk _ (szPgState_a M x.State _ _ ⟨_, _, _, _, _, _, _, _, rfl, trivial, s0, s1, s2, s3⟩) ?_ | refine CondK.mk (fun h => ?_) (fun h => ?_) | exact rfl)
  all_goals refine ret_int ?_
  all_goals (simp only [decide_eq_true_eq, decide_eq_false_iff_not] at *)
  all_goals first | (simp only [szNotice, szT, if_true, if_false, *]; done) | (simp [szNotice, szT, *]; done) | (simp [szNotice, szT, szSub, *]; done) | (unfold szNotice szT szSub; simp [*]; done) | grind [szNotice, szT, szSub]
def SmallNotice (x : GNotice) : Prop := SmallPgState x.State
theorem szNotice_ok {M : Mem} {x : GNotice} {cs : List Value} (hr : RNotice M x cs) {left : Int} (h0 : 0 ≤ left) (h1 : left ≤ 1048576) (h : 0 ≤ szNotice x left) : SmallNotice x ∧ szNotice x left ≤ 1048576 := by
  obtain ⟨A0, c0, A1, c1, A2, c2, A3, c3, rfl, hb, s0, s1, s2, s3⟩ := hr
  unfold szNotice at h ⊢
  obtain ⟨p1, h', e1⟩ := szT_ok h
  replace h := h'
  rw [e1]
  have q1 := szPgState_ok (show RPgState M x.State _ from ⟨A0, c0, A1, c1, A2, c2, A3, c3, rfl, trivial, s0, s1, s2, s3⟩) h0 h1 p1
  exact ⟨q1.1, q1.2⟩
theorem toNotice_f (M : Mem) (x : GNotice) (cs : List Value) (h : RNotice M x cs) (hs : SmallNotice x) : AnsR Tryz.prog M 27 #[.agg cs.toArray] (fun M' v => ∃ cs' : List Value, v = .agg cs'.toArray ∧ RNotice (sub M' M) x cs') := by
  have z0 := hs
  obtain ⟨A0, c0, A1, c1, A2, c2, A3, c3, rfl, hb, s0, s1, s2, s3⟩ := h
  refine ansR_of T (l := [.agg #[.int .i64 x.From, .int .i64 x.State.Pg.Pool, .int .i64 x.State.Pg.No, .int .i64 x.State.Seen, .int .i64 x.State.Started, .int .i64 x.State.Tail.Epoch, .int .i64 x.State.Tail.Seq, .slice A0 x.State.Base.length c0, .slice A1 x.State.Clients.length c1, .slice A2 x.State.Log.length c2, .int .i64 x.State.Firm.Epoch, .int .i64 x.State.Firm.Seq, .slice A3 x.State.Chunks.length c3]]) mixed Tryz.func27 rfl (by kernel_rfl) (Nat.le_of_ble_eq_true rfl) ?_
  repeat' ((conv => whnf); first | with_reducible refine CondK.tt ?_ | with_reducible refine CondK.ff ?_ | with_reducible refine CondK.not ?_ | exact rfl)
  refine CallK.mr _ (toPgState_f _ x.State _ ⟨_, _, _, _, _, _, _, _, rfl, trivial, s0, s1, s2, s3⟩ z0) (fun v1 M1 hl1 hv1 => ?_)
  obtain ⟨_, rfl, ⟨B0, d0, B1, d1, B2, d2, B3, d3, rfl, _, r0, r1, r2, r3⟩⟩ := hv1
  have hle := hl1
  repeat' ((conv => whnf); first | with_reducible refine CondK.tt ?_ | with_reducible refine CondK.ff ?_ | with_reducible refine CondK.not ?_ | exact rfl)
  exact RetK.mk fun g M' hl hg => ⟨_, rfl, _, _, _, _, _, _, _, _, rfl, hb, r0.mono (sub_mono _ hl) (RHead.mono (sub_mono _ hl)), r1.mono (sub_mono _ hl) (RLast.mono (sub_mono _ hl)), r2.mono (sub_mono _ hl) (REntry.mono (sub_mono _ hl)), r3.mono (sub_mono _ hl) (RChunk.mono (sub_mono _ hl))⟩
theorem toNotice_a (M : Mem) (x : GNotice) (cs : List Value) (h : RNotice M x cs) (hs : SmallNotice x) : AnsR Tryz.prog M 27 #[.agg cs.toArray] (fun M' v => ∃ cs' : List Value, v = .agg cs'.toArray ∧ RNotice M' x cs') :=
  (toNotice_f M x cs h hs).imp fun M' v _ ⟨cs', h1, h2⟩ => ⟨cs', h1, RNotice.mono (sub_le _ _) _ _ h2⟩
theorem eqNoticeS_a (M : Mem) (l : List GNotice) (A A' : Option Addr) (c c' : Nat) (h : SlR M RNotice 13 168 A c l) (h' : SlR M RNotice 13 168 A' c' l) : Ans Tryz.prog M 14 #[.slice A l.length c, .slice A' l.length c'] (.bool true) := by
  have hl := h.len
  refine ans_of T (l := [.slice A l.length c, .slice A' l.length c']) mixed Tryz.func14 rfl (by kernel_rfl) (Nat.le_of_ble_eq_true rfl) ?_
  (conv => whnf)
  refine CondK.mk (fun h1 => absurd h1 (by simp)) (fun _ => ?_)
  (conv => whnf)
  refine LoopK.mk {k : Nat // k ≤ l.length} (fun ⟨k, _⟩ => [(0, .v (.slice A l.length c)), (1, .v (.slice A' l.length c')), (5, .v (.int .i64 (k : Int)))]) (fun _ => []) (fun _ => M) (fun k => l.length - k.1) ⟨0, Nat.zero_le _⟩ ⟨⟨⟨rfl, rfl, rfl, trivial⟩, trivial, rfl, rfl⟩, rfl⟩ ?_
  rintro ⟨k, hk⟩
  (conv => whnf)
  refine CondK.mk (fun h1 => ?_) (fun h1 => ?_)
  · have hlt : k < l.length := by simpa using h1
    obtain ⟨ad, rfl, A0, c0, A1, c1, A2, c2, A3, c3, bnx, ⟨s0, s1, s2, s3⟩, x0, x1, x2, x3, x4, x5, x6, x7, x8, x9, x10, x11, x12⟩ := at_Notice h (List.getElem?_eq_getElem hlt)
    obtain ⟨ad', rfl, B0, d0, B1, d1, B2, d2, B3, d3, bny, ⟨t0, t1, t2, t3⟩, y0, y1, y2, y3, y4, y5, y6, y7, y8, y9, y10, y11, y12⟩ := at_Notice h' (List.getElem?_eq_getElem hlt)
    repeat' ((conv => whnf); first | with_reducible refine CondK.tt ?_ | with_reducible refine CondK.ff ?_ | with_reducible refine CondK.not ?_ | refine LdK.mk _ (by assumption) ?_ | refine IdxK.mk _ rfl (by omega) (by omega) ?_ | refine DrawN.q (by kernel_rfl) ?_ | refine CallK.mk _ (eqNotice_a M l[k] _ _ ⟨_, _, _, _, _, _, _, _, rfl, bnx, s0, s1, s2, s3⟩ ⟨_, _, _, _, _, _, _, _, rfl, bny, t0, t1, t2, t3⟩) ?_ | refine CallQ.mk _ (eqNotice_a M l[k] _ _ ⟨_, _, _, _, _, _, _, _, rfl, bnx, s0, s1, s2, s3⟩ ⟨_, _, _, _, _, _, _, _, rfl, bny, t0, t1, t2, t3⟩) ?_ | (refine CondK.no' ?_ ?_; focus (simp; done)) | (refine CondK.yes' ?_ ?_; focus (simp; done)) | exact rfl)
    exact ⟨⟨k + 1, hlt⟩, ⟨⟨rfl, rfl, look_int (i64_succ (by omega)), trivial⟩, trivial, rfl, rfl⟩, rfl, by simp; omega⟩
  · rfl
theorem szNoticeS_a (M : Mem) (l : List GNotice) (left : Int) (A : Option Addr) (c : Nat) (h : SlR M RNotice 13 168 A c l) : Ans Tryz.prog M 6 #[.slice A l.length c, .int .i64 left] (.int .i64 (szL szNotice l left)) := by
  have hl := h.len
  refine ans_of T (l := [.slice A l.length c, .int .i64 left]) mixed Tryz.func6 rfl (by kernel_rfl) (Nat.le_of_ble_eq_true rfl) ?_
  (conv => whnf)
  refine CondK.mk (fun h1 => ?_) (fun h1 => ?_)
  · refine ret_int ?_
    rw [szL, if_pos (by simpa using h1)]
  have h2 : szL szNotice l left = szRun szNotice l (IntKind.i64.wrap (left - (l.length : Int))) := by rw [szL, if_neg (by simpa using h1)]
  rw [h2]
  clear h1 h2
  generalize IntKind.i64.wrap (left - (l.length : Int)) = n0
  (conv => whnf)
  refine LoopK.mk {p : Nat × Int // p.1 ≤ l.length ∧ szRun szNotice l n0 = szRun szNotice (l.drop p.1) p.2} (fun ⟨(k, n), _⟩ => [(0, .v (.slice A l.length c)), (1, .v (.int .i64 n)), (5, .v (.int .i64 (k : Int)))]) (fun _ => []) (fun _ => M) (fun p => l.length - p.1.1) ⟨(0, n0), Nat.zero_le _, rfl⟩ ⟨⟨⟨rfl, rfl, rfl, trivial⟩, trivial, rfl, rfl⟩, rfl⟩ ?_
  rintro ⟨⟨k, n⟩, hk, hn⟩
  (conv => whnf)
  refine CondK.mk (fun h1 => ?_) (fun h1 => ?_)
  · have hlt : k < l.length := by simpa using h1
    obtain ⟨ad, rfl, A0, c0, A1, c1, A2, c2, A3, c3, bnx, ⟨s0, s1, s2, s3⟩, x0, x1, x2, x3, x4, x5, x6, x7, x8, x9, x10, x11, x12⟩ := at_Notice h (List.getElem?_eq_getElem hlt)
    simp only [] at hn
    rw [szRun_step hlt] at hn
    repeat' ((conv => whnf); first | with_reducible refine CondK.tt ?_ | with_reducible refine CondK.ff ?_ | with_reducible refine CondK.not ?_ | refine LdK.mk _ (by assumption) ?_ | refine IdxK.mk _ rfl (by omega) (by omega) ?_ | refine DrawN.q (by kernel_rfl) ?_ | refine CallK.mk _ (szNotice_a M l[k] n _ ⟨_, _, _, _, _, _, _, _, rfl, bnx, s0, s1, s2, s3⟩) ?_ | refine CallQ.mk _ (szNotice_a M l[k] n _ ⟨_, _, _, _, _, _, _, _, rfl, bnx, s0, s1, s2, s3⟩) ?_ | refine CondK.mk (fun h => ?_) (fun h => ?_) | exact rfl)
    · refine ret_int ?_
      rw [hn, if_pos (by simpa using h)]
    · rw [if_neg (by simpa using h)] at hn
      exact ⟨⟨(k + 1, _), hlt, hn⟩, ⟨⟨rfl, rfl, look_int (i64_succ (by omega)), trivial⟩, trivial, rfl, rfl⟩, rfl, by simp; omega⟩
  · refine ret_int ?_
    simp only [] at hn
    rw [hn, List.drop_eq_nil_of_le (by simp at h1; omega)]
    rfl
theorem toNoticeS_f (M : Mem) (l : List GNotice) (A : Option Addr) (c : Nat) (h : SlR M RNotice 13 168 A c l) (hsm : l.length ≤ 1048576 ∧ ∀ y ∈ l, SmallNotice y) : AnsR Tryz.prog M 10 #[.slice A l.length c] (fun M' v => ∃ A' c', v = .slice A' l.length c' ∧ SlR (sub M' M) RNotice 13 168 A' c' l) := by
  have hl := hsm.1
  refine ansR_of T (l := [.slice A l.length c]) mixed Tryz.func10 rfl (by kernel_rfl) (Nat.le_of_ble_eq_true rfl) ?_
  (conv => whnf)
  refine MkK.mk rfl (by omega) (by omega) (by show ((168 : Nat) : Int) * (l.length : Int) ≤ _; omega) ?_
  (conv => whnf)
  refine LoopK.mk (Fill M (fun M' x cs => RNotice (sub M' M) x cs) 13 l) (fun q => [(0, .v (.slice A l.length c)), (3, .s 0 l.length l.length 13), (4, .v (.int .i64 (q.css.length : Int)))]) (fun q => [(0, q.cells [.int .i64 0, .int .i64 0, .int .i64 0, .int .i64 0, .int .i64 0, .int .i64 0, .int .i64 0, .slice none 0 0, .slice none 0 0, .slice none 0 0, .int .i64 0, .int .i64 0, .slice none 0 0])]) (fun q => q.M) (fun q => l.length - q.css.length) (Fill.start M (fun M' x cs => RNotice (sub M' M) x cs) 13 l) ⟨⟨⟨rfl, rfl, rfl, trivial⟩, ⟨rfl, trivial⟩, rfl, rfl⟩, rfl⟩ ?_
  intro q
  have h := h.mono q.le (RNotice.mono q.le)
  (conv => whnf)
  refine CondK.mk (fun h1 => ?_) (fun h1 => ?_)
  · have hlt : q.css.length < l.length := by simpa using h1
    have hx := List.getElem?_eq_getElem hlt
    obtain ⟨ad, rfl, A0, c0, A1, c1, A2, c2, A3, c3, bnx, ⟨s0, s1, s2, s3⟩, x0, x1, x2, x3, x4, x5, x6, x7, x8, x9, x10, x11, x12⟩ := at_Notice h hx
    repeat' ((conv => whnf); first | with_reducible refine CondK.tt ?_ | with_reducible refine CondK.ff ?_ | with_reducible refine CondK.not ?_ | refine LdK.mk _ (by assumption) ?_ | refine IdxK.mk _ rfl (by omega) (by omega) ?_ | refine DrawN.q (by kernel_rfl) ?_ | refine IdxA.mk (q.css.length * 13) rfl (by omega) (by omega) ?_ | exact rfl)
    refine CallK.mr _ (toNotice_f _ l[q.css.length] _ ⟨_, _, _, _, _, _, _, _, rfl, bnx, s0, s1, s2, s3⟩ (hsm.2 _ (List.getElem_mem hlt))) (fun v M1 hl1 hv => ?_)
    obtain ⟨cs', rfl, hr⟩ := hv
    replace hr := RNotice.mono (sub_anti M1 q.le) _ _ hr
    have hz : cs'.length = 13 := by obtain ⟨E0, e0, E1, e1, E2, e2, E3, e3, rfl, _⟩ := hr; rfl
    have hs := q.store hl1 (RNotice.mono (sub_mono _ hl1)) hx hr hz (Z := [.int .i64 0, .int .i64 0, .int .i64 0, .int .i64 0, .int .i64 0, .int .i64 0, .int .i64 0, .slice none 0 0, .slice none 0 0, .slice none 0 0, .int .i64 0, .int .i64 0, .slice none 0 0]) rfl
    have hroom := q.room1 (Z := [.int .i64 0, .int .i64 0, .int .i64 0, .int .i64 0, .int .i64 0, .int .i64 0, .int .i64 0, .slice none 0 0, .slice none 0 0, .slice none 0 0, .int .i64 0, .int .i64 0, .slice none 0 0]) rfl hlt
    obtain ⟨E0, e0, E1, e1, E2, e2, E3, e3, rfl, hrb, hrs⟩ := hr
    repeat' ((conv => whnf); first | with_reducible refine CondK.tt ?_ | with_reducible refine CondK.ff ?_ | with_reducible refine CondK.not ?_ | refine IdxA.mk (q.css.length * 13) rfl (by omega) (by omega) ?_ | exact rfl)
    refine Owe.mk hroom ?_
    (conv => whnf)
    exact ⟨q.step hl1 (RNotice.mono (sub_mono _ hl1)) hx ⟨_, _, _, _, _, _, _, _, rfl, hrb, hrs⟩ hz, ⟨⟨rfl, rfl, look_int ((i64_succ (by omega)).trans (by simp [Fill.step])), trivial⟩, ⟨congrArg some hs, trivial⟩, rfl, rfl⟩, rfl, by simp [Fill.step]; omega⟩
  · refine RetK.fr fun g M' hl hg => ⟨_, _, rfl, ?_⟩
    exact q.new (Z := [.int .i64 0, .int .i64 0, .int .i64 0, .int .i64 0, .int .i64 0, .int .i64 0, .int .i64 0, .slice none 0 0, .slice none 0 0, .slice none 0 0, .int .i64 0, .int .i64 0, .slice none 0 0]) (by simpa using h1) (RNotice.mono (sub_mono _ hl)) (hg 0 _ rfl) h.len
theorem toNoticeS_a (M : Mem) (l : List GNotice) (A : Option Addr) (c : Nat) (h : SlR M RNotice 13 168 A c l) (hsm : l.length ≤ 1048576 ∧ ∀ y ∈ l, SmallNotice y) : AnsR Tryz.prog M 10 #[.slice A l.length c] (fun M' v => ∃ A' c', v = .slice A' l.length c' ∧ SlR M' RNotice 13 168 A' c' l) :=
  (toNoticeS_f M l A c h hsm).imp fun M' v _ ⟨A', c', h1, h2⟩ => ⟨A', c', h1, h2.mono (sub_le _ _) (RNotice.mono (sub_le _ _))⟩
end Go.Proofs.YtoedjkeahjmpiaaGreat.Hlp
