/- The laws' helpers by the light walk: equal data are called equal; what a list measures; what is turned is the same. -/
import Derived.Test.YtmmgknhefobloaaHlpB
namespace Go.Proofs.Ytmmgknhefobloaa.Hlp
open Go Go.RowKit Go.Proofs Go.Proofs.Ytmmgknhefobloaa.Lw
set_option linter.unusedVariables false
set_option linter.unusedSimpArgs false
set_option maxRecDepth 100000
set_option maxHeartbeats 4000000
theorem eqMon_a (M : Mem) (x : GMon) (cs ds : List Value) (h : RMon M x cs) (h' : RMon M x ds) : Ans Try.prog M 23 #[.agg cs.toArray, .agg ds.toArray] (.bool true) := by
  obtain ⟨A0, c0, A1, c1, A2, c2, rfl, hb, s0, s1, s2⟩ := h
  obtain ⟨B0, d0, B1, d1, B2, d2, rfl, _, t0, t1, t2⟩ := h'
  refine ans_of T (l := [.agg #[.int .i64 x.Id, .int .i64 x.Many, .slice A0 x.Slots.length c0, .int .i64 x.Try.Epoch, .int .i64 x.Try.Ballot.No, .int .i64 x.Try.Ballot.By, .int .i64 x.Try.Inc.Epoch, .int .i64 x.Try.Inc.Kind, .int .i64 x.Try.Inc.A, .int .i64 x.Try.Inc.B, .int .i64 x.Try.Highest.No, .int .i64 x.Try.Highest.By, .slice A1 x.Try.Promises.length c1, .slice A2 x.Try.Accepts.length c2, .bool x.Try.Decided], .agg #[.int .i64 x.Id, .int .i64 x.Many, .slice B0 x.Slots.length d0, .int .i64 x.Try.Epoch, .int .i64 x.Try.Ballot.No, .int .i64 x.Try.Ballot.By, .int .i64 x.Try.Inc.Epoch, .int .i64 x.Try.Inc.Kind, .int .i64 x.Try.Inc.A, .int .i64 x.Try.Inc.B, .int .i64 x.Try.Highest.No, .int .i64 x.Try.Highest.By, .slice B1 x.Try.Promises.length d1, .slice B2 x.Try.Accepts.length d2, .bool x.Try.Decided]]) mixed Try.func23 rfl (by kernel_rfl) (Nat.le_of_ble_eq_true rfl) ?_
  repeat' ((conv => whnf); first | with_reducible refine CondK.tt ?_ | with_reducible refine CondK.ff ?_ | with_reducible refine CondK.not ?_ | refine CallK.mk _ (eqSlotS_a M _ _ _ _ _ s0 t0) ?_ | refine CallQ.mk _ (eqSlotS_a M _ _ _ _ _ s0 t0) ?_ | refine CallK.mk _ (eqTry_a M x.Try _ _ ⟨_, _, _, _, rfl, trivial, s1, s2⟩ ⟨_, _, _, _, rfl, trivial, t1, t2⟩) ?_ | refine CallQ.mk _ (eqTry_a M x.Try _ _ ⟨_, _, _, _, rfl, trivial, s1, s2⟩ ⟨_, _, _, _, rfl, trivial, t1, t2⟩) ?_ | (refine CondK.no' ?_ ?_; focus (simp; done)) | (refine CondK.yes' ?_ ?_; focus (simp; done)) | exact rfl)
def szMon (x : GMon) (left : Int) : Int := szT (szSub (left) x.Slots.length) fun left => szT (szTry x.Try (left)) fun left => left
theorem szMon_a (M : Mem) (x : GMon) (left : Int) (cs : List Value) (h : RMon M x cs) : Ans Try.prog M 13 #[.agg cs.toArray, .int .i64 left] (.int .i64 (szMon x left)) := by
  obtain ⟨A0, c0, A1, c1, A2, c2, rfl, hb, s0, s1, s2⟩ := h
  refine ans_of T (l := [.agg #[.int .i64 x.Id, .int .i64 x.Many, .slice A0 x.Slots.length c0, .int .i64 x.Try.Epoch, .int .i64 x.Try.Ballot.No, .int .i64 x.Try.Ballot.By, .int .i64 x.Try.Inc.Epoch, .int .i64 x.Try.Inc.Kind, .int .i64 x.Try.Inc.A, .int .i64 x.Try.Inc.B, .int .i64 x.Try.Highest.No, .int .i64 x.Try.Highest.By, .slice A1 x.Try.Promises.length c1, .slice A2 x.Try.Accepts.length c2, .bool x.Try.Decided], .int .i64 left]) mixed Try.func13 rfl (by kernel_rfl) (Nat.le_of_ble_eq_true rfl) ?_
  repeat' ((conv => whnf); first | with_reducible refine CondK.tt ?_ | with_reducible refine CondK.ff ?_ | with_reducible refine CondK.not ?_ | refine CallK.mk _ (szSlotS_a M _ _ _ _ s0) ?_ | refine CallQ.mk _ (szSlotS_a M _ _ _ _ s0) ?_ | refine CallK.mk _ (szTry_a M x.Try _ _ ⟨_, _, _, _, rfl, trivial, s1, s2⟩) ?_ | refine CallQ.mk _ (szTry_a M x.Try _ _ ⟨_, _, _, _, rfl, trivial, s1, s2⟩) ?_ | refine CondK.mk (fun h => ?_) (fun h => ?_) | exact rfl)
  all_goals refine ret_int ?_
  all_goals (simp only [decide_eq_true_eq, decide_eq_false_iff_not] at *)
  all_goals first | (simp only [szMon, szT, if_true, if_false, *]; done) | (simp [szMon, szT, *]; done) | (simp [szMon, szT, szSub, *]; done) | (unfold szMon szT szSub; simp [*]; done) | grind [szMon, szT, szSub]
def SmallMon (x : GMon) : Prop := (x.Slots.length ≤ 1048576 ∧ ∀ y ∈ x.Slots, True) ∧ SmallTry x.Try
theorem szMon_ok {M : Mem} {x : GMon} {cs : List Value} (hr : RMon M x cs) {left : Int} (h0 : 0 ≤ left) (h1 : left ≤ 1048576) (h : 0 ≤ szMon x left) : SmallMon x ∧ szMon x left ≤ 1048576 := by
  obtain ⟨A0, c0, A1, c1, A2, c2, rfl, hb, s0, s1, s2⟩ := hr
  unfold szMon at h ⊢
  obtain ⟨p2, h', e2⟩ := szT_ok h
  replace h := h'
  rw [e2]
  have q2 := szSub_ok h0 h1 s0.len p2
  obtain ⟨p3, h', e3⟩ := szT_ok h
  replace h := h'
  rw [e3]
  have q3 := szTry_ok (show RTry M x.Try _ from ⟨A1, c1, A2, c2, rfl, trivial, s1, s2⟩) p2 q2.2 p3
  exact ⟨⟨⟨q2.1, fun _ _ => trivial⟩, q3.1⟩, q3.2⟩
theorem toMon_f (M : Mem) (x : GMon) (cs : List Value) (h : RMon M x cs) (hs : SmallMon x) : AnsR Try.prog M 18 #[.agg cs.toArray] (fun M' v => ∃ cs' : List Value, v = .agg cs'.toArray ∧ RMon (sub M' M) x cs') := by
  obtain ⟨z0, z1⟩ := hs
  obtain ⟨A0, c0, A1, c1, A2, c2, rfl, hb, s0, s1, s2⟩ := h
  refine ansR_of T (l := [.agg #[.int .i64 x.Id, .int .i64 x.Many, .slice A0 x.Slots.length c0, .int .i64 x.Try.Epoch, .int .i64 x.Try.Ballot.No, .int .i64 x.Try.Ballot.By, .int .i64 x.Try.Inc.Epoch, .int .i64 x.Try.Inc.Kind, .int .i64 x.Try.Inc.A, .int .i64 x.Try.Inc.B, .int .i64 x.Try.Highest.No, .int .i64 x.Try.Highest.By, .slice A1 x.Try.Promises.length c1, .slice A2 x.Try.Accepts.length c2, .bool x.Try.Decided]]) mixed Try.func18 rfl (by kernel_rfl) (Nat.le_of_ble_eq_true rfl) ?_
  repeat' ((conv => whnf); first | with_reducible refine CondK.tt ?_ | with_reducible refine CondK.ff ?_ | with_reducible refine CondK.not ?_ | exact rfl)
  refine CallK.mr _ (toSlotS_f _ _ _ _ s0 z0) (fun v1 M1 hl1 hv1 => ?_)
  obtain ⟨B0, d0, rfl, r0⟩ := hv1
  replace s1 := s1.mono hl1 (RInt.mono hl1)
  replace s2 := s2.mono hl1 (RInt.mono hl1)
  have hle := hl1
  repeat' ((conv => whnf); first | with_reducible refine CondK.tt ?_ | with_reducible refine CondK.ff ?_ | with_reducible refine CondK.not ?_ | exact rfl)
  refine CallK.mr _ (toTry_f _ x.Try _ ⟨_, _, _, _, rfl, trivial, s1, s2⟩ z1) (fun v2 M2 hl2 hv2 => ?_)
  obtain ⟨_, rfl, ⟨B1, d1, B2, d2, rfl, _, r1, r2⟩⟩ := hv2
  replace r0 := r0.mono (sub_mono _ hl2) (RSlot.mono (sub_mono _ hl2))
  replace r1 := r1.mono (sub_anti _ hle) (RInt.mono (sub_anti _ hle))
  replace r2 := r2.mono (sub_anti _ hle) (RInt.mono (sub_anti _ hle))
  replace hle := hle.trans hl2
  repeat' ((conv => whnf); first | with_reducible refine CondK.tt ?_ | with_reducible refine CondK.ff ?_ | with_reducible refine CondK.not ?_ | exact rfl)
  exact RetK.mk fun g M' hl hg => ⟨_, rfl, _, _, _, _, _, _, rfl, hb, r0.mono (sub_mono _ hl) (RSlot.mono (sub_mono _ hl)), r1.mono (sub_mono _ hl) (RInt.mono (sub_mono _ hl)), r2.mono (sub_mono _ hl) (RInt.mono (sub_mono _ hl))⟩
theorem toMon_a (M : Mem) (x : GMon) (cs : List Value) (h : RMon M x cs) (hs : SmallMon x) : AnsR Try.prog M 18 #[.agg cs.toArray] (fun M' v => ∃ cs' : List Value, v = .agg cs'.toArray ∧ RMon M' x cs') :=
  (toMon_f M x cs h hs).imp fun M' v _ ⟨cs', h1, h2⟩ => ⟨cs', h1, RMon.mono (sub_le _ _) _ _ h2⟩
theorem eqMonS_a (M : Mem) (l : List GMon) (A A' : Option Addr) (c c' : Nat) (h : SlR M RMon 15 168 A c l) (h' : SlR M RMon 15 168 A' c' l) : Ans Try.prog M 9 #[.slice A l.length c, .slice A' l.length c'] (.bool true) := by
  have hl := h.len
  refine ans_of T (l := [.slice A l.length c, .slice A' l.length c']) mixed Try.func9 rfl (by kernel_rfl) (Nat.le_of_ble_eq_true rfl) ?_
  (conv => whnf)
  refine CondK.mk (fun h1 => absurd h1 (by simp)) (fun _ => ?_)
  (conv => whnf)
  refine LoopK.mk {k : Nat // k ≤ l.length} (fun ⟨k, _⟩ => [(0, .v (.slice A l.length c)), (1, .v (.slice A' l.length c')), (5, .v (.int .i64 (k : Int)))]) (fun _ => []) (fun _ => M) (fun k => l.length - k.1) ⟨0, Nat.zero_le _⟩ ⟨⟨⟨rfl, rfl, rfl, trivial⟩, trivial, rfl, rfl⟩, rfl⟩ ?_
  rintro ⟨k, hk⟩
  (conv => whnf)
  refine CondK.mk (fun h1 => ?_) (fun h1 => ?_)
  · have hlt : k < l.length := by simpa using h1
    obtain ⟨ad, rfl, A0, c0, A1, c1, A2, c2, bnx, ⟨s0, s1, s2⟩, x0, x1, x2, x3, x4, x5, x6, x7, x8, x9, x10, x11, x12, x13, x14⟩ := at_Mon h (List.getElem?_eq_getElem hlt)
    obtain ⟨ad', rfl, B0, d0, B1, d1, B2, d2, bny, ⟨t0, t1, t2⟩, y0, y1, y2, y3, y4, y5, y6, y7, y8, y9, y10, y11, y12, y13, y14⟩ := at_Mon h' (List.getElem?_eq_getElem hlt)
    repeat' ((conv => whnf); first | with_reducible refine CondK.tt ?_ | with_reducible refine CondK.ff ?_ | with_reducible refine CondK.not ?_ | refine LdK.mk _ (by assumption) ?_ | refine IdxK.mk _ rfl (by omega) (by omega) ?_ | refine DrawN.q (by kernel_rfl) ?_ | refine CallK.mk _ (eqMon_a M l[k] _ _ ⟨_, _, _, _, _, _, rfl, bnx, s0, s1, s2⟩ ⟨_, _, _, _, _, _, rfl, bny, t0, t1, t2⟩) ?_ | refine CallQ.mk _ (eqMon_a M l[k] _ _ ⟨_, _, _, _, _, _, rfl, bnx, s0, s1, s2⟩ ⟨_, _, _, _, _, _, rfl, bny, t0, t1, t2⟩) ?_ | (refine CondK.no' ?_ ?_; focus (simp; done)) | (refine CondK.yes' ?_ ?_; focus (simp; done)) | exact rfl)
    exact ⟨⟨k + 1, hlt⟩, ⟨⟨rfl, rfl, look_int (i64_succ (by omega)), trivial⟩, trivial, rfl, rfl⟩, rfl, by simp; omega⟩
  · rfl
theorem szMonS_a (M : Mem) (l : List GMon) (left : Int) (A : Option Addr) (c : Nat) (h : SlR M RMon 15 168 A c l) : Ans Try.prog M 4 #[.slice A l.length c, .int .i64 left] (.int .i64 (szL szMon l left)) := by
  have hl := h.len
  refine ans_of T (l := [.slice A l.length c, .int .i64 left]) mixed Try.func4 rfl (by kernel_rfl) (Nat.le_of_ble_eq_true rfl) ?_
  (conv => whnf)
  refine CondK.mk (fun h1 => ?_) (fun h1 => ?_)
  · refine ret_int ?_
    rw [szL, if_pos (by simpa using h1)]
  have h2 : szL szMon l left = szRun szMon l (IntKind.i64.wrap (left - (l.length : Int))) := by rw [szL, if_neg (by simpa using h1)]
  rw [h2]
  clear h1 h2
  generalize IntKind.i64.wrap (left - (l.length : Int)) = n0
  (conv => whnf)
  refine LoopK.mk {p : Nat × Int // p.1 ≤ l.length ∧ szRun szMon l n0 = szRun szMon (l.drop p.1) p.2} (fun ⟨(k, n), _⟩ => [(0, .v (.slice A l.length c)), (1, .v (.int .i64 n)), (5, .v (.int .i64 (k : Int)))]) (fun _ => []) (fun _ => M) (fun p => l.length - p.1.1) ⟨(0, n0), Nat.zero_le _, rfl⟩ ⟨⟨⟨rfl, rfl, rfl, trivial⟩, trivial, rfl, rfl⟩, rfl⟩ ?_
  rintro ⟨⟨k, n⟩, hk, hn⟩
  (conv => whnf)
  refine CondK.mk (fun h1 => ?_) (fun h1 => ?_)
  · have hlt : k < l.length := by simpa using h1
    obtain ⟨ad, rfl, A0, c0, A1, c1, A2, c2, bnx, ⟨s0, s1, s2⟩, x0, x1, x2, x3, x4, x5, x6, x7, x8, x9, x10, x11, x12, x13, x14⟩ := at_Mon h (List.getElem?_eq_getElem hlt)
    simp only [] at hn
    rw [szRun_step hlt] at hn
    repeat' ((conv => whnf); first | with_reducible refine CondK.tt ?_ | with_reducible refine CondK.ff ?_ | with_reducible refine CondK.not ?_ | refine LdK.mk _ (by assumption) ?_ | refine IdxK.mk _ rfl (by omega) (by omega) ?_ | refine DrawN.q (by kernel_rfl) ?_ | refine CallK.mk _ (szMon_a M l[k] n _ ⟨_, _, _, _, _, _, rfl, bnx, s0, s1, s2⟩) ?_ | refine CallQ.mk _ (szMon_a M l[k] n _ ⟨_, _, _, _, _, _, rfl, bnx, s0, s1, s2⟩) ?_ | refine CondK.mk (fun h => ?_) (fun h => ?_) | exact rfl)
    · refine ret_int ?_
      rw [hn, if_pos (by simpa using h)]
    · rw [if_neg (by simpa using h)] at hn
      exact ⟨⟨(k + 1, _), hlt, hn⟩, ⟨⟨rfl, rfl, look_int (i64_succ (by omega)), trivial⟩, trivial, rfl, rfl⟩, rfl, by simp; omega⟩
  · refine ret_int ?_
    simp only [] at hn
    rw [hn, List.drop_eq_nil_of_le (by simp at h1; omega)]
    rfl
theorem toMonS_f (M : Mem) (l : List GMon) (A : Option Addr) (c : Nat) (h : SlR M RMon 15 168 A c l) (hsm : l.length ≤ 1048576 ∧ ∀ y ∈ l, SmallMon y) : AnsR Try.prog M 6 #[.slice A l.length c] (fun M' v => ∃ A' c', v = .slice A' l.length c' ∧ SlR (sub M' M) RMon 15 168 A' c' l) := by
  have hl := hsm.1
  refine ansR_of T (l := [.slice A l.length c]) mixed Try.func6 rfl (by kernel_rfl) (Nat.le_of_ble_eq_true rfl) ?_
  (conv => whnf)
  refine MkK.mk rfl (by omega) (by omega) (by show ((168 : Nat) : Int) * (l.length : Int) ≤ _; omega) ?_
  (conv => whnf)
  refine LoopK.mk (Fill M (fun M' x cs => RMon (sub M' M) x cs) 15 l) (fun q => [(0, .v (.slice A l.length c)), (3, .s 0 l.length l.length 15), (4, .v (.int .i64 (q.css.length : Int)))]) (fun q => [(0, q.cells [.int .i64 0, .int .i64 0, .slice none 0 0, .int .i64 0, .int .i64 0, .int .i64 0, .int .i64 0, .int .i64 0, .int .i64 0, .int .i64 0, .int .i64 0, .int .i64 0, .slice none 0 0, .slice none 0 0, .bool false])]) (fun q => q.M) (fun q => l.length - q.css.length) (Fill.start M (fun M' x cs => RMon (sub M' M) x cs) 15 l) ⟨⟨⟨rfl, rfl, rfl, trivial⟩, ⟨rfl, trivial⟩, rfl, rfl⟩, rfl⟩ ?_
  intro q
  have h := h.mono q.le (RMon.mono q.le)
  (conv => whnf)
  refine CondK.mk (fun h1 => ?_) (fun h1 => ?_)
  · have hlt : q.css.length < l.length := by simpa using h1
    have hx := List.getElem?_eq_getElem hlt
    obtain ⟨ad, rfl, A0, c0, A1, c1, A2, c2, bnx, ⟨s0, s1, s2⟩, x0, x1, x2, x3, x4, x5, x6, x7, x8, x9, x10, x11, x12, x13, x14⟩ := at_Mon h hx
    repeat' ((conv => whnf); first | with_reducible refine CondK.tt ?_ | with_reducible refine CondK.ff ?_ | with_reducible refine CondK.not ?_ | refine LdK.mk _ (by assumption) ?_ | refine IdxK.mk _ rfl (by omega) (by omega) ?_ | refine DrawN.q (by kernel_rfl) ?_ | refine IdxA.mk (q.css.length * 15) rfl (by omega) (by omega) ?_ | exact rfl)
    refine CallK.mr _ (toMon_f _ l[q.css.length] _ ⟨_, _, _, _, _, _, rfl, bnx, s0, s1, s2⟩ (hsm.2 _ (List.getElem_mem hlt))) (fun v M1 hl1 hv => ?_)
    obtain ⟨cs', rfl, hr⟩ := hv
    replace hr := RMon.mono (sub_anti M1 q.le) _ _ hr
    have hz : cs'.length = 15 := by obtain ⟨E0, e0, E1, e1, E2, e2, rfl, _⟩ := hr; rfl
    have hs := q.store hl1 (RMon.mono (sub_mono _ hl1)) hx hr hz (Z := [.int .i64 0, .int .i64 0, .slice none 0 0, .int .i64 0, .int .i64 0, .int .i64 0, .int .i64 0, .int .i64 0, .int .i64 0, .int .i64 0, .int .i64 0, .int .i64 0, .slice none 0 0, .slice none 0 0, .bool false]) rfl
    have hroom := q.room1 (Z := [.int .i64 0, .int .i64 0, .slice none 0 0, .int .i64 0, .int .i64 0, .int .i64 0, .int .i64 0, .int .i64 0, .int .i64 0, .int .i64 0, .int .i64 0, .int .i64 0, .slice none 0 0, .slice none 0 0, .bool false]) rfl hlt
    obtain ⟨E0, e0, E1, e1, E2, e2, rfl, hrb, hrs⟩ := hr
    repeat' ((conv => whnf); first | with_reducible refine CondK.tt ?_ | with_reducible refine CondK.ff ?_ | with_reducible refine CondK.not ?_ | refine IdxA.mk (q.css.length * 15) rfl (by omega) (by omega) ?_ | exact rfl)
    refine Owe.mk hroom ?_
    (conv => whnf)
    exact ⟨q.step hl1 (RMon.mono (sub_mono _ hl1)) hx ⟨_, _, _, _, _, _, rfl, hrb, hrs⟩ hz, ⟨⟨rfl, rfl, look_int ((i64_succ (by omega)).trans (by simp [Fill.step])), trivial⟩, ⟨congrArg some hs, trivial⟩, rfl, rfl⟩, rfl, by simp [Fill.step]; omega⟩
  · refine RetK.fr fun g M' hl hg => ⟨_, _, rfl, ?_⟩
    exact q.new (Z := [.int .i64 0, .int .i64 0, .slice none 0 0, .int .i64 0, .int .i64 0, .int .i64 0, .int .i64 0, .int .i64 0, .int .i64 0, .int .i64 0, .int .i64 0, .int .i64 0, .slice none 0 0, .slice none 0 0, .bool false]) (by simpa using h1) (RMon.mono (sub_mono _ hl)) (hg 0 _ rfl) h.len
theorem toMonS_a (M : Mem) (l : List GMon) (A : Option Addr) (c : Nat) (h : SlR M RMon 15 168 A c l) (hsm : l.length ≤ 1048576 ∧ ∀ y ∈ l, SmallMon y) : AnsR Try.prog M 6 #[.slice A l.length c] (fun M' v => ∃ A' c', v = .slice A' l.length c' ∧ SlR M' RMon 15 168 A' c' l) :=
  (toMonS_f M l A c h hsm).imp fun M' v _ ⟨A', c', h1, h2⟩ => ⟨A', c', h1, h2.mono (sub_le _ _) (RMon.mono (sub_le _ _))⟩
end Go.Proofs.Ytmmgknhefobloaa.Hlp
