/- The laws' helpers by the light walk: equal data are called equal; what a list measures; what is turned is the same. -/
import Derived.Test.YtmmgknhefobloaaHlpA
namespace Go.Proofs.Ytmmgknhefobloaa.Hlp
open Go Go.RowKit Go.Proofs Go.Proofs.Ytmmgknhefobloaa.Lw
set_option linter.unusedVariables false
set_option linter.unusedSimpArgs false
set_option maxRecDepth 100000
set_option maxHeartbeats 4000000
theorem eqTry_a (M : Mem) (x : GTry) (cs ds : List Value) (h : RTry M x cs) (h' : RTry M x ds) : Ans Try.prog M 39 #[.agg cs.toArray, .agg ds.toArray] (.bool true) := by
  obtain ⟨A0, c0, A1, c1, rfl, hb, s0, s1⟩ := h
  obtain ⟨B0, d0, B1, d1, rfl, _, t0, t1⟩ := h'
  refine ans_of T (l := [.agg #[.int .i64 x.Epoch, .int .i64 x.Ballot.No, .int .i64 x.Ballot.By, .int .i64 x.Inc.Epoch, .int .i64 x.Inc.Kind, .int .i64 x.Inc.A, .int .i64 x.Inc.B, .int .i64 x.Highest.No, .int .i64 x.Highest.By, .slice A0 x.Promises.length c0, .slice A1 x.Accepts.length c1, .bool x.Decided], .agg #[.int .i64 x.Epoch, .int .i64 x.Ballot.No, .int .i64 x.Ballot.By, .int .i64 x.Inc.Epoch, .int .i64 x.Inc.Kind, .int .i64 x.Inc.A, .int .i64 x.Inc.B, .int .i64 x.Highest.No, .int .i64 x.Highest.By, .slice B0 x.Promises.length d0, .slice B1 x.Accepts.length d1, .bool x.Decided]]) mixed Try.func39 rfl (by kernel_rfl) (Nat.le_of_ble_eq_true rfl) ?_
  repeat' ((conv => whnf); first | with_reducible refine CondK.tt ?_ | with_reducible refine CondK.ff ?_ | with_reducible refine CondK.not ?_ | refine CallK.mk _ (eqBallot_a M _) ?_ | refine CallQ.mk _ (eqBallot_a M _) ?_ | refine CallK.mk _ (eqInc_a M _) ?_ | refine CallQ.mk _ (eqInc_a M _) ?_ | refine CallK.mk _ (eqBallot_a M _) ?_ | refine CallQ.mk _ (eqBallot_a M _) ?_ | refine CallK.mk _ (eqInt64S_a M _ _ _ _ _ s0 t0) ?_ | refine CallQ.mk _ (eqInt64S_a M _ _ _ _ _ s0 t0) ?_ | refine CallK.mk _ (eqInt64S_a M _ _ _ _ _ s1 t1) ?_ | refine CallQ.mk _ (eqInt64S_a M _ _ _ _ _ s1 t1) ?_ | (refine CondK.no' ?_ ?_; focus (simp; done)) | (refine CondK.yes' ?_ ?_; focus (simp; done)) | exact rfl)
def szTry (x : GTry) (left : Int) : Int := szT (szSub (left) x.Promises.length) fun left => szT (szSub (left) x.Accepts.length) fun left => left
theorem szTry_a (M : Mem) (x : GTry) (left : Int) (cs : List Value) (h : RTry M x cs) : Ans Try.prog M 27 #[.agg cs.toArray, .int .i64 left] (.int .i64 (szTry x left)) := by
  obtain ⟨A0, c0, A1, c1, rfl, hb, s0, s1⟩ := h
  refine ans_of T (l := [.agg #[.int .i64 x.Epoch, .int .i64 x.Ballot.No, .int .i64 x.Ballot.By, .int .i64 x.Inc.Epoch, .int .i64 x.Inc.Kind, .int .i64 x.Inc.A, .int .i64 x.Inc.B, .int .i64 x.Highest.No, .int .i64 x.Highest.By, .slice A0 x.Promises.length c0, .slice A1 x.Accepts.length c1, .bool x.Decided], .int .i64 left]) mixed Try.func27 rfl (by kernel_rfl) (Nat.le_of_ble_eq_true rfl) ?_
  repeat' ((conv => whnf); first | with_reducible refine CondK.tt ?_ | with_reducible refine CondK.ff ?_ | with_reducible refine CondK.not ?_ | refine CallK.mk _ (szInt64S_a M _ _ _ _ s0) ?_ | refine CallQ.mk _ (szInt64S_a M _ _ _ _ s0) ?_ | refine CallK.mk _ (szInt64S_a M _ _ _ _ s1) ?_ | refine CallQ.mk _ (szInt64S_a M _ _ _ _ s1) ?_ | refine CondK.mk (fun h => ?_) (fun h => ?_) | exact rfl)
  all_goals refine ret_int ?_
  all_goals (simp only [decide_eq_true_eq, decide_eq_false_iff_not] at *)
  all_goals first | (simp only [szTry, szT, if_true, if_false, *]; done) | (simp [szTry, szT, *]; done) | (simp [szTry, szT, szSub, *]; done) | (unfold szTry szT szSub; simp [*]; done) | grind [szTry, szT, szSub]
def SmallTry (x : GTry) : Prop := (x.Promises.length ≤ 1048576 ∧ ∀ y ∈ x.Promises, True) ∧ (x.Accepts.length ≤ 1048576 ∧ ∀ y ∈ x.Accepts, True)
theorem szTry_ok {M : Mem} {x : GTry} {cs : List Value} (hr : RTry M x cs) {left : Int} (h0 : 0 ≤ left) (h1 : left ≤ 1048576) (h : 0 ≤ szTry x left) : SmallTry x ∧ szTry x left ≤ 1048576 := by
  obtain ⟨A0, c0, A1, c1, rfl, hb, s0, s1⟩ := hr
  unfold szTry at h ⊢
  obtain ⟨p4, h', e4⟩ := szT_ok h
  replace h := h'
  rw [e4]
  have q4 := szSub_ok h0 h1 s0.len p4
  obtain ⟨p5, h', e5⟩ := szT_ok h
  replace h := h'
  rw [e5]
  have q5 := szSub_ok p4 q4.2 s1.len p5
  exact ⟨⟨⟨q4.1, fun _ _ => trivial⟩, ⟨q5.1, fun _ _ => trivial⟩⟩, q5.2⟩
theorem toTry_f (M : Mem) (x : GTry) (cs : List Value) (h : RTry M x cs) (hs : SmallTry x) : AnsR Try.prog M 35 #[.agg cs.toArray] (fun M' v => ∃ cs' : List Value, v = .agg cs'.toArray ∧ RTry (sub M' M) x cs') := by
  obtain ⟨z0, z1⟩ := hs
  obtain ⟨A0, c0, A1, c1, rfl, hb, s0, s1⟩ := h
  refine ansR_of T (l := [.agg #[.int .i64 x.Epoch, .int .i64 x.Ballot.No, .int .i64 x.Ballot.By, .int .i64 x.Inc.Epoch, .int .i64 x.Inc.Kind, .int .i64 x.Inc.A, .int .i64 x.Inc.B, .int .i64 x.Highest.No, .int .i64 x.Highest.By, .slice A0 x.Promises.length c0, .slice A1 x.Accepts.length c1, .bool x.Decided]]) mixed Try.func35 rfl (by kernel_rfl) (Nat.le_of_ble_eq_true rfl) ?_
  repeat' ((conv => whnf); first | with_reducible refine CondK.tt ?_ | with_reducible refine CondK.ff ?_ | with_reducible refine CondK.not ?_ | refine CallK.mk _ (toBallot_a _ _) ?_ | refine CallQ.mk _ (toBallot_a _ _) ?_ | refine CallK.mk _ (toInc_a _ _) ?_ | refine CallQ.mk _ (toInc_a _ _) ?_ | refine CallK.mk _ (toBallot_a _ _) ?_ | refine CallQ.mk _ (toBallot_a _ _) ?_ | exact rfl)
  refine CallK.mr _ (toInt64S_f _ _ _ _ s0 z0) (fun v1 M1 hl1 hv1 => ?_)
  obtain ⟨B0, d0, rfl, r0⟩ := hv1
  replace s1 := s1.mono hl1 (RInt.mono hl1)
  have hle := hl1
  repeat' ((conv => whnf); first | with_reducible refine CondK.tt ?_ | with_reducible refine CondK.ff ?_ | with_reducible refine CondK.not ?_ | refine CallK.mk _ (toBallot_a _ _) ?_ | refine CallQ.mk _ (toBallot_a _ _) ?_ | refine CallK.mk _ (toInc_a _ _) ?_ | refine CallQ.mk _ (toInc_a _ _) ?_ | refine CallK.mk _ (toBallot_a _ _) ?_ | refine CallQ.mk _ (toBallot_a _ _) ?_ | exact rfl)
  refine CallK.mr _ (toInt64S_f _ _ _ _ s1 z1) (fun v2 M2 hl2 hv2 => ?_)
  obtain ⟨B1, d1, rfl, r1⟩ := hv2
  replace r0 := r0.mono (sub_mono _ hl2) (RInt.mono (sub_mono _ hl2))
  replace r1 := r1.mono (sub_anti _ hle) (RInt.mono (sub_anti _ hle))
  replace hle := hle.trans hl2
  repeat' ((conv => whnf); first | with_reducible refine CondK.tt ?_ | with_reducible refine CondK.ff ?_ | with_reducible refine CondK.not ?_ | refine CallK.mk _ (toBallot_a _ _) ?_ | refine CallQ.mk _ (toBallot_a _ _) ?_ | refine CallK.mk _ (toInc_a _ _) ?_ | refine CallQ.mk _ (toInc_a _ _) ?_ | refine CallK.mk _ (toBallot_a _ _) ?_ | refine CallQ.mk _ (toBallot_a _ _) ?_ | exact rfl)
  exact RetK.mk fun g M' hl hg => ⟨_, rfl, _, _, _, _, rfl, hb, r0.mono (sub_mono _ hl) (RInt.mono (sub_mono _ hl)), r1.mono (sub_mono _ hl) (RInt.mono (sub_mono _ hl))⟩
theorem toTry_a (M : Mem) (x : GTry) (cs : List Value) (h : RTry M x cs) (hs : SmallTry x) : AnsR Try.prog M 35 #[.agg cs.toArray] (fun M' v => ∃ cs' : List Value, v = .agg cs'.toArray ∧ RTry M' x cs') :=
  (toTry_f M x cs h hs).imp fun M' v _ ⟨cs', h1, h2⟩ => ⟨cs', h1, RTry.mono (sub_le _ _) _ _ h2⟩
theorem eqSlot_a (M : Mem) (x : GSlot) : Ans Try.prog M 50 #[.agg #[.int .i64 x.Epoch, .int .i64 x.Promised.No, .int .i64 x.Promised.By, .int .i64 x.Accepted.No, .int .i64 x.Accepted.By, .int .i64 x.Inc.Epoch, .int .i64 x.Inc.Kind, .int .i64 x.Inc.A, .int .i64 x.Inc.B], .agg #[.int .i64 x.Epoch, .int .i64 x.Promised.No, .int .i64 x.Promised.By, .int .i64 x.Accepted.No, .int .i64 x.Accepted.By, .int .i64 x.Inc.Epoch, .int .i64 x.Inc.Kind, .int .i64 x.Inc.A, .int .i64 x.Inc.B]] (.bool true) := by
  refine ans_of T (l := [.agg #[.int .i64 x.Epoch, .int .i64 x.Promised.No, .int .i64 x.Promised.By, .int .i64 x.Accepted.No, .int .i64 x.Accepted.By, .int .i64 x.Inc.Epoch, .int .i64 x.Inc.Kind, .int .i64 x.Inc.A, .int .i64 x.Inc.B], .agg #[.int .i64 x.Epoch, .int .i64 x.Promised.No, .int .i64 x.Promised.By, .int .i64 x.Accepted.No, .int .i64 x.Accepted.By, .int .i64 x.Inc.Epoch, .int .i64 x.Inc.Kind, .int .i64 x.Inc.A, .int .i64 x.Inc.B]]) mixed Try.func50 rfl (by kernel_rfl) (Nat.le_of_ble_eq_true rfl) ?_
  repeat' ((conv => whnf); first | with_reducible refine CondK.tt ?_ | with_reducible refine CondK.ff ?_ | with_reducible refine CondK.not ?_ | refine CallK.mk _ (eqBallot_a M _) ?_ | refine CallQ.mk _ (eqBallot_a M _) ?_ | refine CallK.mk _ (eqBallot_a M _) ?_ | refine CallQ.mk _ (eqBallot_a M _) ?_ | refine CallK.mk _ (eqInc_a M _) ?_ | refine CallQ.mk _ (eqInc_a M _) ?_ | (refine CondK.no' ?_ ?_; focus (simp; done)) | (refine CondK.yes' ?_ ?_; focus (simp; done)) | exact rfl)
theorem toSlot_a (M : Mem) (x : GSlot) : Ans Try.prog M 44 #[.agg #[.int .i64 x.Epoch, .int .i64 x.Promised.No, .int .i64 x.Promised.By, .int .i64 x.Accepted.No, .int .i64 x.Accepted.By, .int .i64 x.Inc.Epoch, .int .i64 x.Inc.Kind, .int .i64 x.Inc.A, .int .i64 x.Inc.B]] (.agg #[.int .i64 x.Epoch, .int .i64 x.Promised.No, .int .i64 x.Promised.By, .int .i64 x.Accepted.No, .int .i64 x.Accepted.By, .int .i64 x.Inc.Epoch, .int .i64 x.Inc.Kind, .int .i64 x.Inc.A, .int .i64 x.Inc.B]) := by
  refine ans_of T (l := [.agg #[.int .i64 x.Epoch, .int .i64 x.Promised.No, .int .i64 x.Promised.By, .int .i64 x.Accepted.No, .int .i64 x.Accepted.By, .int .i64 x.Inc.Epoch, .int .i64 x.Inc.Kind, .int .i64 x.Inc.A, .int .i64 x.Inc.B]]) mixed Try.func44 rfl (by kernel_rfl) (Nat.le_of_ble_eq_true rfl) ?_
  repeat' ((conv => whnf); first | with_reducible refine CondK.tt ?_ | with_reducible refine CondK.ff ?_ | with_reducible refine CondK.not ?_ | refine CallK.mk _ (toBallot_a M _) ?_ | refine CallQ.mk _ (toBallot_a M _) ?_ | refine CallK.mk _ (toBallot_a M _) ?_ | refine CallQ.mk _ (toBallot_a M _) ?_ | refine CallK.mk _ (toInc_a M _) ?_ | refine CallQ.mk _ (toInc_a M _) ?_ | exact rfl)
theorem eqSlotS_a (M : Mem) (l : List GSlot) (A A' : Option Addr) (c c' : Nat) (h : SlR M RSlot 9 72 A c l) (h' : SlR M RSlot 9 72 A' c' l) : Ans Try.prog M 38 #[.slice A l.length c, .slice A' l.length c'] (.bool true) := by
  have hl := h.len
  refine ans_of T (l := [.slice A l.length c, .slice A' l.length c']) mixed Try.func38 rfl (by kernel_rfl) (Nat.le_of_ble_eq_true rfl) ?_
  (conv => whnf)
  refine CondK.mk (fun h1 => absurd h1 (by simp)) (fun _ => ?_)
  (conv => whnf)
  refine LoopK.mk {k : Nat // k ≤ l.length} (fun ⟨k, _⟩ => [(0, .v (.slice A l.length c)), (1, .v (.slice A' l.length c')), (5, .v (.int .i64 (k : Int)))]) (fun _ => []) (fun _ => M) (fun k => l.length - k.1) ⟨0, Nat.zero_le _⟩ ⟨⟨⟨rfl, rfl, rfl, trivial⟩, trivial, rfl, rfl⟩, rfl⟩ ?_
  rintro ⟨k, hk⟩
  (conv => whnf)
  refine CondK.mk (fun h1 => ?_) (fun h1 => ?_)
  · have hlt : k < l.length := by simpa using h1
    obtain ⟨ad, rfl, bnx, x0, x1, x2, x3, x4, x5, x6, x7, x8⟩ := at_Slot h (List.getElem?_eq_getElem hlt)
    obtain ⟨ad', rfl, bny, y0, y1, y2, y3, y4, y5, y6, y7, y8⟩ := at_Slot h' (List.getElem?_eq_getElem hlt)
    repeat' ((conv => whnf); first | with_reducible refine CondK.tt ?_ | with_reducible refine CondK.ff ?_ | with_reducible refine CondK.not ?_ | refine LdK.mk _ (by assumption) ?_ | refine IdxK.mk _ rfl (by omega) (by omega) ?_ | refine DrawN.q (by kernel_rfl) ?_ | refine CallK.mk _ (eqSlot_a M l[k]) ?_ | refine CallQ.mk _ (eqSlot_a M l[k]) ?_ | (refine CondK.no' ?_ ?_; focus (simp; done)) | (refine CondK.yes' ?_ ?_; focus (simp; done)) | exact rfl)
    exact ⟨⟨k + 1, hlt⟩, ⟨⟨rfl, rfl, look_int (i64_succ (by omega)), trivial⟩, trivial, rfl, rfl⟩, rfl, by simp; omega⟩
  · rfl
theorem szSlotS_a (M : Mem) (l : List GSlot) (left : Int) (A : Option Addr) (c : Nat) (h : SlR M RSlot 9 72 A c l) : Ans Try.prog M 26 #[.slice A l.length c, .int .i64 left] (.int .i64 (szSub left l.length)) := by
  refine ans_of T (l := [.slice A l.length c, .int .i64 left]) mixed Try.func26 rfl (by kernel_rfl) (Nat.le_of_ble_eq_true rfl) ?_
  repeat' ((conv => whnf); first | with_reducible refine CondK.tt ?_ | with_reducible refine CondK.ff ?_ | with_reducible refine CondK.not ?_ | refine CondK.mk (fun h => ?_) (fun h => ?_) | exact rfl)
  all_goals refine ret_int ?_
  all_goals (unfold szSub; split <;> simp_all <;> omega)
theorem toSlotS_f (M : Mem) (l : List GSlot) (A : Option Addr) (c : Nat) (h : SlR M RSlot 9 72 A c l) (hsm : l.length ≤ 1048576 ∧ ∀ y ∈ l, True) : AnsR Try.prog M 34 #[.slice A l.length c] (fun M' v => ∃ A' c', v = .slice A' l.length c' ∧ SlR (sub M' M) RSlot 9 72 A' c' l) := by
  have hl := hsm.1
  refine ansR_of T (l := [.slice A l.length c]) mixed Try.func34 rfl (by kernel_rfl) (Nat.le_of_ble_eq_true rfl) ?_
  (conv => whnf)
  refine MkK.mk rfl (by omega) (by omega) (by show ((72 : Nat) : Int) * (l.length : Int) ≤ _; omega) ?_
  (conv => whnf)
  refine LoopK.mk (Fill M (fun M' x cs => RSlot (sub M' M) x cs) 9 l) (fun q => [(0, .v (.slice A l.length c)), (3, .s 0 l.length l.length 9), (4, .v (.int .i64 (q.css.length : Int)))]) (fun q => [(0, q.cells [.int .i64 0, .int .i64 0, .int .i64 0, .int .i64 0, .int .i64 0, .int .i64 0, .int .i64 0, .int .i64 0, .int .i64 0])]) (fun q => q.M) (fun q => l.length - q.css.length) (Fill.start M (fun M' x cs => RSlot (sub M' M) x cs) 9 l) ⟨⟨⟨rfl, rfl, rfl, trivial⟩, ⟨rfl, trivial⟩, rfl, rfl⟩, rfl⟩ ?_
  intro q
  have h := h.mono q.le (RSlot.mono q.le)
  (conv => whnf)
  refine CondK.mk (fun h1 => ?_) (fun h1 => ?_)
  · have hlt : q.css.length < l.length := by simpa using h1
    have hx := List.getElem?_eq_getElem hlt
    obtain ⟨ad, rfl, bnx, x0, x1, x2, x3, x4, x5, x6, x7, x8⟩ := at_Slot h hx
    repeat' ((conv => whnf); first | with_reducible refine CondK.tt ?_ | with_reducible refine CondK.ff ?_ | with_reducible refine CondK.not ?_ | refine LdK.mk _ (by assumption) ?_ | refine IdxK.mk _ rfl (by omega) (by omega) ?_ | refine DrawN.q (by kernel_rfl) ?_ | refine IdxA.mk (q.css.length * 9) rfl (by omega) (by omega) ?_ | refine CallK.mk _ (toSlot_a _ l[q.css.length]) ?_ | refine CallQ.mk _ (toSlot_a _ l[q.css.length]) ?_ | exact rfl)
    have hs := q.store (Le.refl _) (fun _ _ h => h) hx ⟨rfl, bnx⟩ rfl (Z := [.int .i64 0, .int .i64 0, .int .i64 0, .int .i64 0, .int .i64 0, .int .i64 0, .int .i64 0, .int .i64 0, .int .i64 0]) rfl
    have hroom := q.room1 (Z := [.int .i64 0, .int .i64 0, .int .i64 0, .int .i64 0, .int .i64 0, .int .i64 0, .int .i64 0, .int .i64 0, .int .i64 0]) rfl hlt
    refine Owe.mk hroom ?_
    (conv => whnf)
    exact ⟨q.step (Le.refl _) (fun _ _ h => h) hx ⟨rfl, bnx⟩ rfl, ⟨⟨rfl, rfl, look_int ((i64_succ (by omega)).trans (by simp [Fill.step])), trivial⟩, ⟨congrArg some hs, trivial⟩, rfl, rfl⟩, rfl, by simp [Fill.step]; omega⟩
  · refine RetK.fr fun g M' hl hg => ⟨_, _, rfl, ?_⟩
    exact q.new (Z := [.int .i64 0, .int .i64 0, .int .i64 0, .int .i64 0, .int .i64 0, .int .i64 0, .int .i64 0, .int .i64 0, .int .i64 0]) (by simpa using h1) (RSlot.mono (sub_mono _ hl)) (hg 0 _ rfl) h.len
theorem toSlotS_a (M : Mem) (l : List GSlot) (A : Option Addr) (c : Nat) (h : SlR M RSlot 9 72 A c l) (hsm : l.length ≤ 1048576 ∧ ∀ y ∈ l, True) : AnsR Try.prog M 34 #[.slice A l.length c] (fun M' v => ∃ A' c', v = .slice A' l.length c' ∧ SlR M' RSlot 9 72 A' c' l) :=
  (toSlotS_f M l A c h hsm).imp fun M' v _ ⟨A', c', h1, h2⟩ => ⟨A', c', h1, h2.mono (sub_le _ _) (RSlot.mono (sub_le _ _))⟩
end Go.Proofs.Ytmmgknhefobloaa.Hlp
