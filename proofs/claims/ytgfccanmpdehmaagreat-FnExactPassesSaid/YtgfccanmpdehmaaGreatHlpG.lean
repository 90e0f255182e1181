/- The laws' helpers by the light walk: equal data are called equal; what a list measures; what is turned is the same. -/
import Derived.Test.YtgfccanmpdehmaaGreatHlpF
namespace Go.Proofs.YtgfccanmpdehmaaGreat.Hlp
open Go Go.RowKit Go.Proofs Go.Proofs.YtgfccanmpdehmaaGreat.Lw
set_option linter.unusedVariables false
set_option linter.unusedSimpArgs false
set_option maxRecDepth 100000
set_option maxHeartbeats 4000000
theorem eqNet_a (M : Mem) (x : GNet) (cs ds : List Value) (h : RNet M x cs) (h' : RNet M x ds) : Ans Tryz.prog M 10 #[.agg cs.toArray, .agg ds.toArray] (.bool true) := by
  obtain ⟨A0, c0, A1, c1, rfl, hb, s0, s1⟩ := h
  obtain ⟨B0, d0, B1, d1, rfl, _, t0, t1⟩ := h'
  refine ans_of T (l := [.agg #[.slice A0 x.Flight.length c0, .slice A1 x.Cut.length c1], .agg #[.slice B0 x.Flight.length d0, .slice B1 x.Cut.length d1]]) mixed Tryz.func10 rfl (by kernel_rfl) (Nat.le_of_ble_eq_true rfl) ?_
  repeat' ((conv => whnf); first | with_reducible refine CondK.tt ?_ | with_reducible refine CondK.ff ?_ | with_reducible refine CondK.not ?_ | refine CallK.mk _ (eqMsgS_a M _ _ _ _ _ s0 t0) ?_ | refine CallQ.mk _ (eqMsgS_a M _ _ _ _ _ s0 t0) ?_ | refine CallK.mk _ (eqInt64S_a M _ _ _ _ _ s1 t1) ?_ | refine CallQ.mk _ (eqInt64S_a M _ _ _ _ _ s1 t1) ?_ | (refine CondK.no' ?_ ?_; focus (simp; done)) | (refine CondK.yes' ?_ ?_; focus (simp; done)) | exact rfl)
def szNet (x : GNet) (left : Int) : Int := szT (szL szMsg x.Flight (left)) fun left => szT (szSub (left) x.Cut.length) fun left => left
theorem szNet_a (M : Mem) (x : GNet) (left : Int) (cs : List Value) (h : RNet M x cs) : Ans Tryz.prog M 4 #[.agg cs.toArray, .int .i64 left] (.int .i64 (szNet x left)) := by
  obtain ⟨A0, c0, A1, c1, rfl, hb, s0, s1⟩ := h
  refine ans_of T (l := [.agg #[.slice A0 x.Flight.length c0, .slice A1 x.Cut.length c1], .int .i64 left]) mixed Tryz.func4 rfl (by kernel_rfl) (Nat.le_of_ble_eq_true rfl) ?_
  repeat' ((conv => whnf); first | with_reducible refine CondK.tt ?_ | with_reducible refine CondK.ff ?_ | with_reducible refine CondK.not ?_ | refine CallK.mk _ (szMsgS_a M _ _ _ _ s0) ?_ | refine CallQ.mk _ (szMsgS_a M _ _ _ _ s0) ?_ | refine CallK.mk _ (szInt64S_a M _ _ _ _ s1) ?_ | refine CallQ.mk _ (szInt64S_a M _ _ _ _ s1) ?_ | refine CondK.mk (fun h => ?_) (fun h => ?_) | exact rfl)
  all_goals refine ret_int ?_
  all_goals (simp only [decide_eq_true_eq, decide_eq_false_iff_not] at *)
  all_goals first | (simp only [szNet, szT, if_true, if_false, *]; done) | (simp [szNet, szT, *]; done) | (simp [szNet, szT, szSub, *]; done) | (unfold szNet szT szSub; simp [*]; done) | grind [szNet, szT, szSub]
def SmallNet (x : GNet) : Prop := (x.Flight.length ≤ 1048576 ∧ ∀ y ∈ x.Flight, SmallMsg y) ∧ (x.Cut.length ≤ 1048576 ∧ ∀ y ∈ x.Cut, True)
theorem szNet_ok {M : Mem} {x : GNet} {cs : List Value} (hr : RNet M x cs) {left : Int} (h0 : 0 ≤ left) (h1 : left ≤ 1048576) (h : 0 ≤ szNet x left) : SmallNet x ∧ szNet x left ≤ 1048576 := by
  obtain ⟨A0, c0, A1, c1, rfl, hb, s0, s1⟩ := hr
  unfold szNet at h ⊢
  obtain ⟨p0, h', e0⟩ := szT_ok h
  replace h := h'
  rw [e0]
  have q0 := szL_ok s0.len (fun y hy left h0 h1 h => let ⟨_, hr⟩ := s0.each hy; szMsg_ok hr h0 h1 h) h0 h1 p0
  obtain ⟨p1, h', e1⟩ := szT_ok h
  replace h := h'
  rw [e1]
  have q1 := szSub_ok p0 q0.2 s1.len p1
  exact ⟨⟨q0.1, ⟨q1.1, fun _ _ => trivial⟩⟩, q1.2⟩
theorem toNet_a (M : Mem) (x : GNet) (cs : List Value) (h : RNet M x cs) (hs : SmallNet x) : AnsR Tryz.prog M 7 #[.agg cs.toArray] (fun M' v => ∃ cs' : List Value, v = .agg cs'.toArray ∧ RNet M' x cs') := by
  obtain ⟨z0, z1⟩ := hs
  obtain ⟨A0, c0, A1, c1, rfl, hb, s0, s1⟩ := h
  refine ansR_of T (l := [.agg #[.slice A0 x.Flight.length c0, .slice A1 x.Cut.length c1]]) mixed Tryz.func7 rfl (by kernel_rfl) (Nat.le_of_ble_eq_true rfl) ?_
  repeat' ((conv => whnf); first | with_reducible refine CondK.tt ?_ | with_reducible refine CondK.ff ?_ | with_reducible refine CondK.not ?_ | exact rfl)
  refine CallK.mr _ (toMsgS_a _ _ _ _ s0 z0) (fun v1 M1 hl1 hv1 => ?_)
  obtain ⟨B0, d0, rfl, r0⟩ := hv1
  replace s1 := s1.mono hl1 (RInt.mono hl1)
  repeat' ((conv => whnf); first | with_reducible refine CondK.tt ?_ | with_reducible refine CondK.ff ?_ | with_reducible refine CondK.not ?_ | exact rfl)
  refine CallK.mr _ (toInt64S_a _ _ _ _ s1 z1) (fun v2 M2 hl2 hv2 => ?_)
  obtain ⟨B1, d1, rfl, r1⟩ := hv2
  replace r0 := r0.mono hl2 (RMsg.mono hl2)
  repeat' ((conv => whnf); first | with_reducible refine CondK.tt ?_ | with_reducible refine CondK.ff ?_ | with_reducible refine CondK.not ?_ | exact rfl)
  exact RetK.mk fun g M' hl hg => ⟨_, rfl, _, _, _, _, rfl, hb, r0.mono hl (RMsg.mono hl), r1.mono hl (RInt.mono hl)⟩
end Go.Proofs.YtgfccanmpdehmaaGreat.Hlp
