/- Monitors and their slots, by the light walk. -/
import Derived.Test.YtmmgknhefobloaaFunMB
namespace Go.Proofs.Ytmmgknhefobloaa.Hlp
open Go Go.RowKit Go.Proofs Go.Proofs.Ytmmgknhefobloaa.Lw
set_option linter.unusedVariables false
set_option linter.unusedSimpArgs false
set_option maxRecDepth 100000
set_option maxHeartbeats 4000000
def slotP (l : List GSlot) (k : Nat) : Bool :=
  match l[k]? with
  | some s => slotOkF s && !(decide (0 < k) && match l[k - 1]? with | some y => decide (s.Epoch ≤ y.Epoch) | none => false)
  | none => true
theorem slotP_at {l : List GSlot} {k : Nat} {x y : GSlot} (hx : l[k]? = some x) (hy : l[k - 1]? = some y) : slotP l k = (slotOkF x && !(decide (0 < k) && decide (x.Epoch ≤ y.Epoch))) := by
  unfold slotP
  rw [hx, hy]
theorem slot_ep {s : GSlot} (h : slotOkF s = true) : 2 ≤ s.Epoch ∧ s.Epoch ≤ 60 := by
  unfold slotOkF inR at h
  simp only [Bool.and_eq_true, decide_eq_true_eq] at h
  exact h.1.1.1.1
theorem slots_rise {l : List GSlot} (h : ∀ j, j < l.length → slotP l j = true) : ∀ (j : Nat) (x : GSlot), l[j]? = some x → 2 + (j : Int) ≤ x.Epoch ∧ x.Epoch ≤ 60
  | 0, x, hx => by
    have hl := (List.getElem?_eq_some_iff.1 hx).1
    have := h 0 hl
    unfold slotP at this
    rw [hx] at this
    simp only [Bool.and_eq_true] at this
    have := slot_ep this.1
    omega
  | j + 1, x, hx => by
    have hl := (List.getElem?_eq_some_iff.1 hx).1
    have hy := List.getElem?_eq_getElem (show j < l.length by omega)
    have ih := slots_rise h j _ hy
    have := h (j + 1) hl
    rw [slotP_at hx (y := l[j]) hy] at this
    simp only [Bool.and_eq_true, Bool.not_eq_true', Bool.and_eq_false_iff, decide_eq_false_iff_not] at this
    have h1 := slot_ep this.1
    omega
theorem slots_len {l : List GSlot} (h : allR l.length (slotP l) = true) : l.length ≤ 60 := by
  rw [allR_iff] at h
  rcases Nat.lt_or_ge 60 l.length with hl | hl
  · have := slots_rise h 60 _ (List.getElem?_eq_getElem hl)
    omega
  · exact hl
def monOkF (m : GMon) : Bool := inR m.Many 1 5 && inR m.Id 0 (IntKind.i64.wrap (m.Many - 1)) && tryOkF m && allR m.Slots.length (slotP m.Slots)
def slotF (l : List GSlot) (e : Int) : GSlot := match l.find? (fun s => s.Epoch == e) with | some s => s | none => ⟨e, ⟨0, 0⟩, ⟨0, 0⟩, ⟨0, 0, 0, 0⟩⟩
theorem slotF_at {l : List GSlot} {e : Int} {k : Nat} (hk : k < l.length) (h : (l[k].Epoch == e) = true) (ha : ∀ (j : Nat) (hj : j < l.length), j < k → ((l[j]'hj).Epoch == e) = false) : slotF l e = l[k] := by
  unfold slotF
  have hf : l.find? (fun s => s.Epoch == e) = some l[k] := List.find?_eq_some_iff_getElem.2 ⟨h, k, hk, rfl, fun j hj => by rw [ha j (by omega) hj]; rfl⟩
  rw [hf]
theorem slotF_none {l : List GSlot} {e : Int} (ha : ∀ (j : Nat) (hj : j < l.length), ((l[j]'hj).Epoch == e) = false) : slotF l e = ⟨e, ⟨0, 0⟩, ⟨0, 0⟩, ⟨0, 0, 0, 0⟩⟩ := by
  unfold slotF
  have hf : l.find? (fun s => s.Epoch == e) = none := List.find?_eq_none.2 fun x hx => by obtain ⟨j, hj, rfl⟩ := List.getElem_of_mem hx; rw [ha j hj]; simp
  rw [hf]
theorem slot_ret {x y : GSlot} (h : x = y) : Value.agg (List.toArray [.int .i64 x.Epoch, .int .i64 x.Promised.No, .int .i64 x.Promised.By, .int .i64 x.Accepted.No, .int .i64 x.Accepted.By, .int .i64 x.Inc.Epoch, .int .i64 x.Inc.Kind, .int .i64 x.Inc.A, .int .i64 x.Inc.B]) = Value.agg (List.toArray [.int .i64 y.Epoch, .int .i64 y.Promised.No, .int .i64 y.Promised.By, .int .i64 y.Accepted.No, .int .i64 y.Accepted.By, .int .i64 y.Inc.Epoch, .int .i64 y.Inc.Kind, .int .i64 y.Inc.A, .int .i64 y.Inc.B]) := by rw [h]
theorem monOk_a (M : Mem) (m : GMon) (cs : List Value) (h : RMon M m cs) : Ans Try.prog M 36 #[.agg cs.toArray] (.bool (monOkF m)) := by
  obtain ⟨A0, c0, A1, c1, A2, c2, rfl, _, s0, s1, s2⟩ := h
  have hln := s0.len
  have g1 := between_a M m.Many 1 5
  have g2 := between_a M m.Id 0 (IntKind.i64.wrap (m.Many - 1))
  have g3 := tryOk_a M m _ ⟨A0, c0, A1, c1, A2, c2, rfl, trivial, s0, s1, s2⟩
  refine ans_of T (l := [.agg (List.toArray _)]) mixed Try.func36 rfl (by kernel_rfl) (Nat.le_of_ble_eq_true rfl) ?_
  cases k1 : inR m.Many 1 5 with
  | false =>
    rw [k1] at g1
    repeat' ((conv => whnf); first | refine DrawN.q (by kernel_rfl) ?_ | with_reducible refine CondK.tt ?_ | with_reducible refine CondK.ff ?_ | refine LdK.mk _ (by assumption) ?_ | refine CallK.mk _ (g1) ?_ | refine CallQ.mk _ (g1) ?_ | refine CallK.mk _ (g2) ?_ | refine CallQ.mk _ (g2) ?_ | refine CallK.mk _ (g3) ?_ | refine CallQ.mk _ (g3) ?_ | fail | refine CondK.yes' (by assumption) ?_ | refine CondK.no' (by assumption) ?_ | fail)
    all_goals (refine ret_bool ?_; unfold monOkF; simp_all)
  | true =>
    rw [k1] at g1
    cases k2 : inR m.Id 0 (IntKind.i64.wrap (m.Many - 1)) with
    | false =>
      rw [k2] at g2
      repeat' ((conv => whnf); first | refine DrawN.q (by kernel_rfl) ?_ | with_reducible refine CondK.tt ?_ | with_reducible refine CondK.ff ?_ | refine LdK.mk _ (by assumption) ?_ | refine CallK.mk _ (g1) ?_ | refine CallQ.mk _ (g1) ?_ | refine CallK.mk _ (g2) ?_ | refine CallQ.mk _ (g2) ?_ | refine CallK.mk _ (g3) ?_ | refine CallQ.mk _ (g3) ?_ | fail | refine CondK.yes' (by assumption) ?_ | refine CondK.no' (by assumption) ?_ | fail)
      all_goals (refine ret_bool ?_; unfold monOkF; simp_all)
    | true =>
      rw [k2] at g2
      cases k3 : tryOkF m with
      | false =>
        rw [k3] at g3
        repeat' ((conv => whnf); first | refine DrawN.q (by kernel_rfl) ?_ | with_reducible refine CondK.tt ?_ | with_reducible refine CondK.ff ?_ | refine LdK.mk _ (by assumption) ?_ | refine CallK.mk _ (g1) ?_ | refine CallQ.mk _ (g1) ?_ | refine CallK.mk _ (g2) ?_ | refine CallQ.mk _ (g2) ?_ | refine CallK.mk _ (g3) ?_ | refine CallQ.mk _ (g3) ?_ | fail | refine CondK.yes' (by assumption) ?_ | refine CondK.no' (by assumption) ?_ | fail)
        all_goals (refine ret_bool ?_; unfold monOkF; simp_all)
      | true =>
        rw [k3] at g3
        repeat' ((conv => whnf); first | refine DrawN.q (by kernel_rfl) ?_ | with_reducible refine CondK.tt ?_ | with_reducible refine CondK.ff ?_ | refine LdK.mk _ (by assumption) ?_ | refine CallK.mk _ (g1) ?_ | refine CallQ.mk _ (g1) ?_ | refine CallK.mk _ (g2) ?_ | refine CallQ.mk _ (g2) ?_ | refine CallK.mk _ (g3) ?_ | refine CallQ.mk _ (g3) ?_ | fail | refine CondK.yes' (by assumption) ?_ | refine CondK.no' (by assumption) ?_ | fail)
        refine LoopK.mk {k : Nat // k ≤ m.Slots.length ∧ ∀ j, j < k → slotP m.Slots j = true} (fun ⟨k, _⟩ => [(1, .p 0 0), (24, .v (.slice A0 m.Slots.length c0)), (25, .v (.int .i64 (m.Slots.length : Int))), (26, .v (.int .i64 (k : Int)))]) (fun _ => [(0, [.int .i64 m.Id, .int .i64 m.Many, .slice A0 m.Slots.length c0, .int .i64 m.Try.Epoch, .int .i64 m.Try.Ballot.No, .int .i64 m.Try.Ballot.By, .int .i64 m.Try.Inc.Epoch, .int .i64 m.Try.Inc.Kind, .int .i64 m.Try.Inc.A, .int .i64 m.Try.Inc.B, .int .i64 m.Try.Highest.No, .int .i64 m.Try.Highest.By, .slice A1 m.Try.Promises.length c1, .slice A2 m.Try.Accepts.length c2, .bool m.Try.Decided])]) (fun _ => M) (fun k => m.Slots.length - k.1) ⟨0, Nat.zero_le _, fun j hj => absurd hj (by omega)⟩ ⟨⟨⟨rfl, rfl, rfl, rfl, trivial⟩, ⟨rfl, trivial⟩, rfl, rfl⟩, rfl⟩ ?_
        rintro ⟨k, hk, ha⟩
        (conv => whnf)
        refine CondK.mk (fun h1 => ?_) (fun h1 => ?_)
        · have hlt : k < m.Slots.length := by simpa using h1
          obtain ⟨p, hp⟩ : ∃ p, p = k - 1 := ⟨_, rfl⟩
          have hpl : p < m.Slots.length := by omega
          have hx := List.getElem?_eq_getElem hlt
          have hy := List.getElem?_eq_getElem hpl
          have hb := slotP_at hx (y := m.Slots[p]) (by rw [← hp]; exact hy)
          obtain ⟨ad, rfl, _, x0, x1, x2, x3, x4, x5, x6, x7, x8⟩ := at_Slot s0 hx
          obtain ⟨_, hae, _, y0, y1, y2, y3, y4, y5, y6, y7, y8⟩ := at_Slot s0 hy
          cases hae
          generalize m.Slots[k] = x at *
          generalize m.Slots[p] = y at *
          have f1 := slotOk_a M x
          cases u1 : slotOkF x with
          | false =>
            rw [u1] at f1
            repeat' ((conv => whnf); first | refine DrawN.q (by kernel_rfl) ?_ | with_reducible refine CondK.tt ?_ | with_reducible refine CondK.ff ?_ | refine LdK.mk _ (by assumption) ?_ | refine CallK.mk _ (f1) ?_ | refine CallQ.mk _ (f1) ?_ | fail | refine CondK.yes' (by assumption) ?_ | refine CondK.no' (by assumption) ?_ | refine IdxK.mk _ rfl (by omega) (by omega) ?_ | refine IdxK.at p _ (i64_pred hp (by simpa using uk) (by omega)) rfl hpl ?_ | fail)
            all_goals first | (exact ⟨⟨k + 1, hlt, allR_step ha (by rw [hb]; simp_all)⟩, ⟨⟨rfl, rfl, rfl, look_int (i64_succ (by omega)), trivial⟩, ⟨rfl, trivial⟩, rfl, rfl⟩, rfl, by simp; omega⟩; done) | ((refine ret_bool ?_; unfold monOkF; rw [allR_no hlt (by rw [hb]; simp_all), Bool.and_false]); done)
          | true =>
            rw [u1] at f1
            cases uk : decide ((k : Int) > 0) with
            | false =>
              repeat' ((conv => whnf); first | refine DrawN.q (by kernel_rfl) ?_ | with_reducible refine CondK.tt ?_ | with_reducible refine CondK.ff ?_ | refine LdK.mk _ (by assumption) ?_ | refine CallK.mk _ (f1) ?_ | refine CallQ.mk _ (f1) ?_ | rw [uk] | refine CondK.yes' (by assumption) ?_ | refine CondK.no' (by assumption) ?_ | refine IdxK.mk _ rfl (by omega) (by omega) ?_ | refine IdxK.at p _ (i64_pred hp (by simpa using uk) (by omega)) rfl hpl ?_ | fail)
              all_goals first | (exact ⟨⟨k + 1, hlt, allR_step ha (by rw [hb]; simp_all)⟩, ⟨⟨rfl, rfl, rfl, look_int (i64_succ (by omega)), trivial⟩, ⟨rfl, trivial⟩, rfl, rfl⟩, rfl, by simp; omega⟩; done) | ((refine ret_bool ?_; unfold monOkF; rw [allR_no hlt (by rw [hb]; simp_all), Bool.and_false]); done)
            | true =>
              cases up : decide (x.Epoch ≤ y.Epoch) with
              | false =>
                repeat' ((conv => whnf); first | refine DrawN.q (by kernel_rfl) ?_ | with_reducible refine CondK.tt ?_ | with_reducible refine CondK.ff ?_ | refine LdK.mk _ (by assumption) ?_ | refine CallK.mk _ (f1) ?_ | refine CallQ.mk _ (f1) ?_ | rw [uk] | rw [up] | refine CondK.yes' (by assumption) ?_ | refine CondK.no' (by assumption) ?_ | refine IdxK.mk _ rfl (by omega) (by omega) ?_ | refine IdxK.at p _ (i64_pred hp (by simpa using uk) (by omega)) rfl hpl ?_ | fail)
                all_goals first | (exact ⟨⟨k + 1, hlt, allR_step ha (by rw [hb]; simp_all)⟩, ⟨⟨rfl, rfl, rfl, look_int (i64_succ (by omega)), trivial⟩, ⟨rfl, trivial⟩, rfl, rfl⟩, rfl, by simp; omega⟩; done) | ((refine ret_bool ?_; unfold monOkF; rw [allR_no hlt (by rw [hb]; simp_all), Bool.and_false]); done)
              | true =>
                repeat' ((conv => whnf); first | refine DrawN.q (by kernel_rfl) ?_ | with_reducible refine CondK.tt ?_ | with_reducible refine CondK.ff ?_ | refine LdK.mk _ (by assumption) ?_ | refine CallK.mk _ (f1) ?_ | refine CallQ.mk _ (f1) ?_ | rw [uk] | rw [up] | refine CondK.yes' (by assumption) ?_ | refine CondK.no' (by assumption) ?_ | refine IdxK.mk _ rfl (by omega) (by omega) ?_ | refine IdxK.at p _ (i64_pred hp (by simpa using uk) (by omega)) rfl hpl ?_ | fail)
                all_goals first | (exact ⟨⟨k + 1, hlt, allR_step ha (by rw [hb]; simp_all)⟩, ⟨⟨rfl, rfl, rfl, look_int (i64_succ (by omega)), trivial⟩, ⟨rfl, trivial⟩, rfl, rfl⟩, rfl, by simp; omega⟩; done) | ((refine ret_bool ?_; unfold monOkF; rw [allR_no hlt (by rw [hb]; simp_all), Bool.and_false]); done)
        · have he : k = m.Slots.length := by
            have : ¬ k < m.Slots.length := by simpa using h1
            omega
          subst he
          refine ret_bool ?_
          unfold monOkF
          rw [allR_yes ha, k1, k2, k3]
          simp
theorem sMonOk_a (M : Mem) (m : GMon) (cs : List Value) (h : RMon M m cs) : Ans Try.prog M 14 #[.agg cs.toArray] (.bool (monOkF m)) := by
  obtain ⟨A0, c0, A1, c1, A2, c2, rfl, _, s0, s1, s2⟩ := h
  have hln := s0.len
  have g1 := l00In_a M m.Many 1 5
  have g2 := l00In_a M m.Id 0 (IntKind.i64.wrap (m.Many - 1))
  have g3 := l21Try_a M m _ ⟨A0, c0, A1, c1, A2, c2, rfl, trivial, s0, s1, s2⟩
  refine ans_of T (l := [.agg (List.toArray _)]) mixed Try.func14 rfl (by kernel_rfl) (Nat.le_of_ble_eq_true rfl) ?_
  cases k1 : inR m.Many 1 5 with
  | false =>
    rw [k1] at g1
    repeat' ((conv => whnf); first | refine DrawN.q (by kernel_rfl) ?_ | with_reducible refine CondK.tt ?_ | with_reducible refine CondK.ff ?_ | refine LdK.mk _ (by assumption) ?_ | refine CallK.mk _ (g1) ?_ | refine CallQ.mk _ (g1) ?_ | refine CallK.mk _ (g2) ?_ | refine CallQ.mk _ (g2) ?_ | refine CallK.mk _ (g3) ?_ | refine CallQ.mk _ (g3) ?_ | fail | refine CondK.yes' (by assumption) ?_ | refine CondK.no' (by assumption) ?_ | fail)
    all_goals (refine ret_bool ?_; unfold monOkF; simp_all)
  | true =>
    rw [k1] at g1
    cases k2 : inR m.Id 0 (IntKind.i64.wrap (m.Many - 1)) with
    | false =>
      rw [k2] at g2
      repeat' ((conv => whnf); first | refine DrawN.q (by kernel_rfl) ?_ | with_reducible refine CondK.tt ?_ | with_reducible refine CondK.ff ?_ | refine LdK.mk _ (by assumption) ?_ | refine CallK.mk _ (g1) ?_ | refine CallQ.mk _ (g1) ?_ | refine CallK.mk _ (g2) ?_ | refine CallQ.mk _ (g2) ?_ | refine CallK.mk _ (g3) ?_ | refine CallQ.mk _ (g3) ?_ | fail | refine CondK.yes' (by assumption) ?_ | refine CondK.no' (by assumption) ?_ | fail)
      all_goals (refine ret_bool ?_; unfold monOkF; simp_all)
    | true =>
      rw [k2] at g2
      cases k3 : decide ((m.Slots.length : Int) > 60) with
      | false =>
        repeat' ((conv => whnf); first | refine DrawN.q (by kernel_rfl) ?_ | with_reducible refine CondK.tt ?_ | with_reducible refine CondK.ff ?_ | refine LdK.mk _ (by assumption) ?_ | refine CallK.mk _ (g1) ?_ | refine CallQ.mk _ (g1) ?_ | refine CallK.mk _ (g2) ?_ | refine CallQ.mk _ (g2) ?_ | refine CallK.mk _ (g3) ?_ | refine CallQ.mk _ (g3) ?_ | rw [k3] | refine CondK.yes' (by assumption) ?_ | refine CondK.no' (by assumption) ?_ | fail)
        refine LoopK.mk {k : Nat // k ≤ m.Slots.length ∧ ∀ j, j < k → slotP m.Slots j = true} (fun ⟨k, _⟩ => [(1, .p 0 0), (3, .v (.int .i64 (k : Int)))]) (fun _ => [(0, [.int .i64 m.Id, .int .i64 m.Many, .slice A0 m.Slots.length c0, .int .i64 m.Try.Epoch, .int .i64 m.Try.Ballot.No, .int .i64 m.Try.Ballot.By, .int .i64 m.Try.Inc.Epoch, .int .i64 m.Try.Inc.Kind, .int .i64 m.Try.Inc.A, .int .i64 m.Try.Inc.B, .int .i64 m.Try.Highest.No, .int .i64 m.Try.Highest.By, .slice A1 m.Try.Promises.length c1, .slice A2 m.Try.Accepts.length c2, .bool m.Try.Decided])]) (fun _ => M) (fun k => m.Slots.length - k.1) ⟨0, Nat.zero_le _, fun j hj => absurd hj (by omega)⟩ ⟨⟨⟨rfl, rfl, trivial⟩, ⟨rfl, trivial⟩, rfl, rfl⟩, rfl⟩ ?_
        rintro ⟨k, hk, ha⟩
        (conv => whnf)
        refine CondK.mk (fun h1 => ?_) (fun h1 => ?_)
        · have hlt : k < m.Slots.length := by simpa using h1
          obtain ⟨p, hp⟩ : ∃ p, p = k - 1 := ⟨_, rfl⟩
          have hpl : p < m.Slots.length := by omega
          have hx := List.getElem?_eq_getElem hlt
          have hy := List.getElem?_eq_getElem hpl
          have hb := slotP_at hx (y := m.Slots[p]) (by rw [← hp]; exact hy)
          obtain ⟨ad, rfl, _, x0, x1, x2, x3, x4, x5, x6, x7, x8⟩ := at_Slot s0 hx
          obtain ⟨_, hae, _, y0, y1, y2, y3, y4, y5, y6, y7, y8⟩ := at_Slot s0 hy
          cases hae
          generalize m.Slots[k] = x at *
          generalize m.Slots[p] = y at *
          have f1 := l21Epoch_a M x.Epoch
          have f2 := l21Ballot_a M x.Promised
          have f3 := l21Ballot_a M x.Accepted
          have f4 := l21Less_a M x.Promised x.Accepted
          have f5 := l21Value_a M x.Accepted x.Inc x.Epoch
          cases u1 : inR x.Epoch 2 60 with
          | false =>
            rw [u1] at f1
            repeat' ((conv => whnf); first | refine DrawN.q (by kernel_rfl) ?_ | with_reducible refine CondK.tt ?_ | with_reducible refine CondK.ff ?_ | refine LdK.mk _ (by assumption) ?_ | refine CallK.mk _ (f1) ?_ | refine CallQ.mk _ (f1) ?_ | refine CallK.mk _ (f2) ?_ | refine CallQ.mk _ (f2) ?_ | refine CallK.mk _ (f3) ?_ | refine CallQ.mk _ (f3) ?_ | refine CallK.mk _ (f4) ?_ | refine CallQ.mk _ (f4) ?_ | refine CallK.mk _ (f5) ?_ | refine CallQ.mk _ (f5) ?_ | fail | refine CondK.yes' (by assumption) ?_ | refine CondK.no' (by assumption) ?_ | refine IdxK.mk _ rfl (by omega) (by omega) ?_ | refine IdxK.at p _ (i64_pred hp (by simpa using uk) (by omega)) rfl hpl ?_ | fail)
            all_goals first | (exact ⟨⟨k + 1, hlt, allR_step ha (by rw [hb]; unfold slotOkF; simp_all)⟩, ⟨⟨rfl, look_int (i64_succ (by omega)), trivial⟩, ⟨rfl, trivial⟩, rfl, rfl⟩, rfl, by simp; omega⟩; done) | ((refine ret_bool ?_; unfold monOkF; rw [allR_no hlt (by rw [hb]; unfold slotOkF; simp_all), Bool.and_false]); done)
          | true =>
            rw [u1] at f1
            cases uk : decide ((k : Int) > 0) with
            | false =>
              cases u3 : ballotOkF x.Promised with
              | false =>
                rw [u3] at f2
                repeat' ((conv => whnf); first | refine DrawN.q (by kernel_rfl) ?_ | with_reducible refine CondK.tt ?_ | with_reducible refine CondK.ff ?_ | refine LdK.mk _ (by assumption) ?_ | refine CallK.mk _ (f1) ?_ | refine CallQ.mk _ (f1) ?_ | refine CallK.mk _ (f2) ?_ | refine CallQ.mk _ (f2) ?_ | refine CallK.mk _ (f3) ?_ | refine CallQ.mk _ (f3) ?_ | refine CallK.mk _ (f4) ?_ | refine CallQ.mk _ (f4) ?_ | refine CallK.mk _ (f5) ?_ | refine CallQ.mk _ (f5) ?_ | rw [uk] | refine CondK.yes' (by assumption) ?_ | refine CondK.no' (by assumption) ?_ | refine IdxK.mk _ rfl (by omega) (by omega) ?_ | refine IdxK.at p _ (i64_pred hp (by simpa using uk) (by omega)) rfl hpl ?_ | fail)
                all_goals first | (exact ⟨⟨k + 1, hlt, allR_step ha (by rw [hb]; unfold slotOkF; simp_all)⟩, ⟨⟨rfl, look_int (i64_succ (by omega)), trivial⟩, ⟨rfl, trivial⟩, rfl, rfl⟩, rfl, by simp; omega⟩; done) | ((refine ret_bool ?_; unfold monOkF; rw [allR_no hlt (by rw [hb]; unfold slotOkF; simp_all), Bool.and_false]); done)
              | true =>
                rw [u3] at f2
                cases u4 : ballotOkF x.Accepted with
                | false =>
                  rw [u4] at f3
                  repeat' ((conv => whnf); first | refine DrawN.q (by kernel_rfl) ?_ | with_reducible refine CondK.tt ?_ | with_reducible refine CondK.ff ?_ | refine LdK.mk _ (by assumption) ?_ | refine CallK.mk _ (f1) ?_ | refine CallQ.mk _ (f1) ?_ | refine CallK.mk _ (f2) ?_ | refine CallQ.mk _ (f2) ?_ | refine CallK.mk _ (f3) ?_ | refine CallQ.mk _ (f3) ?_ | refine CallK.mk _ (f4) ?_ | refine CallQ.mk _ (f4) ?_ | refine CallK.mk _ (f5) ?_ | refine CallQ.mk _ (f5) ?_ | rw [uk] | refine CondK.yes' (by assumption) ?_ | refine CondK.no' (by assumption) ?_ | refine IdxK.mk _ rfl (by omega) (by omega) ?_ | refine IdxK.at p _ (i64_pred hp (by simpa using uk) (by omega)) rfl hpl ?_ | fail)
                  all_goals first | (exact ⟨⟨k + 1, hlt, allR_step ha (by rw [hb]; unfold slotOkF; simp_all)⟩, ⟨⟨rfl, look_int (i64_succ (by omega)), trivial⟩, ⟨rfl, trivial⟩, rfl, rfl⟩, rfl, by simp; omega⟩; done) | ((refine ret_bool ?_; unfold monOkF; rw [allR_no hlt (by rw [hb]; unfold slotOkF; simp_all), Bool.and_false]); done)
                | true =>
                  rw [u4] at f3
                  cases u5 : lessF x.Promised x.Accepted with
                  | false =>
                    rw [u5] at f4
                    cases u6 : incWithF x.Accepted x.Inc x.Epoch with
                    | false =>
                      rw [u6] at f5
                      repeat' ((conv => whnf); first | refine DrawN.q (by kernel_rfl) ?_ | with_reducible refine CondK.tt ?_ | with_reducible refine CondK.ff ?_ | refine LdK.mk _ (by assumption) ?_ | refine CallK.mk _ (f1) ?_ | refine CallQ.mk _ (f1) ?_ | refine CallK.mk _ (f2) ?_ | refine CallQ.mk _ (f2) ?_ | refine CallK.mk _ (f3) ?_ | refine CallQ.mk _ (f3) ?_ | refine CallK.mk _ (f4) ?_ | refine CallQ.mk _ (f4) ?_ | refine CallK.mk _ (f5) ?_ | refine CallQ.mk _ (f5) ?_ | rw [uk] | refine CondK.yes' (by assumption) ?_ | refine CondK.no' (by assumption) ?_ | refine IdxK.mk _ rfl (by omega) (by omega) ?_ | refine IdxK.at p _ (i64_pred hp (by simpa using uk) (by omega)) rfl hpl ?_ | fail)
                      all_goals first | (exact ⟨⟨k + 1, hlt, allR_step ha (by rw [hb]; unfold slotOkF; simp_all)⟩, ⟨⟨rfl, look_int (i64_succ (by omega)), trivial⟩, ⟨rfl, trivial⟩, rfl, rfl⟩, rfl, by simp; omega⟩; done) | ((refine ret_bool ?_; unfold monOkF; rw [allR_no hlt (by rw [hb]; unfold slotOkF; simp_all), Bool.and_false]); done)
                    | true =>
                      rw [u6] at f5
                      repeat' ((conv => whnf); first | refine DrawN.q (by kernel_rfl) ?_ | with_reducible refine CondK.tt ?_ | with_reducible refine CondK.ff ?_ | refine LdK.mk _ (by assumption) ?_ | refine CallK.mk _ (f1) ?_ | refine CallQ.mk _ (f1) ?_ | refine CallK.mk _ (f2) ?_ | refine CallQ.mk _ (f2) ?_ | refine CallK.mk _ (f3) ?_ | refine CallQ.mk _ (f3) ?_ | refine CallK.mk _ (f4) ?_ | refine CallQ.mk _ (f4) ?_ | refine CallK.mk _ (f5) ?_ | refine CallQ.mk _ (f5) ?_ | rw [uk] | refine CondK.yes' (by assumption) ?_ | refine CondK.no' (by assumption) ?_ | refine IdxK.mk _ rfl (by omega) (by omega) ?_ | refine IdxK.at p _ (i64_pred hp (by simpa using uk) (by omega)) rfl hpl ?_ | fail)
                      all_goals first | (exact ⟨⟨k + 1, hlt, allR_step ha (by rw [hb]; unfold slotOkF; simp_all)⟩, ⟨⟨rfl, look_int (i64_succ (by omega)), trivial⟩, ⟨rfl, trivial⟩, rfl, rfl⟩, rfl, by simp; omega⟩; done) | ((refine ret_bool ?_; unfold monOkF; rw [allR_no hlt (by rw [hb]; unfold slotOkF; simp_all), Bool.and_false]); done)
                  | true =>
                    rw [u5] at f4
                    repeat' ((conv => whnf); first | refine DrawN.q (by kernel_rfl) ?_ | with_reducible refine CondK.tt ?_ | with_reducible refine CondK.ff ?_ | refine LdK.mk _ (by assumption) ?_ | refine CallK.mk _ (f1) ?_ | refine CallQ.mk _ (f1) ?_ | refine CallK.mk _ (f2) ?_ | refine CallQ.mk _ (f2) ?_ | refine CallK.mk _ (f3) ?_ | refine CallQ.mk _ (f3) ?_ | refine CallK.mk _ (f4) ?_ | refine CallQ.mk _ (f4) ?_ | refine CallK.mk _ (f5) ?_ | refine CallQ.mk _ (f5) ?_ | rw [uk] | refine CondK.yes' (by assumption) ?_ | refine CondK.no' (by assumption) ?_ | refine IdxK.mk _ rfl (by omega) (by omega) ?_ | refine IdxK.at p _ (i64_pred hp (by simpa using uk) (by omega)) rfl hpl ?_ | fail)
                    all_goals first | (exact ⟨⟨k + 1, hlt, allR_step ha (by rw [hb]; unfold slotOkF; simp_all)⟩, ⟨⟨rfl, look_int (i64_succ (by omega)), trivial⟩, ⟨rfl, trivial⟩, rfl, rfl⟩, rfl, by simp; omega⟩; done) | ((refine ret_bool ?_; unfold monOkF; rw [allR_no hlt (by rw [hb]; unfold slotOkF; simp_all), Bool.and_false]); done)
            | true =>
              cases up : decide (y.Epoch ≥ x.Epoch) with
              | false =>
                cases u3 : ballotOkF x.Promised with
                | false =>
                  rw [u3] at f2
                  repeat' ((conv => whnf); first | refine DrawN.q (by kernel_rfl) ?_ | with_reducible refine CondK.tt ?_ | with_reducible refine CondK.ff ?_ | refine LdK.mk _ (by assumption) ?_ | refine CallK.mk _ (f1) ?_ | refine CallQ.mk _ (f1) ?_ | refine CallK.mk _ (f2) ?_ | refine CallQ.mk _ (f2) ?_ | refine CallK.mk _ (f3) ?_ | refine CallQ.mk _ (f3) ?_ | refine CallK.mk _ (f4) ?_ | refine CallQ.mk _ (f4) ?_ | refine CallK.mk _ (f5) ?_ | refine CallQ.mk _ (f5) ?_ | rw [uk] | rw [up] | refine CondK.yes' (by assumption) ?_ | refine CondK.no' (by assumption) ?_ | refine IdxK.mk _ rfl (by omega) (by omega) ?_ | refine IdxK.at p _ (i64_pred hp (by simpa using uk) (by omega)) rfl hpl ?_ | fail)
                  all_goals first | (exact ⟨⟨k + 1, hlt, allR_step ha (by rw [hb]; unfold slotOkF; simp_all)⟩, ⟨⟨rfl, look_int (i64_succ (by omega)), trivial⟩, ⟨rfl, trivial⟩, rfl, rfl⟩, rfl, by simp; omega⟩; done) | ((refine ret_bool ?_; unfold monOkF; rw [allR_no hlt (by rw [hb]; unfold slotOkF; simp_all), Bool.and_false]); done)
                | true =>
                  rw [u3] at f2
                  cases u4 : ballotOkF x.Accepted with
                  | false =>
                    rw [u4] at f3
                    repeat' ((conv => whnf); first | refine DrawN.q (by kernel_rfl) ?_ | with_reducible refine CondK.tt ?_ | with_reducible refine CondK.ff ?_ | refine LdK.mk _ (by assumption) ?_ | refine CallK.mk _ (f1) ?_ | refine CallQ.mk _ (f1) ?_ | refine CallK.mk _ (f2) ?_ | refine CallQ.mk _ (f2) ?_ | refine CallK.mk _ (f3) ?_ | refine CallQ.mk _ (f3) ?_ | refine CallK.mk _ (f4) ?_ | refine CallQ.mk _ (f4) ?_ | refine CallK.mk _ (f5) ?_ | refine CallQ.mk _ (f5) ?_ | rw [uk] | rw [up] | refine CondK.yes' (by assumption) ?_ | refine CondK.no' (by assumption) ?_ | refine IdxK.mk _ rfl (by omega) (by omega) ?_ | refine IdxK.at p _ (i64_pred hp (by simpa using uk) (by omega)) rfl hpl ?_ | fail)
                    all_goals first | (exact ⟨⟨k + 1, hlt, allR_step ha (by rw [hb]; unfold slotOkF; simp_all)⟩, ⟨⟨rfl, look_int (i64_succ (by omega)), trivial⟩, ⟨rfl, trivial⟩, rfl, rfl⟩, rfl, by simp; omega⟩; done) | ((refine ret_bool ?_; unfold monOkF; rw [allR_no hlt (by rw [hb]; unfold slotOkF; simp_all), Bool.and_false]); done)
                  | true =>
                    rw [u4] at f3
                    cases u5 : lessF x.Promised x.Accepted with
                    | false =>
                      rw [u5] at f4
                      cases u6 : incWithF x.Accepted x.Inc x.Epoch with
                      | false =>
                        rw [u6] at f5
                        repeat' ((conv => whnf); first | refine DrawN.q (by kernel_rfl) ?_ | with_reducible refine CondK.tt ?_ | with_reducible refine CondK.ff ?_ | refine LdK.mk _ (by assumption) ?_ | refine CallK.mk _ (f1) ?_ | refine CallQ.mk _ (f1) ?_ | refine CallK.mk _ (f2) ?_ | refine CallQ.mk _ (f2) ?_ | refine CallK.mk _ (f3) ?_ | refine CallQ.mk _ (f3) ?_ | refine CallK.mk _ (f4) ?_ | refine CallQ.mk _ (f4) ?_ | refine CallK.mk _ (f5) ?_ | refine CallQ.mk _ (f5) ?_ | rw [uk] | rw [up] | refine CondK.yes' (by assumption) ?_ | refine CondK.no' (by assumption) ?_ | refine IdxK.mk _ rfl (by omega) (by omega) ?_ | refine IdxK.at p _ (i64_pred hp (by simpa using uk) (by omega)) rfl hpl ?_ | fail)
                        all_goals first | (exact ⟨⟨k + 1, hlt, allR_step ha (by rw [hb]; unfold slotOkF; simp_all)⟩, ⟨⟨rfl, look_int (i64_succ (by omega)), trivial⟩, ⟨rfl, trivial⟩, rfl, rfl⟩, rfl, by simp; omega⟩; done) | ((refine ret_bool ?_; unfold monOkF; rw [allR_no hlt (by rw [hb]; unfold slotOkF; simp_all), Bool.and_false]); done)
                      | true =>
                        rw [u6] at f5
                        repeat' ((conv => whnf); first | refine DrawN.q (by kernel_rfl) ?_ | with_reducible refine CondK.tt ?_ | with_reducible refine CondK.ff ?_ | refine LdK.mk _ (by assumption) ?_ | refine CallK.mk _ (f1) ?_ | refine CallQ.mk _ (f1) ?_ | refine CallK.mk _ (f2) ?_ | refine CallQ.mk _ (f2) ?_ | refine CallK.mk _ (f3) ?_ | refine CallQ.mk _ (f3) ?_ | refine CallK.mk _ (f4) ?_ | refine CallQ.mk _ (f4) ?_ | refine CallK.mk _ (f5) ?_ | refine CallQ.mk _ (f5) ?_ | rw [uk] | rw [up] | refine CondK.yes' (by assumption) ?_ | refine CondK.no' (by assumption) ?_ | refine IdxK.mk _ rfl (by omega) (by omega) ?_ | refine IdxK.at p _ (i64_pred hp (by simpa using uk) (by omega)) rfl hpl ?_ | fail)
                        all_goals first | (exact ⟨⟨k + 1, hlt, allR_step ha (by rw [hb]; unfold slotOkF; simp_all)⟩, ⟨⟨rfl, look_int (i64_succ (by omega)), trivial⟩, ⟨rfl, trivial⟩, rfl, rfl⟩, rfl, by simp; omega⟩; done) | ((refine ret_bool ?_; unfold monOkF; rw [allR_no hlt (by rw [hb]; unfold slotOkF; simp_all), Bool.and_false]); done)
                    | true =>
                      rw [u5] at f4
                      repeat' ((conv => whnf); first | refine DrawN.q (by kernel_rfl) ?_ | with_reducible refine CondK.tt ?_ | with_reducible refine CondK.ff ?_ | refine LdK.mk _ (by assumption) ?_ | refine CallK.mk _ (f1) ?_ | refine CallQ.mk _ (f1) ?_ | refine CallK.mk _ (f2) ?_ | refine CallQ.mk _ (f2) ?_ | refine CallK.mk _ (f3) ?_ | refine CallQ.mk _ (f3) ?_ | refine CallK.mk _ (f4) ?_ | refine CallQ.mk _ (f4) ?_ | refine CallK.mk _ (f5) ?_ | refine CallQ.mk _ (f5) ?_ | rw [uk] | rw [up] | refine CondK.yes' (by assumption) ?_ | refine CondK.no' (by assumption) ?_ | refine IdxK.mk _ rfl (by omega) (by omega) ?_ | refine IdxK.at p _ (i64_pred hp (by simpa using uk) (by omega)) rfl hpl ?_ | fail)
                      all_goals first | (exact ⟨⟨k + 1, hlt, allR_step ha (by rw [hb]; unfold slotOkF; simp_all)⟩, ⟨⟨rfl, look_int (i64_succ (by omega)), trivial⟩, ⟨rfl, trivial⟩, rfl, rfl⟩, rfl, by simp; omega⟩; done) | ((refine ret_bool ?_; unfold monOkF; rw [allR_no hlt (by rw [hb]; unfold slotOkF; simp_all), Bool.and_false]); done)
              | true =>
                repeat' ((conv => whnf); first | refine DrawN.q (by kernel_rfl) ?_ | with_reducible refine CondK.tt ?_ | with_reducible refine CondK.ff ?_ | refine LdK.mk _ (by assumption) ?_ | refine CallK.mk _ (f1) ?_ | refine CallQ.mk _ (f1) ?_ | refine CallK.mk _ (f2) ?_ | refine CallQ.mk _ (f2) ?_ | refine CallK.mk _ (f3) ?_ | refine CallQ.mk _ (f3) ?_ | refine CallK.mk _ (f4) ?_ | refine CallQ.mk _ (f4) ?_ | refine CallK.mk _ (f5) ?_ | refine CallQ.mk _ (f5) ?_ | rw [uk] | rw [up] | refine CondK.yes' (by assumption) ?_ | refine CondK.no' (by assumption) ?_ | refine IdxK.mk _ rfl (by omega) (by omega) ?_ | refine IdxK.at p _ (i64_pred hp (by simpa using uk) (by omega)) rfl hpl ?_ | fail)
                all_goals first | (exact ⟨⟨k + 1, hlt, allR_step ha (by rw [hb]; unfold slotOkF; simp_all)⟩, ⟨⟨rfl, look_int (i64_succ (by omega)), trivial⟩, ⟨rfl, trivial⟩, rfl, rfl⟩, rfl, by simp; omega⟩; done) | ((refine ret_bool ?_; unfold monOkF; rw [allR_no hlt (by rw [hb]; unfold slotOkF; simp_all), Bool.and_false]); done)
        · have he : k = m.Slots.length := by
            have : ¬ k < m.Slots.length := by simpa using h1
            omega
          subst he
          (conv => whnf)
          refine CallK.mk _ g3 ?_
          (conv => whnf)
          refine ret_bool ?_
          unfold monOkF
          rw [allR_yes ha, k1, k2]
          simp
      | true =>
        repeat' ((conv => whnf); first | refine DrawN.q (by kernel_rfl) ?_ | with_reducible refine CondK.tt ?_ | with_reducible refine CondK.ff ?_ | refine LdK.mk _ (by assumption) ?_ | refine CallK.mk _ (g1) ?_ | refine CallQ.mk _ (g1) ?_ | refine CallK.mk _ (g2) ?_ | refine CallQ.mk _ (g2) ?_ | refine CallK.mk _ (g3) ?_ | refine CallQ.mk _ (g3) ?_ | rw [k3] | refine CondK.yes' (by assumption) ?_ | refine CondK.no' (by assumption) ?_ | fail)
        all_goals (refine ret_bool ?_; unfold monOkF; simp only [decide_eq_true_eq] at k3)
        cases kk : allR m.Slots.length (slotP m.Slots) with
        | false => simp
        | true => exact absurd (slots_len kk) (by omega)
theorem slot_a (M : Mem) (m : GMon) (cs : List Value) (h : RMon M m cs) (e : Int) : Ans Try.prog M 20 #[.agg cs.toArray, .int .i64 e] (.agg (List.toArray [.int .i64 (slotF m.Slots e).Epoch, .int .i64 (slotF m.Slots e).Promised.No, .int .i64 (slotF m.Slots e).Promised.By, .int .i64 (slotF m.Slots e).Accepted.No, .int .i64 (slotF m.Slots e).Accepted.By, .int .i64 (slotF m.Slots e).Inc.Epoch, .int .i64 (slotF m.Slots e).Inc.Kind, .int .i64 (slotF m.Slots e).Inc.A, .int .i64 (slotF m.Slots e).Inc.B])) := by
  obtain ⟨A0, c0, A1, c1, A2, c2, rfl, _, s0, s1, s2⟩ := h
  have hln := s0.len
  refine ans_of T (l := [.agg (List.toArray _), .int .i64 e]) mixed Try.func20 rfl (by kernel_rfl) (Nat.le_of_ble_eq_true rfl) ?_
  (conv => whnf)
  refine LoopK.mk {k : Nat // k ≤ m.Slots.length ∧ ∀ (j : Nat) (hj : j < m.Slots.length), j < k → ((m.Slots[j]'hj).Epoch == e) = false} (fun ⟨k, _⟩ => [(1, .v (.int .i64 e)), (2, .p 0 0), (4, .p 1 0), (8, .v (.slice A0 m.Slots.length c0)), (9, .v (.int .i64 (m.Slots.length : Int))), (10, .v (.int .i64 (k : Int)))]) (fun _ => [(1, [.int .i64 0, .int .i64 0, .int .i64 0, .int .i64 0, .int .i64 0, .int .i64 0, .int .i64 0, .int .i64 0, .int .i64 0]), (0, [.int .i64 m.Id, .int .i64 m.Many, .slice A0 m.Slots.length c0, .int .i64 m.Try.Epoch, .int .i64 m.Try.Ballot.No, .int .i64 m.Try.Ballot.By, .int .i64 m.Try.Inc.Epoch, .int .i64 m.Try.Inc.Kind, .int .i64 m.Try.Inc.A, .int .i64 m.Try.Inc.B, .int .i64 m.Try.Highest.No, .int .i64 m.Try.Highest.By, .slice A1 m.Try.Promises.length c1, .slice A2 m.Try.Accepts.length c2, .bool m.Try.Decided])]) (fun _ => M) (fun k => m.Slots.length - k.1) ⟨0, Nat.zero_le _, fun j _ hj => absurd hj (by omega)⟩ ⟨⟨⟨rfl, rfl, rfl, rfl, rfl, rfl, trivial⟩, ⟨rfl, rfl, trivial⟩, rfl, rfl⟩, rfl⟩ ?_
  rintro ⟨k, hk, ha⟩
  (conv => whnf)
  refine CondK.mk (fun h1 => ?_) (fun h1 => ?_)
  · have hlt : k < m.Slots.length := by simpa using h1
    obtain ⟨ad, rfl, _, x0, x1, x2, x3, x4, x5, x6, x7, x8⟩ := at_Slot s0 (List.getElem?_eq_getElem hlt)
    repeat' ((conv => whnf); first | refine DrawN.q (by kernel_rfl) ?_ | with_reducible refine CondK.tt ?_ | with_reducible refine CondK.ff ?_ | with_reducible refine CondK.not ?_ | refine LdK.mk _ (by assumption) ?_ | refine IdxK.mk _ rfl (by omega) (by omega) ?_ | refine CondK.mk (fun hc => ?_) (fun hc => ?_) | fail)
    all_goals first | exact slot_ret (slotF_at hlt hc ha).symm | exact slot_ret (slotF_at hlt (by simpa using hc) ha).symm | exact ⟨⟨k + 1, hlt, fun j hj hj' => by rcases Nat.lt_succ_iff_lt_or_eq.mp hj' with hj' | rfl; exact ha j hj hj'; exact hc⟩, ⟨⟨rfl, rfl, rfl, rfl, rfl, look_int (i64_succ (by omega)), trivial⟩, ⟨rfl, rfl, trivial⟩, rfl, rfl⟩, rfl, by simp; omega⟩
  · have he : k = m.Slots.length := by
      have : ¬ k < m.Slots.length := by simpa using h1
      omega
    subst he
    (conv => whnf)
    exact slot_ret (slotF_none fun j hj => ha j hj hj).symm
theorem l21Slot_a (M : Mem) (m : GMon) (cs : List Value) (h : RMon M m cs) (e : Int) : Ans Try.prog M 16 #[.agg cs.toArray, .int .i64 e] (.agg (List.toArray [.int .i64 (slotF m.Slots e).Epoch, .int .i64 (slotF m.Slots e).Promised.No, .int .i64 (slotF m.Slots e).Promised.By, .int .i64 (slotF m.Slots e).Accepted.No, .int .i64 (slotF m.Slots e).Accepted.By, .int .i64 (slotF m.Slots e).Inc.Epoch, .int .i64 (slotF m.Slots e).Inc.Kind, .int .i64 (slotF m.Slots e).Inc.A, .int .i64 (slotF m.Slots e).Inc.B])) := by
  obtain ⟨A0, c0, A1, c1, A2, c2, rfl, _, s0, s1, s2⟩ := h
  have hln := s0.len
  refine ans_of T (l := [.agg (List.toArray _), .int .i64 e]) mixed Try.func16 rfl (by kernel_rfl) (Nat.le_of_ble_eq_true rfl) ?_
  (conv => whnf)
  refine LoopK.mk {k : Nat // k ≤ m.Slots.length ∧ ∀ (j : Nat) (hj : j < m.Slots.length), j < k → ((m.Slots[j]'hj).Epoch == e) = false} (fun ⟨k, _⟩ => [(1, .v (.int .i64 e)), (2, .p 0 0), (4, .p 1 0), (5, .v (.int .i64 (k : Int)))]) (fun _ => [(1, [.int .i64 0, .int .i64 0, .int .i64 0, .int .i64 0, .int .i64 0, .int .i64 0, .int .i64 0, .int .i64 0, .int .i64 0]), (0, [.int .i64 m.Id, .int .i64 m.Many, .slice A0 m.Slots.length c0, .int .i64 m.Try.Epoch, .int .i64 m.Try.Ballot.No, .int .i64 m.Try.Ballot.By, .int .i64 m.Try.Inc.Epoch, .int .i64 m.Try.Inc.Kind, .int .i64 m.Try.Inc.A, .int .i64 m.Try.Inc.B, .int .i64 m.Try.Highest.No, .int .i64 m.Try.Highest.By, .slice A1 m.Try.Promises.length c1, .slice A2 m.Try.Accepts.length c2, .bool m.Try.Decided])]) (fun _ => M) (fun k => m.Slots.length - k.1) ⟨0, Nat.zero_le _, fun j _ hj => absurd hj (by omega)⟩ ⟨⟨⟨rfl, rfl, rfl, rfl, trivial⟩, ⟨rfl, rfl, trivial⟩, rfl, rfl⟩, rfl⟩ ?_
  rintro ⟨k, hk, ha⟩
  (conv => whnf)
  refine CondK.mk (fun h1 => ?_) (fun h1 => ?_)
  · have hlt : k < m.Slots.length := by simpa using h1
    obtain ⟨ad, rfl, _, x0, x1, x2, x3, x4, x5, x6, x7, x8⟩ := at_Slot s0 (List.getElem?_eq_getElem hlt)
    repeat' ((conv => whnf); first | refine DrawN.q (by kernel_rfl) ?_ | with_reducible refine CondK.tt ?_ | with_reducible refine CondK.ff ?_ | with_reducible refine CondK.not ?_ | refine LdK.mk _ (by assumption) ?_ | refine IdxK.mk _ rfl (by omega) (by omega) ?_ | refine CondK.mk (fun hc => ?_) (fun hc => ?_) | fail)
    all_goals first | exact slot_ret (slotF_at hlt hc ha).symm | exact slot_ret (slotF_at hlt (by simpa using hc) ha).symm | exact ⟨⟨k + 1, hlt, fun j hj hj' => by rcases Nat.lt_succ_iff_lt_or_eq.mp hj' with hj' | rfl; exact ha j hj hj'; exact hc⟩, ⟨⟨rfl, rfl, rfl, look_int (i64_succ (by omega)), trivial⟩, ⟨rfl, rfl, trivial⟩, rfl, rfl⟩, rfl, by simp; omega⟩
  · have he : k = m.Slots.length := by
      have : ¬ k < m.Slots.length := by simpa using h1
      omega
    subst he
    (conv => whnf)
    exact slot_ret (slotF_none fun j hj => ha j hj hj).symm
end Go.Proofs.Ytmmgknhefobloaa.Hlp
