/- The reference's ballots, by the light walk. -/
import Derived.Test.YtmmgknhefobloaaFunMD
namespace Go.Proofs.Ytmmgknhefobloaa.Hlp
open Go Go.RowKit Go.Proofs Go.Proofs.Ytmmgknhefobloaa.Lw
set_option linter.unusedVariables false
set_option linter.unusedSimpArgs false
set_option maxRecDepth 100000
set_option maxHeartbeats 4000000
theorem take_any {cs vs : List Value} {k m' : Nat} (h : (cs.drop k).take m' = vs) {m : Nat} (hm : m = m') : (cs.drop k).take m = vs := by
  subst hm
  exact h
theorem RowR.twoB {M : Mem} {l : List GBallot} {ds : List Value} (h : RowR M RBallot 2 l ds) {i : Nat} {x : GBallot} (hx : l[i]? = some x) : (ds.drop (i * 2)).take 2 = [.int .i64 x.No, .int .i64 x.By] ∧ i * 2 + 2 ≤ ds.length := by
  obtain ⟨d0, d1⟩ := RowR.atB h hx
  have h1 := (List.getElem?_eq_some_iff.1 d1).1
  refine ⟨?_, by omega⟩
  apply List.ext_getElem?
  intro o
  match o with
  | 0 => rw [List.getElem?_take_of_lt (by omega), List.getElem?_drop]; exact d0
  | 1 => rw [List.getElem?_take_of_lt (by omega), List.getElem?_drop]; exact d1
  | o + 2 => rw [List.getElem?_eq_none (by rw [List.length_take]; omega), List.getElem?_eq_none (by simp)]
theorem l21Ballots_a (M : Mem) (l : List GMon) (A : Option Addr) (c : Nat) (h : SlR M RMon 15 168 A c l) (h5 : l.length ≤ 5) (e : Int) : AnsR Try.prog M 15 #[.slice A l.length c, .int .i64 e] (fun M' v => ∃ A' c', v = .slice A' (balsF l e).length c' ∧ SlR M' RBallot 2 16 A' c' (balsF l e)) := by
  have hl := h.len
  refine ansR_of T (l := [.slice A l.length c, .int .i64 e]) mixed Try.func15 rfl (by kernel_rfl) (Nat.le_of_ble_eq_true rfl) ?_
  (conv => whnf)
  refine LoopK.sw 0 1 {q : Nat × List GBallot × Nat × List Value × Mem // q.1 ≤ l.length ∧ q.2.1 = balsF (l.take q.1) e ∧ q.2.1.length ≤ q.2.2.1 ∧ RowR M RBallot 2 q.2.1 q.2.2.2.1 ∧ Le M q.2.2.2.2} (fun ⟨⟨k, out, cap, ds, N⟩, _⟩ => [(0, .v (.slice A l.length c)), (1, .v (.int .i64 e)), (5, .s 0 out.length cap 2), (6, .v (.int .i64 (k : Int)))]) (fun ⟨⟨k, out, cap, ds, N⟩, _⟩ => [(0, ds)]) (fun ⟨⟨k, out, cap, ds, N⟩, _⟩ => N) (fun q => l.length - q.1.1) ⟨(0, [], 0, [], M), Nat.zero_le _, rfl, Nat.le_refl _, RowR.nil, Le.refl _⟩ 0 ⟨⟨⟨rfl, rfl, rfl, rfl, trivial⟩, ⟨rfl, trivial⟩, rfl, rfl⟩, rfl⟩ ?_
  rintro ⟨⟨k, out, cap, ds, N⟩, hk, hout, hcap, hrow, hN⟩
  replace hk : k ≤ l.length := hk
  replace hout : out = balsF (l.take k) e := hout
  replace hcap : out.length ≤ cap := hcap
  replace hrow : RowR M RBallot 2 out ds := hrow
  replace hN : Le M N := hN
  (conv => whnf)
  refine CondK.mk (fun h1 => ?_) (fun h1 => ?_)
  · have hlt : k < l.length := by simpa using h1
    obtain ⟨m, hm⟩ : ∃ m, l[k] = m := ⟨_, rfl⟩
    have hx : l[k]? = some m := by rw [List.getElem?_eq_getElem hlt, hm]
    obtain ⟨ad, rfl, A0, c0, A1, c1, A2, c2, bnx, ⟨s0, s1, s2⟩, x0, x1, x2, x3, x4, x5, x6, x7, x8, x9, x10, x11, x12, x13, x14⟩ := at_Mon (h.mono hN (RMon.mono hN)) hx
    have f1 := l21Slot_a N m _ ⟨A0, c0, A1, c1, A2, c2, rfl, trivial, s0, s1, s2⟩ e
    obtain ⟨s, hs⟩ : ∃ s, slotF m.Slots e = s := ⟨_, rfl⟩
    rw [hs] at f1
    have hst : balsF (l.take (k + 1)) e = insB out s.Accepted := by rw [bals_step hlt, ← hout, hm, accF, hs]
    have hbl : out.length ≤ k := by
      have := bals_len (l.take k) e
      rw [← hout, List.length_take] at this
      omega
    repeat' ((conv => whnf); first | refine IdxK.mk _ rfl (by omega) (by omega) ?_ | refine LdK.mk _ (by assumption) ?_ | refine CallK.mk _ f1 ?_ | fail)
    refine LoopK.mk {j : Nat // j ≤ out.length ∧ ∀ (i : Nat) (hi : i < out.length), i < j → lessF (out[i]'hi) s.Accepted = true} (fun ⟨j, _⟩ => [(0, .v (.slice (some ad) l.length c)), (1, .v (.int .i64 e)), (5, .s 0 out.length cap 2), (6, .v (.int .i64 (k : Int))), (7, .p 1 0), (8, .v (.int .i64 (j : Int)))]) (fun _ => [(1, [.int .i64 s.Accepted.No, .int .i64 s.Accepted.By]), (0, ds)]) (fun _ => N) (fun j => out.length - j.1) ⟨0, Nat.zero_le _, fun i _ hi => absurd hi (by omega)⟩ ⟨⟨⟨rfl, rfl, rfl, rfl, rfl, rfl, trivial⟩, ⟨rfl, rfl, trivial⟩, rfl, rfl⟩, rfl⟩ ?_
    rintro ⟨j, hj, ha⟩
    by_cases hjl : j < out.length
    · obtain ⟨x, hxj⟩ : ∃ x, out[j] = x := ⟨_, rfl⟩
      have hx2 : out[j]? = some x := by rw [List.getElem?_eq_getElem hjl, hxj]
      obtain ⟨hw, hwl⟩ := RowR.twoB hrow hx2
      have g1 := l21Less_a N x s.Accepted
      cases hc : lessF x s.Accepted with
      | true =>
        rw [hc] at g1
        repeat' ((conv => whnf); first | refine DrawN.q (by kernel_rfl) ?_ | with_reducible refine CondK.tt ?_ | with_reducible refine CondK.ff ?_ | refine CondK.yes' (decide_eq_true (by omega)) ?_ | refine IdxA.mk (j * 2) rfl (by omega) (by omega) ?_ | (refine Owe.mk hwl ?_; rw [take_any hw]; rotate_left; kernel_rfl) | refine CallQ.mk _ g1 ?_ | refine CallK.mk _ g1 ?_ | fail)
        exact ⟨⟨j + 1, hjl, fun i hi hij => by rcases Nat.lt_succ_iff_lt_or_eq.mp hij with hij | rfl; exact ha i hi hij; rw [hxj]; exact hc⟩, ⟨⟨rfl, rfl, rfl, rfl, rfl, look_int (i64_succ (by omega)), trivial⟩, ⟨rfl, rfl, trivial⟩, rfl, rfl⟩, rfl, by simp; omega⟩
      | false =>
        rw [hc] at g1
        have hix := ix_less ha (.inr ⟨hjl, by rw [hxj]; exact hc⟩)
        cases z : (s.Accepted.No == 0 && (s.Accepted.By == 0 && true)) with
        | true =>
          have hins : insB out s.Accepted = out := by unfold insB; rw [if_pos (.inl (of_decide_eq_true ((eqv_Ballot s.Accepted ⟨0, 0⟩).symm.trans z)))]
          repeat' ((conv => whnf); first | refine DrawN.q (by kernel_rfl) ?_ | with_reducible refine CondK.tt ?_ | with_reducible refine CondK.ff ?_ | refine CondK.yes' (decide_eq_true (by omega)) ?_ | refine IdxA.mk (j * 2) rfl (by omega) (by omega) ?_ | (refine Owe.mk hwl ?_; rw [take_any hw]; rotate_left; kernel_rfl) | refine CallQ.mk _ g1 ?_ | refine CallK.mk _ g1 ?_ | rw [z] | fail | fail)
          exact ⟨⟨(k + 1, out, cap, ds, N), hlt, by rw [hst, hins], hcap, hrow, hN⟩, 0, ⟨⟨rfl, rfl, rfl, look_int (i64_succ (by omega)), trivial⟩, ⟨rfl, trivial⟩, rfl, rfl⟩, rfl, by simp; omega⟩
        | false =>
          have hz0 : ¬ s.Accepted = ⟨0, 0⟩ := of_decide_eq_false ((eqv_Ballot s.Accepted ⟨0, 0⟩).symm.trans z)
          cases qx : (x.No == s.Accepted.No && (x.By == s.Accepted.By && true)) with
          | true =>
            have hins : insB out s.Accepted = out := by unfold insB; rw [hix, if_pos (.inr (by rw [hx2, of_decide_eq_true ((eqv_Ballot x s.Accepted).symm.trans qx)]))]
            repeat' ((conv => whnf); first | refine DrawN.q (by kernel_rfl) ?_ | with_reducible refine CondK.tt ?_ | with_reducible refine CondK.ff ?_ | refine CondK.yes' (decide_eq_true (by omega)) ?_ | refine IdxA.mk (j * 2) rfl (by omega) (by omega) ?_ | (refine Owe.mk hwl ?_; rw [take_any hw]; rotate_left; kernel_rfl) | refine CallQ.mk _ g1 ?_ | refine CallK.mk _ g1 ?_ | rw [z] | rw [qx] | fail)
            exact ⟨⟨(k + 1, out, cap, ds, N), hlt, by rw [hst, hins], hcap, hrow, hN⟩, 0, ⟨⟨rfl, rfl, rfl, look_int (i64_succ (by omega)), trivial⟩, ⟨rfl, trivial⟩, rfl, rfl⟩, rfl, by simp; omega⟩
          | false =>
            have hins : insB out s.Accepted = out.take j ++ [s.Accepted] ++ out.drop j := by
              unfold insB
              rw [hix, if_neg]
              rintro (h | h)
              · exact hz0 h
              · rw [hx2] at h
                exact of_decide_eq_false ((eqv_Ballot x s.Accepted).symm.trans qx) (Option.some.inj h)
            repeat' ((conv => whnf); first | refine DrawN.q (by kernel_rfl) ?_ | with_reducible refine CondK.tt ?_ | with_reducible refine CondK.ff ?_ | refine CondK.yes' (decide_eq_true (by omega)) ?_ | refine IdxA.mk (j * 2) rfl (by omega) (by omega) ?_ | (refine Owe.mk hwl ?_; rw [take_any hw]; rotate_left; kernel_rfl) | refine CallQ.mk _ g1 ?_ | refine CallK.mk _ g1 ?_ | rw [z] | rw [qx] | fail)
            refine PubK.mk fun ad2 N2 hl2 hc2 => ?_
            have hsl : SlR N2 RBallot 2 16 (some ad2) cap out := slPub hrow (by rw [List.nil_append]; exact hc2) (by omega) (by omega) (fun _ _ h => h)
            obtain ⟨dt, rt, nt, mt⟩ := hsl.rowTo (fun x cs hx => (RBallot.one x cs hx).1) hj
            obtain ⟨dd, rd, nd, md⟩ := hsl.rowFrom (fun x cs hx => (RBallot.one x cs hx).1) hj
            have ho1 := rt.all
            have ho2 := rd.all
            repeat' ((conv => whnf); first | refine DrawN.q (by kernel_rfl) ?_ | refine SlK.mk 0 j rfl rfl (Nat.zero_le _) (by omega) ?_ | refine SlK.mk j out.length rfl rfl hj (by omega) ?_ | refine SrcK.mk dt nt mt ?_ | refine SrcK.mk dd nd md ?_ | refine AppK.mk (by show (2 * _ + 512) * 16 ≤ 281474976710656; omega) (by omega) (.inr rfl) (by first | exact ho1 | exact ho2 | rfl) (fun cap3 hcap3 => ?_) | fail)
            refine ⟨⟨(k + 1, out.take j ++ [s.Accepted] ++ out.drop j, cap3, dt ++ [.int .i64 s.Accepted.No, .int .i64 s.Accepted.By] ++ dd, N2), hlt, ?_, ?_, ?_, hN.trans hl2⟩, 6, ⟨⟨rfl, rfl, congrArg (fun t => some (PV.s 6 t cap3 2)) ?_, look_int (i64_succ (by omega)), trivial⟩, ⟨rfl, trivial⟩, rfl, rfl⟩, rfl, by simp; omega⟩
            · show _ = balsF (l.take (k + 1)) e
              rw [hst, hins]
            · show (out.take j ++ [s.Accepted] ++ out.drop j).length ≤ cap3
              simp only [List.length_append, List.length_take, List.length_drop, List.length_singleton]
              omega
            · exact ((rt.app (RowR.one (x := s.Accepted) ⟨rfl, trivial⟩ rfl rfl)).app rd).mono (fun _ _ h => h)
            · simp only [List.length_append, List.length_take, List.length_drop, List.length_singleton]
              omega
    · skip
      have hix := ix_less ha (.inl (by omega))
      cases z : (s.Accepted.No == 0 && (s.Accepted.By == 0 && true)) with
      | true =>
        have hins : insB out s.Accepted = out := by unfold insB; rw [if_pos (.inl (of_decide_eq_true ((eqv_Ballot s.Accepted ⟨0, 0⟩).symm.trans z)))]
        repeat' ((conv => whnf); first | refine DrawN.q (by kernel_rfl) ?_ | with_reducible refine CondK.tt ?_ | with_reducible refine CondK.ff ?_ | refine CondK.no' (decide_eq_false (by omega)) ?_ | rw [z] | fail | fail)
        exact ⟨⟨(k + 1, out, cap, ds, N), hlt, by rw [hst, hins], hcap, hrow, hN⟩, 0, ⟨⟨rfl, rfl, rfl, look_int (i64_succ (by omega)), trivial⟩, ⟨rfl, trivial⟩, rfl, rfl⟩, rfl, by simp; omega⟩
      | false =>
        have hz0 : ¬ s.Accepted = ⟨0, 0⟩ := of_decide_eq_false ((eqv_Ballot s.Accepted ⟨0, 0⟩).symm.trans z)
        have hins : insB out s.Accepted = out.take j ++ [s.Accepted] ++ out.drop j := by
          unfold insB
          rw [hix, if_neg]
          rintro (h | h)
          · exact hz0 h
          · rw [List.getElem?_eq_none (by omega)] at h
            cases h
        repeat' ((conv => whnf); first | refine DrawN.q (by kernel_rfl) ?_ | with_reducible refine CondK.tt ?_ | with_reducible refine CondK.ff ?_ | refine CondK.no' (decide_eq_false (by omega)) ?_ | rw [z] | fail | fail)
        refine PubK.mk fun ad2 N2 hl2 hc2 => ?_
        have hsl : SlR N2 RBallot 2 16 (some ad2) cap out := slPub hrow (by rw [List.nil_append]; exact hc2) (by omega) (by omega) (fun _ _ h => h)
        obtain ⟨dt, rt, nt, mt⟩ := hsl.rowTo (fun x cs hx => (RBallot.one x cs hx).1) hj
        obtain ⟨dd, rd, nd, md⟩ := hsl.rowFrom (fun x cs hx => (RBallot.one x cs hx).1) hj
        have ho1 := rt.all
        have ho2 := rd.all
        repeat' ((conv => whnf); first | refine DrawN.q (by kernel_rfl) ?_ | refine SlK.mk 0 j rfl rfl (Nat.zero_le _) (by omega) ?_ | refine SlK.mk j out.length rfl rfl hj (by omega) ?_ | refine SrcK.mk dt nt mt ?_ | refine SrcK.mk dd nd md ?_ | refine AppK.mk (by show (2 * _ + 512) * 16 ≤ 281474976710656; omega) (by omega) (.inr rfl) (by first | exact ho1 | exact ho2 | rfl) (fun cap3 hcap3 => ?_) | fail)
        refine ⟨⟨(k + 1, out.take j ++ [s.Accepted] ++ out.drop j, cap3, dt ++ [.int .i64 s.Accepted.No, .int .i64 s.Accepted.By] ++ dd, N2), hlt, ?_, ?_, ?_, hN.trans hl2⟩, 6, ⟨⟨rfl, rfl, congrArg (fun t => some (PV.s 6 t cap3 2)) ?_, look_int (i64_succ (by omega)), trivial⟩, ⟨rfl, trivial⟩, rfl, rfl⟩, rfl, by simp; omega⟩
        · show _ = balsF (l.take (k + 1)) e
          rw [hst, hins]
        · show (out.take j ++ [s.Accepted] ++ out.drop j).length ≤ cap3
          simp only [List.length_append, List.length_take, List.length_drop, List.length_singleton]
          omega
        · exact ((rt.app (RowR.one (x := s.Accepted) ⟨rfl, trivial⟩ rfl rfl)).app rd).mono (fun _ _ h => h)
        · simp only [List.length_append, List.length_take, List.length_drop, List.length_singleton]
          omega
  · have he : k = l.length := by
      have : ¬ k < l.length := by simpa using h1
      omega
    subst he
    rw [List.take_length] at hout
    subst hout
    (conv => whnf)
    have hb5 := bals_len l e
    exact RetK.mk fun g M' hl hg => ⟨_, _, rfl, row_out hrow rfl (fun _ _ h => h) (hg 0 _ rfl) hcap (by omega)⟩
end Go.Proofs.Ytmmgknhefobloaa.Hlp
