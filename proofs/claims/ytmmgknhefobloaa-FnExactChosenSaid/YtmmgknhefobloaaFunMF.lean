/- The reference's Chosen, by the light walk. -/
import Derived.Test.YtmmgknhefobloaaFunME
namespace Go.Proofs.Ytmmgknhefobloaa.Hlp
open Go Go.RowKit Go.Proofs Go.Proofs.Ytmmgknhefobloaa.Lw
set_option linter.unusedVariables false
set_option linter.unusedSimpArgs false
set_option maxRecDepth 100000
set_option maxHeartbeats 4000000
def incTo (e : Int) (b : GBallot) (l : List GMon) : GInc := l.foldl (fun a m => if (slotF m.Slots e).Accepted = b then (slotF m.Slots e).Inc else a) ⟨0, 0, 0, 0⟩
def cntTo (e : Int) (b : GBallot) (l : List GMon) : Nat := l.countP (fun m => decide ((slotF m.Slots e).Accepted = b))
def mostC (n c : Nat) : Bool := decide (IntKind.i64.wrap (2 * (c : Int)) > (n : Int))
def chTo (l : List GMon) (e : Int) (bs : List GBallot) : List GInc := (bs.filter (fun b => mostC l.length (cntTo e b l))).map (fun b => incTo e b l)
def chF (l : List GMon) (e : Int) : List GInc := if monsF l = true then chTo l e (balsF l e) else []
theorem ch_step {l : List GMon} {e : Int} {bs : List GBallot} {k : Nat} {b : GBallot} (hb : bs[k]? = some b) : chTo l e (bs.take (k + 1)) = chTo l e (bs.take k) ++ (if mostC l.length (cntTo e b l) = true then [incTo e b l] else []) := by
  obtain ⟨hk, rfl⟩ := List.getElem?_eq_some_iff.1 hb
  unfold chTo
  rw [List.take_succ_eq_append_getElem hk, List.filter_append, List.map_append]
  congr 1
  by_cases h : mostC l.length (cntTo e bs[k] l) = true
  · rw [if_pos h]
    simp [h]
  · rw [if_neg h]
    simp [h]
theorem ch_len (l : List GMon) (e : Int) (bs : List GBallot) : (chTo l e bs).length ≤ bs.length := by
  unfold chTo
  rw [List.length_map]
  exact List.length_filter_le _ _
theorem cnt_step {l : List GMon} {e : Int} {b : GBallot} {k : Nat} {m : GMon} (h : l[k]? = some m) : cntTo e b (l.take (k + 1)) = cntTo e b (l.take k) + (if (slotF m.Slots e).Accepted = b then 1 else 0) := by
  obtain ⟨hk, rfl⟩ := List.getElem?_eq_some_iff.1 h
  unfold cntTo
  rw [List.take_succ_eq_append_getElem hk, List.countP_append]
  congr 1
  by_cases h : (slotF l[k].Slots e).Accepted = b <;> simp [h]
theorem inc_step {l : List GMon} {e : Int} {b : GBallot} {k : Nat} {m : GMon} (h : l[k]? = some m) : incTo e b (l.take (k + 1)) = if (slotF m.Slots e).Accepted = b then (slotF m.Slots e).Inc else incTo e b (l.take k) := by
  obtain ⟨hk, rfl⟩ := List.getElem?_eq_some_iff.1 h
  unfold incTo
  rw [List.take_succ_eq_append_getElem hk, List.foldl_append]
  rfl
theorem cnt_len (l : List GMon) (e : Int) (b : GBallot) : cntTo e b l ≤ l.length := List.countP_le_length
theorem mons_no {l : List GMon} (h : ¬ (1 ≤ l.length ∧ l.length ≤ 5)) : monsF l = false := by
  unfold monsF inR
  simp only [Bool.and_eq_false_iff, decide_eq_false_iff_not]
  left
  omega
theorem ret_ch {M' : Mem} {l : List GMon} {e : Int} (hm : monsF l = false) : ∃ A' c', Value.tuple #[.slice none 0 0, .bool false] = .tuple #[.slice A' (chF l e).length c', .bool (monsF l)] ∧ SlR M' RInc 4 32 A' c' (chF l e) := by
  unfold chF
  rw [hm]
  exact ⟨none, 0, rfl, SlR.nil⟩
theorem allOne_ints : ∀ (ns : List Int), allOne (ns.map (Value.int .i64)) = true
  | [] => rfl
  | n :: r => by
    show (true && allOne (r.map (Value.int .i64))) = true
    rw [allOne_ints r]
    rfl
theorem sChosen_a (M : Mem) (l : List GMon) (A : Option Addr) (c : Nat) (h : SlR M RMon 15 168 A c l) (e : Int) : AnsR Try.prog M 5 #[.slice A l.length c, .int .i64 e] (fun M' v => ∃ A' c', v = .tuple #[.slice A' (chF l e).length c', .bool (monsF l)] ∧ SlR M' RInc 4 32 A' c' (chF l e)) := by
  have hl := h.len
  refine ansR_of T (l := [.slice A l.length c, .int .i64 e]) mixed Try.func5 rfl (by kernel_rfl) (Nat.le_of_ble_eq_true rfl) ?_
  by_cases hlen : 1 ≤ l.length ∧ l.length ≤ 5
  rotate_left
  · have hm := mons_no hlen
    by_cases h0 : (l.length : Int) < 1
    · repeat' ((conv => whnf); first | refine CondK.yes' (decide_eq_true h0) ?_ | with_reducible refine CondK.tt ?_ | with_reducible refine CondK.ff ?_ | rw [decide_eq_true h0] | fail)
      exact RetK.mk fun g M' hl hg => ret_ch hm
    · have h1 : (l.length : Int) > 5 := by omega
      repeat' ((conv => whnf); first | refine CondK.yes' (decide_eq_true h1) ?_ | with_reducible refine CondK.tt ?_ | with_reducible refine CondK.ff ?_ | rw [decide_eq_false h0] | rw [decide_eq_true h1] | fail)
      exact RetK.mk fun g M' hl hg => ret_ch hm
  have h0 : ¬ (l.length : Int) < 1 := by omega
  have h1 : ¬ (l.length : Int) > 5 := by omega
  repeat' ((conv => whnf); first | refine CondK.no' (decide_eq_false h1) ?_ | with_reducible refine CondK.tt ?_ | with_reducible refine CondK.ff ?_ | rw [decide_eq_false h0] | rw [decide_eq_false h1] | fail)
  refine LoopK.mk {k : Nat // k ≤ l.length ∧ ∀ j, j < k → monP l.length l j = true} (fun ⟨k, _⟩ => [(0, .v (.slice A l.length c)), (1, .v (.int .i64 e)), (6, .v (.int .i64 (k : Int)))]) (fun _ => []) (fun _ => M) (fun k => l.length - k.1) ⟨0, Nat.zero_le _, fun j hj => absurd hj (by omega)⟩ ⟨⟨⟨rfl, rfl, rfl, trivial⟩, trivial, rfl, rfl⟩, rfl⟩ ?_
  rintro ⟨k, hk, ha⟩
  (conv => whnf)
  refine CondK.mk (fun h2 => ?_) (fun h2 => ?_)
  · have hlt : k < l.length := by simpa using h2
    have hx := List.getElem?_eq_getElem hlt
    have hb := monP_at (n := l.length) hx
    obtain ⟨ad, rfl, A0, c0, A1, c1, A2, c2, bnx, ⟨s0, s1, s2⟩, x0, x1, x2, x3, x4, x5, x6, x7, x8, x9, x10, x11, x12, x13, x14⟩ := at_Mon h hx
    obtain ⟨m, hm⟩ : ∃ m, l[k] = m := ⟨_, rfl⟩
    rw [hm] at hx hb s0 s1 s2 x0 x1 x2 x3 x4 x5 x6 x7 x8 x9 x10 x11 x12 x13 x14
    have f1 := sMonOk_a M m _ ⟨A0, c0, A1, c1, A2, c2, rfl, trivial, s0, s1, s2⟩
    cases u1 : monOkF m with
    | false =>
      rw [u1] at f1
      repeat' ((conv => whnf); first | refine DrawN.q (by kernel_rfl) ?_ | with_reducible refine CondK.tt ?_ | with_reducible refine CondK.ff ?_ | refine LdK.mk _ (by assumption) ?_ | refine CallK.mk _ (f1) ?_ | refine CallQ.mk _ (f1) ?_ | fail | refine CondK.yes' (by assumption) ?_ | refine CondK.no' (by assumption) ?_ | refine IdxK.mk _ rfl (by omega) (by omega) ?_ | fail)
      all_goals first | (exact ⟨⟨k + 1, hlt, allR_step ha (by rw [hb]; simp_all)⟩, ⟨⟨rfl, rfl, look_int (i64_succ (by omega)), trivial⟩, trivial, rfl, rfl⟩, rfl, by simp; omega⟩; done) | (exact RetK.mk fun g M' hl hg => ret_ch (by unfold monsF; rw [allR_no hlt (by rw [hb]; simp_all), Bool.and_false]); done)
    | true =>
      rw [u1] at f1
      cases u2 : (m.Id != (k : Int)) with
      | false =>
        cases u3 : (m.Many != (l.length : Int)) with
        | false =>
          repeat' ((conv => whnf); first | refine DrawN.q (by kernel_rfl) ?_ | with_reducible refine CondK.tt ?_ | with_reducible refine CondK.ff ?_ | refine LdK.mk _ (by assumption) ?_ | refine CallK.mk _ (f1) ?_ | refine CallQ.mk _ (f1) ?_ | rw [u2] | rw [u3] | refine CondK.yes' (by assumption) ?_ | refine CondK.no' (by assumption) ?_ | refine IdxK.mk _ rfl (by omega) (by omega) ?_ | fail)
          all_goals first | (exact ⟨⟨k + 1, hlt, allR_step ha (by rw [hb]; simp_all)⟩, ⟨⟨rfl, rfl, look_int (i64_succ (by omega)), trivial⟩, trivial, rfl, rfl⟩, rfl, by simp; omega⟩; done) | (exact RetK.mk fun g M' hl hg => ret_ch (by unfold monsF; rw [allR_no hlt (by rw [hb]; simp_all), Bool.and_false]); done)
        | true =>
          repeat' ((conv => whnf); first | refine DrawN.q (by kernel_rfl) ?_ | with_reducible refine CondK.tt ?_ | with_reducible refine CondK.ff ?_ | refine LdK.mk _ (by assumption) ?_ | refine CallK.mk _ (f1) ?_ | refine CallQ.mk _ (f1) ?_ | rw [u2] | rw [u3] | refine CondK.yes' (by assumption) ?_ | refine CondK.no' (by assumption) ?_ | refine IdxK.mk _ rfl (by omega) (by omega) ?_ | fail)
          all_goals first | (exact ⟨⟨k + 1, hlt, allR_step ha (by rw [hb]; simp_all)⟩, ⟨⟨rfl, rfl, look_int (i64_succ (by omega)), trivial⟩, trivial, rfl, rfl⟩, rfl, by simp; omega⟩; done) | (exact RetK.mk fun g M' hl hg => ret_ch (by unfold monsF; rw [allR_no hlt (by rw [hb]; simp_all), Bool.and_false]); done)
      | true =>
        repeat' ((conv => whnf); first | refine DrawN.q (by kernel_rfl) ?_ | with_reducible refine CondK.tt ?_ | with_reducible refine CondK.ff ?_ | refine LdK.mk _ (by assumption) ?_ | refine CallK.mk _ (f1) ?_ | refine CallQ.mk _ (f1) ?_ | rw [u2] | refine CondK.yes' (by assumption) ?_ | refine CondK.no' (by assumption) ?_ | refine IdxK.mk _ rfl (by omega) (by omega) ?_ | fail)
        all_goals first | (exact ⟨⟨k + 1, hlt, allR_step ha (by rw [hb]; simp_all)⟩, ⟨⟨rfl, rfl, look_int (i64_succ (by omega)), trivial⟩, trivial, rfl, rfl⟩, rfl, by simp; omega⟩; done) | (exact RetK.mk fun g M' hl hg => ret_ch (by unfold monsF; rw [allR_no hlt (by rw [hb]; simp_all), Bool.and_false]); done)
  have he : k = l.length := by
    have : ¬ k < l.length := by simpa using h2
    omega
  subst he
  have hmons : monsF l = true := by
    unfold monsF inR
    rw [allR_yes ha]
    simp only [Bool.and_true, Bool.and_eq_true, decide_eq_true_eq]
    omega
  have hbl := bals_len l e
  have hcf : chF l e = chTo l e (balsF l e) := by unfold chF; rw [if_pos hmons]
  rw [hmons, hcf]
  obtain ⟨bs, hbs⟩ : ∃ bs, balsF l e = bs := ⟨_, rfl⟩
  rw [hbs] at hbl ⊢
  have g15 := l21Ballots_a M l A c h hlen.2 e
  rw [hbs] at g15
  repeat' ((conv => whnf); first | (refine CallK.mr _ g15 (fun v M1 hl1 hv => ?_); obtain ⟨Ab, cb, rfl, rb⟩ := hv) | fail)
  refine LoopK.sw 0 1 {q : Nat × List GInc × Nat × List Value × Mem // q.1 ≤ bs.length ∧ q.2.1 = chTo l e (bs.take q.1) ∧ q.2.1.length ≤ q.2.2.1 ∧ RowR M RInc 4 q.2.1 q.2.2.2.1 ∧ Le M1 q.2.2.2.2} (fun ⟨⟨k, out, cap, ds, N⟩, _⟩ => [(0, .v (.slice A l.length c)), (1, .v (.int .i64 e)), (7, .s 0 out.length cap 4), (8, .v (.slice Ab bs.length cb)), (9, .v (.int .i64 (k : Int)))]) (fun ⟨⟨k, out, cap, ds, N⟩, _⟩ => [(0, ds)]) (fun ⟨⟨k, out, cap, ds, N⟩, _⟩ => N) (fun q => bs.length - q.1.1) ⟨(0, [], 0, [], M1), Nat.zero_le _, rfl, Nat.le_refl _, RowR.nil, Le.refl _⟩ 0 ⟨⟨⟨rfl, rfl, rfl, rfl, rfl, trivial⟩, ⟨rfl, trivial⟩, rfl, rfl⟩, rfl⟩ ?_
  rintro ⟨⟨i, out, cap, ds, N⟩, hi, hout, hcap, hrow, hN⟩
  replace hi : i ≤ bs.length := hi
  replace hout : out = chTo l e (bs.take i) := hout
  replace hcap : out.length ≤ cap := hcap
  replace hrow : RowR M RInc 4 out ds := hrow
  replace hN : Le M1 N := hN
  (conv => whnf)
  refine CondK.mk (fun h3 => ?_) (fun h3 => ?_)
  rotate_left
  · have he : i = bs.length := by
      have : ¬ i < bs.length := by simpa using h3
      omega
    subst he
    rw [List.take_length] at hout
    subst hout
    (conv => whnf)
    have := ch_len l e bs
    exact RetK.mk fun g M' hl hg => ⟨_, _, rfl, row_out hrow rfl (fun _ _ h => h) (hg 0 _ rfl) hcap (by omega)⟩
  have hil : i < bs.length := by simpa using h3
  obtain ⟨b, hbi⟩ : ∃ b, bs[i] = b := ⟨_, rfl⟩
  have hb2 : bs[i]? = some b := by rw [List.getElem?_eq_getElem hil, hbi]
  have hst := ch_step (l := l) (e := e) hb2
  rw [← hout] at hst
  have hol : out.length ≤ i := by
    have := ch_len l e (bs.take i)
    rw [← hout, List.length_take] at this
    omega
  (conv => whnf)
  refine LoopK.sw 1 3 {q : Nat × List Int × Nat × GInc // q.1 ≤ l.length ∧ q.2.1.length = cntTo e b (l.take q.1) ∧ q.2.1.length ≤ q.2.2.1 ∧ q.2.2.2 = incTo e b (l.take q.1)} (fun ⟨⟨j, ws, cp, inc⟩, _⟩ => [(0, .v (.slice A l.length c)), (1, .v (.int .i64 e)), (7, .s 0 out.length cap 4), (8, .v (.slice Ab bs.length cb)), (9, .v (.int .i64 (i : Int))), (10, .s 1 ws.length cp 1), (11, .p 2 0), (12, .v (.int .i64 (j : Int)))]) (fun ⟨⟨j, ws, cp, inc⟩, _⟩ => [(2, [.int .i64 inc.Epoch, .int .i64 inc.Kind, .int .i64 inc.A, .int .i64 inc.B]), (1, ws.map (Value.int .i64)), (0, ds)]) (fun _ => N) (fun q => l.length - q.1.1) ⟨(0, [], 0, ⟨0, 0, 0, 0⟩), Nat.zero_le _, rfl, Nat.le_refl _, rfl⟩ 1 ⟨⟨⟨rfl, rfl, rfl, rfl, rfl, rfl, rfl, rfl, trivial⟩, ⟨rfl, rfl, rfl, trivial⟩, rfl, rfl⟩, rfl⟩ ?_
  rintro ⟨⟨j, ws, cp, inc⟩, hj, hws, hcp, hinc⟩
  replace hj : j ≤ l.length := hj
  replace hws : ws.length = cntTo e b (l.take j) := hws
  replace hcp : ws.length ≤ cp := hcp
  replace hinc : inc = incTo e b (l.take j) := hinc
  have hwl : ws.length ≤ 5 := by
    have := cnt_len (l.take j) e b
    rw [← hws, List.length_take] at this
    omega
  (conv => whnf)
  refine CondK.mk (fun h4 => ?_) (fun h4 => ?_)
  · have hjl : j < l.length := by simpa using h4
    obtain ⟨m, hm⟩ : ∃ m, l[j] = m := ⟨_, rfl⟩
    have hx : l[j]? = some m := by rw [List.getElem?_eq_getElem hjl, hm]
    have hMN := hl1.trans hN
    obtain ⟨ad, rfl, A0, c0, A1, c1, A2, c2, bnx, ⟨s0, s1, s2⟩, x0, x1, x2, x3, x4, x5, x6, x7, x8, x9, x10, x11, x12, x13, x14⟩ := at_Mon (h.mono hMN (RMon.mono hMN)) hx
    obtain ⟨ab, rfl, _, y0, y1⟩ := at_Ballot (rb.mono hN (fun _ _ h => h)) hb2
    have f1 := l21Slot_a N m _ ⟨A0, c0, A1, c1, A2, c2, rfl, trivial, s0, s1, s2⟩ e
    have hcs := cnt_step (e := e) (b := b) hx
    have his := inc_step (e := e) (b := b) hx
    obtain ⟨s, hs⟩ : ∃ s, slotF m.Slots e = s := ⟨_, rfl⟩
    rw [hs] at f1 hcs his
    cases qb : (s.Accepted.No == b.No && (s.Accepted.By == b.By && true)) with
    | true =>
      have hsb : s.Accepted = b := of_decide_eq_true ((eqv_Ballot s.Accepted b).symm.trans qb)
      rw [if_pos hsb] at hcs his
      repeat' ((conv => whnf); first | refine DrawN.q (by kernel_rfl) ?_ | with_reducible refine CondK.tt ?_ | with_reducible refine CondK.ff ?_ | refine IdxK.mk _ rfl (by omega) (by omega) ?_ | refine LdK.mk _ (by assumption) ?_ | refine CallK.mk _ f1 ?_ | rw [qb] | refine AppK.mk (by show (2 * _ + 512) * 8 ≤ 281474976710656; omega) (by omega) (.inr rfl) (by first | exact allOne_ints ws | rfl) (fun cap3 hcap3 => ?_) | fail)
      refine ⟨⟨(j + 1, ws ++ [(j : Int)], cap3, s.Inc), hjl, ?_, ?_, his.symm⟩, 5, ⟨⟨rfl, rfl, rfl, rfl, rfl, congrArg (fun t => some (PV.s 5 t cap3 1)) ?_, rfl, look_int (i64_succ (by omega)), trivial⟩, ⟨rfl, (by show some _ = some _; rw [List.map_append]; rfl), rfl, trivial⟩, rfl, rfl⟩, rfl, by simp; omega⟩
      · show (ws ++ [(j : Int)]).length = _
        rw [hcs, List.length_append, hws]
        rfl
      · show (ws ++ [(j : Int)]).length ≤ cap3
        rw [List.length_append]
        exact hcap3
      · rw [List.length_append]
        rfl
    | false =>
      have hsb : ¬ s.Accepted = b := of_decide_eq_false ((eqv_Ballot s.Accepted b).symm.trans qb)
      rw [if_neg hsb] at hcs his
      repeat' ((conv => whnf); first | refine DrawN.q (by kernel_rfl) ?_ | with_reducible refine CondK.tt ?_ | with_reducible refine CondK.ff ?_ | refine IdxK.mk _ rfl (by omega) (by omega) ?_ | refine LdK.mk _ (by assumption) ?_ | refine CallK.mk _ f1 ?_ | rw [qb] | fail)
      exact ⟨⟨(j + 1, ws, cp, inc), hjl, by rw [hcs]; exact hws, hcp, by rw [his]; exact hinc⟩, 1, ⟨⟨rfl, rfl, rfl, rfl, rfl, rfl, rfl, look_int (i64_succ (by omega)), trivial⟩, ⟨rfl, rfl, rfl, trivial⟩, rfl, rfl⟩, rfl, by simp; omega⟩
  have he : j = l.length := by
    have : ¬ j < l.length := by simpa using h4
    omega
  subst he
  have hws' : ws.length = cntTo e b l := by
    have := hws
    rwa [List.take_length] at this
  have hinc' : inc = incTo e b l := by
    have := hinc
    rwa [List.take_length] at this
  subst hinc'
  (conv => whnf)
  refine PubK.mk fun aw N2 hl2 hc2 => ?_
  (conv => whnf)
  refine CallK.mk _ (l21Most_a N2 (l.length : Int) ws (some aw) cp) ?_
  have hmm : mostF (l.length : Int) ws = mostC l.length (cntTo e b l) := by unfold mostF mostC; rw [hws']
  rw [hmm]
  cases hmc : mostC l.length (cntTo e b l) with
  | true =>
    rw [hmc, if_pos rfl] at hst
    have ho := hrow.all
    repeat' ((conv => whnf); first | with_reducible refine CondK.tt ?_ | with_reducible refine CondK.ff ?_ | refine AppK.mk (by show (2 * _ + 512) * 32 ≤ 281474976710656; omega) (by omega) (.inr rfl) (by first | exact ho | rfl) (fun cap3 hcap3 => ?_) | fail)
    refine ⟨⟨(i + 1, out ++ [incTo e b l], cap3, ds ++ [.int .i64 (incTo e b l).Epoch, .int .i64 (incTo e b l).Kind, .int .i64 (incTo e b l).A, .int .i64 (incTo e b l).B], N2), hil, hst.symm, ?_, hrow.app (RowR.one (x := incTo e b l) ⟨rfl, trivial⟩ rfl rfl), hN.trans hl2⟩, 4, ⟨⟨rfl, rfl, congrArg (fun t => some (PV.s 4 t cap3 4)) ?_, rfl, look_int (i64_succ (by omega)), trivial⟩, ⟨rfl, trivial⟩, rfl, rfl⟩, rfl, by simp; omega⟩
    · show (out ++ [incTo e b l]).length ≤ cap3
      rw [List.length_append]
      exact hcap3
    · rw [List.length_append]
      rfl
  | false =>
    rw [hmc, if_neg (by decide), List.append_nil] at hst
    repeat' ((conv => whnf); first | with_reducible refine CondK.tt ?_ | with_reducible refine CondK.ff ?_ | fail)
    exact ⟨⟨(i + 1, out, cap, ds, N2), hil, hst.symm, hcap, hrow, hN.trans hl2⟩, 0, ⟨⟨rfl, rfl, rfl, rfl, look_int (i64_succ (by omega)), trivial⟩, ⟨rfl, trivial⟩, rfl, rfl⟩, rfl, by simp; omega⟩
end Go.Proofs.Ytmmgknhefobloaa.Hlp
