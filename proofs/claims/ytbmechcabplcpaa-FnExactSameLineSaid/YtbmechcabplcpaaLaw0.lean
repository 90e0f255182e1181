/- The law FnExactSameLine by the light walk: it answers true. -/
import Derived.Test.YtbmechcabplcpaaSame
namespace Go.Proofs.Ytbmechcabplcpaa.Hlp
open Go Go.RowKit Go.Proofs Go.Proofs.Ytbmechcabplcpaa.Lw
set_option linter.unusedVariables false
set_option linter.unusedSimpArgs false
set_option maxRecDepth 100000
set_option maxHeartbeats 4000000
theorem law_a (M : Mem) (x y : GLine) (cs ds : List Value) (h0 : RLine M x cs) (h1 : RLine M y ds) : AnsR Try.prog M 5 #[.agg cs.toArray, .agg ds.toArray] (fun _ v => v = .bool true) := by
  have h0' := h0
  have h1' := h1
  obtain ⟨A0, c0, A1, c1, A2, c2, A3, c3, A4, c4, A5, c5, A6, c6, A7, c7, rfl, _⟩ := h0'
  obtain ⟨B0, d0, B1, d1, B2, d2, B3, d3, B4, d4, B5, d5, B6, d6, B7, d7, rfl, _⟩ := h1'
  refine ansR_of T (l := [.agg #[.int .i64 x.Epoch, .int .i64 x.Code.K, .int .i64 x.Code.M, .slice A0 x.Acting.length c0, .int .i64 x.State.Pg.Pool, .int .i64 x.State.Pg.No, .int .i64 x.State.Seen, .int .i64 x.State.Started, .int .i64 x.State.Tail.Epoch, .int .i64 x.State.Tail.Seq, .slice A1 x.State.Base.length c1, .slice A2 x.State.Clients.length c2, .slice A3 x.State.Log.length c3, .int .i64 x.State.Firm.Epoch, .int .i64 x.State.Firm.Seq, .slice A4 x.State.Chunks.length c4, .slice A5 x.Way.length c5, .slice A6 x.Acks.length c6, .slice A7 x.Waits.length c7], .agg #[.int .i64 y.Epoch, .int .i64 y.Code.K, .int .i64 y.Code.M, .slice B0 y.Acting.length d0, .int .i64 y.State.Pg.Pool, .int .i64 y.State.Pg.No, .int .i64 y.State.Seen, .int .i64 y.State.Started, .int .i64 y.State.Tail.Epoch, .int .i64 y.State.Tail.Seq, .slice B1 y.State.Base.length d1, .slice B2 y.State.Clients.length d2, .slice B3 y.State.Log.length d3, .int .i64 y.State.Firm.Epoch, .int .i64 y.State.Firm.Seq, .slice B4 y.State.Chunks.length d4, .slice B5 y.Way.length d5, .slice B6 y.Acks.length d6, .slice B7 y.Waits.length d7]]) mixed Try.func5 rfl (by kernel_rfl) (Nat.le_of_ble_eq_true rfl) ?_
  (conv => whnf)
  refine CallK.mk _ (szLine_a M x _ _ h0) ?_
  (conv => whnf)
  refine CondK.mk (fun hc => ?_) (fun hc => ?_)
  · exact RetK.mk fun _ _ _ _ => rfl
  have hc0 : 0 ≤ szLine x 1048576 := by simpa using hc
  have hs0 := (szLine_ok h0 (left := 1048576) (by decide) (by decide) hc0).1
  have hc1 := (szLine_ok h0 (left := 1048576) (by decide) (by decide) hc0).2
  clear hc
  (conv => whnf)
  refine CallK.mk _ (szLine_a M y _ _ h1) ?_
  (conv => whnf)
  refine CondK.mk (fun hc => ?_) (fun hc => ?_)
  · exact RetK.mk fun _ _ _ _ => rfl
  have hs1 := (szLine_ok h1 (left := szLine x 1048576) hc0 hc1 (by simpa using hc)).1
  clear hc
  have hle : Le M M := Le.refl M
  have hz : Le M M := Le.refl M
  (conv => whnf)
  refine DrawN.a {N : Mem // Le M N} (fun _ => [(2, .p 0 0), (3, .p 1 0), (6, .v (.bool (decide (x = y))))]) (fun _ => [(1, [.int .i64 y.Epoch, .int .i64 y.Code.K, .int .i64 y.Code.M, .slice B0 y.Acting.length d0, .int .i64 y.State.Pg.Pool, .int .i64 y.State.Pg.No, .int .i64 y.State.Seen, .int .i64 y.State.Started, .int .i64 y.State.Tail.Epoch, .int .i64 y.State.Tail.Seq, .slice B1 y.State.Base.length d1, .slice B2 y.State.Clients.length d2, .slice B3 y.State.Log.length d3, .int .i64 y.State.Firm.Epoch, .int .i64 y.State.Firm.Seq, .slice B4 y.State.Chunks.length d4, .slice B5 y.Way.length d5, .slice B6 y.Acks.length d6, .slice B7 y.Waits.length d7]), (0, [.int .i64 x.Epoch, .int .i64 x.Code.K, .int .i64 x.Code.M, .slice A0 x.Acting.length c0, .int .i64 x.State.Pg.Pool, .int .i64 x.State.Pg.No, .int .i64 x.State.Seen, .int .i64 x.State.Started, .int .i64 x.State.Tail.Epoch, .int .i64 x.State.Tail.Seq, .slice A1 x.State.Base.length c1, .slice A2 x.State.Clients.length c2, .slice A3 x.State.Log.length c3, .int .i64 x.State.Firm.Epoch, .int .i64 x.State.Firm.Seq, .slice A4 x.State.Chunks.length c4, .slice A5 x.Way.length c5, .slice A6 x.Acks.length c6, .slice A7 x.Waits.length c7])]) 2 (fun N => N.1) ?_ ?_
  · repeat' ((conv => whnf); first | refine AndK.mk ?_ ?_ | (refine CallK.mr _ (toLine_a _ x _ (RLine.mono hle _ _ h0) hs0) (fun v M' hl hv => ?_); replace hle := hle.trans hl; replace hz := hz.trans hl; (try replace r1 := RLine.mono hl _ _ r1); obtain ⟨cs', rfl, r0⟩ := hv; have r' := r0; obtain ⟨E0, e0, E1, e1, E2, e2, E3, e3, E4, e4, E5, e5, E6, e6, E7, e7, rfl, _⟩ := r'; clear hl) | (refine CallK.mr _ (toLine_a _ y _ (RLine.mono hle _ _ h1) hs1) (fun v M' hl hv => ?_); replace hle := hle.trans hl; replace hz := hz.trans hl; (try replace r0 := RLine.mono hl _ _ r0); obtain ⟨cs', rfl, r1⟩ := hv; have r' := r1; obtain ⟨F0, f0, F1, f1, F2, f2, F3, f3, F4, f4, F5, f5, F6, f6, F7, f7, rfl, _⟩ := r'; clear hl) | refine CallK.mk _ (specSameLine_a _ x y _ _ r0 r1) ?_ | fail)
    all_goals exact ⟨⟨_, hz⟩, ⟨⟨rfl, rfl, rfl, trivial⟩, ⟨rfl, rfl, trivial⟩, rfl, rfl⟩, rfl⟩
  rintro ⟨N0, hN0⟩
  clear hle hz
  have hle := hN0
  have hz := Le.refl N0

  repeat' ((conv => whnf); first | with_reducible refine CondK.tt ?_ | with_reducible refine CondK.ff ?_ | with_reducible refine CondK.not ?_ | (refine CallK.mr _ (toLine_a _ x _ (RLine.mono hle _ _ h0) hs0) (fun v M' hl hv => ?_); replace hle := hle.trans hl; replace hz := hz.trans hl; (try replace r3 := RLine.mono hl _ _ r3); obtain ⟨cs', rfl, r2⟩ := hv; have r' := r2; obtain ⟨G0, g0, G1, g1, G2, g2, G3, g3, G4, g4, G5, g5, G6, g6, G7, g7, rfl, _⟩ := r'; clear hl) | (refine CallK.mr _ (toLine_a _ y _ (RLine.mono hle _ _ h1) hs1) (fun v M' hl hv => ?_); replace hle := hle.trans hl; replace hz := hz.trans hl; (try replace r2 := RLine.mono hl _ _ r2); obtain ⟨cs', rfl, r3⟩ := hv; have r' := r3; obtain ⟨I0, i0, I1, i1, I2, i2, I3, i3, I4, i4, I5, i5, I6, i6, I7, i7, rfl, _⟩ := r'; clear hl) | refine CallK.mk _ (SameLine_a _ x y _ _ r2 r3) ?_ | (refine CondK.no' ?_ ?_; focus (simp; done)) | (refine CondK.yes' ?_ ?_; focus (simp; done)) | fail)
  have hw := Le.refl (memL hz)
  refine DrawN.a {N : Mem // Le (memL hz) N} (fun _ => [(2, .p 0 0), (3, .p 1 0), (7, .p 2 0), (8, .p 3 0), (39, .v (.bool false))]) (fun _ => [(3, [.int .i64 y.Epoch, .int .i64 y.Code.K, .int .i64 y.Code.M, .slice I0 y.Acting.length i0, .int .i64 y.State.Pg.Pool, .int .i64 y.State.Pg.No, .int .i64 y.State.Seen, .int .i64 y.State.Started, .int .i64 y.State.Tail.Epoch, .int .i64 y.State.Tail.Seq, .slice I1 y.State.Base.length i1, .slice I2 y.State.Clients.length i2, .slice I3 y.State.Log.length i3, .int .i64 y.State.Firm.Epoch, .int .i64 y.State.Firm.Seq, .slice I4 y.State.Chunks.length i4, .slice I5 y.Way.length i5, .slice I6 y.Acks.length i6, .slice I7 y.Waits.length i7]), (2, [.int .i64 x.Epoch, .int .i64 x.Code.K, .int .i64 x.Code.M, .slice G0 x.Acting.length g0, .int .i64 x.State.Pg.Pool, .int .i64 x.State.Pg.No, .int .i64 x.State.Seen, .int .i64 x.State.Started, .int .i64 x.State.Tail.Epoch, .int .i64 x.State.Tail.Seq, .slice G1 x.State.Base.length g1, .slice G2 x.State.Clients.length g2, .slice G3 x.State.Log.length g3, .int .i64 x.State.Firm.Epoch, .int .i64 x.State.Firm.Seq, .slice G4 x.State.Chunks.length g4, .slice G5 x.Way.length g5, .slice G6 x.Acks.length g6, .slice G7 x.Waits.length g7]), (1, [.int .i64 y.Epoch, .int .i64 y.Code.K, .int .i64 y.Code.M, .slice B0 y.Acting.length d0, .int .i64 y.State.Pg.Pool, .int .i64 y.State.Pg.No, .int .i64 y.State.Seen, .int .i64 y.State.Started, .int .i64 y.State.Tail.Epoch, .int .i64 y.State.Tail.Seq, .slice B1 y.State.Base.length d1, .slice B2 y.State.Clients.length d2, .slice B3 y.State.Log.length d3, .int .i64 y.State.Firm.Epoch, .int .i64 y.State.Firm.Seq, .slice B4 y.State.Chunks.length d4, .slice B5 y.Way.length d5, .slice B6 y.Acks.length d6, .slice B7 y.Waits.length d7]), (0, [.int .i64 x.Epoch, .int .i64 x.Code.K, .int .i64 x.Code.M, .slice A0 x.Acting.length c0, .int .i64 x.State.Pg.Pool, .int .i64 x.State.Pg.No, .int .i64 x.State.Seen, .int .i64 x.State.Started, .int .i64 x.State.Tail.Epoch, .int .i64 x.State.Tail.Seq, .slice A1 x.State.Base.length c1, .slice A2 x.State.Clients.length c2, .slice A3 x.State.Log.length c3, .int .i64 x.State.Firm.Epoch, .int .i64 x.State.Firm.Seq, .slice A4 x.State.Chunks.length c4, .slice A5 x.Way.length c5, .slice A6 x.Acks.length c6, .slice A7 x.Waits.length c7])]) 4 (fun N => N.1) ?_ ?_
  · have hz := hw
    repeat' ((conv => whnf); first | refine AndK.mk ?_ ?_ | (refine CallK.mr _ (toLine_a _ x _ (RLine.mono hle _ _ h0) hs0) (fun v M' hl hv => ?_); replace hle := hle.trans hl; replace hz := hz.trans hl; (try replace r2 := RLine.mono hl _ _ r2); (try replace r3 := RLine.mono hl _ _ r3); obtain ⟨cs', rfl, r4⟩ := hv; have r' := r4; obtain ⟨K0, k0, K1, k1, K2, k2, K3, k3, K4, k4, K5, k5, K6, k6, K7, k7, rfl, _⟩ := r'; clear hl) | refine CallK.mk _ (eqLine_a _ x _ _ r2 r4) ?_ | fail)
    all_goals exact ⟨⟨_, hz⟩, ⟨⟨rfl, rfl, rfl, rfl, rfl,  trivial⟩, ⟨rfl, rfl, rfl, rfl,  trivial⟩, rfl, rfl⟩, rfl⟩
  rintro ⟨N1, hN1⟩
  replace hle := hle.trans hN1
  replace r2 := RLine.mono hN1 _ _ r2
  replace r3 := RLine.mono hN1 _ _ r3
  clear hw
  have hz := Le.refl N1
  repeat' ((conv => whnf); first | with_reducible refine CondK.tt ?_ | with_reducible refine CondK.ff ?_ | with_reducible refine CondK.not ?_ | (refine CondK.no' ?_ ?_; focus (simp; done)) | (refine CondK.yes' ?_ ?_; focus (simp; done)) | fail)
  have hw := Le.refl (memL hz)
  refine DrawN.a {N : Mem // Le (memL hz) N} (fun _ => [(2, .p 0 0), (3, .p 1 0), (7, .p 2 0), (8, .p 3 0), (44, .v (.bool false))]) (fun _ => [(3, [.int .i64 y.Epoch, .int .i64 y.Code.K, .int .i64 y.Code.M, .slice I0 y.Acting.length i0, .int .i64 y.State.Pg.Pool, .int .i64 y.State.Pg.No, .int .i64 y.State.Seen, .int .i64 y.State.Started, .int .i64 y.State.Tail.Epoch, .int .i64 y.State.Tail.Seq, .slice I1 y.State.Base.length i1, .slice I2 y.State.Clients.length i2, .slice I3 y.State.Log.length i3, .int .i64 y.State.Firm.Epoch, .int .i64 y.State.Firm.Seq, .slice I4 y.State.Chunks.length i4, .slice I5 y.Way.length i5, .slice I6 y.Acks.length i6, .slice I7 y.Waits.length i7]), (2, [.int .i64 x.Epoch, .int .i64 x.Code.K, .int .i64 x.Code.M, .slice G0 x.Acting.length g0, .int .i64 x.State.Pg.Pool, .int .i64 x.State.Pg.No, .int .i64 x.State.Seen, .int .i64 x.State.Started, .int .i64 x.State.Tail.Epoch, .int .i64 x.State.Tail.Seq, .slice G1 x.State.Base.length g1, .slice G2 x.State.Clients.length g2, .slice G3 x.State.Log.length g3, .int .i64 x.State.Firm.Epoch, .int .i64 x.State.Firm.Seq, .slice G4 x.State.Chunks.length g4, .slice G5 x.Way.length g5, .slice G6 x.Acks.length g6, .slice G7 x.Waits.length g7]), (1, [.int .i64 y.Epoch, .int .i64 y.Code.K, .int .i64 y.Code.M, .slice B0 y.Acting.length d0, .int .i64 y.State.Pg.Pool, .int .i64 y.State.Pg.No, .int .i64 y.State.Seen, .int .i64 y.State.Started, .int .i64 y.State.Tail.Epoch, .int .i64 y.State.Tail.Seq, .slice B1 y.State.Base.length d1, .slice B2 y.State.Clients.length d2, .slice B3 y.State.Log.length d3, .int .i64 y.State.Firm.Epoch, .int .i64 y.State.Firm.Seq, .slice B4 y.State.Chunks.length d4, .slice B5 y.Way.length d5, .slice B6 y.Acks.length d6, .slice B7 y.Waits.length d7]), (0, [.int .i64 x.Epoch, .int .i64 x.Code.K, .int .i64 x.Code.M, .slice A0 x.Acting.length c0, .int .i64 x.State.Pg.Pool, .int .i64 x.State.Pg.No, .int .i64 x.State.Seen, .int .i64 x.State.Started, .int .i64 x.State.Tail.Epoch, .int .i64 x.State.Tail.Seq, .slice A1 x.State.Base.length c1, .slice A2 x.State.Clients.length c2, .slice A3 x.State.Log.length c3, .int .i64 x.State.Firm.Epoch, .int .i64 x.State.Firm.Seq, .slice A4 x.State.Chunks.length c4, .slice A5 x.Way.length c5, .slice A6 x.Acks.length c6, .slice A7 x.Waits.length c7])]) 4 (fun N => N.1) ?_ ?_
  · have hz := hw
    repeat' ((conv => whnf); first | refine AndK.mk ?_ ?_ | (refine CallK.mr _ (toLine_a _ y _ (RLine.mono hle _ _ h1) hs1) (fun v M' hl hv => ?_); replace hle := hle.trans hl; replace hz := hz.trans hl; (try replace r2 := RLine.mono hl _ _ r2); (try replace r3 := RLine.mono hl _ _ r3); obtain ⟨cs', rfl, r5⟩ := hv; have r' := r5; obtain ⟨K0, k0, K1, k1, K2, k2, K3, k3, K4, k4, K5, k5, K6, k6, K7, k7, rfl, _⟩ := r'; clear hl) | refine CallK.mk _ (eqLine_a _ y _ _ r3 r5) ?_ | fail)
    all_goals exact ⟨⟨_, hz⟩, ⟨⟨rfl, rfl, rfl, rfl, rfl,  trivial⟩, ⟨rfl, rfl, rfl, rfl,  trivial⟩, rfl, rfl⟩, rfl⟩
  rintro ⟨N1, hN1⟩
  replace hle := hle.trans hN1
  replace r2 := RLine.mono hN1 _ _ r2
  replace r3 := RLine.mono hN1 _ _ r3
  clear hw
  have hz := Le.refl N1
  repeat' ((conv => whnf); first | with_reducible refine CondK.tt ?_ | with_reducible refine CondK.ff ?_ | with_reducible refine CondK.not ?_ | (refine CondK.no' ?_ ?_; focus (simp; done)) | (refine CondK.yes' ?_ ?_; focus (simp; done)) | exact RetK.mk fun _ _ _ _ => rfl | fail)
end Go.Proofs.Ytbmechcabplcpaa.Hlp