/- The law FnExactSameLead by the light walk: it answers true. -/
import Derived.Test.YtmdbeooianiojaaGreatSame
namespace Go.Proofs.YtmdbeooianiojaaGreat.Hlp
open Go Go.RowKit Go.Proofs Go.Proofs.YtmdbeooianiojaaGreat.Lw
set_option linter.unusedVariables false
set_option linter.unusedSimpArgs false
set_option maxRecDepth 100000
set_option maxHeartbeats 4000000
theorem lawSameLead_a (M : Mem) (x y : GLead) (cs ds : List Value) (h0 : RLead M x cs) (h1 : RLead M y ds) : AnsR Tryz.prog M 3 #[.agg cs.toArray, .agg ds.toArray] (fun _ v => v = .bool true) := by
  have h0' := h0
  have h1' := h1
  obtain ⟨A0, c0, A1, c1, A2, c2, A3, c3, A4, c4, A5, c5, A6, c6, A7, c7, A8, c8, A9, c9, A10, c10, A11, c11, A12, c12, A13, c13, A14, c14, A15, c15, A16, c16, A17, c17, rfl, _⟩ := h0'
  obtain ⟨B0, d0, B1, d1, B2, d2, B3, d3, B4, d4, B5, d5, B6, d6, B7, d7, B8, d8, B9, d9, B10, d10, B11, d11, B12, d12, B13, d13, B14, d14, B15, d15, B16, d16, B17, d17, rfl, _⟩ := h1'
  refine ansR_of T (l := [.agg (List.toArray _), .agg (List.toArray _)]) mixed Tryz.func3 rfl (by kernel_rfl) (Nat.le_of_ble_eq_true rfl) ?_
  (conv => whnf)
  refine CallK.mk _ (szLead_a M x _ _ h0) ?_
  (conv => whnf)
  refine CondK.mk (fun hc => ?_) (fun hc => ?_)
  · exact RetK.mk fun _ _ _ _ => rfl
  have hc0 : 0 ≤ szLead x 1048576 := by simpa using hc
  have hs0 := (szLead_ok h0 (left := 1048576) (by decide) (by decide) hc0).1
  have hc1 := (szLead_ok h0 (left := 1048576) (by decide) (by decide) hc0).2
  clear hc
  (conv => whnf)
  refine CallK.mk _ (szLead_a M y _ _ h1) ?_
  (conv => whnf)
  refine CondK.mk (fun hc => ?_) (fun hc => ?_)
  · exact RetK.mk fun _ _ _ _ => rfl
  have hs1 := (szLead_ok h1 (left := szLead x 1048576) hc0 hc1 (by simpa using hc)).1
  clear hc
  (conv => whnf)
  have hz := Le.refl M
  refine DrawN.h {N : Mem // Le M N} (fun _ => [(2, .p 0 0), (3, .p 1 0), (6, .v (.bool (decide (x = y))))]) (fun _ => [(1, [.int .i64 y.Pg.Pool, .int .i64 y.Pg.No, .int .i64 y.Epoch, .int .i64 y.Phase, .int .i64 y.Code.K, .int .i64 y.Code.M, .slice B0 y.Acting.length d0, .slice B1 y.Ivs.length d1, .slice B2 y.Heard.length d2, .int .i64 y.Pick.Pg.Pool, .int .i64 y.Pick.Pg.No, .int .i64 y.Pick.Seen, .int .i64 y.Pick.Started, .int .i64 y.Pick.Tail.Epoch, .int .i64 y.Pick.Tail.Seq, .slice B3 y.Pick.Base.length d3, .slice B4 y.Pick.Clients.length d4, .slice B5 y.Pick.Log.length d5, .int .i64 y.Pick.Firm.Epoch, .int .i64 y.Pick.Firm.Seq, .slice B6 y.Pick.Chunks.length d6, .slice B7 y.Fills.length d7, .slice B8 y.Have.length d8, .slice B9 y.Ready.length d9, .int .i64 y.Line.Epoch, .int .i64 y.Line.Code.K, .int .i64 y.Line.Code.M, .slice B10 y.Line.Acting.length d10, .int .i64 y.Line.State.Pg.Pool, .int .i64 y.Line.State.Pg.No, .int .i64 y.Line.State.Seen, .int .i64 y.Line.State.Started, .int .i64 y.Line.State.Tail.Epoch, .int .i64 y.Line.State.Tail.Seq, .slice B11 y.Line.State.Base.length d11, .slice B12 y.Line.State.Clients.length d12, .slice B13 y.Line.State.Log.length d13, .int .i64 y.Line.State.Firm.Epoch, .int .i64 y.Line.State.Firm.Seq, .slice B14 y.Line.State.Chunks.length d14, .slice B15 y.Line.Way.length d15, .slice B16 y.Line.Acks.length d16, .slice B17 y.Line.Waits.length d17]), (0, [.int .i64 x.Pg.Pool, .int .i64 x.Pg.No, .int .i64 x.Epoch, .int .i64 x.Phase, .int .i64 x.Code.K, .int .i64 x.Code.M, .slice A0 x.Acting.length c0, .slice A1 x.Ivs.length c1, .slice A2 x.Heard.length c2, .int .i64 x.Pick.Pg.Pool, .int .i64 x.Pick.Pg.No, .int .i64 x.Pick.Seen, .int .i64 x.Pick.Started, .int .i64 x.Pick.Tail.Epoch, .int .i64 x.Pick.Tail.Seq, .slice A3 x.Pick.Base.length c3, .slice A4 x.Pick.Clients.length c4, .slice A5 x.Pick.Log.length c5, .int .i64 x.Pick.Firm.Epoch, .int .i64 x.Pick.Firm.Seq, .slice A6 x.Pick.Chunks.length c6, .slice A7 x.Fills.length c7, .slice A8 x.Have.length c8, .slice A9 x.Ready.length c9, .int .i64 x.Line.Epoch, .int .i64 x.Line.Code.K, .int .i64 x.Line.Code.M, .slice A10 x.Line.Acting.length c10, .int .i64 x.Line.State.Pg.Pool, .int .i64 x.Line.State.Pg.No, .int .i64 x.Line.State.Seen, .int .i64 x.Line.State.Started, .int .i64 x.Line.State.Tail.Epoch, .int .i64 x.Line.State.Tail.Seq, .slice A11 x.Line.State.Base.length c11, .slice A12 x.Line.State.Clients.length c12, .slice A13 x.Line.State.Log.length c13, .int .i64 x.Line.State.Firm.Epoch, .int .i64 x.Line.State.Firm.Seq, .slice A14 x.Line.State.Chunks.length c14, .slice A15 x.Line.Way.length c15, .slice A16 x.Line.Acks.length c16, .slice A17 x.Line.Waits.length c17])]) 2 (fun N => N.1) (by kernel_rfl) ?_ ?_
  · repeat' ((conv => whnf); first | refine AndK.mk ?_ ?_ | refine HeldK.mk (by kernel_rfl) ?_ | (refine CallK.mr _ (toLead_a _ x _ (RLead.mono hz _ _ h0) hs0) (fun v M3 hl3 hv => ?_); replace hz := hz.trans hl3; obtain ⟨cs3, rfl, r2⟩ := hv) | (refine CallK.mr _ (toLead_a _ y _ (RLead.mono hz _ _ h1) hs1) (fun v M3 hl3 hv => ?_); replace hz := hz.trans hl3; replace r2 := RLead.mono hl3 _ _ r2; obtain ⟨cs4, rfl, r3⟩ := hv) | refine CallK.mk _ (specSameLead_a _ x y _ _ r2 r3) ?_ | fail)
    all_goals exact ⟨⟨_, hz⟩, ⟨⟨rfl, rfl, rfl, trivial⟩, ⟨rfl, rfl, trivial⟩, rfl, rfl⟩, rfl⟩
  clear hz
  rintro ⟨M1, hl1⟩
  replace h0 := RLead.mono hl1 _ _ h0
  replace h1 := RLead.mono hl1 _ _ h1
  (conv => whnf)
  refine CallK.mr _ (toLead_a _ x _ h0 hs0) (fun v M2 hl2 hv => ?_)
  obtain ⟨cs2, rfl, r2⟩ := hv
  replace h0 := RLead.mono hl2 _ _ h0
  replace h1 := RLead.mono hl2 _ _ h1
  have r2' := r2
  obtain ⟨G0, g0, G1, g1, G2, g2, G3, g3, G4, g4, G5, g5, G6, g6, G7, g7, G8, g8, G9, g9, G10, g10, G11, g11, G12, g12, G13, g13, G14, g14, G15, g15, G16, g16, G17, g17, rfl, _⟩ := r2'
  (conv => whnf)
  refine CallK.mr _ (toLead_a _ y _ h1 hs1) (fun v M3 hl3 hv => ?_)
  obtain ⟨cs3, rfl, r3⟩ := hv
  replace h0 := RLead.mono hl3 _ _ h0
  replace h1 := RLead.mono hl3 _ _ h1
  replace r2 := RLead.mono hl3 _ _ r2
  have r3' := r3
  obtain ⟨I0, i0, I1, i1, I2, i2, I3, i3, I4, i4, I5, i5, I6, i6, I7, i7, I8, i8, I9, i9, I10, i10, I11, i11, I12, i12, I13, i13, I14, i14, I15, i15, I16, i16, I17, i17, rfl, _⟩ := r3'
  (conv => whnf)
  refine CallK.mk _ (SameLead_a _ x y _ _ r2 r3) ?_
  (conv => whnf)
  refine CondK.no' (by simp) ?_
  (conv => whnf)
  have hz := Le.refl M3
  refine DrawN.h {N : Mem // Le M3 N} (fun _ => [(2, .p 0 0), (3, .p 1 0), (7, .p 2 0), (8, .p 3 0), (39, .v (.bool false))]) (fun _ => [(3, [.int .i64 y.Pg.Pool, .int .i64 y.Pg.No, .int .i64 y.Epoch, .int .i64 y.Phase, .int .i64 y.Code.K, .int .i64 y.Code.M, .slice I0 y.Acting.length i0, .slice I1 y.Ivs.length i1, .slice I2 y.Heard.length i2, .int .i64 y.Pick.Pg.Pool, .int .i64 y.Pick.Pg.No, .int .i64 y.Pick.Seen, .int .i64 y.Pick.Started, .int .i64 y.Pick.Tail.Epoch, .int .i64 y.Pick.Tail.Seq, .slice I3 y.Pick.Base.length i3, .slice I4 y.Pick.Clients.length i4, .slice I5 y.Pick.Log.length i5, .int .i64 y.Pick.Firm.Epoch, .int .i64 y.Pick.Firm.Seq, .slice I6 y.Pick.Chunks.length i6, .slice I7 y.Fills.length i7, .slice I8 y.Have.length i8, .slice I9 y.Ready.length i9, .int .i64 y.Line.Epoch, .int .i64 y.Line.Code.K, .int .i64 y.Line.Code.M, .slice I10 y.Line.Acting.length i10, .int .i64 y.Line.State.Pg.Pool, .int .i64 y.Line.State.Pg.No, .int .i64 y.Line.State.Seen, .int .i64 y.Line.State.Started, .int .i64 y.Line.State.Tail.Epoch, .int .i64 y.Line.State.Tail.Seq, .slice I11 y.Line.State.Base.length i11, .slice I12 y.Line.State.Clients.length i12, .slice I13 y.Line.State.Log.length i13, .int .i64 y.Line.State.Firm.Epoch, .int .i64 y.Line.State.Firm.Seq, .slice I14 y.Line.State.Chunks.length i14, .slice I15 y.Line.Way.length i15, .slice I16 y.Line.Acks.length i16, .slice I17 y.Line.Waits.length i17]), (2, [.int .i64 x.Pg.Pool, .int .i64 x.Pg.No, .int .i64 x.Epoch, .int .i64 x.Phase, .int .i64 x.Code.K, .int .i64 x.Code.M, .slice G0 x.Acting.length g0, .slice G1 x.Ivs.length g1, .slice G2 x.Heard.length g2, .int .i64 x.Pick.Pg.Pool, .int .i64 x.Pick.Pg.No, .int .i64 x.Pick.Seen, .int .i64 x.Pick.Started, .int .i64 x.Pick.Tail.Epoch, .int .i64 x.Pick.Tail.Seq, .slice G3 x.Pick.Base.length g3, .slice G4 x.Pick.Clients.length g4, .slice G5 x.Pick.Log.length g5, .int .i64 x.Pick.Firm.Epoch, .int .i64 x.Pick.Firm.Seq, .slice G6 x.Pick.Chunks.length g6, .slice G7 x.Fills.length g7, .slice G8 x.Have.length g8, .slice G9 x.Ready.length g9, .int .i64 x.Line.Epoch, .int .i64 x.Line.Code.K, .int .i64 x.Line.Code.M, .slice G10 x.Line.Acting.length g10, .int .i64 x.Line.State.Pg.Pool, .int .i64 x.Line.State.Pg.No, .int .i64 x.Line.State.Seen, .int .i64 x.Line.State.Started, .int .i64 x.Line.State.Tail.Epoch, .int .i64 x.Line.State.Tail.Seq, .slice G11 x.Line.State.Base.length g11, .slice G12 x.Line.State.Clients.length g12, .slice G13 x.Line.State.Log.length g13, .int .i64 x.Line.State.Firm.Epoch, .int .i64 x.Line.State.Firm.Seq, .slice G14 x.Line.State.Chunks.length g14, .slice G15 x.Line.Way.length g15, .slice G16 x.Line.Acks.length g16, .slice G17 x.Line.Waits.length g17]), (1, [.int .i64 y.Pg.Pool, .int .i64 y.Pg.No, .int .i64 y.Epoch, .int .i64 y.Phase, .int .i64 y.Code.K, .int .i64 y.Code.M, .slice B0 y.Acting.length d0, .slice B1 y.Ivs.length d1, .slice B2 y.Heard.length d2, .int .i64 y.Pick.Pg.Pool, .int .i64 y.Pick.Pg.No, .int .i64 y.Pick.Seen, .int .i64 y.Pick.Started, .int .i64 y.Pick.Tail.Epoch, .int .i64 y.Pick.Tail.Seq, .slice B3 y.Pick.Base.length d3, .slice B4 y.Pick.Clients.length d4, .slice B5 y.Pick.Log.length d5, .int .i64 y.Pick.Firm.Epoch, .int .i64 y.Pick.Firm.Seq, .slice B6 y.Pick.Chunks.length d6, .slice B7 y.Fills.length d7, .slice B8 y.Have.length d8, .slice B9 y.Ready.length d9, .int .i64 y.Line.Epoch, .int .i64 y.Line.Code.K, .int .i64 y.Line.Code.M, .slice B10 y.Line.Acting.length d10, .int .i64 y.Line.State.Pg.Pool, .int .i64 y.Line.State.Pg.No, .int .i64 y.Line.State.Seen, .int .i64 y.Line.State.Started, .int .i64 y.Line.State.Tail.Epoch, .int .i64 y.Line.State.Tail.Seq, .slice B11 y.Line.State.Base.length d11, .slice B12 y.Line.State.Clients.length d12, .slice B13 y.Line.State.Log.length d13, .int .i64 y.Line.State.Firm.Epoch, .int .i64 y.Line.State.Firm.Seq, .slice B14 y.Line.State.Chunks.length d14, .slice B15 y.Line.Way.length d15, .slice B16 y.Line.Acks.length d16, .slice B17 y.Line.Waits.length d17]), (0, [.int .i64 x.Pg.Pool, .int .i64 x.Pg.No, .int .i64 x.Epoch, .int .i64 x.Phase, .int .i64 x.Code.K, .int .i64 x.Code.M, .slice A0 x.Acting.length c0, .slice A1 x.Ivs.length c1, .slice A2 x.Heard.length c2, .int .i64 x.Pick.Pg.Pool, .int .i64 x.Pick.Pg.No, .int .i64 x.Pick.Seen, .int .i64 x.Pick.Started, .int .i64 x.Pick.Tail.Epoch, .int .i64 x.Pick.Tail.Seq, .slice A3 x.Pick.Base.length c3, .slice A4 x.Pick.Clients.length c4, .slice A5 x.Pick.Log.length c5, .int .i64 x.Pick.Firm.Epoch, .int .i64 x.Pick.Firm.Seq, .slice A6 x.Pick.Chunks.length c6, .slice A7 x.Fills.length c7, .slice A8 x.Have.length c8, .slice A9 x.Ready.length c9, .int .i64 x.Line.Epoch, .int .i64 x.Line.Code.K, .int .i64 x.Line.Code.M, .slice A10 x.Line.Acting.length c10, .int .i64 x.Line.State.Pg.Pool, .int .i64 x.Line.State.Pg.No, .int .i64 x.Line.State.Seen, .int .i64 x.Line.State.Started, .int .i64 x.Line.State.Tail.Epoch, .int .i64 x.Line.State.Tail.Seq, .slice A11 x.Line.State.Base.length c11, .slice A12 x.Line.State.Clients.length c12, .slice A13 x.Line.State.Log.length c13, .int .i64 x.Line.State.Firm.Epoch, .int .i64 x.Line.State.Firm.Seq, .slice A14 x.Line.State.Chunks.length c14, .slice A15 x.Line.Way.length c15, .slice A16 x.Line.Acks.length c16, .slice A17 x.Line.Waits.length c17])]) 4 (fun N => N.1) (by kernel_rfl) ?_ ?_
  · repeat' ((conv => whnf); first | refine AndK.mk ?_ ?_ | refine HeldK.mk (by kernel_rfl) ?_ | (refine CallK.mr _ (toLead_a _ x _ (RLead.mono hz _ _ h0) hs0) (fun v M4 hl4 hv => ?_); replace hz := hz.trans hl4; obtain ⟨cs5, rfl, r5⟩ := hv) | refine CallK.mk _ (eqLead_a _ x _ _ (RLead.mono hz _ _ r2) r5) ?_ | fail)
    all_goals exact ⟨⟨_, hz⟩, ⟨⟨rfl, rfl, rfl, rfl, rfl, trivial⟩, ⟨rfl, rfl, rfl, rfl, trivial⟩, rfl, rfl⟩, rfl⟩
  clear hz
  rintro ⟨M4, hl4⟩
  replace h1 := RLead.mono hl4 _ _ h1
  replace r3 := RLead.mono hl4 _ _ r3
  (conv => whnf)
  have hz := Le.refl M4
  refine DrawN.h {N : Mem // Le M4 N} (fun _ => [(44, .v (.bool false))]) (fun _ => []) 4 (fun N => N.1) (by kernel_rfl) ?_ ?_
  · repeat' ((conv => whnf); first | refine AndK.mk ?_ ?_ | refine HeldK.mk (by kernel_rfl) ?_ | (refine CallK.mr _ (toLead_a _ y _ (RLead.mono hz _ _ h1) hs1) (fun v M4 hl4 hv => ?_); replace hz := hz.trans hl4; obtain ⟨cs5, rfl, r5⟩ := hv) | refine CallK.mk _ (eqLead_a _ y _ _ (RLead.mono hz _ _ r3) r5) ?_ | fail)
    all_goals exact ⟨⟨_, hz⟩, ⟨⟨rfl, trivial⟩, trivial, rfl, rfl⟩, rfl⟩
  rintro ⟨M5, hl5⟩
  (conv => whnf)
  exact RetK.mk fun _ _ _ _ => rfl
end Go.Proofs.YtmdbeooianiojaaGreat.Hlp
