/- ClientsAt by the light walk: the law, with its marks. -/
import Derived.Test.YtcppfjdhppoenaaGreatFunHG
import Derived.Test.YtcppfjdhppoenaaGreatMk
namespace Go.Proofs.YtcppfjdhppoenaaGreat.Hlp
open Go Go.RowKit Go.Proofs Go.Proofs.YtcppfjdhppoenaaGreat.Lw
set_option linter.unusedVariables false
set_option linter.unusedSimpArgs false
set_option maxRecDepth 100000
set_option maxHeartbeats 4000000
theorem lawClientsAt_a (M : Mem) (x : GPgState) (v : GVer) (cs0 cs1 : List Value) (h0 : RPgState M x cs0) (k1 : RVer M v cs1) : AnsR Tryz.prog M 4 #[.agg cs0.toArray, .agg cs1.toArray] (fun _ v => v = .bool true) := by
  have h1 := h0
  obtain ⟨A0, c0, A1, c1, A2, c2, A3, c3, rfl, _⟩ := h1
  obtain ⟨rfl, _⟩ := k1
  refine ansR_of (T.at M) (l := [.agg (List.toArray _), .agg (List.toArray _)]) mixed Tryz.func4 rfl (by kernel_rfl) (Nat.le_of_ble_eq_true rfl) ?_ (fun _ ad u h1 h2 => by rw [show M ad = none from h1] at h2; cases h2)
  (conv => whnf)
  refine CallK.mk _ (szPgState_a M x _ _ h0) ?_
  (conv => whnf)
  refine CondK.mk (fun hc => ?_) (fun hc => ?_)
  · exact RetK.mk fun _ _ _ _ => rfl
  have hs0 := (szPgState_ok h0 (left := 1048576) (by decide) (by decide) (by simpa using hc)).1
  have hn := caF_len x v
  (conv => whnf)
  have hz := Le.refl M
  refine DrawN.h {q : Mem × Option Addr × Nat // Le M q.1 ∧ SlR q.1 RLast 4 32 q.2.1 q.2.2 (caF x v)} (fun ⟨(_, Aw, cw), _⟩ => [(2, .p 0 0), (3, .p 1 0), (6, .v (.slice Aw (caF x v).length cw)), (7, .v (.int .i64 (vcF x v)))]) (fun _ => [(1, [.int .i64 v.Epoch, .int .i64 v.Seq]), (0, [.int .i64 x.Pg.Pool, .int .i64 x.Pg.No, .int .i64 x.Seen, .int .i64 x.Started, .int .i64 x.Tail.Epoch, .int .i64 x.Tail.Seq, .slice A0 x.Base.length c0, .slice A1 x.Clients.length c1, .slice A2 x.Log.length c2, .int .i64 x.Firm.Epoch, .int .i64 x.Firm.Seq, .slice A3 x.Chunks.length c3])]) 2 (fun q => q.1.1) (by kernel_rfl) ?_ ?_
  · repeat' ((conv => whnf); first | refine AndK.mk ?_ ?_ | refine HeldK.mk (by kernel_rfl) ?_ | refine CallK.mk _ (toVer_a _ v) ?_ | refine CallQ.mk _ (toVer_a _ v) ?_ | (refine CallK.mr _ (toPgState_a _ x _ (RPgState.mono hz _ _ h0) hs0) (fun v M3 hl3 hv => ?_); replace hz := hz.trans hl3; obtain ⟨cs3, rfl, r2⟩ := hv) | (refine CallK.mr _ (sClientsAt_a _ x _ r2 v) (fun v M4 hl4 hv => ?_); obtain ⟨A4, c4, rfl, r4⟩ := hv; replace hz := hz.trans hl4) | fail)
    all_goals exact ⟨⟨(_, _, _), hz, r4⟩, ⟨⟨rfl, rfl, rfl, rfl, trivial⟩, ⟨rfl, rfl, trivial⟩, rfl, rfl⟩, rfl⟩
  clear hz
  rintro ⟨⟨M1, Aw, cw⟩, hl1, rw0⟩
  simp only at hl1 rw0
  (conv => whnf)
  refine CallK.mf _ (toPgState_f _ x _ (RPgState.mono hl1 _ _ h0) hs0) (fun u M2 hl2 fr2 hv => ?_)
  obtain ⟨cs2, rfl, r1⟩ := hv
  have r1' := r1
  obtain ⟨B0, d0, B1, d1, B2, d2, B3, d3, rfl, _⟩ := r1'
  (conv => whnf)
  have hz := Le.refl M2
  have fz := fr_refl M2
  refine DrawN.h {q : Mem × Option Addr × Nat // Le M2 q.1 ∧ Fr M2 q.1 ∧ SlR (sub q.1 M2) RLast 4 32 q.2.1 q.2.2 (caF x v)} (fun ⟨(_, Ag, cg), _⟩ => [(2, .p 0 0), (3, .p 1 0), (6, .v (.slice Aw (caF x v).length cw)), (7, .v (.int .i64 (vcF x v))), (8, .p 2 0), (9, .v (.slice Ag (caF x v).length cg)), (10, .v (.int .i64 (vcF x v)))]) (fun _ => [(2, [.int .i64 x.Pg.Pool, .int .i64 x.Pg.No, .int .i64 x.Seen, .int .i64 x.Started, .int .i64 x.Tail.Epoch, .int .i64 x.Tail.Seq, .slice B0 x.Base.length d0, .slice B1 x.Clients.length d1, .slice B2 x.Log.length d2, .int .i64 x.Firm.Epoch, .int .i64 x.Firm.Seq, .slice B3 x.Chunks.length d3]), (1, [.int .i64 v.Epoch, .int .i64 v.Seq]), (0, [.int .i64 x.Pg.Pool, .int .i64 x.Pg.No, .int .i64 x.Seen, .int .i64 x.Started, .int .i64 x.Tail.Epoch, .int .i64 x.Tail.Seq, .slice A0 x.Base.length c0, .slice A1 x.Clients.length c1, .slice A2 x.Log.length c2, .int .i64 x.Firm.Epoch, .int .i64 x.Firm.Seq, .slice A3 x.Chunks.length c3])]) 3 (fun q => q.1.1) (by kernel_rfl) ?_ ?_
  · repeat' ((conv => whnf); first | refine AndK.mk ?_ ?_ | refine HeldK.mk (by kernel_rfl) ?_ | refine CallK.mk _ (toVer_a _ v) ?_ | refine CallQ.mk _ (toVer_a _ v) ?_ | (refine CallK.mf _ (iClientsAt_f _ x _ (RPgState.mono (sub_le _ _) _ _ r1) v) (fun v M4 hl4 fr4 hv => ?_); obtain ⟨A4, c4, rfl, r4⟩ := hv; replace hz := hl4; replace fz := fr4) | fail)
    all_goals exact ⟨⟨(_, _, _), hz, fz, r4⟩, ⟨⟨rfl, rfl, rfl, rfl, rfl, rfl, rfl, trivial⟩, ⟨rfl, rfl, rfl, trivial⟩, rfl, rfl⟩, rfl⟩
  clear hz fz
  rintro ⟨⟨M3, Ag, cg⟩, hl3, fr3, rg⟩
  simp only at hl3 fr3 rg
  (conv => whnf)
  refine CallK.mk _ (eqLastS_a _ (caF x v) _ _ _ _ (rg.mono (sub_le _ _) (fun _ _ h => h)) (rw0.mono (hl2.trans hl3) (fun _ _ h => h))) ?_
  (conv => whnf)
  refine CondK.no' (by simp) ?_
  (conv => whnf)
  have hz := Le.refl M3
  have fz := fr_refl M3
  have hy3 := RPgState.mono (hl1.trans (hl2.trans hl3)) _ _ h0
  have rx3 := RPgState.mono ((sub_le M2 M1).trans hl3) _ _ r1
  refine DrawN.h {N : Mem // Le M3 N ∧ Fr M3 N} (fun _ => [(2, .p 0 0), (3, .p 1 0), (6, .v (.slice Aw (caF x v).length cw)), (7, .v (.int .i64 (vcF x v))), (8, .p 2 0), (9, .v (.slice Ag (caF x v).length cg)), (10, .v (.int .i64 (vcF x v))), (51, .v (.bool false))]) (fun _ => [(2, [.int .i64 x.Pg.Pool, .int .i64 x.Pg.No, .int .i64 x.Seen, .int .i64 x.Started, .int .i64 x.Tail.Epoch, .int .i64 x.Tail.Seq, .slice B0 x.Base.length d0, .slice B1 x.Clients.length d1, .slice B2 x.Log.length d2, .int .i64 x.Firm.Epoch, .int .i64 x.Firm.Seq, .slice B3 x.Chunks.length d3]), (1, [.int .i64 v.Epoch, .int .i64 v.Seq]), (0, [.int .i64 x.Pg.Pool, .int .i64 x.Pg.No, .int .i64 x.Seen, .int .i64 x.Started, .int .i64 x.Tail.Epoch, .int .i64 x.Tail.Seq, .slice A0 x.Base.length c0, .slice A1 x.Clients.length c1, .slice A2 x.Log.length c2, .int .i64 x.Firm.Epoch, .int .i64 x.Firm.Seq, .slice A3 x.Chunks.length c3])]) 3 (fun N => N.1) (by kernel_rfl) ?_ ?_
  · repeat' ((conv => whnf); first | refine AndK.mk ?_ ?_ | refine HeldK.mk (by kernel_rfl) ?_ | (refine CallK.mf _ (toPgState_a _ x _ hy3 hs0) (fun u M4 hl4 fr4 hv => ?_); replace hz := hl4; replace fz := fr4; replace rx3 := RPgState.mono hl4 _ _ rx3; obtain ⟨cs4, rfl, r2⟩ := hv) | refine CallK.mk _ (eqPgState_a _ x _ _ rx3 r2) ?_ | fail)
    all_goals exact ⟨⟨_, hz, fz⟩, ⟨⟨rfl, rfl, rfl, rfl, rfl, rfl, rfl, rfl, trivial⟩, ⟨rfl, rfl, rfl, trivial⟩, rfl, rfl⟩, rfl⟩
  clear hz fz rx3
  rintro ⟨M4, hl4, fr4⟩
  (conv => whnf)
  have e1 := (sub_le M2 M1).trans (hl3.trans hl4)
  refine CallK.mw (sub M2 M1) _ rfl (markPgState_a (sub M2 M1) (sub M2 M1) rfl x _ r1 hs0 1 (by decide) (by decide)) e1 (fun ad u hu => ?_) (apart fr2 (fr_trans hl3 fr3 hl4 fr4) fun ad u hu => ⟨u, hu⟩) (fun u Mx M5 hv hl5 hoff5 => ?_)
  · cases hm : M ad with
    | none => exact hm
    | some w => have := (sub_at hu).1; rw [hl1 ad w hm] at this; cases this
  obtain ⟨⟨j, rfl, hj0, hj1⟩, _⟩ := hv
  have k1 : Le M1 M5 := Le.off (hl2.trans (hl3.trans hl4)) hoff5 fun ad u hu => sub_none hu
  have k3 : Le (sub M3 M2) M5 := Le.off ((sub_le _ _).trans hl4) hoff5 fun ad u hu => by
    obtain ⟨g1, g2⟩ := sub_at hu
    unfold sub
    rw [g1]
    cases M1 ad <;> rfl
  (conv => whnf)
  refine CondK.no' (decide_eq_false (by omega)) ?_
  (conv => whnf)
  refine CallK.mk _ (eqLastS_a _ (caF x v) _ _ _ _ (rg.mono k3 (fun _ _ h => h)) (rw0.mono k1 (fun _ _ h => h))) ?_
  (conv => whnf)
  refine CondK.no' (by simp) ?_
  (conv => whnf)
  refine CallK.mw (sub M3 M2) _ rfl (markLastS_x (sub M3 M2) (sub M3 M2) rfl (caF x v) Ag cg rg (by omega) 1 (by decide) (by omega)) k3 (fun ad u hu => ?_) (apart fr3 fr4 (dom_w e1 hoff5)) (fun u Mg M6 hv hl6 hoff6 => ?_)
  · cases hm : M ad with
    | none => exact hm
    | some w => have := (sub_at hu).1; rw [hl2 ad w (hl1 ad w hm)] at this; cases this
  obtain ⟨⟨rfl, hmk⟩, _⟩ := hv
  replace hmk := hmk.mono hl6
  have k6 : Le M1 M6 := Le.off k1 hoff6 fun ad u hu => sub_none (hl2 _ _ hu)
  have kz : Le M M6 := hl1.trans k6
  (conv => whnf)
  refine CallK.mk _ (heldLastS_a _ _ _ _ _ hmk (by omega) (by decide) (by omega)) ?_
  repeat' ((conv => whnf); first | (refine CondK.no' ?_ ?_; focus (first | (simp; done) | exact decide_eq_false (by omega))) | fail)
  have hz := Le.refl M6
  refine DrawN.h {q : Mem × Option Addr × Nat // Le M6 q.1 ∧ SlR q.1 RLast 4 32 q.2.1 q.2.2 (caF x v)} (fun ⟨(_, Ah, ch), _⟩ => [(6, .v (.slice Aw (caF x v).length cw)), (7, .v (.int .i64 (vcF x v))), (9, .v (.slice Ag (caF x v).length cg)), (12, .v (.int .i64 (1 + ((caF x v).length : Int) * 4))), (14, .v (.slice Ah (caF x v).length ch)), (15, .v (.int .i64 (vcF x v)))]) (fun _ => []) 3 (fun q => q.1.1) (by kernel_rfl) ?_ ?_
  · repeat' ((conv => whnf); first | refine AndK.mk ?_ ?_ | refine HeldK.mk (by kernel_rfl) ?_ | refine CallK.mk _ (toVer_a _ v) ?_ | refine CallQ.mk _ (toVer_a _ v) ?_ | (refine CallK.mr _ (toPgState_a _ x _ (RPgState.mono (kz.trans hz) _ _ h0) hs0) (fun v M3 hl3 hv => ?_); replace hz := hz.trans hl3; obtain ⟨cs3, rfl, r2⟩ := hv) | (refine CallK.mr _ (iClientsAt_f _ x _ r2 v) (fun v M4 hl4 hv => ?_); obtain ⟨A4, c4, rfl, r4⟩ := hv; replace hz := hz.trans hl4) | fail)
    all_goals exact ⟨⟨(_, _, _), hz, r4.mono (sub_le _ _) (fun _ _ h => h)⟩, ⟨⟨rfl, rfl, rfl, rfl, rfl, rfl, trivial⟩, trivial, rfl, rfl⟩, rfl⟩
  clear hz
  rintro ⟨⟨M7, Ah, ch⟩, hl7, rh⟩
  simp only at hl7 rh
  (conv => whnf)
  refine CallK.mk _ (eqLastS_a _ (caF x v) _ _ _ _ rh (rw0.mono (k6.trans hl7) (fun _ _ h => h))) ?_
  (conv => whnf)
  refine CondK.no' (by simp) ?_
  (conv => whnf)
  refine CallK.mk _ (heldLastS_a _ _ _ _ _ (hmk.mono hl7) (by omega) (by decide) (by omega)) ?_
  repeat' ((conv => whnf); first | (refine CondK.no' ?_ ?_; focus (first | (simp; done) | exact decide_eq_false (by omega))) | fail)
  exact RetK.mk fun _ _ _ _ => rfl
end Go.Proofs.YtcppfjdhppoenaaGreat.Hlp
