/- LostHeads by the light walk: the law, with its marks. -/
import Derived.Test.YtpkphcgipkmiaaaGreatFunQD
import Derived.Test.YtpkphcgipkmiaaaGreatMk
namespace Go.Proofs.YtpkphcgipkmiaaaGreat.Hlp
open Go Go.RowKit Go.Proofs Go.Proofs.YtpkphcgipkmiaaaGreat.Lw
set_option linter.unusedVariables false
set_option linter.unusedSimpArgs false
set_option maxRecDepth 100000
set_option maxHeartbeats 4000000
theorem sub_dis {A B C D : Mem} {ad : Addr} {u : Value} (hBC : Le B C) (h : sub D C ad = some u) : sub B A ad = none := by
  obtain ⟨g1, _⟩ := sub_at h
  have hb : B ad = none := by
    cases hb : B ad with
    | none => rfl
    | some v => rw [hBC ad v hb] at g1; cases g1
  unfold sub
  rw [hb]
  cases A ad <;> rfl
theorem sub_new {A B M : Mem} {ad : Addr} {u : Value} (hMA : Le M A) (h : sub B A ad = some u) : M ad = none := by
  obtain ⟨g1, _⟩ := sub_at h
  cases hm : M ad with
  | none => rfl
  | some w => rw [hMA ad w hm] at g1; cases g1
theorem dom_t {A B C : Mem} (h1 : ∀ ad u, A ad = some u → ∃ v, B ad = some v) (h2 : ∀ ad u, B ad = some u → ∃ v, C ad = some v) : ∀ ad u, A ad = some u → ∃ v, C ad = some v := fun ad u hu => let ⟨v, hv⟩ := h1 ad u hu; h2 ad v hv
theorem lawLostHeads_a (M : Mem) (c : GCode) (x : GPgState) (l : List GNotice) (cs0 cs1 : List Value) (A : Option Addr) (ca : Nat) (kc : RCode M c cs0) (h0 : RPgState M x cs1) (hN : SlR M RNotice 13 168 A ca l) : AnsR Tryz.prog M 3 #[.agg cs0.toArray, .agg cs1.toArray, .slice A l.length ca] (fun _ v => v = .bool true) := by
  have h1 := h0
  obtain ⟨A0, c0, A1, c1, A2, c2, A3, c3, rfl, _⟩ := h1
  obtain ⟨rfl, _⟩ := kc
  refine ansR_of (T.at M) (l := [.agg (List.toArray _), .agg (List.toArray _), .slice A l.length ca]) mixed Tryz.func3 rfl (by kernel_rfl) (Nat.le_of_ble_eq_true rfl) ?_ (fun _ ad u h1 h2 => by rw [show M ad = none from h1] at h2; cases h2)
  (conv => whnf)
  refine CallK.mk _ (szPgState_a M x _ _ h0) ?_
  (conv => whnf)
  refine CondK.mk (fun hc => ?_) (fun hc => ?_)
  · exact RetK.mk fun _ _ _ _ => rfl
  have hc0 : 0 ≤ szPgState x 1048576 := by simpa using hc
  have hs0 := (szPgState_ok h0 (left := 1048576) (by decide) (by decide) hc0).1
  have hc1 := (szPgState_ok h0 (left := 1048576) (by decide) (by decide) hc0).2
  clear hc
  (conv => whnf)
  refine CallK.mk _ (szNoticeS_a M l _ _ _ hN) ?_
  (conv => whnf)
  refine CondK.mk (fun hc => ?_) (fun hc => ?_)
  · exact RetK.mk fun _ _ _ _ => rfl
  have hs1 := (szL_ok hN.len (fun y hy left h1 h2 h => let ⟨_, hr⟩ := hN.each hy; szNotice_ok hr h1 h2 h) (left := szPgState x 1048576) hc0 hc1 (by simpa using hc)).1
  clear hc hc0 hc1
  have hn := lhF_len c x l
  have ops : True := trivial
  (conv => whnf)
  have hz := Le.refl M
  refine DrawN.h {q : Mem × Option Addr × Nat // Le M q.1 ∧ SlR q.1 RHead 5 48 q.2.1 q.2.2 (lhF c x l)} (fun ⟨(_, Aw, cw), _⟩ => [(2, .v (.slice A l.length ca)), (3, .p 0 0), (4, .p 1 0), (8, .v (.slice Aw (lhF c x l).length cw)), (9, .v (.bool (lhOkF c x l)))]) (fun _ => [(1, [.int .i64 x.Pg.Pool, .int .i64 x.Pg.No, .int .i64 x.Seen, .int .i64 x.Started, .int .i64 x.Tail.Epoch, .int .i64 x.Tail.Seq, .slice A0 x.Base.length c0, .slice A1 x.Clients.length c1, .slice A2 x.Log.length c2, .int .i64 x.Firm.Epoch, .int .i64 x.Firm.Seq, .slice A3 x.Chunks.length c3]), (0, [.int .i64 c.K, .int .i64 c.M])]) 2 (fun q => q.1.1) (by kernel_rfl) ?_ ?_
  · repeat' ((conv => whnf); first | refine AndK.mk ?_ ?_ | refine HeldK.mk (by kernel_rfl) ?_ | refine CallK.mk _ (toCode_a _ c) ?_ | refine CallQ.mk _ (toCode_a _ c) ?_ | (refine CallK.mr _ (toPgState_a _ x _ (RPgState.mono (hz) _ _ h0) hs0) (fun v M3 hl3 hv => ?_); replace hz := hz.trans hl3; obtain ⟨cs3, rfl, rp⟩ := hv) | (refine CallK.mr _ (toNoticeS_a _ l _ _ (hN.mono (hz) (RNotice.mono (hz))) hs1) (fun v M3 hl3 hv => ?_); replace hz := hz.trans hl3; replace rp := RPgState.mono hl3 _ _ rp; obtain ⟨A3', c3', rfl, r2⟩ := hv) | (refine CallK.mr _ (sLostHeads_a _ c x _ rp l _ _ r2) (fun v M4 hl4 hv => ?_); obtain ⟨A4, c4, rfl, r4⟩ := hv; replace hz := hz.trans hl4) | fail)
    all_goals exact ⟨⟨(_, _, _), hz, r4⟩, ⟨⟨rfl, rfl, rfl, rfl, rfl, trivial⟩, ⟨rfl, rfl, trivial⟩, rfl, rfl⟩, rfl⟩
  clear hz
  rintro ⟨⟨M1, Aw, cw⟩, hl1, rw0⟩
  simp only at hl1 rw0
  (conv => whnf)
  refine CallK.mf _ (toPgState_f _ x _ (RPgState.mono (hl1) _ _ h0) hs0) (fun v M2 hl2 fr2 hv => ?_)
  obtain ⟨cs2, rfl, rP⟩ := hv
  have rP' := rP
  obtain ⟨B0, d0, B1, d1, B2, d2, B3, d3, rfl, _⟩ := rP'
  (conv => whnf)
  refine CallK.mf _ (toNoticeS_f _ l _ _ (hN.mono (hl1.trans hl2) (RNotice.mono (hl1.trans hl2))) hs1) (fun v M3 hl3 fr3 hv => ?_)
  obtain ⟨AN, cN, rfl, rN⟩ := hv
  (conv => whnf)
  have hz := Le.refl M3
  have fz := fr_refl M3
  refine DrawN.h {q : Mem × Option Addr × Nat // Le M3 q.1 ∧ Fr M3 q.1 ∧ SlR (sub q.1 M3) RHead 5 48 q.2.1 q.2.2 (lhF c x l)} (fun ⟨(_, Ag, cg), _⟩ => [(2, .v (.slice A l.length ca)), (3, .p 0 0), (4, .p 1 0), (8, .v (.slice Aw (lhF c x l).length cw)), (9, .v (.bool (lhOkF c x l))), (10, .p 2 0), (11, .v (.slice AN l.length cN)), (12, .v (.slice Ag (lhF c x l).length cg)), (13, .v (.bool (lhOkF c x l)))]) (fun _ => [(2, [.int .i64 x.Pg.Pool, .int .i64 x.Pg.No, .int .i64 x.Seen, .int .i64 x.Started, .int .i64 x.Tail.Epoch, .int .i64 x.Tail.Seq, .slice B0 x.Base.length d0, .slice B1 x.Clients.length d1, .slice B2 x.Log.length d2, .int .i64 x.Firm.Epoch, .int .i64 x.Firm.Seq, .slice B3 x.Chunks.length d3]), (1, [.int .i64 x.Pg.Pool, .int .i64 x.Pg.No, .int .i64 x.Seen, .int .i64 x.Started, .int .i64 x.Tail.Epoch, .int .i64 x.Tail.Seq, .slice A0 x.Base.length c0, .slice A1 x.Clients.length c1, .slice A2 x.Log.length c2, .int .i64 x.Firm.Epoch, .int .i64 x.Firm.Seq, .slice A3 x.Chunks.length c3]), (0, [.int .i64 c.K, .int .i64 c.M])]) 3 (fun q => q.1.1) (by kernel_rfl) ?_ ?_
  · repeat' ((conv => whnf); first | refine AndK.mk ?_ ?_ | refine HeldK.mk (by kernel_rfl) ?_ | refine CallK.mk _ (toCode_a _ c) ?_ | refine CallQ.mk _ (toCode_a _ c) ?_ | (refine CallK.mf _ (iLostHeads_f _ c x _ (RPgState.mono ((sub_le M2 M1).trans (hl3)) _ _ rP) l _ _ (rN.mono ((sub_le M3 M2)) (RNotice.mono ((sub_le M3 M2))))) (fun v M9 hl9 fr9 hv => ?_); obtain ⟨A4, c4, rfl, r4⟩ := hv; replace hz := hl9; replace fz := fr9) | fail)
    all_goals exact ⟨⟨(_, _, _), hz, fz, r4⟩, ⟨⟨rfl, rfl, rfl, rfl, rfl, rfl, rfl, rfl, rfl, trivial⟩, ⟨rfl, rfl, rfl, trivial⟩, rfl, rfl⟩, rfl⟩
  clear hz fz
  rintro ⟨⟨M4, Ag, cg⟩, hl4, fr4, rg⟩
  simp only at hl4 fr4 rg
  (conv => whnf)
  refine CallK.mk _ (eqHeadS_a _ (lhF c x l) _ _ _ _ (rg.mono (sub_le _ _) (fun _ _ h => h)) (rw0.mono (((hl2).trans hl3).trans hl4) (fun _ _ h => h))) ?_
  (conv => whnf)
  refine CondK.no' (by simp) ?_
  (conv => whnf)
  have hz := Le.refl M4
  have fz := fr_refl M4
  have hy3 := RPgState.mono (hl1.trans (((hl2).trans hl3).trans hl4)) _ _ h0
  have rx3 := (RPgState.mono ((sub_le M2 M1).trans ((hl3).trans hl4)) _ _ rP)
  refine DrawN.h {N : Mem // Le M4 N ∧ Fr M4 N} (fun _ => [(2, .v (.slice A l.length ca)), (3, .p 0 0), (4, .p 1 0), (8, .v (.slice Aw (lhF c x l).length cw)), (9, .v (.bool (lhOkF c x l))), (10, .p 2 0), (11, .v (.slice AN l.length cN)), (12, .v (.slice Ag (lhF c x l).length cg)), (13, .v (.bool (lhOkF c x l))), (64, .v (.bool false))]) (fun _ => [(2, [.int .i64 x.Pg.Pool, .int .i64 x.Pg.No, .int .i64 x.Seen, .int .i64 x.Started, .int .i64 x.Tail.Epoch, .int .i64 x.Tail.Seq, .slice B0 x.Base.length d0, .slice B1 x.Clients.length d1, .slice B2 x.Log.length d2, .int .i64 x.Firm.Epoch, .int .i64 x.Firm.Seq, .slice B3 x.Chunks.length d3]), (1, [.int .i64 x.Pg.Pool, .int .i64 x.Pg.No, .int .i64 x.Seen, .int .i64 x.Started, .int .i64 x.Tail.Epoch, .int .i64 x.Tail.Seq, .slice A0 x.Base.length c0, .slice A1 x.Clients.length c1, .slice A2 x.Log.length c2, .int .i64 x.Firm.Epoch, .int .i64 x.Firm.Seq, .slice A3 x.Chunks.length c3]), (0, [.int .i64 c.K, .int .i64 c.M])]) 3 (fun N => N.1) (by kernel_rfl) ?_ ?_
  · repeat' ((conv => whnf); first | refine AndK.mk ?_ ?_ | refine HeldK.mk (by kernel_rfl) ?_ | (refine CallK.mf _ (toPgState_a _ x _ hy3 hs0) (fun u M9 hl9 fr9 hv => ?_); replace hz := hl9; replace fz := fr9; replace rx3 := RPgState.mono hl9 _ _ rx3; obtain ⟨cs4, rfl, r2⟩ := hv) | refine CallK.mk _ (eqPgState_a _ x _ _ rx3 r2) ?_ | fail)
    all_goals exact ⟨⟨_, hz, fz⟩, ⟨⟨rfl, rfl, rfl, rfl, rfl, rfl, rfl, rfl, rfl, rfl, trivial⟩, ⟨rfl, rfl, rfl, trivial⟩, rfl, rfl⟩, rfl⟩
  clear hz fz rx3 hy3
  rintro ⟨M5, hl5, fr5⟩
  (conv => whnf)
  refine CallK.mf _ (toNoticeS_a _ l _ _ (hN.mono (hl1.trans ((((hl2).trans hl3).trans hl4).trans hl5)) (RNotice.mono (hl1.trans ((((hl2).trans hl3).trans hl4).trans hl5)))) hs1) (fun v M6 hl6 fr6 hv => ?_)
  obtain ⟨A6, c6, rfl, r6⟩ := hv
  (conv => whnf)
  refine CallK.mk _ (eqNoticeS_a _ l _ _ _ _ (rN.mono ((sub_le M3 M2).trans (((hl4).trans hl5).trans hl6)) (RNotice.mono ((sub_le M3 M2).trans (((hl4).trans hl5).trans hl6)))) r6) ?_
  (conv => whnf)
  have q2 : Le (sub M2 M1) M6 := (sub_le M2 M1).trans ((((hl3).trans hl4).trans hl5).trans hl6)
  have q3 : Le (sub M3 M2) M6 := (sub_le M3 M2).trans (((hl4).trans hl5).trans hl6)
  have q4 : Le (sub M4 M3) M6 := (sub_le M4 M3).trans ((hl5).trans hl6)
  have q1 : Le M1 M6 := ((((hl2).trans hl3).trans hl4).trans hl5).trans hl6
  have hd : ∀ ad u, M6 ad = some u → ∃ v, M6 ad = some v := fun ad u hu => ⟨u, hu⟩
  refine CallK.mw (sub M2 M1) _ rfl (markPgState_a (sub M2 M1) (sub M2 M1) rfl x _ rP hs0 1 (by first | decide | omega) (by first | decide | (have := hs1.1; omega))) q2 (fun ad u hu => sub_new (hl1) hu) (apart fr2 (fr_trans (((hl3).trans hl4).trans hl5) (fr_trans ((hl3).trans hl4) (fr_trans (hl3) (fr3) hl4 fr4) hl5 fr5) hl6 fr6) hd) (fun v Mx7 M7 hv hlx7 hoff7 => ?_)
  replace hd := dom_t (dom_w q2 hoff7) hd
  obtain ⟨⟨j7, rfl, hj7, hk7⟩, _⟩ := hv
  replace q3 := Le.off q3 hoff7 fun ad u hu => sub_dis (Le.refl _) hu
  replace q4 := Le.off q4 hoff7 fun ad u hu => sub_dis (hl3) hu
  replace q1 := Le.off q1 hoff7 fun ad u hu => sub_none (hu)
  (conv => whnf)
  refine CallK.mw (sub M3 M2) _ rfl (markNoticeS_a (sub M3 M2) (sub M3 M2) rfl l AN cN rN hs1.1 hs1.2 j7 (by first | decide | omega) (by first | decide | (have := hs1.1; omega))) q3 (fun ad u hu => sub_new (hl1.trans (hl2)) hu) (apart fr3 (fr_trans ((hl4).trans hl5) (fr_trans (hl4) (fr4) hl5 fr5) hl6 fr6) hd) (fun v Mx8 M8 hv hlx8 hoff8 => ?_)
  replace hd := dom_t (dom_w q3 hoff8) hd
  obtain ⟨⟨j8, rfl, hj8, hk8⟩, _⟩ := hv
  replace q4 := Le.off q4 hoff8 fun ad u hu => sub_dis (Le.refl _) hu
  replace q1 := Le.off q1 hoff8 fun ad u hu => sub_none ((hl2) _ _ hu)
  (conv => whnf)
  try (refine CondK.no' (decide_eq_false (by omega)) ?_; (conv => whnf))
  refine CallK.mk _ (eqHeadS_a _ (lhF c x l) _ _ _ _ (rg.mono q4 (fun _ _ h => h)) (rw0.mono q1 (fun _ _ h => h))) ?_
  (conv => whnf)
  refine CondK.no' (by simp) ?_
  (conv => whnf)
  refine CallK.mw (sub M4 M3) _ rfl (markHeadS_x (sub M4 M3) (sub M4 M3) rfl (lhF c x l) Ag cg rg (by omega) 1 (by decide) (by omega)) q4 (fun ad u hu => sub_new (hl1.trans ((hl2).trans hl3)) hu) (apart fr4 (fr_trans (hl5) (fr5) hl6 fr6) hd) (fun v Mg M9 hv hlg hoff9 => ?_)
  obtain ⟨⟨rfl, hmk⟩, _⟩ := hv
  replace hmk := hmk.mono hlg
  have k6 : Le M1 M9 := Le.off q1 hoff9 fun ad u hu => sub_none (((hl2).trans hl3) _ _ hu)
  have kz : Le M M9 := hl1.trans k6
  (conv => whnf)
  refine CallK.mk _ (heldHeadS_a _ _ _ _ _ hmk (by omega) (by decide) (by omega)) ?_
  repeat' ((conv => whnf); first | (refine CondK.no' ?_ ?_; focus (first | (simp; done) | exact decide_eq_false (by omega))) | fail)
  have hz := Le.refl M9
  refine DrawN.h {q : Mem × Option Addr × Nat // Le M9 q.1 ∧ SlR q.1 RHead 5 48 q.2.1 q.2.2 (lhF c x l)} (fun ⟨(_, Ah, ch), _⟩ => [(8, .v (.slice Aw (lhF c x l).length cw)), (9, .v (.bool (lhOkF c x l))), (12, .v (.slice Ag (lhF c x l).length cg)), (15, .v (.int .i64 (1 + ((lhF c x l).length : Int) * 5))), (17, .v (.slice Ah (lhF c x l).length ch)), (18, .v (.bool (lhOkF c x l)))]) (fun _ => []) 3 (fun q => q.1.1) (by kernel_rfl) ?_ ?_
  · repeat' ((conv => whnf); first | refine AndK.mk ?_ ?_ | refine HeldK.mk (by kernel_rfl) ?_ | refine CallK.mk _ (toCode_a _ c) ?_ | refine CallQ.mk _ (toCode_a _ c) ?_ | (refine CallK.mr _ (toPgState_a _ x _ (RPgState.mono (kz.trans hz) _ _ h0) hs0) (fun v M3 hl3 hv => ?_); replace hz := hz.trans hl3; obtain ⟨cs3, rfl, rp⟩ := hv) | (refine CallK.mr _ (toNoticeS_a _ l _ _ (hN.mono (kz.trans hz) (RNotice.mono (kz.trans hz))) hs1) (fun v M3 hl3 hv => ?_); replace hz := hz.trans hl3; replace rp := RPgState.mono hl3 _ _ rp; obtain ⟨A3', c3', rfl, r2⟩ := hv) | (refine CallK.mr _ (iLostHeads_f _ c x _ rp l _ _ r2) (fun v M4 hl4 hv => ?_); obtain ⟨A4, c4, rfl, r4⟩ := hv; replace hz := hz.trans hl4) | fail)
    all_goals exact ⟨⟨(_, _, _), hz, r4.mono (sub_le _ _) (fun _ _ h => h)⟩, ⟨⟨rfl, rfl, rfl, rfl, rfl, rfl, trivial⟩, trivial, rfl, rfl⟩, rfl⟩
  clear hz
  rintro ⟨⟨Mh, Ah, ch⟩, hlh, rh⟩
  simp only at hlh rh
  (conv => whnf)
  refine CallK.mk _ (eqHeadS_a _ (lhF c x l) _ _ _ _ rh (rw0.mono (k6.trans hlh) (fun _ _ h => h))) ?_
  (conv => whnf)
  refine CondK.no' (by simp) ?_
  (conv => whnf)
  refine CallK.mk _ (heldHeadS_a _ _ _ _ _ (hmk.mono hlh) (by omega) (by decide) (by omega)) ?_
  repeat' ((conv => whnf); first | (refine CondK.no' ?_ ?_; focus (first | (simp; done) | exact decide_eq_false (by omega))) | fail)
  exact RetK.mk fun _ _ _ _ => rfl
end Go.Proofs.YtpkphcgipkmiaaaGreat.Hlp
