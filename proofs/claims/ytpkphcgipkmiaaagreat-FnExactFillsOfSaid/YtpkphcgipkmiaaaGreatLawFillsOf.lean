/- FillsOf by the light walk: the law, with its marks. -/
import Derived.Test.YtpkphcgipkmiaaaGreatFunQB
import Derived.Test.YtpkphcgipkmiaaaGreatMk
import Derived.Test.YtpkphcgipkmiaaaGreatHlpI
namespace Go.Proofs.YtpkphcgipkmiaaaGreat.Hlp
open Go Go.RowKit Go.Proofs Go.Proofs.YtpkphcgipkmiaaaGreat.Lw
set_option linter.unusedVariables false
set_option linter.unusedSimpArgs false
set_option maxRecDepth 100000
set_option maxHeartbeats 4000000
theorem sub_dis {A B C D : Mem} {ad : Addr} {u : Value} (hBC : Le B C) (h : sub D C ad = some u) : sub B A ad = none := by
  obtain ⟨g1, _⟩ := sub_at h
  have hb : B ad = none := by
    cases hb : B ad with
    | none => rfl
    | some v => rw [hBC ad v hb] at g1; cases g1
  unfold sub
  rw [hb]
  cases A ad <;> rfl
theorem sub_new {A B M : Mem} {ad : Addr} {u : Value} (hMA : Le M A) (h : sub B A ad = some u) : M ad = none := by
  obtain ⟨g1, _⟩ := sub_at h
  cases hm : M ad with
  | none => rfl
  | some w => rw [hMA ad w hm] at g1; cases g1
theorem dom_t {A B C : Mem} (h1 : ∀ ad u, A ad = some u → ∃ v, B ad = some v) (h2 : ∀ ad u, B ad = some u → ∃ v, C ad = some v) : ∀ ad u, A ad = some u → ∃ v, C ad = some v := fun ad u hu => let ⟨v, hv⟩ := h1 ad u hu; h2 ad v hv
theorem lawFillsOf_a (M : Mem) (a : List Int) (x : GPgState) (l : List GNotice) (Aa : Option Addr) (cca : Nat) (cs1 : List Value) (A : Option Addr) (ca : Nat) (ha : SlR M RInt 1 8 Aa cca a) (h0 : RPgState M x cs1) (hN : SlR M RNotice 13 168 A ca l) : AnsR Tryz.prog M 4 #[.slice Aa a.length cca, .agg cs1.toArray, .slice A l.length ca] (fun _ v => v = .bool true) := by
  have h1 := h0
  obtain ⟨A0, c0, A1, c1, A2, c2, A3, c3, rfl, _⟩ := h1
  refine ansR_of (T.at M) (l := [.slice Aa a.length cca, .agg (List.toArray _), .slice A l.length ca]) mixed Tryz.func4 rfl (by kernel_rfl) (Nat.le_of_ble_eq_true rfl) ?_ (fun _ ad u h1 h2 => by rw [show M ad = none from h1] at h2; cases h2)
  (conv => whnf)
  refine CondK.mk (fun hc => ?_) (fun hc => ?_)
  · exact RetK.mk fun _ _ _ _ => rfl
  have hla : a.length ≤ 1048576 := by have := hc; simp at this; omega
  clear hc
  (conv => whnf)
  refine CallK.mk _ (szPgState_a M x _ _ h0) ?_
  (conv => whnf)
  refine CondK.mk (fun hc => ?_) (fun hc => ?_)
  · exact RetK.mk fun _ _ _ _ => rfl
  have hc0 : 0 ≤ szPgState x 1048576 := by simpa using hc
  have hs0 := (szPgState_ok h0 (left := 1048576) (by decide) (by decide) hc0).1
  have hc1 := (szPgState_ok h0 (left := 1048576) (by decide) (by decide) hc0).2
  clear hc
  (conv => whnf)
  refine CallK.mk _ (szNoticeS_a M l _ _ _ hN) ?_
  (conv => whnf)
  refine CondK.mk (fun hc => ?_) (fun hc => ?_)
  · exact RetK.mk fun _ _ _ _ => rfl
  have hs1 := (szL_ok hN.len (fun y hy left h1 h2 h => let ⟨_, hr⟩ := hN.each hy; szNotice_ok hr h1 h2 h) (left := szPgState x 1048576) hc0 hc1 (by simpa using hc)).1
  clear hc hc0 hc1
  have hn := folF_len a x l
  have ops : True := trivial
  (conv => whnf)
  have hz := Le.refl M
  refine DrawN.h {q : Mem × Option Addr × Nat // Le M q.1 ∧ SlR q.1 RFill 7 64 q.2.1 q.2.2 (folF a x l)} (fun ⟨(_, Aw, cw), _⟩ => [(0, .v (.slice Aa a.length cca)), (2, .v (.slice A l.length ca)), (4, .p 0 0), (8, .v (.slice Aw (folF a x l).length cw)), (9, .v (.bool (fofF a x l)))]) (fun _ => [(0, [.int .i64 x.Pg.Pool, .int .i64 x.Pg.No, .int .i64 x.Seen, .int .i64 x.Started, .int .i64 x.Tail.Epoch, .int .i64 x.Tail.Seq, .slice A0 x.Base.length c0, .slice A1 x.Clients.length c1, .slice A2 x.Log.length c2, .int .i64 x.Firm.Epoch, .int .i64 x.Firm.Seq, .slice A3 x.Chunks.length c3])]) 1 (fun q => q.1.1) (by kernel_rfl) ?_ ?_
  · repeat' ((conv => whnf); first | refine AndK.mk ?_ ?_ | refine HeldK.mk (by kernel_rfl) ?_ | (refine CallK.mr _ (toInt64S_a _ a _ _ (ha.mono (hz) (fun _ _ h => h)) ⟨hla, fun _ _ => trivial⟩) (fun v M3 hl3 hv => ?_); replace hz := hz.trans hl3; obtain ⟨A5', c5', rfl, ri⟩ := hv) | (refine CallK.mr _ (toPgState_a _ x _ (RPgState.mono (hz) _ _ h0) hs0) (fun v M3 hl3 hv => ?_); replace hz := hz.trans hl3; replace ri := ri.mono hl3 (fun _ _ h => h); obtain ⟨cs3, rfl, rp⟩ := hv) | (refine CallK.mr _ (toNoticeS_a _ l _ _ (hN.mono (hz) (RNotice.mono (hz))) hs1) (fun v M3 hl3 hv => ?_); replace hz := hz.trans hl3; replace rp := RPgState.mono hl3 _ _ rp; replace ri := ri.mono hl3 (fun _ _ h => h); obtain ⟨A3', c3', rfl, r2⟩ := hv) | (refine CallK.mr _ (sFillsOf_a _ a _ _ ri x _ rp l _ _ r2) (fun v M4 hl4 hv => ?_); obtain ⟨A4, c4, rfl, r4⟩ := hv; replace hz := hz.trans hl4) | fail)
    all_goals exact ⟨⟨(_, _, _), hz, r4⟩, ⟨⟨rfl, rfl, rfl, rfl, rfl, trivial⟩, ⟨rfl, trivial⟩, rfl, rfl⟩, rfl⟩
  clear hz
  rintro ⟨⟨M1, Aw, cw⟩, hl1, rw0⟩
  simp only at hl1 rw0
  (conv => whnf)
  refine CallK.mf _ (toInt64S_f _ a _ _ (ha.mono (hl1) (fun _ _ h => h)) ⟨hla, fun _ _ => trivial⟩) (fun v M2 hl2 fr2 hv => ?_)
  obtain ⟨AI, cI, rfl, rI⟩ := hv
  (conv => whnf)
  refine CallK.mf _ (toPgState_f _ x _ (RPgState.mono (hl1.trans hl2) _ _ h0) hs0) (fun v M3 hl3 fr3 hv => ?_)
  obtain ⟨cs2, rfl, rP⟩ := hv
  have rP' := rP
  obtain ⟨B0, d0, B1, d1, B2, d2, B3, d3, rfl, _⟩ := rP'
  (conv => whnf)
  refine CallK.mf _ (toNoticeS_f _ l _ _ (hN.mono ((hl1.trans hl2).trans hl3) (RNotice.mono ((hl1.trans hl2).trans hl3))) hs1) (fun v M4 hl4 fr4 hv => ?_)
  obtain ⟨AN, cN, rfl, rN⟩ := hv
  (conv => whnf)
  refine CallK.mf _ (iFillsOf_f _ a _ _ (rI.mono ((sub_le M2 M1).trans ((hl3).trans hl4)) (fun _ _ h => h)) x _ (RPgState.mono ((sub_le M3 M2).trans (hl4)) _ _ rP) l _ _ (rN.mono ((sub_le M4 M3)) (RNotice.mono ((sub_le M4 M3))))) (fun v M5 hl5 fr5 hv => ?_)
  obtain ⟨Ag, cg, rfl, rg⟩ := hv
  (conv => whnf)
  refine CallK.mk _ (eqFillS_a _ (folF a x l) _ _ _ _ (rg.mono (sub_le _ _) (fun _ _ h => h)) (rw0.mono ((((hl2).trans hl3).trans hl4).trans hl5) (fun _ _ h => h))) ?_
  (conv => whnf)
  refine CondK.no' (by simp) ?_
  (conv => whnf)
  refine CallK.mf _ (toInt64S_a _ a _ _ (ha.mono (hl1.trans ((((hl2).trans hl3).trans hl4).trans hl5)) (fun _ _ h => h)) ⟨hla, fun _ _ => trivial⟩) (fun v M6 hl6 fr6 hv => ?_)
  obtain ⟨A5, c5, rfl, r5⟩ := hv
  (conv => whnf)
  refine CallK.mk _ (eqInt64S_a _ a _ _ _ _ (rI.mono ((sub_le M2 M1).trans ((((hl3).trans hl4).trans hl5).trans hl6)) (fun _ _ h => h)) r5) ?_
  (conv => whnf)
  try (refine CondK.no' (by simp) ?_; (conv => whnf))
  have hz := Le.refl M6
  have fz := fr_refl M6
  have hy3 := RPgState.mono (hl1.trans (((((hl2).trans hl3).trans hl4).trans hl5).trans hl6)) _ _ h0
  have rx3 := (RPgState.mono ((sub_le M3 M2).trans (((hl4).trans hl5).trans hl6)) _ _ rP)
  refine DrawN.h {N : Mem // Le M6 N ∧ Fr M6 N} (fun _ => [(0, .v (.slice Aa a.length cca)), (2, .v (.slice A l.length ca)), (4, .p 0 0), (8, .v (.slice Aw (folF a x l).length cw)), (9, .v (.bool (fofF a x l))), (10, .v (.slice AI a.length cI)), (11, .p 1 0), (12, .v (.slice AN l.length cN)), (13, .v (.slice Ag (folF a x l).length cg)), (14, .v (.bool (fofF a x l))), (74, .v (.bool false))]) (fun _ => [(1, [.int .i64 x.Pg.Pool, .int .i64 x.Pg.No, .int .i64 x.Seen, .int .i64 x.Started, .int .i64 x.Tail.Epoch, .int .i64 x.Tail.Seq, .slice B0 x.Base.length d0, .slice B1 x.Clients.length d1, .slice B2 x.Log.length d2, .int .i64 x.Firm.Epoch, .int .i64 x.Firm.Seq, .slice B3 x.Chunks.length d3]), (0, [.int .i64 x.Pg.Pool, .int .i64 x.Pg.No, .int .i64 x.Seen, .int .i64 x.Started, .int .i64 x.Tail.Epoch, .int .i64 x.Tail.Seq, .slice A0 x.Base.length c0, .slice A1 x.Clients.length c1, .slice A2 x.Log.length c2, .int .i64 x.Firm.Epoch, .int .i64 x.Firm.Seq, .slice A3 x.Chunks.length c3])]) 2 (fun N => N.1) (by kernel_rfl) ?_ ?_
  · repeat' ((conv => whnf); first | refine AndK.mk ?_ ?_ | refine HeldK.mk (by kernel_rfl) ?_ | (refine CallK.mf _ (toPgState_a _ x _ hy3 hs0) (fun u M9 hl9 fr9 hv => ?_); replace hz := hl9; replace fz := fr9; replace rx3 := RPgState.mono hl9 _ _ rx3; obtain ⟨cs4, rfl, r2⟩ := hv) | refine CallK.mk _ (eqPgState_a _ x _ _ rx3 r2) ?_ | fail)
    all_goals exact ⟨⟨_, hz, fz⟩, ⟨⟨rfl, rfl, rfl, rfl, rfl, rfl, rfl, rfl, rfl, rfl, rfl, trivial⟩, ⟨rfl, rfl, trivial⟩, rfl, rfl⟩, rfl⟩
  clear hz fz rx3 hy3
  rintro ⟨M7, hl7, fr7⟩
  (conv => whnf)
  refine CallK.mf _ (toNoticeS_a _ l _ _ (hN.mono (hl1.trans ((((((hl2).trans hl3).trans hl4).trans hl5).trans hl6).trans hl7)) (RNotice.mono (hl1.trans ((((((hl2).trans hl3).trans hl4).trans hl5).trans hl6).trans hl7)))) hs1) (fun v M8 hl8 fr8 hv => ?_)
  obtain ⟨A6, c6, rfl, r6⟩ := hv
  (conv => whnf)
  refine CallK.mk _ (eqNoticeS_a _ l _ _ _ _ (rN.mono ((sub_le M4 M3).trans ((((hl5).trans hl6).trans hl7).trans hl8)) (RNotice.mono ((sub_le M4 M3).trans ((((hl5).trans hl6).trans hl7).trans hl8)))) r6) ?_
  (conv => whnf)
  have q2 : Le (sub M2 M1) M8 := (sub_le M2 M1).trans ((((((hl3).trans hl4).trans hl5).trans hl6).trans hl7).trans hl8)
  have q3 : Le (sub M3 M2) M8 := (sub_le M3 M2).trans (((((hl4).trans hl5).trans hl6).trans hl7).trans hl8)
  have q4 : Le (sub M4 M3) M8 := (sub_le M4 M3).trans ((((hl5).trans hl6).trans hl7).trans hl8)
  have q5 : Le (sub M5 M4) M8 := (sub_le M5 M4).trans (((hl6).trans hl7).trans hl8)
  have q1 : Le M1 M8 := ((((((hl2).trans hl3).trans hl4).trans hl5).trans hl6).trans hl7).trans hl8
  have hd : ∀ ad u, M8 ad = some u → ∃ v, M8 ad = some v := fun ad u hu => ⟨u, hu⟩
  refine CallK.mw (sub M2 M1) _ rfl (markInt64S_a (sub M2 M1) (sub M2 M1) rfl a AI cI rI hla (fun _ _ => trivial) 1 (by first | decide | omega) (by first | decide | (have := hs1.1; omega))) q2 (fun ad u hu => sub_new (hl1) hu) (apart fr2 (fr_trans (((((hl3).trans hl4).trans hl5).trans hl6).trans hl7) (fr_trans ((((hl3).trans hl4).trans hl5).trans hl6) (fr_trans (((hl3).trans hl4).trans hl5) (fr_trans ((hl3).trans hl4) (fr_trans (hl3) (fr3) hl4 fr4) hl5 fr5) hl6 fr6) hl7 fr7) hl8 fr8) hd) (fun v Mx9 M9 hv hlx9 hoff9 => ?_)
  replace hd := dom_t (dom_w q2 hoff9) hd
  obtain ⟨⟨j9, rfl, hj9, hk9⟩, _⟩ := hv
  replace q3 := Le.off q3 hoff9 fun ad u hu => sub_dis (Le.refl _) hu
  replace q4 := Le.off q4 hoff9 fun ad u hu => sub_dis (hl3) hu
  replace q5 := Le.off q5 hoff9 fun ad u hu => sub_dis ((hl3).trans hl4) hu
  replace q1 := Le.off q1 hoff9 fun ad u hu => sub_none (hu)
  (conv => whnf)
  refine CallK.mw (sub M3 M2) _ rfl (markPgState_a (sub M3 M2) (sub M3 M2) rfl x _ rP hs0 j9 (by first | decide | omega) (by first | decide | (have := hs1.1; omega))) q3 (fun ad u hu => sub_new (hl1.trans (hl2)) hu) (apart fr3 (fr_trans ((((hl4).trans hl5).trans hl6).trans hl7) (fr_trans (((hl4).trans hl5).trans hl6) (fr_trans ((hl4).trans hl5) (fr_trans (hl4) (fr4) hl5 fr5) hl6 fr6) hl7 fr7) hl8 fr8) hd) (fun v Mx10 M10 hv hlx10 hoff10 => ?_)
  replace hd := dom_t (dom_w q3 hoff10) hd
  obtain ⟨⟨j10, rfl, hj10, hk10⟩, _⟩ := hv
  replace q4 := Le.off q4 hoff10 fun ad u hu => sub_dis (Le.refl _) hu
  replace q5 := Le.off q5 hoff10 fun ad u hu => sub_dis (hl4) hu
  replace q1 := Le.off q1 hoff10 fun ad u hu => sub_none ((hl2) _ _ hu)
  (conv => whnf)
  refine CallK.mw (sub M4 M3) _ rfl (markNoticeS_a (sub M4 M3) (sub M4 M3) rfl l AN cN rN hs1.1 hs1.2 j10 (by first | decide | omega) (by first | decide | (have := hs1.1; omega))) q4 (fun ad u hu => sub_new (hl1.trans ((hl2).trans hl3)) hu) (apart fr4 (fr_trans (((hl5).trans hl6).trans hl7) (fr_trans ((hl5).trans hl6) (fr_trans (hl5) (fr5) hl6 fr6) hl7 fr7) hl8 fr8) hd) (fun v Mx11 M11 hv hlx11 hoff11 => ?_)
  replace hd := dom_t (dom_w q4 hoff11) hd
  obtain ⟨⟨j11, rfl, hj11, hk11⟩, _⟩ := hv
  replace q5 := Le.off q5 hoff11 fun ad u hu => sub_dis (Le.refl _) hu
  replace q1 := Le.off q1 hoff11 fun ad u hu => sub_none (((hl2).trans hl3) _ _ hu)
  (conv => whnf)
  try (refine CondK.no' (decide_eq_false (by omega)) ?_; (conv => whnf))
  refine CallK.mk _ (eqFillS_a _ (folF a x l) _ _ _ _ (rg.mono q5 (fun _ _ h => h)) (rw0.mono q1 (fun _ _ h => h))) ?_
  (conv => whnf)
  refine CondK.no' (by simp) ?_
  (conv => whnf)
  refine CallK.mw (sub M5 M4) _ rfl (markFillS_x (sub M5 M4) (sub M5 M4) rfl (folF a x l) Ag cg rg (by omega) 1 (by decide) (by omega)) q5 (fun ad u hu => sub_new (hl1.trans (((hl2).trans hl3).trans hl4)) hu) (apart fr5 (fr_trans ((hl6).trans hl7) (fr_trans (hl6) (fr6) hl7 fr7) hl8 fr8) hd) (fun v Mg M12 hv hlg hoff12 => ?_)
  obtain ⟨⟨rfl, hmk⟩, _⟩ := hv
  replace hmk := hmk.mono hlg
  have k6 : Le M1 M12 := Le.off q1 hoff12 fun ad u hu => sub_none ((((hl2).trans hl3).trans hl4) _ _ hu)
  have kz : Le M M12 := hl1.trans k6
  (conv => whnf)
  refine CallK.mk _ (heldFillS_a _ _ _ _ _ hmk (by omega) (by decide) (by omega)) ?_
  repeat' ((conv => whnf); first | (refine CondK.no' ?_ ?_; focus (first | (simp; done) | exact decide_eq_false (by omega))) | fail)
  have hz := Le.refl M12
  refine DrawN.h {q : Mem × Option Addr × Nat // Le M12 q.1 ∧ SlR q.1 RFill 7 64 q.2.1 q.2.2 (folF a x l)} (fun ⟨(_, Ah, ch), _⟩ => [(8, .v (.slice Aw (folF a x l).length cw)), (9, .v (.bool (fofF a x l))), (13, .v (.slice Ag (folF a x l).length cg)), (16, .v (.int .i64 (1 + ((folF a x l).length : Int) * 7))), (18, .v (.slice Ah (folF a x l).length ch)), (19, .v (.bool (fofF a x l)))]) (fun _ => []) 2 (fun q => q.1.1) (by kernel_rfl) ?_ ?_
  · repeat' ((conv => whnf); first | refine AndK.mk ?_ ?_ | refine HeldK.mk (by kernel_rfl) ?_ | (refine CallK.mr _ (toInt64S_a _ a _ _ (ha.mono (kz.trans hz) (fun _ _ h => h)) ⟨hla, fun _ _ => trivial⟩) (fun v M3 hl3 hv => ?_); replace hz := hz.trans hl3; obtain ⟨A5', c5', rfl, ri⟩ := hv) | (refine CallK.mr _ (toPgState_a _ x _ (RPgState.mono (kz.trans hz) _ _ h0) hs0) (fun v M3 hl3 hv => ?_); replace hz := hz.trans hl3; replace ri := ri.mono hl3 (fun _ _ h => h); obtain ⟨cs3, rfl, rp⟩ := hv) | (refine CallK.mr _ (toNoticeS_a _ l _ _ (hN.mono (kz.trans hz) (RNotice.mono (kz.trans hz))) hs1) (fun v M3 hl3 hv => ?_); replace hz := hz.trans hl3; replace rp := RPgState.mono hl3 _ _ rp; replace ri := ri.mono hl3 (fun _ _ h => h); obtain ⟨A3', c3', rfl, r2⟩ := hv) | (refine CallK.mr _ (iFillsOf_f _ a _ _ ri x _ rp l _ _ r2) (fun v M4 hl4 hv => ?_); obtain ⟨A4, c4, rfl, r4⟩ := hv; replace hz := hz.trans hl4) | fail)
    all_goals exact ⟨⟨(_, _, _), hz, r4.mono (sub_le _ _) (fun _ _ h => h)⟩, ⟨⟨rfl, rfl, rfl, rfl, rfl, rfl, trivial⟩, trivial, rfl, rfl⟩, rfl⟩
  clear hz
  rintro ⟨⟨Mh, Ah, ch⟩, hlh, rh⟩
  simp only at hlh rh
  (conv => whnf)
  refine CallK.mk _ (eqFillS_a _ (folF a x l) _ _ _ _ rh (rw0.mono (k6.trans hlh) (fun _ _ h => h))) ?_
  (conv => whnf)
  refine CondK.no' (by simp) ?_
  (conv => whnf)
  refine CallK.mk _ (heldFillS_a _ _ _ _ _ (hmk.mono hlh) (by omega) (by decide) (by omega)) ?_
  repeat' ((conv => whnf); first | (refine CondK.no' ?_ ?_; focus (first | (simp; done) | exact decide_eq_false (by omega))) | fail)
  exact RetK.mk fun _ _ _ _ => rfl
end Go.Proofs.YtpkphcgipkmiaaaGreat.Hlp
