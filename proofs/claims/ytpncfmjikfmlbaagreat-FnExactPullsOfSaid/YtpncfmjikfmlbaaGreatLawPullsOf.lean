/- PullsOf by the light walk: the law, with its marks. -/
import Derived.Test.YtpncfmjikfmlbaaGreatFunX
import Derived.Test.YtpncfmjikfmlbaaGreatMk
namespace Go.Proofs.YtpncfmjikfmlbaaGreat.Hlp
open Go Go.RowKit Go.Proofs Go.Proofs.YtpncfmjikfmlbaaGreat.Lw
set_option linter.unusedVariables false
set_option linter.unusedSimpArgs false
set_option maxRecDepth 100000
set_option maxHeartbeats 4000000
theorem lawPullsOf_a (M : Mem) (c : GCode) (l : List GNotice) (x : GHead) (cs0 : List Value) (A : Option Addr) (ca : Nat) (cs2 : List Value) (kc : RCode M c cs0) (h0 : SlR M RNotice 13 168 A ca l) (k2 : RHead M x cs2) : AnsR Tryz.prog M 4 #[.agg cs0.toArray, .slice A l.length ca, .agg cs2.toArray] (fun _ v => v = .bool true) := by
  obtain ⟨rfl, _⟩ := kc
  obtain ⟨rfl, hb⟩ := k2
  refine ansR_of (T.at M) (l := [.agg (List.toArray _), .slice A l.length ca, .agg (List.toArray _)]) mixed Tryz.func4 rfl (by kernel_rfl) (Nat.le_of_ble_eq_true rfl) ?_ (fun _ ad u h1 h2 => by rw [show M ad = none from h1] at h2; cases h2)
  (conv => whnf)
  refine CallK.mk _ (szNoticeS_a M l _ _ _ h0) ?_
  (conv => whnf)
  refine CondK.mk (fun hc => ?_) (fun hc => ?_)
  · exact RetK.mk fun _ _ _ _ => rfl
  have hs0 := (szL_ok h0.len (fun y hy left h1 h2 h => let ⟨_, hr⟩ := h0.each hy; szNotice_ok hr h1 h2 h) (left := 1048576) (by decide) (by decide) (by simpa using hc)).1
  (conv => whnf)
  refine CallK.mk _ (szHead_a M x _) ?_
  (conv => whnf)
  refine CondK.mk (fun hc => ?_) (fun hc => ?_)
  · exact RetK.mk fun _ _ _ _ => rfl
  have hn := plAll_len c l x
  have ops : True := trivial
  (conv => whnf)
  have hz := Le.refl M
  refine DrawN.h {q : Mem × Option Addr × Nat // Le M q.1 ∧ SlR q.1 RSource 2 16 q.2.1 q.2.2 (plAllF c l x)} (fun ⟨(_, Aw, cw), _⟩ => [(1, .v (.slice A l.length ca)), (3, .p 0 0), (5, .p 1 0), (8, .v (.slice Aw (plAllF c l x).length cw)), (9, .v (.int .i64 (pcF c l x)))]) (fun _ => [(1, [.string x.Name, .int .i64 x.Ver.Epoch, .int .i64 x.Ver.Seq, .int .i64 x.Size, .int .i64 x.Sum]), (0, [.int .i64 c.K, .int .i64 c.M])]) 2 (fun q => q.1.1) (by kernel_rfl) ?_ ?_
  · repeat' ((conv => whnf); first | refine AndK.mk ?_ ?_ | refine HeldK.mk (by kernel_rfl) ?_ | refine CallK.mk _ (toCode_a _ c) ?_ | refine CallQ.mk _ (toCode_a _ c) ?_ | refine CallK.mk _ (toHead_a _ x) ?_ | refine CallQ.mk _ (toHead_a _ x) ?_ | (refine CallK.mr _ (toNoticeS_a _ l _ _ (h0.mono hz (RNotice.mono hz)) hs0) (fun v M3 hl3 hv => ?_); replace hz := hz.trans hl3; obtain ⟨A3, c3, rfl, r2⟩ := hv) | (refine CallK.mr _ (sPullsOf_a _ c l _ _ r2 x hb) (fun v M4 hl4 hv => ?_); obtain ⟨A4, c4, rfl, r4⟩ := hv; replace hz := hz.trans hl4) | fail)
    all_goals exact ⟨⟨(_, _, _), hz, r4⟩, ⟨⟨rfl, rfl, rfl, rfl, rfl, trivial⟩, ⟨rfl, rfl, trivial⟩, rfl, rfl⟩, rfl⟩
  clear hz
  rintro ⟨⟨M1, Aw, cw⟩, hl1, rw0⟩
  simp only at hl1 rw0
  (conv => whnf)
  -- x0
  refine CallK.mf _ (toNoticeS_f _ l _ _ (h0.mono hl1 (RNotice.mono hl1)) hs0) (fun v M2 hl2 fr2 hv => ?_)
  obtain ⟨A1, c1, rfl, r1⟩ := hv
  (conv => whnf)
  have hz := Le.refl M2
  have fz := fr_refl M2
  refine DrawN.h {q : Mem × Option Addr × Nat // Le M2 q.1 ∧ Fr M2 q.1 ∧ SlR (sub q.1 M2) RSource 2 16 q.2.1 q.2.2 (plAllF c l x)} (fun ⟨(_, Ag, cg), _⟩ => [(1, .v (.slice A l.length ca)), (3, .p 0 0), (5, .p 1 0), (8, .v (.slice Aw (plAllF c l x).length cw)), (9, .v (.int .i64 (pcF c l x))), (10, .v (.slice A1 l.length c1)), (11, .v (.slice Ag (plAllF c l x).length cg)), (12, .v (.int .i64 (pcF c l x)))]) (fun _ => [(1, [.string x.Name, .int .i64 x.Ver.Epoch, .int .i64 x.Ver.Seq, .int .i64 x.Size, .int .i64 x.Sum]), (0, [.int .i64 c.K, .int .i64 c.M])]) 2 (fun q => q.1.1) (by kernel_rfl) ?_ ?_
  · repeat' ((conv => whnf); first | refine AndK.mk ?_ ?_ | refine HeldK.mk (by kernel_rfl) ?_ | refine CallK.mk _ (toCode_a _ c) ?_ | refine CallQ.mk _ (toCode_a _ c) ?_ | refine CallK.mk _ (toHead_a _ x) ?_ | refine CallQ.mk _ (toHead_a _ x) ?_ | (refine CallK.mf _ (pullsOf_f _ c l _ _ (r1.mono (sub_le _ _) (RNotice.mono (sub_le _ _))) x hb) (fun v M4 hl4 fr4 hv => ?_); obtain ⟨A4, c4, rfl, r4⟩ := hv; replace hz := hl4; replace fz := fr4) | fail)
    all_goals exact ⟨⟨(_, _, _), hz, fz, r4⟩, ⟨⟨rfl, rfl, rfl, rfl, rfl, rfl, rfl, rfl, trivial⟩, ⟨rfl, rfl, trivial⟩, rfl, rfl⟩, rfl⟩
  clear hz fz
  rintro ⟨⟨M3, Ag, cg⟩, hl3, fr3, rg⟩
  simp only at hl3 fr3 rg
  (conv => whnf)
  refine CallK.mk _ (eqSourceS_a _ (plAllF c l x) _ _ _ _ (rg.mono (sub_le _ _) (fun _ _ h => h)) (rw0.mono (hl2.trans hl3) (fun _ _ h => h))) ?_
  (conv => whnf)
  refine CondK.no' (by simp) ?_
  (conv => whnf)
  refine CallK.mf _ (toNoticeS_a _ l _ _ (h0.mono (hl1.trans (hl2.trans hl3)) (RNotice.mono (hl1.trans (hl2.trans hl3)))) hs0) (fun v M4 hl4 fr4 hv => ?_)
  obtain ⟨A3, c3, rfl, r3⟩ := hv
  (conv => whnf)
  have e1 := (sub_le M2 M1).trans (hl3.trans hl4)
  refine CallK.mk _ (eqNoticeS_a _ l _ _ _ _ (r1.mono e1 (RNotice.mono e1)) r3) ?_
  (conv => whnf)
  -- mark x0
  refine CallK.mw (sub M2 M1) _ rfl (markNoticeS_a (sub M2 M1) (sub M2 M1) rfl l A1 c1 r1 hs0.1 hs0.2 1 (by decide) (by have := hs0.1; omega)) e1 (fun ad u hu => ?_) (apart fr2 (fr_trans hl3 fr3 hl4 fr4) fun ad u hu => ⟨u, hu⟩) (fun v Mx M5 hv hl5 hoff5 => ?_)
  · cases hm : M ad with
    | none => exact hm
    | some w => have := (sub_at hu).1; rw [hl1 ad w hm] at this; cases this
  obtain ⟨⟨j, rfl, hj0, hj1⟩, _⟩ := hv
  have k1 : Le M1 M5 := Le.off (hl2.trans (hl3.trans hl4)) hoff5 fun ad u hu => sub_none hu
  have k3 : Le (sub M3 M2) M5 := Le.off ((sub_le _ _).trans hl4) hoff5 fun ad u hu => by
    obtain ⟨g1, g2⟩ := sub_at hu
    unfold sub
    rw [g1]
    cases M1 ad <;> rfl
  (conv => whnf)
  refine CondK.no' (decide_eq_false (by omega)) ?_
  (conv => whnf)
  refine CallK.mk _ (eqSourceS_a _ (plAllF c l x) _ _ _ _ (rg.mono k3 (fun _ _ h => h)) (rw0.mono k1 (fun _ _ h => h))) ?_
  (conv => whnf)
  refine CondK.no' (by simp) ?_
  (conv => whnf)
  -- mark g0
  refine CallK.mw (sub M3 M2) _ rfl (markSourceS_x (sub M3 M2) (sub M3 M2) rfl (plAllF c l x) Ag cg rg (by omega) 1 (by decide) (by omega)) k3 (fun ad u hu => ?_) (apart fr3 fr4 (dom_w e1 hoff5)) (fun v Mg M6 hv hl6 hoff6 => ?_)
  · cases hm : M ad with
    | none => exact hm
    | some w => have := (sub_at hu).1; rw [hl2 ad w (hl1 ad w hm)] at this; cases this
  obtain ⟨⟨rfl, hmk⟩, _⟩ := hv
  replace hmk := hmk.mono hl6
  have k6 : Le M1 M6 := Le.off k1 hoff6 fun ad u hu => sub_none (hl2 _ _ hu)
  have kz : Le M M6 := hl1.trans k6
  (conv => whnf)
  refine CallK.mk _ (heldSourceS_a _ _ _ _ _ hmk (by omega) (by decide) (by omega)) ?_
  repeat' ((conv => whnf); first | (refine CondK.no' ?_ ?_; focus (first | (simp; done) | exact decide_eq_false (by omega))) | fail)
  have hz := Le.refl M6
  refine DrawN.h {q : Mem × Option Addr × Nat // Le M6 q.1 ∧ SlR q.1 RSource 2 16 q.2.1 q.2.2 (plAllF c l x)} (fun ⟨(_, Ah, ch), _⟩ => [(8, .v (.slice Aw (plAllF c l x).length cw)), (9, .v (.int .i64 (pcF c l x))), (11, .v (.slice Ag (plAllF c l x).length cg)), (14, .v (.int .i64 (1 + ((plAllF c l x).length : Int) * 2))), (16, .v (.slice Ah (plAllF c l x).length ch)), (17, .v (.int .i64 (pcF c l x)))]) (fun _ => []) 2 (fun q => q.1.1) (by kernel_rfl) ?_ ?_
  · repeat' ((conv => whnf); first | refine AndK.mk ?_ ?_ | refine HeldK.mk (by kernel_rfl) ?_ | refine CallK.mk _ (toCode_a _ c) ?_ | refine CallQ.mk _ (toCode_a _ c) ?_ | refine CallK.mk _ (toHead_a _ x) ?_ | refine CallQ.mk _ (toHead_a _ x) ?_ | (refine CallK.mr _ (toNoticeS_a _ l _ _ (h0.mono (kz.trans hz) (RNotice.mono (kz.trans hz))) hs0) (fun v M3 hl3 hv => ?_); replace hz := hz.trans hl3; obtain ⟨A3, c3, rfl, r2⟩ := hv) | (refine CallK.mr _ (pullsOf_f _ c l _ _ r2 x hb) (fun v M4 hl4 hv => ?_); obtain ⟨A4, c4, rfl, r4⟩ := hv; replace hz := hz.trans hl4) | fail)
    all_goals exact ⟨⟨(_, _, _), hz, r4.mono (sub_le _ _) (fun _ _ h => h)⟩, ⟨⟨rfl, rfl, rfl, rfl, rfl, rfl, trivial⟩, trivial, rfl, rfl⟩, rfl⟩
  clear hz
  rintro ⟨⟨M7, Ah, ch⟩, hl7, rh⟩
  simp only at hl7 rh
  (conv => whnf)
  refine CallK.mk _ (eqSourceS_a _ (plAllF c l x) _ _ _ _ rh (rw0.mono (k6.trans hl7) (fun _ _ h => h))) ?_
  (conv => whnf)
  refine CondK.no' (by simp) ?_
  (conv => whnf)
  refine CallK.mk _ (heldSourceS_a _ _ _ _ _ (hmk.mono hl7) (by omega) (by decide) (by omega)) ?_
  repeat' ((conv => whnf); first | (refine CondK.no' ?_ ?_; focus (first | (simp; done) | exact decide_eq_false (by omega))) | fail)
  exact RetK.mk fun _ _ _ _ => rfl
end Go.Proofs.YtpncfmjikfmlbaaGreat.Hlp
