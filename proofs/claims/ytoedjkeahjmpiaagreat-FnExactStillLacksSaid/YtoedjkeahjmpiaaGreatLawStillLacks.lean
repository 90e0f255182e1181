/- StillLacks by the light walk: the law, with its marks. -/
import Derived.Test.YtoedjkeahjmpiaaGreatFunSO
import Derived.Test.YtoedjkeahjmpiaaGreatMk
namespace Go.Proofs.YtoedjkeahjmpiaaGreat.Hlp
open Go Go.RowKit Go.Proofs Go.Proofs.YtoedjkeahjmpiaaGreat.Lw
set_option linter.unusedVariables false
set_option linter.unusedSimpArgs false
set_option maxRecDepth 100000
set_option maxHeartbeats 4000000
theorem sub_dis {A B C D : Mem} {ad : Addr} {u : Value} (hBC : Le B C) (h : sub D C ad = some u) : sub B A ad = none := by
  obtain ⟨g1, _⟩ := sub_at h
  have hb : B ad = none := by
    cases hb : B ad with
    | none => rfl
    | some v => rw [hBC ad v hb] at g1; cases g1
  unfold sub
  rw [hb]
  cases A ad <;> rfl
theorem sub_new {A B M : Mem} {ad : Addr} {u : Value} (hMA : Le M A) (h : sub B A ad = some u) : M ad = none := by
  obtain ⟨g1, _⟩ := sub_at h
  cases hm : M ad with
  | none => rfl
  | some w => rw [hMA ad w hm] at g1; cases g1
theorem dom_t {A B C : Mem} (h1 : ∀ ad u, A ad = some u → ∃ v, B ad = some v) (h2 : ∀ ad u, B ad = some u → ∃ v, C ad = some v) : ∀ ad u, A ad = some u → ∃ v, C ad = some v := fun ad u hu => let ⟨v, hv⟩ := h1 ad u hu; h2 ad v hv
theorem lawStillLacks_a (M : Mem) (x : List GInterval) (cd : GCode) (l : List GNotice) (A : Option Addr) (c : Nat) (cs1 : List Value) (B : Option Addr) (dc : Nat) (h0 : SlR M RInterval 4 48 A c x) (k1 : RCode M cd cs1) (hN : SlR M RNotice 13 168 B dc l) : AnsR Tryz.prog M 4 #[.slice A x.length c, .agg cs1.toArray, .slice B l.length dc] (fun _ v => v = .bool true) := by
  obtain ⟨rfl, _⟩ := k1
  refine ansR_of (T.at M) (l := [.slice A x.length c, .agg (List.toArray _), .slice B l.length dc]) mixed Tryz.func4 rfl (by kernel_rfl) (Nat.le_of_ble_eq_true rfl) ?_ (fun _ ad u h1 h2 => by rw [show M ad = none from h1] at h2; cases h2)
  (conv => whnf)
  refine CallK.mk _ (szIntervalS_a M x _ _ _ h0) ?_
  (conv => whnf)
  refine CondK.mk (fun hc => ?_) (fun hc => ?_)
  · exact RetK.mk fun _ _ _ _ => rfl
  have hc0 : 0 ≤ szL szInterval x 1048576 := by simpa using hc
  have hsz := szL_ok h0.len (fun y hy left h1 h2 h => let ⟨_, hr⟩ := h0.each hy; szInterval_ok hr h1 h2 h) (left := 1048576) (by decide) (by decide) hc0
  have hs0 := hsz.1
  have hc1 := hsz.2
  clear hc hsz
  (conv => whnf)
  refine CallK.mk _ (szNoticeS_a M l _ _ _ hN) ?_
  (conv => whnf)
  refine CondK.mk (fun hc => ?_) (fun hc => ?_)
  · exact RetK.mk fun _ _ _ _ => rfl
  have hs1 := (szL_ok hN.len (fun y hy left h1 h2 h => let ⟨_, hr⟩ := hN.each hy; szNotice_ok hr h1 h2 h) (left := szL szInterval x 1048576) hc0 hc1 (by simpa using hc)).1
  clear hc hc0 hc1
  have hn := slF_len x cd l
  (conv => whnf)
  have hz := Le.refl M
  refine DrawN.h {q : Mem × Option Addr × Nat // Le M q.1 ∧ SlR q.1 RInt 1 8 q.2.1 q.2.2 (slF x cd l)} (fun ⟨(_, Aw, cw), _⟩ => [(0, .v (.slice A x.length c)), (2, .v (.slice B l.length dc)), (4, .p 0 0), (8, .v (.slice Aw (slF x cd l).length cw))]) (fun _ => [(0, [.int .i64 cd.K, .int .i64 cd.M])]) 1 (fun q => q.1.1) (by kernel_rfl) ?_ ?_
  · repeat' ((conv => whnf); first | refine AndK.mk ?_ ?_ | refine HeldK.mk (by kernel_rfl) ?_ | refine CallK.mk _ (toCode_a _ cd) ?_ | refine CallQ.mk _ (toCode_a _ cd) ?_ | (refine CallK.mr _ (toIntervalS_a _ x _ _ (h0.mono hz (RInterval.mono hz)) hs0) (fun v M3 hl3 hv => ?_); replace hz := hz.trans hl3; obtain ⟨A3, c3, rfl, r0⟩ := hv) | (refine CallK.mr _ (toNoticeS_a _ l _ _ (hN.mono hz (RNotice.mono hz)) hs1) (fun v M4 hl4 hv => ?_); replace hz := hz.trans hl4; replace r0 := r0.mono hl4 (RInterval.mono hl4); obtain ⟨A4, c4, rfl, r2⟩ := hv) | (refine CallK.mr _ (sStillLacks_a _ x _ _ r0 cd l _ _ r2) (fun v M5 hl5 hv => ?_); obtain ⟨A5, c5, rfl, r5⟩ := hv; replace hz := hz.trans hl5) | fail)
    all_goals exact ⟨⟨(_, _, _), hz, r5⟩, ⟨⟨rfl, rfl, rfl, rfl, trivial⟩, ⟨rfl, trivial⟩, rfl, rfl⟩, rfl⟩
  clear hz
  rintro ⟨⟨M1, Aw, cw⟩, hl1, rw0⟩
  simp only at hl1 rw0
  (conv => whnf)
  refine CallK.mf _ (toIntervalS_f _ x _ _ (h0.mono hl1 (RInterval.mono hl1)) hs0) (fun v M2 hl2 fr2 hv => ?_)
  obtain ⟨AI, cI, rfl, rI⟩ := hv
  (conv => whnf)
  refine CallK.mf _ (toNoticeS_f _ l _ _ (hN.mono (hl1.trans hl2) (RNotice.mono (hl1.trans hl2))) hs1) (fun v M3 hl3 fr3 hv => ?_)
  obtain ⟨AN, cN, rfl, rN⟩ := hv
  repeat' ((conv => whnf); first | refine CallK.mk _ (toCode_a _ cd) ?_ | fail)
  have eI3 := (sub_le M2 M1).trans hl3
  refine CallK.mf _ (iStillLacks_f _ x _ _ (rI.mono eI3 (RInterval.mono eI3)) cd l _ _ (rN.mono (sub_le M3 M2) (RNotice.mono (sub_le M3 M2)))) (fun v M4 hl4 fr4 hv => ?_)
  obtain ⟨Ag, cg, rfl, rg⟩ := hv
  (conv => whnf)
  refine CallK.mk _ (eqInt64S_a _ (slF x cd l) _ _ _ _ (rg.mono (sub_le _ _) (fun _ _ h => h)) (rw0.mono (hl2.trans (hl3.trans hl4)) (fun _ _ h => h))) ?_
  (conv => whnf)
  have e14 := hl1.trans (hl2.trans (hl3.trans hl4))
  refine CallK.mf _ (toIntervalS_a _ x _ _ (h0.mono e14 (RInterval.mono e14)) hs0) (fun v M5 hl5 fr5 hv => ?_)
  obtain ⟨A5, c5, rfl, r5⟩ := hv
  (conv => whnf)
  have eI5 := eI3.trans (hl4.trans hl5)
  refine CallK.mk _ (eqIntervalS_a _ x _ _ _ _ (rI.mono eI5 (RInterval.mono eI5)) r5) ?_
  (conv => whnf)
  have e15 := e14.trans hl5
  refine CallK.mf _ (toNoticeS_a _ l _ _ (hN.mono e15 (RNotice.mono e15)) hs1) (fun v M6 hl6 fr6 hv => ?_)
  obtain ⟨A6, c6, rfl, r6⟩ := hv
  (conv => whnf)
  have eN6 := (sub_le M3 M2).trans (hl4.trans (hl5.trans hl6))
  refine CallK.mk _ (eqNoticeS_a _ l _ _ _ _ (rN.mono eN6 (RNotice.mono eN6)) r6) ?_
  (conv => whnf)
  have q2 : Le (sub M2 M1) M6 := eI5.trans hl6
  have q3 : Le (sub M3 M2) M6 := eN6
  have q4 : Le (sub M4 M3) M6 := (sub_le M4 M3).trans (hl5.trans hl6)
  have q1 : Le M1 M6 := hl2.trans (hl3.trans (hl4.trans (hl5.trans hl6)))
  have hd : ∀ ad u, M6 ad = some u → ∃ v, M6 ad = some v := fun ad u hu => ⟨u, hu⟩
  have f46 : Fr M4 M6 := fr_trans hl5 fr5 hl6 fr6
  have f36 : Fr M3 M6 := fr_trans hl4 fr4 (hl5.trans hl6) f46
  have f26 : Fr M2 M6 := fr_trans hl3 fr3 (hl4.trans (hl5.trans hl6)) f36
  refine CallK.mw (sub M2 M1) _ rfl (markIntervalS_a (sub M2 M1) (sub M2 M1) rfl x AI cI rI hs0.1 hs0.2 1 (by decide) (by have := hs0.1; omega)) q2 (fun ad u hu => sub_new hl1 hu) (apart fr2 f26 hd) (fun v Mx7 M7 hv hlx7 hoff7 => ?_)
  replace hd := dom_t (dom_w q2 hoff7) hd
  obtain ⟨⟨j7, rfl, hj7, hk7⟩, _⟩ := hv
  replace q3 := Le.off q3 hoff7 fun ad u hu => sub_dis (Le.refl _) hu
  replace q4 := Le.off q4 hoff7 fun ad u hu => sub_dis hl3 hu
  replace q1 := Le.off q1 hoff7 fun ad u hu => sub_none hu
  (conv => whnf)
  refine CallK.mw (sub M3 M2) _ rfl (markNoticeS_a (sub M3 M2) (sub M3 M2) rfl l AN cN rN hs1.1 hs1.2 j7 (by omega) (by have := hs1.1; have := hs0.1; omega)) q3 (fun ad u hu => sub_new (hl1.trans hl2) hu) (apart fr3 f36 hd) (fun v Mx8 M8 hv hlx8 hoff8 => ?_)
  replace hd := dom_t (dom_w q3 hoff8) hd
  obtain ⟨⟨j8, rfl, hj8, hk8⟩, _⟩ := hv
  replace q4 := Le.off q4 hoff8 fun ad u hu => sub_dis (Le.refl _) hu
  replace q1 := Le.off q1 hoff8 fun ad u hu => sub_none (hl2 _ _ hu)
  (conv => whnf)
  try (refine CondK.no' (decide_eq_false (by omega)) ?_; (conv => whnf))
  refine CallK.mk _ (eqInt64S_a _ (slF x cd l) _ _ _ _ (rg.mono q4 (fun _ _ h => h)) (rw0.mono q1 (fun _ _ h => h))) ?_
  (conv => whnf)
  refine CallK.mw (sub M4 M3) _ rfl (markInt64S_x (sub M4 M3) (sub M4 M3) rfl (slF x cd l) Ag cg rg (by omega) 1 (by decide) (by omega)) q4 (fun ad u hu => sub_new (hl1.trans (hl2.trans hl3)) hu) (apart fr4 f46 hd) (fun v Mg M9 hv hlg hoff9 => ?_)
  obtain ⟨⟨rfl, hmk⟩, _⟩ := hv
  replace hmk := hmk.mono hlg
  have k6 : Le M1 M9 := Le.off q1 hoff9 fun ad u hu => sub_none ((hl2.trans hl3) _ _ hu)
  have kz : Le M M9 := hl1.trans k6
  (conv => whnf)
  refine CallK.mk _ (heldInt64S_a _ _ _ _ _ hmk (by omega) (by decide) (by omega)) ?_
  repeat' ((conv => whnf); first | (refine CondK.no' ?_ ?_; focus (first | (simp; done) | exact decide_eq_false (by omega))) | fail)
  have hz := Le.refl M9
  replace h0 := h0.mono kz (RInterval.mono kz)
  replace hN := hN.mono kz (RNotice.mono kz)
  refine DrawN.h {q : Mem × Option Addr × Nat // Le M9 q.1 ∧ SlR q.1 RInt 1 8 q.2.1 q.2.2 (slF x cd l)} (fun ⟨(_, Ah, ch), _⟩ => [(8, .v (.slice Aw (slF x cd l).length cw)), (11, .v (.slice Ag (slF x cd l).length cg)), (13, .v (.int .i64 (1 + ((slF x cd l).length : Int) * 1))), (15, .v (.slice Ah (slF x cd l).length ch))]) (fun _ => []) 1 (fun q => q.1.1) (by kernel_rfl) ?_ ?_
  · repeat' ((conv => whnf); first | refine AndK.mk ?_ ?_ | refine HeldK.mk (by kernel_rfl) ?_ | refine CallK.mk _ (toCode_a _ cd) ?_ | refine CallQ.mk _ (toCode_a _ cd) ?_ | (refine CallK.mr _ (toIntervalS_a _ x _ _ (h0.mono hz (RInterval.mono hz)) hs0) (fun v M3 hl3 hv => ?_); replace hz := hz.trans hl3; obtain ⟨A3, c3, rfl, r0⟩ := hv) | (refine CallK.mr _ (toNoticeS_a _ l _ _ (hN.mono hz (RNotice.mono hz)) hs1) (fun v M4 hl4 hv => ?_); replace hz := hz.trans hl4; replace r0 := r0.mono hl4 (RInterval.mono hl4); obtain ⟨A4, c4, rfl, r2⟩ := hv) | (refine CallK.mr _ (iStillLacks_f _ x _ _ r0 cd l _ _ r2) (fun v M5 hl5 hv => ?_); obtain ⟨A5, c5, rfl, r5⟩ := hv; replace hz := hz.trans hl5) | fail)
    all_goals exact ⟨⟨(_, _, _), hz, r5.mono (sub_le _ _) (fun _ _ h => h)⟩, ⟨⟨rfl, rfl, rfl, rfl, trivial⟩, trivial, rfl, rfl⟩, rfl⟩
  clear hz
  rintro ⟨⟨Mh, Ah, ch⟩, hlh, rh⟩
  simp only at hlh rh
  (conv => whnf)
  refine CallK.mk _ (eqInt64S_a _ (slF x cd l) _ _ _ _ rh (rw0.mono (k6.trans hlh) (fun _ _ h => h))) ?_
  (conv => whnf)
  refine CallK.mk _ (heldInt64S_a _ _ _ _ _ (hmk.mono hlh) (by omega) (by decide) (by omega)) ?_
  repeat' ((conv => whnf); first | (refine CondK.no' ?_ ?_; focus (first | (simp; done) | exact decide_eq_false (by omega))) | fail)
  exact RetK.mk fun _ _ _ _ => rfl
end Go.Proofs.YtoedjkeahjmpiaaGreat.Hlp
