/- The law FnExactVerOf by the light walk: it answers true. -/
import Derived.Test.YtoedjkeahjmpiaaGreatFunVI
namespace Go.Proofs.YtoedjkeahjmpiaaGreat.Hlp
open Go Go.RowKit Go.Proofs Go.Proofs.YtoedjkeahjmpiaaGreat.Lw
set_option linter.unusedVariables false
set_option linter.unusedSimpArgs false
set_option maxRecDepth 100000
set_option maxHeartbeats 4000000
theorem lawVerOf_a (M : Mem) (x : List GInterval) (cd : GCode) (l : List GNotice) (A : Option Addr) (c : Nat) (cs1 : List Value) (B : Option Addr) (dc : Nat) (h0 : SlR M RInterval 4 48 A c x) (k1 : RCode M cd cs1) (h2 : SlR M RNotice 13 168 B dc l) : AnsR Tryz.prog M 3 #[.slice A x.length c, .agg cs1.toArray, .slice B l.length dc] (fun _ v => v = .bool true) := by
  obtain ⟨rfl, _⟩ := k1
  refine ansR_of T (l := [.slice A x.length c, .agg (List.toArray _), .slice B l.length dc]) mixed Tryz.func3 rfl (by kernel_rfl) (Nat.le_of_ble_eq_true rfl) ?_
  (conv => whnf)
  refine CallK.mk _ (szIntervalS_a M x _ _ _ h0) ?_
  (conv => whnf)
  refine CondK.mk (fun hc => ?_) (fun hc => ?_)
  · exact RetK.mk fun _ _ _ _ => rfl
  have hc0 : 0 ≤ szL szInterval x 1048576 := by simpa using hc
  have hsz := szL_ok h0.len (fun y hy left h1 h2 h => let ⟨_, hr⟩ := h0.each hy; szInterval_ok hr h1 h2 h) (left := 1048576) (by decide) (by decide) hc0
  have hs0 := hsz.1
  have hc1 := hsz.2
  clear hc hsz
  (conv => whnf)
  refine CallK.mk _ (szNoticeS_a M l _ _ _ h2) ?_
  (conv => whnf)
  refine CondK.mk (fun hc => ?_) (fun hc => ?_)
  · exact RetK.mk fun _ _ _ _ => rfl
  have hs2 := (szL_ok h2.len (fun y hy left h1 h2 h => let ⟨_, hr⟩ := ‹SlR M RNotice 13 168 B dc l›.each hy; szNotice_ok hr h1 h2 h) (left := szL szInterval x 1048576) hc0 hc1 (by simpa using hc)).1
  clear hc hc0 hc1
  (conv => whnf)
  have hz := Le.refl M
  refine DrawN.h {N : Mem // Le M N} (fun _ => [(0, .v (.slice A x.length c)), (2, .v (.slice B l.length dc)), (4, .p 0 0), (8, .p 1 0), (9, .v (.int .i64 (voF x cd l).2))]) (fun _ => [(1, [.int .i64 (voF x cd l).1.Epoch, .int .i64 (voF x cd l).1.Seq]), (0, [.int .i64 cd.K, .int .i64 cd.M])]) 2 (fun N => N.1) (by kernel_rfl) ?_ ?_
  · repeat' ((conv => whnf); first | refine AndK.mk ?_ ?_ | refine HeldK.mk (by kernel_rfl) ?_ | refine CallK.mk _ (toCode_a _ cd) ?_ | refine CallQ.mk _ (toCode_a _ cd) ?_ | (refine CallK.mr _ (toIntervalS_a _ x _ _ (h0.mono hz (RInterval.mono hz)) hs0) (fun v M3 hl3 hv => ?_); replace hz := hz.trans hl3; obtain ⟨A3, c3, rfl, r0⟩ := hv) | (refine CallK.mr _ (toNoticeS_a _ l _ _ (h2.mono hz (RNotice.mono hz)) hs2) (fun v M4 hl4 hv => ?_); replace hz := hz.trans hl4; replace r0 := r0.mono hl4 (RInterval.mono hl4); obtain ⟨A4, c4, rfl, r2⟩ := hv) | (refine CallK.mr _ (sVerOf_r _ x _ _ r0 cd l _ _ r2) (fun v M5 hl5 hv => ?_); obtain rfl := hv; replace hz := hz.trans hl5) | fail)
    all_goals exact ⟨⟨_, hz⟩, ⟨⟨rfl, rfl, rfl, rfl, rfl, trivial⟩, ⟨rfl, rfl, trivial⟩, rfl, rfl⟩, rfl⟩
  clear hz
  rintro ⟨M1, hl1⟩
  (conv => whnf)
  replace h0 := h0.mono hl1 (RInterval.mono hl1)
  replace h2 := h2.mono hl1 (RNotice.mono hl1)
  refine CallK.mr _ (toIntervalS_a _ x _ _ h0 hs0) (fun v M2 hl2 hv => ?_)
  obtain ⟨A2, c2, rfl, r0⟩ := hv
  replace h0 := h0.mono hl2 (RInterval.mono hl2)
  replace h2 := h2.mono hl2 (RNotice.mono hl2)
  (conv => whnf)
  refine CallK.mr _ (toNoticeS_a _ l _ _ h2 hs2) (fun v M3 hl3 hv => ?_)
  obtain ⟨A3, c3, rfl, r2⟩ := hv
  replace h0 := h0.mono hl3 (RInterval.mono hl3)
  replace h2 := h2.mono hl3 (RNotice.mono hl3)
  replace r0 := r0.mono hl3 (RInterval.mono hl3)
  repeat' ((conv => whnf); first | refine CallK.mk _ (toCode_a _ cd) ?_ | fail)
  refine CallK.mr _ (iVerOf_r _ x _ _ r0 cd l _ _ r2) (fun v M4 hl4 hv => ?_)
  obtain rfl := hv
  replace h0 := h0.mono hl4 (RInterval.mono hl4)
  replace h2 := h2.mono hl4 (RNotice.mono hl4)
  replace r0 := r0.mono hl4 (RInterval.mono hl4)
  replace r2 := r2.mono hl4 (RNotice.mono hl4)
  (conv => whnf)
  refine CallK.mk _ (eqVer_a _ (voF x cd l).1) ?_
  (conv => whnf)
  refine CondK.no' (by simp) ?_
  (conv => whnf)
  refine CallK.mr _ (toIntervalS_a _ x _ _ h0 hs0) (fun v M5 hl5 hv => ?_)
  obtain ⟨A5, c5, rfl, r5⟩ := hv
  replace h2 := h2.mono hl5 (RNotice.mono hl5)
  replace r0 := r0.mono hl5 (RInterval.mono hl5)
  replace r2 := r2.mono hl5 (RNotice.mono hl5)
  (conv => whnf)
  refine CallK.mk _ (eqIntervalS_a _ x _ _ _ _ r0 r5) ?_
  (conv => whnf)
  refine CallK.mr _ (toNoticeS_a _ l _ _ h2 hs2) (fun v M6 hl6 hv => ?_)
  obtain ⟨A6, c6, rfl, r6⟩ := hv
  (conv => whnf)
  refine CallK.mk _ (eqNoticeS_a _ l _ _ _ _ (r2.mono hl6 (RNotice.mono hl6)) r6) ?_
  (conv => whnf)
  exact RetK.mk fun _ _ _ _ => rfl
end Go.Proofs.YtoedjkeahjmpiaaGreat.Hlp
