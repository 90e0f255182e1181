/- CanFill by the light walk: the law. -/
import Derived.Test.YtfeeeapiimglnaaGreatFunW
import Derived.Test.YtfeeeapiimglnaaGreatHlpF
namespace Go.Proofs.YtfeeeapiimglnaaGreat.Hlp
open Go Go.RowKit Go.Proofs Go.Proofs.YtfeeeapiimglnaaGreat.Lw
set_option linter.unusedVariables false
set_option linter.unusedSimpArgs false
set_option maxRecDepth 100000
set_option maxHeartbeats 4000000
theorem lawCanFill_a (M : Mem) (c : GCode) (l : List GNotice) (x : GHead) (cs0 : List Value) (A : Option Addr) (ca : Nat) (cs2 : List Value) (k0 : RCode M c cs0) (h0 : SlR M RNotice 13 168 A ca l) (k2 : RHead M x cs2) : AnsR Tryz.prog M 3 #[.agg cs0.toArray, .slice A l.length ca, .agg cs2.toArray] (fun _ v => v = .bool true) := by
  have k2' := k2
  obtain ⟨rfl, _⟩ := k0
  obtain ⟨rfl, hb⟩ := k2
  refine ansR_of T (l := [.agg (List.toArray _), .slice A l.length ca, .agg (List.toArray _)]) mixed Tryz.func3 rfl (by kernel_rfl) (Nat.le_of_ble_eq_true rfl) ?_
  (conv => whnf)
  refine CallK.mk _ (szNoticeS_a M l _ _ _ h0) ?_
  (conv => whnf)
  refine CondK.mk (fun hc => ?_) (fun hc => ?_)
  · exact RetK.mk fun _ _ _ _ => rfl
  have hs0 := (szL_ok h0.len (fun y hy left h1 h2 h => let ⟨_, hr⟩ := h0.each hy; szNotice_ok hr h1 h2 h) (left := 1048576) (by decide) (by decide) (by simpa using hc)).1
  (conv => whnf)
  refine CallK.mk _ (szHead_a M x _) ?_
  (conv => whnf)
  refine CondK.mk (fun hc => ?_) (fun hc => ?_)
  · exact RetK.mk fun _ _ _ _ => rfl
  (conv => whnf)
  have hz := Le.refl M
  refine DrawN.h {N : Mem // Le M N} (fun _ => [(1, .v (.slice A l.length ca)), (3, .p 0 0), (5, .p 1 0), (8, .v (.bool (canAllF c l x)))]) (fun _ => [(1, [.string x.Name, .int .i64 x.Ver.Epoch, .int .i64 x.Ver.Seq, .int .i64 x.Size, .int .i64 x.Sum]), (0, [.int .i64 c.K, .int .i64 c.M])]) 2 (fun N => N.1) (by kernel_rfl) ?_ ?_
  · repeat' ((conv => whnf); first | refine AndK.mk ?_ ?_ | refine HeldK.mk (by kernel_rfl) ?_ | refine CallK.mk _ (toCode_a _ c) ?_ | refine CallQ.mk _ (toCode_a _ c) ?_ | refine CallK.mk _ (toHead_a _ x) ?_ | refine CallQ.mk _ (toHead_a _ x) ?_ | (refine CallK.mr _ (toNoticeS_a _ l _ _ (h0.mono hz (RNotice.mono hz)) hs0) (fun v M3 hl3 hv => ?_); replace hz := hz.trans hl3; obtain ⟨A3, c3, rfl, r2⟩ := hv) | (refine CallK.mr _ (sCanFill_a _ c l _ _ r2 x hb) (fun v M4 hl4 hv => ?_); subst hv; replace hz := hz.trans hl4) | fail)
    all_goals exact ⟨⟨_, hz⟩, ⟨⟨rfl, rfl, rfl, rfl, trivial⟩, ⟨rfl, rfl, trivial⟩, rfl, rfl⟩, rfl⟩
  clear hz
  rintro ⟨M1, hl1⟩
  replace h0 := h0.mono hl1 (RNotice.mono hl1)
  (conv => whnf)
  refine CallK.mr _ (toNoticeS_a _ l _ _ h0 hs0) (fun v M2 hl2 hv => ?_)
  obtain ⟨A1, c1, rfl, r1⟩ := hv
  replace h0 := h0.mono hl2 (RNotice.mono hl2)
  (conv => whnf)
  have hz := Le.refl M2
  refine DrawN.h {N : Mem // Le M2 N} (fun _ => [(1, .v (.slice A l.length ca)), (8, .v (.bool (canAllF c l x))), (9, .v (.slice A1 l.length c1)), (10, .v (.bool (canAllF c l x)))]) (fun _ => []) 2 (fun N => N.1) (by kernel_rfl) ?_ ?_
  · repeat' ((conv => whnf); first | refine AndK.mk ?_ ?_ | refine HeldK.mk (by kernel_rfl) ?_ | refine CallK.mk _ (toCode_a _ c) ?_ | refine CallQ.mk _ (toCode_a _ c) ?_ | refine CallK.mk _ (toHead_a _ x) ?_ | refine CallQ.mk _ (toHead_a _ x) ?_ | (refine CallK.mr _ (canFill_a _ c l _ _ (r1.mono hz (RNotice.mono hz)) x hb) (fun v M4 hl4 hv => ?_); subst hv; replace hz := hz.trans hl4) | fail)
    all_goals exact ⟨⟨_, hz⟩, ⟨⟨rfl, rfl, rfl, rfl, trivial⟩, trivial, rfl, rfl⟩, rfl⟩
  clear hz
  rintro ⟨M3, hl3⟩
  replace h0 := h0.mono hl3 (RNotice.mono hl3)
  replace r1 := r1.mono hl3 (RNotice.mono hl3)
  (conv => whnf)
  refine CondK.no' (by simp) ?_
  (conv => whnf)
  refine CallK.mr _ (toNoticeS_a _ l _ _ h0 hs0) (fun v M4 hl4 hv => ?_)
  obtain ⟨A3, c3, rfl, r2⟩ := hv
  (conv => whnf)
  refine CallK.mk _ (eqNoticeS_a _ l _ _ _ _ (r1.mono hl4 (RNotice.mono hl4)) r2) ?_
  (conv => whnf)
  exact RetK.mk fun _ _ _ _ => rfl
end Go.Proofs.YtfeeeapiimglnaaGreat.Hlp
