/- The law FnExactNetOk by the light walk: it answers true. -/
import Derived.Test.YtpflpmdbgnmamaaGreatFunR
namespace Go.Proofs.YtpflpmdbgnmamaaGreat.Hlp
open Go Go.RowKit Go.Proofs Go.Proofs.YtpflpmdbgnmamaaGreat.Lw
set_option linter.unusedVariables false
set_option linter.unusedSimpArgs false
set_option maxRecDepth 100000
set_option maxHeartbeats 4000000
theorem lawNetOk_a (M : Mem) (x : GNet) (cs : List Value) (h0 : RNet M x cs) : AnsR Tryz.prog M 10 #[.agg cs.toArray] (fun _ v => v = .bool true) := by
  have h1 := h0
  obtain ⟨A0, c0, A1, c1, rfl, _⟩ := h1
  refine ansR_of T (l := [.agg (List.toArray _)]) mixed Tryz.func10 rfl (by kernel_rfl) (Nat.le_of_ble_eq_true rfl) ?_
  (conv => whnf)
  refine CallK.mk _ (szNet_a M x _ _ h0) ?_
  (conv => whnf)
  refine CondK.mk (fun hc => ?_) (fun hc => ?_)
  · exact RetK.mk fun _ _ _ _ => rfl
  have hs0 := (szNet_ok h0 (left := 1048576) (by decide) (by decide) (by simpa using hc)).1
  clear hc
  (conv => whnf)
  refine CallK.mr _ (toNet_a _ x _ h0 hs0) (fun v M1 hl1 hv => ?_)
  obtain ⟨cs1, rfl, r0⟩ := hv
  replace h0 := RNet.mono hl1 _ _ h0
  (conv => whnf)
  refine CallK.mk _ (sNetOk_a _ x _ r0) ?_
  (conv => whnf)
  refine CallK.mr _ (toNet_a _ x _ h0 hs0) (fun v M2 hl2 hv => ?_)
  obtain ⟨cs2, rfl, r1⟩ := hv
  replace h0 := RNet.mono hl2 _ _ h0
  have r1' := r1
  obtain ⟨B0, d0, B1, d1, rfl, _⟩ := r1'
  (conv => whnf)
  refine CallK.mr _ (netOk_a _ x _ r1) (fun v M3 hl3 hv => ?_)
  subst hv
  replace h0 := RNet.mono hl3 _ _ h0
  replace r1 := RNet.mono hl3 _ _ r1
  (conv => whnf)
  refine CondK.no' (by simp) ?_
  (conv => whnf)
  have hz := Le.refl M3
  refine DrawN.h {N : Mem // Le M3 N} (fun _ => [(26, .v (.bool false))]) (fun _ => []) 9 (fun N => N.1) (by kernel_rfl) ?_ ?_
  · repeat' ((conv => whnf); first | refine AndK.mk ?_ ?_ | refine HeldK.mk (by kernel_rfl) ?_ | (refine CallK.mr _ (toNet_a _ x _ (RNet.mono hz _ _ h0) hs0) (fun v M4 hl4 hv => ?_); replace hz := hz.trans hl4; replace r1 := RNet.mono hl4 _ _ r1; obtain ⟨cs3, rfl, r2⟩ := hv) | refine CallK.mk _ (eqNet_a _ x _ _ r1 r2) ?_ | fail)
    all_goals exact ⟨⟨_, hz⟩, ⟨⟨rfl, trivial⟩, trivial, rfl, rfl⟩, rfl⟩
  rintro ⟨N, hN⟩
  (conv => whnf)
  exact RetK.mk fun _ _ _ _ => rfl
end Go.Proofs.YtpflpmdbgnmamaaGreat.Hlp
