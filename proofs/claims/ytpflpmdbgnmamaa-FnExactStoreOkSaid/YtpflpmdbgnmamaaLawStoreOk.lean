/- The law FnExactStoreOk by the light walk: it answers true. -/
import Derived.Test.YtpflpmdbgnmamaaFunK
namespace Go.Proofs.Ytpflpmdbgnmamaa.Hlp
open Go Go.RowKit Go.Proofs Go.Proofs.Ytpflpmdbgnmamaa.Lw
set_option linter.unusedVariables false
set_option linter.unusedSimpArgs false
set_option maxRecDepth 100000
set_option maxHeartbeats 4000000
theorem lawStoreOk_a (M : Mem) (x : GStore) (cs : List Value) (h0 : RStore M x cs) : AnsR Try.prog M 6 #[.agg cs.toArray] (fun _ v => v = .bool true) := by
  have h1 := h0
  obtain ⟨A0, c0, A1, c1, rfl, _⟩ := h1
  refine ansR_of T (l := [.agg (List.toArray _)]) mixed Try.func6 rfl (by kernel_rfl) (Nat.le_of_ble_eq_true rfl) ?_
  (conv => whnf)
  refine CallK.mk _ (szStore_a M x _ _ h0) ?_
  (conv => whnf)
  refine CondK.mk (fun hc => ?_) (fun hc => ?_)
  · exact RetK.mk fun _ _ _ _ => rfl
  have hs0 := (szStore_ok h0 (left := 1048576) (by decide) (by decide) (by simpa using hc)).1
  clear hc
  (conv => whnf)
  refine CallK.mr _ (toStore_a _ x _ h0 hs0) (fun v M1 hl1 hv => ?_)
  obtain ⟨cs1, rfl, r0⟩ := hv
  replace h0 := RStore.mono hl1 _ _ h0
  (conv => whnf)
  refine CallK.mk _ (sStoreOk_a _ x _ r0) ?_
  (conv => whnf)
  refine CallK.mr _ (toStore_a _ x _ h0 hs0) (fun v M2 hl2 hv => ?_)
  obtain ⟨cs2, rfl, r1⟩ := hv
  replace h0 := RStore.mono hl2 _ _ h0
  have r1' := r1
  obtain ⟨B0, d0, B1, d1, rfl, _⟩ := r1'
  (conv => whnf)
  refine CallK.mk _ (storeOk_a _ x _ r1) ?_
  (conv => whnf)
  refine CondK.no' (by simp) ?_
  (conv => whnf)
  have hz := Le.refl M2
  refine DrawN.a {N : Mem // Le M2 N} (fun _ => [(26, .v (.bool false))]) (fun _ => []) 0 (fun N => N.1) ?_ ?_
  · repeat' ((conv => whnf); first | refine AndK.mk ?_ ?_ | (refine CallK.mr _ (toStore_a _ x _ (RStore.mono hz _ _ h0) hs0) (fun v M3 hl3 hv => ?_); replace hz := hz.trans hl3; replace r1 := RStore.mono hl3 _ _ r1; obtain ⟨cs3, rfl, r2⟩ := hv) | refine CallK.mk _ (eqStore_a _ x _ _ r1 r2) ?_ | fail)
    all_goals exact ⟨⟨_, hz⟩, ⟨⟨rfl, trivial⟩, trivial, rfl, rfl⟩, rfl⟩
  rintro ⟨N, hN⟩
  (conv => whnf)
  exact RetK.mk fun _ _ _ _ => rfl
end Go.Proofs.Ytpflpmdbgnmamaa.Hlp
