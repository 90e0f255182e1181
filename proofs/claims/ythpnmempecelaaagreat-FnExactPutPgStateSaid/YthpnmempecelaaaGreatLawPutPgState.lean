/- The law FnExactPutPgState by the light walk: it answers true. -/
import Derived.Test.YthpnmempecelaaaGreatFunPT
namespace Go.Proofs.YthpnmempecelaaaGreat.Hlp
open Go Go.RowKit Go.Proofs Go.Proofs.YthpnmempecelaaaGreat.Lw
set_option linter.unusedVariables false
set_option linter.unusedSimpArgs false
set_option maxRecDepth 100000
set_option maxHeartbeats 4000000
theorem lawPutPgState_a (M : Mem) (x : GPgState) (cs : List Value) (h0 : RPgState M x cs) : AnsR Tryz.prog M 3 #[.agg cs.toArray] (fun _ v => v = .bool true) := by
  have h1 := h0
  obtain ⟨A0, c0, A1, c1, A2, c2, A3, c3, rfl, _⟩ := h1
  refine ansR_of T (l := [.agg (List.toArray _)]) mixed Tryz.func3 rfl (by kernel_rfl) (Nat.le_of_ble_eq_true rfl) ?_
  (conv => whnf)
  refine CallK.mk _ (szPgState_a M x _ _ h0) ?_
  (conv => whnf)
  refine CondK.mk (fun hc => ?_) (fun hc => ?_)
  · exact RetK.mk fun _ _ _ _ => rfl
  have hs0 := (szPgState_ok h0 (left := 1048576) (by decide) (by decide) (by simpa using hc)).1
  clear hc
  (conv => whnf)
  refine CallK.mr _ (toPgState_a _ x _ h0 hs0) (fun v M1 hl1 hv => ?_)
  obtain ⟨cs1, rfl, r0⟩ := hv
  replace h0 := RPgState.mono hl1 _ _ h0
  (conv => whnf)
  refine CallK.mk _ (sPutPgState_a _ x _ r0) ?_
  (conv => whnf)
  refine CallK.mr _ (toPgState_a _ x _ h0 hs0) (fun v M2 hl2 hv => ?_)
  obtain ⟨cs2, rfl, r1⟩ := hv
  replace h0 := RPgState.mono hl2 _ _ h0
  have r1' := r1
  obtain ⟨B0, d0, B1, d1, B2, d2, B3, d3, rfl, _⟩ := r1'
  (conv => whnf)
  refine CallK.mk _ (putPgState_a _ x _ r1) ?_
  (conv => whnf)
  refine CondK.no' (by simp) ?_
  (conv => whnf)
  have hz := Le.refl M2
  refine DrawN.h {N : Mem // Le M2 N} (fun _ => [(26, .v (.bool false))]) (fun _ => []) 9 (fun N => N.1) (by kernel_rfl) ?_ ?_
  · repeat' ((conv => whnf); first | refine AndK.mk ?_ ?_ | refine HeldK.mk (by kernel_rfl) ?_ | (refine CallK.mr _ (toPgState_a _ x _ (RPgState.mono hz _ _ h0) hs0) (fun v M3 hl3 hv => ?_); replace hz := hz.trans hl3; replace r1 := RPgState.mono hl3 _ _ r1; obtain ⟨cs3, rfl, r2⟩ := hv) | refine CallK.mk _ (eqPgState_a _ x _ _ r1 r2) ?_ | fail)
    all_goals exact ⟨⟨_, hz⟩, ⟨⟨rfl, trivial⟩, trivial, rfl, rfl⟩, rfl⟩
  rintro ⟨N, hN⟩
  (conv => whnf)
  exact RetK.mk fun _ _ _ _ => rfl
end Go.Proofs.YthpnmempecelaaaGreat.Hlp
