/- The law FnExactSearchLine by the light walk: it answers true. -/
import Derived.Test.YthlnapamdcmlkaaFunCI
namespace Go.Proofs.Ythlnapamdcmlkaa.Hlp
open Go Go.RowKit Go.Proofs Go.Proofs.Ythlnapamdcmlkaa.Lw Go.Proofs.Ythlnapamdcmlkaa.SL
set_option linter.unusedVariables false
set_option linter.unusedSimpArgs false
set_option maxRecDepth 100000
set_option maxHeartbeats 4000000
theorem bef_irr {l : List GCall} (h : callsOkF l = true) : ∀ a ∈ l, befF a a = false := fun a ha => by
  have h1 := (callOk_op (callsOk_each h a ha)).2.2.1
  unfold befF
  by_cases he : a.End = 0
  · simp [he]
  · have := h1 he
    rw [decide_eq_false (show ¬ a.End < a.Begin by omega), Bool.and_false]
theorem lawSearchLine_a (M : Mem) (x : List GCall) (A : Option Addr) (c : Nat) (h0 : SlR M RCall 14 136 A c x) : AnsR Try.prog M 3 #[.slice A x.length c] (fun _ v => v = .bool true) := by
  refine ansR_of T (l := [.slice A x.length c]) mixed Try.func3 rfl (by kernel_rfl) (Nat.le_of_ble_eq_true rfl) ?_
  (conv => whnf)
  refine CallK.mk _ (szCallS_a M x _ _ _ h0) ?_
  (conv => whnf)
  refine CondK.mk (fun hc => ?_) (fun hc => ?_)
  · exact RetK.mk fun _ _ _ _ => rfl
  have hs0 := (szL_ok h0.len (fun y hy left h1 h2 h => let ⟨_, hr⟩ := h0.each hy; szCall_ok hr h1 h2 h) (left := 1048576) (by decide) (by decide) (by simpa using hc)).1
  clear hc
  (conv => whnf)
  refine CallK.mr _ (toCallS_a _ x _ _ h0 hs0) (fun v M1 hl1 hv => ?_)
  obtain ⟨A1, c1, rfl, r0⟩ := hv
  replace h0 := h0.mono hl1 (RCall.mono hl1)
  (conv => whnf)
  refine CallK.mr _ (sSearch_a _ x _ _ r0) (fun v M2 hl2 hv => ?_)
  obtain ⟨b1, rfl, hb1⟩ := hv
  replace h0 := h0.mono hl2 (RCall.mono hl2)
  (conv => whnf)
  refine CallK.mr _ (toCallS_a _ x _ _ h0 hs0) (fun v M3 hl3 hv => ?_)
  obtain ⟨A2, c2, rfl, r1⟩ := hv
  replace h0 := h0.mono hl3 (RCall.mono hl3)
  (conv => whnf)
  refine CallK.mr _ (iSearch_a _ x _ _ r1) (fun v M4 hl4 hv => ?_)
  obtain ⟨b2, rfl, hb2⟩ := hv
  replace h0 := h0.mono hl4 (RCall.mono hl4)
  have hbb : b2 = b1 := by
    rw [Bool.eq_iff_iff, hb1, hb2]
    exact and_congr_right fun hs => cho_find' befF rdF countsF stepC x _ (bef_irr (searchF_kind hs).2.1)
  subst hbb
  (conv => whnf)
  refine CondK.no' (by simp) ?_
  (conv => whnf)
  refine CallK.mr _ (toCallS_a _ x _ _ h0 hs0) (fun v M5 hl5 hv => ?_)
  obtain ⟨A3, c3, rfl, r2⟩ := hv
  (conv => whnf)
  refine CallK.mk _ (eqCallS_a _ x _ _ _ _ ((r1.mono hl4 (RCall.mono hl4)).mono hl5 (RCall.mono hl5)) r2) ?_
  (conv => whnf)
  exact RetK.mk fun _ _ _ _ => rfl
end Go.Proofs.Ythlnapamdcmlkaa.Hlp
