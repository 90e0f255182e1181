/- Chosen: the law, with its marks. -/
import Derived.Test.YtmmgknhefobloaaFunMJ
import Derived.Test.YtmmgknhefobloaaMk
namespace Go.Proofs.Ytmmgknhefobloaa.Hlp
open Go Go.RowKit Go.Proofs Go.Proofs.Ytmmgknhefobloaa.Lw
set_option linter.unusedVariables false
set_option linter.unusedSimpArgs false
set_option maxRecDepth 100000
set_option maxHeartbeats 4000000
theorem chF_len (l : List GMon) (e : Int) : (chF l e).length ≤ 5 := by
  unfold chF
  cases hm : monsF l with
  | false => simp
  | true =>
    have h1 := ch_len l e (balsF l e)
    have h2 := bals_len l e
    have h3 := mons_len hm
    simp only [if_true]
    omega
theorem lawChosen_a (M : Mem) (l : List GMon) (e : Int) (A : Option Addr) (ca : Nat) (h0 : SlR M RMon 15 168 A ca l) : AnsR Try.prog M 3 #[.slice A l.length ca, .int .i64 e] (fun _ v => v = .bool true) := by
  refine ansR_of (T.at M) (l := [.slice A l.length ca, .int .i64 e]) mixed Try.func3 rfl (by kernel_rfl) (Nat.le_of_ble_eq_true rfl) ?_ (fun _ ad u h1 h2 => by rw [show M ad = none from h1] at h2; cases h2)
  (conv => whnf)
  refine CallK.mk _ (szMonS_a M l _ _ _ h0) ?_
  (conv => whnf)
  refine CondK.mk (fun hc => ?_) (fun hc => ?_)
  · exact RetK.mk fun _ _ _ _ => rfl
  have hs0 := (szL_ok h0.len (fun y hy left h1 h2 h => let ⟨_, hr⟩ := h0.each hy; szMon_ok hr h1 h2 h) (left := 1048576) (by decide) (by decide) (by simpa using hc)).1
  clear hc
  have hn := chF_len l e
  (conv => whnf)
  refine CallK.mr _ (toMonS_a _ l _ _ h0 hs0) (fun v Ma hla hv => ?_)
  obtain ⟨Aa, cb, rfl, ra⟩ := hv
  (conv => whnf)
  refine CallK.mr _ (sChosen_a _ l _ _ ra e) (fun v M1 hl1' hv => ?_)
  obtain ⟨Aw, cw, rfl, rw0⟩ := hv
  have hl1 := hla.trans hl1'
  clear hl1' ra
  (conv => whnf)
  -- x0
  refine CallK.mf _ (toMonS_f _ l _ _ (h0.mono hl1 (RMon.mono hl1)) hs0) (fun v M2 hl2 fr2 hv => ?_)
  obtain ⟨A1, c1, rfl, r1⟩ := hv
  (conv => whnf)
  -- g0
  refine CallK.mf _ (iChosen_f _ l _ _ (r1.mono (sub_le _ _) (RMon.mono (sub_le _ _))) e) (fun v M3 hl3 fr3 hv => ?_)
  obtain ⟨Ag, cg, rfl, rg⟩ := hv
  (conv => whnf)
  refine CallK.mk _ (eqIncS_a _ (chF l e) _ _ _ _ (rg.mono (sub_le _ _) (fun _ _ h => h)) (rw0.mono (hl2.trans hl3) (fun _ _ h => h))) ?_
  repeat' ((conv => whnf); first | (refine CondK.no' ?_ ?_; focus (first | (simp; done) | exact decide_eq_false (by omega))) | fail)
  refine CallK.mf _ (toMonS_a _ l _ _ (h0.mono (hl1.trans (hl2.trans hl3)) (RMon.mono (hl1.trans (hl2.trans hl3)))) hs0) (fun v M4 hl4 fr4 hv => ?_)
  obtain ⟨A3, c3, rfl, r3⟩ := hv
  (conv => whnf)
  have e1 := (sub_le M2 M1).trans (hl3.trans hl4)
  refine CallK.mk _ (eqMonS_a _ l _ _ _ _ (r1.mono e1 (RMon.mono e1)) r3) ?_
  (conv => whnf)
  -- mark x0
  refine CallK.mw (sub M2 M1) _ rfl (markMonS_a (sub M2 M1) (sub M2 M1) rfl l A1 c1 r1 hs0.1 hs0.2 1 (by decide) (by have := hs0.1; omega)) e1 (fun ad u hu => ?_) (apart fr2 (fr_trans hl3 fr3 hl4 fr4) fun ad u hu => ⟨u, hu⟩) (fun v Mx M5 hv hl5 hoff5 => ?_)
  · cases hm : M ad with
    | none => exact hm
    | some w => have := (sub_at hu).1; rw [hl1 ad w hm] at this; cases this
  obtain ⟨⟨j, rfl, hj0, hj1⟩, _⟩ := hv
  have k1 : Le M1 M5 := Le.off (hl2.trans (hl3.trans hl4)) hoff5 fun ad u hu => sub_none hu
  have k3 : Le (sub M3 M2) M5 := Le.off ((sub_le _ _).trans hl4) hoff5 fun ad u hu => by
    obtain ⟨g1, g2⟩ := sub_at hu
    unfold sub
    rw [g1]
    cases M1 ad <;> rfl
  (conv => whnf)
  have hjn : decide (j < 0) = false := decide_eq_false (by omega)
  repeat' ((conv => whnf); first | rw [hjn] | refine CallK.mk _ (eqIncS_a _ (chF l e) _ _ _ _ (rg.mono k3 (fun _ _ h => h)) (rw0.mono k1 (fun _ _ h => h))) ?_ | refine CondK.no' hjn ?_ | (refine CondK.no' ?_ ?_; focus (simp; done)) | fail)
  (conv => whnf)
  -- mark g0
  refine CallK.mw (sub M3 M2) _ rfl (markIncS_x (sub M3 M2) (sub M3 M2) rfl (chF l e) Ag cg rg (by omega) 1 (by decide) (by omega)) k3 (fun ad u hu => ?_) (apart fr3 fr4 (dom_w e1 hoff5)) (fun v Mg M6 hv hl6 hoff6 => ?_)
  · cases hm : M ad with
    | none => exact hm
    | some w => have := (sub_at hu).1; rw [hl2 ad w (hl1 ad w hm)] at this; cases this
  obtain ⟨⟨rfl, hmk⟩, _⟩ := hv
  replace hmk := hmk.mono hl6
  have k6 : Le M1 M6 := Le.off k1 hoff6 fun ad u hu => sub_none (hl2 _ _ hu)
  have kz : Le M M6 := hl1.trans k6
  (conv => whnf)
  refine CallK.mk _ (heldIncS_a _ _ _ _ _ hmk (by omega) (by decide) (by omega)) ?_
  repeat' ((conv => whnf); first | (refine CondK.no' ?_ ?_; focus (first | (simp; done) | exact decide_eq_false (by omega))) | fail)
  refine CallK.mr _ (toMonS_a _ l _ _ (h0.mono kz (RMon.mono kz)) hs0) (fun v M7 hl7 hv => ?_)
  obtain ⟨A7, c7, rfl, r7⟩ := hv
  (conv => whnf)
  refine CallK.mr _ (iChosen_f _ l _ _ r7 e) (fun v M8 hl8 hv => ?_)
  obtain ⟨Ah, ch, rfl, rh⟩ := hv
  (conv => whnf)
  refine CallK.mk _ (eqIncS_a _ (chF l e) _ _ _ _ (rh.mono (sub_le _ _) (fun _ _ h => h)) (rw0.mono (k6.trans (hl7.trans hl8)) (fun _ _ h => h))) ?_
  repeat' ((conv => whnf); first | (refine CondK.no' ?_ ?_; focus (simp; done)) | fail)
  refine CallK.mk _ (heldIncS_a _ _ _ _ _ (hmk.mono (hl7.trans hl8)) (by omega) (by decide) (by omega)) ?_
  repeat' ((conv => whnf); first | (refine CondK.no' ?_ ?_; focus (first | (simp; done) | exact decide_eq_false (by omega))) | fail)
  exact RetK.mk fun _ _ _ _ => rfl
end Go.Proofs.Ytmmgknhefobloaa.Hlp
