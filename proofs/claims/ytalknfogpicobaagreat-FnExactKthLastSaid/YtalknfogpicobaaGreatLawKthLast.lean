/- The law FnExactKthLast by the light walk: it answers true. -/
import Derived.Test.YtalknfogpicobaaGreatFunKL
namespace Go.Proofs.YtalknfogpicobaaGreat.Hlp
open Go Go.RowKit Go.Proofs Go.Proofs.YtalknfogpicobaaGreat.Lw
set_option linter.unusedVariables false
set_option linter.unusedSimpArgs false
set_option maxRecDepth 100000
set_option maxHeartbeats 4000000
theorem lawKthLast_a (M : Mem) (x : List GNotice) (k : Int) (A : Option Addr) (c : Nat) (h0 : SlR M RNotice 13 168 A c x) : AnsR Tryz.prog M 3 #[.slice A x.length c, .int .i64 k] (fun _ v => v = .bool true) := by
  refine ansR_of T (l := [.slice A x.length c, .int .i64 k]) mixed Tryz.func3 rfl (by kernel_rfl) (Nat.le_of_ble_eq_true rfl) ?_
  (conv => whnf)
  refine CallK.mk _ (szNoticeS_a M x _ _ _ h0) ?_
  (conv => whnf)
  refine CondK.mk (fun hc => ?_) (fun hc => ?_)
  · exact RetK.mk fun _ _ _ _ => rfl
  have hs0 := (szL_ok h0.len (fun y hy left h1 h2 h => let ⟨_, hr⟩ := h0.each hy; szNotice_ok hr h1 h2 h) (left := 1048576) (by decide) (by decide) (by simpa using hc)).1
  clear hc
  (conv => whnf)
  refine CallK.mr _ (toNoticeS_a _ x _ _ h0 hs0) (fun v M1 hl1 hv => ?_)
  obtain ⟨A1, c1, rfl, r0⟩ := hv
  replace h0 := h0.mono hl1 (RNotice.mono hl1)
  (conv => whnf)
  refine CallK.mk _ (sKthLast_a _ x _ _ r0 k) ?_
  (conv => whnf)
  refine CallK.mr _ (toNoticeS_a _ x _ _ h0 hs0) (fun v M2 hl2 hv => ?_)
  obtain ⟨A2, c2, rfl, r1⟩ := hv
  replace h0 := h0.mono hl2 (RNotice.mono hl2)
  (conv => whnf)
  refine CallK.mr _ (iKthLast_a _ x _ _ r1 k) (fun v M4 hl4 hv => ?_)
  obtain rfl := hv
  replace h0 := h0.mono hl4 (RNotice.mono hl4)
  replace r1 := r1.mono hl4 (RNotice.mono hl4)
  (conv => whnf)
  refine CallK.mk _ (eqVer_a _ (kthVF x k)) ?_
  (conv => whnf)
  refine CondK.no' (by simp) ?_
  (conv => whnf)
  refine CallK.mr _ (toNoticeS_a _ x _ _ h0 hs0) (fun v M3 hl3 hv => ?_)
  obtain ⟨A3, c3, rfl, r2⟩ := hv
  (conv => whnf)
  refine CallK.mk _ (eqNoticeS_a _ x _ _ _ _ (r1.mono hl3 (RNotice.mono hl3)) r2) ?_
  (conv => whnf)
  exact RetK.mk fun _ _ _ _ => rfl
end Go.Proofs.YtalknfogpicobaaGreat.Hlp
