/- A state's heads behind a version: the doors of both. -/
import Derived.Test.YtefhbbmklpnpoaaGreatFunHD
namespace Go.Proofs.YtefhbbmklpnpoaaGreat.Hlp
open Go Go.RowKit Go.Proofs Go.Proofs.YtefhbbmklpnpoaaGreat.Lw
set_option linter.unusedVariables false
set_option linter.unusedSimpArgs false
set_option maxRecDepth 100000
set_option maxHeartbeats 4000000
def bcF (s : GPgState) (v : GVer) : Int := if stateOkF s = true then (if verOkF v = true then (if cntF s v < 0 then 3 else 0) else 1) else 1
def byF (s : GPgState) (v : GVer) : List GHead := if bcF s v = 0 then (hdsTo s s.Log.length).filter (fun x => verLessF v x.Ver) else []
theorem bc_cases (s : GPgState) (v : GVer) : (stateOkF s = false ∧ bcF s v = 1 ∧ byF s v = []) ∨ (stateOkF s = true ∧ verOkF v = false ∧ bcF s v = 1 ∧ byF s v = []) ∨ (stateOkF s = true ∧ verOkF v = true ∧ cntF s v < 0 ∧ bcF s v = 3 ∧ byF s v = []) ∨ (stateOkF s = true ∧ verOkF v = true ∧ ¬ cntF s v < 0 ∧ bcF s v = 0 ∧ byF s v = (hdsTo s s.Log.length).filter (fun x => verLessF v x.Ver)) := by
  unfold byF bcF
  cases h : stateOkF s with
  | false => exact .inl ⟨rfl, by simp, by simp⟩
  | true =>
    cases h2 : verOkF v with
    | false => exact .inr (.inl ⟨rfl, rfl, by simp, by simp⟩)
    | true =>
      by_cases hc : cntF s v < 0
      · exact .inr (.inr (.inl ⟨rfl, rfl, hc, by simp [hc], by simp [hc]⟩))
      · exact .inr (.inr (.inr ⟨rfl, rfl, hc, by simp [hc], by simp [hc]⟩))
theorem byF_len (s : GPgState) (v : GVer) : (byF s v).length ≤ 16 := by
  rcases bc_cases s v with ⟨_, _, h⟩ | ⟨_, _, _, h⟩ | ⟨_, _, _, _, h⟩ | ⟨h1, _, _, _, h⟩
  · rw [h]; simp
  · rw [h]; simp
  · rw [h]; simp
  · rw [h]
    exact Nat.le_trans (List.length_filter_le _ _) (hds_len h1 (Nat.le_refl _))
theorem heads_n (M : Mem) (s : GPgState) (cs : List Value) (h : RPgState M s cs) (hok : stateOkF s = true) : AnsR Tryz.prog M 94 #[.agg cs.toArray] (fun M' v => ∃ A' cap' ds', v = .slice A' (hdsTo s s.Log.length).length cap' ∧ RowR M RHead 5 (hdsTo s s.Log.length) ds' ∧ RowN M M' 5 A' (hdsTo s s.Log.length).length cap' ds') := by
  have hh := headsTo_n M s cs h hok s.Log.length (Nat.le_refl _)
  obtain ⟨A0, c0, A1, c1, A2, c2, A3, c3, rfl, hb, s0, s1, s2, s3⟩ := h
  refine ansR_of T (l := [.agg (List.toArray _)]) mixed Tryz.func94 rfl (by kernel_rfl) (Nat.le_of_ble_eq_true rfl) ?_
  repeat' ((conv => whnf); first | (refine CallK.mr _ hh (fun u M1 hl1 hv => ?_); obtain ⟨Ag, cg, dg, rfl, hr, hn⟩ := hv) | fail)
  exact RetK.mk fun g M' hl hg => ⟨Ag, cg, dg, rfl, hr, hn.mono hl⟩
end Go.Proofs.YtefhbbmklpnpoaaGreat.Hlp
