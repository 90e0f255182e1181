/- The row of the law FnExactReportOk, out of its plain statement and the walk. -/
import Derived.Test.YtgdlpdkkncjbbaaRows
import Derived.Test.YtgdlpdkkncjbbaaPureFnExactReportOk
import Derived.Test.YtgdlpdkkncjbbaaStmFnExactReportOk
import Derived.Test.YtgdlpdkkncjbbaaOpen
import Derived.Test.YtgdlpdkkncjbbaaWSized
import Derived.Test.YtgdlpdkkncjbbaaMFnExactReportOkx8
import Derived.WalkKit
import Derived.ProofKit
import Derived.OpenShut
import Derived.ShutString
import Derived.ChangeOld
import Derived.Below
import Derived.SizedLaws
import Derived.Carry
namespace Go.Proofs.Ytgdlpdkkncjbbaa.fnExactReportOk
open Go.ChangeShapes Go.WideShapes Go.ChangeAt Go.RowKit
open Go.ChangeMaps (open_string shut_string)
open Go.Proofs.Ytgdlpdkkncjbbaa.Open Go.Proofs.Ytgdlpdkkncjbbaa.MFnExactReportOk Go.Proofs.YtgdlpdkkncjbbaaW.PrintWords Go.Proofs.Ytgdlpdkkncjbbaa.Pure.FnExactReportOkStm_
set_option linter.unusedVariables false
theorem own : ownKnob Try.prog.godebug = none := by kernel_rfl
theorem laidOut : laidOutB Try.prog = true := by kernel_rfl
set_option maxRecDepth 100000 in
theorem open40 : Opens Try.prog k40 40 good40 :=
  opens_iso (fun x : S40 => (x.f0, x.f1)) (fun a => ⟨a.1, a.2⟩) (fun _ => rfl) (opens_struct Try.underlying40 (opensF_cons (opens_int Try.underlying2) (by kernel_rfl) (opensF_one (opens_int Try.underlying2) (by kernel_rfl) (by kernel_rfl))))
set_option maxRecDepth 100000 in
theorem open124 : Opens Try.prog k124 124 good124 :=
  opens_iso (fun x : S124 => (x.f0, x.f1, x.f2, x.f3, x.f4)) (fun a => ⟨a.1, a.2.1, a.2.2.1, a.2.2.2.1, a.2.2.2.2⟩) (fun _ => rfl) (opens_struct Try.underlying124 (opensF_cons (opens_string Try.underlying9) (by kernel_rfl) (opensF_cons open40 (by kernel_rfl) (opensF_cons (opens_int Try.underlying2) (by kernel_rfl) (opensF_cons (opens_int Try.underlying2) (by kernel_rfl) (opensF_one (opens_int Try.underlying2) (by kernel_rfl) (by kernel_rfl)))))))
set_option maxRecDepth 100000 in
theorem opened0 : Opens Try.prog (Kd.pair (Kd.int .i64) (Kd.slice 124 k124)) 81 (fun x : (Int × List (S124)) => ((Lit.int .i64 x.1).wf = true ∧ (x.2.length ≤ maxLen ∧ ∀ y ∈ x.2, (fun x => good124 x) y))) := (opens_struct Try.underlying81 (opensF_cons (opens_int Try.underlying2) (by kernel_rfl) (opensF_one (opens_slice Try.underlying79 (by kernel_rfl) open124) (by kernel_rfl) (by kernel_rfl))))
set_option maxRecDepth 100000 in
theorem lifted (os : Os) (started : os.Started) (H : Type) (enc : TypeId × Value → H) :
    ReturnsInHanded {} Try.checked os 13 .any (Rows.fnExactReportOkSpec.pre6 enc Try.prog Try.f13 Rows.fnExactReportOkRow.domain false) (Rows.fnExactReportOkSpec.post enc Try.prog Try.f13 false true false false) := by
  refine returnsInHanded_of_change_sized (C := Try.checked) own started (by kernel_rfl) Try.func13
    (ChangeSpec.witness6 (enc := enc) (C := Try.checked) false ⟨#[], #[.agg #[.int .i64 0, .slice none 0 0]], []⟩ 8 (by kernel_rfl) (by kernel_rfl) (by kernel_rfl) (by kernel_rfl)) ?_
  intro W base args ds gs before hval0 hW hcnd hsz0 _
  have hsz : (DataW.weightsEach Try.prog (Try.f13.params.toList ++ Rows.fnExactReportOkSpec.plain.varTypes Try.prog) (ds ++ gs)).all (· ≤ reachBytes) = true := hsz0
  have hval : ∀ (j : Nat) t v, Try.f13.params[j]? = some t → args[j]? = some v → Value.okWide Try.prog W .any base t v := hval0
  have hW' := hW
  obtain ⟨p, q, hA0, hV, rfl, hfz, hnd⟩ := hW
  have hA : DataW.TrodAll enc Try.prog W 0 (fun _ => true) true Try.f13.params.toList args.toList ds p := hA0
  rw [Try.params13] at hA hval hsz
  obtain ⟨v0, vs0, d0, ds0, p0, q0, hargs, rfl, rfl, h0, r0⟩ := trodAll_cons hA
  obtain ⟨rfl, rfl, rfl⟩ := trodAll_nil r0
  obtain rfl : args = #[v0] := by cases args; simp_all
  obtain ⟨rfl, rfl⟩ := trodVars_none hV
  have k0 := h0
  have lt0 : ∀ x ∈ p0, x.block < W.heap.size := by obtain ⟨m, hm⟩ := k0; exact DataW.trod_lt m _ _ _ hm
  obtain ⟨fu0, hf0⟩ := h0
  obtain ⟨x0, g0, K0⟩ := opened0 H enc W _ _ _ _ _ _ hf0
  obtain ⟨_, _, e0, rfl, ⟨A0_1, c0_1, rfl, hc0_1, hr0_1⟩⟩ := K0
  have ev0 : v0 = .agg #[.int .i64 x0.1, .slice A0_1 x0.2.length c0_1] := (agg_of Try.underlying81 (hval 0 81 v0 rfl rfl)).trans (congrArg Value.agg (Array.ext' e0))
  clear e0
  subst ev0
  clear hA0 hval0 hsz0 hsz hval
  obtain ⟨k, h⟩ := Pure.FnExactReportOk x0 g0
  refine (Go.Proofs.Ytgdlpdkkncjbbaa.MFnExactReportOk.laws_FnExactReportOk.calls k x0.1 _ _ x0.2 true W hr0_1 hc0_1 h).mono ?_
  rintro e W' ⟨he, bel0⟩
  have bel : Below W.heap.size W W' := bel0
  subst he
  exact ⟨_, rfl, _, _, _, [], _, [], hW', trodAll_mk1 (shut_bool Try.underlying4 _), (trodAll_cons_mk (Below.trod laidOut (by kernel_rfl) (of_decide_eq_true (by kernel_rfl)) k0 bel lt0) trodAll_mk0), rfl, bel.frame _, fun h => by cases h⟩
theorem over : Rows.fnExactReportOkRow.holds Try.pinned (OpenSpec.ofChange Rows.fnExactReportOkSpec) :=
  OpenClaim.holds_of_wide 13 Try.f13 rfl rfl rfl rfl rfl rfl rfl ⟨rfl, rfl, rfl, rfl, rfl⟩ rfl rfl rfl rfl rfl (by kernel_rfl) Try.func13 (by kernel_rfl)
    (of_decide_eq_true (by kernel_rfl)) (by unfold Func.isWrapper; first | (rw [if_pos (by decide +kernel)]; kernel_rfl) | (rw [if_neg (by decide +kernel)]; exact ⟨rfl, rfl⟩))
    (fun os started H enc _ => lifted os started H enc)
theorem proved : Rows.FnExactReportOkSaid := over
#print axioms proved
end Go.Proofs.Ytgdlpdkkncjbbaa.fnExactReportOk
namespace Go.Proofs.Ytgdlpdkkncjbbaa
/-- The row, under a short name, for the claim. -/
theorem fnExactReportOk_holds : Rows.FnExactReportOkSaid := fnExactReportOk.proved
end Go.Proofs.Ytgdlpdkkncjbbaa
