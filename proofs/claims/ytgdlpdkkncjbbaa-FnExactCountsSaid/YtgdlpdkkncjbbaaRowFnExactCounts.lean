/- The row of the law FnExactCounts, out of its plain statement and the walk. -/
import Derived.Test.YtgdlpdkkncjbbaaRows
import Derived.Test.YtgdlpdkkncjbbaaPureFnExactCounts
import Derived.Test.YtgdlpdkkncjbbaaStmFnExactCounts
import Derived.Test.YtgdlpdkkncjbbaaOpen
import Derived.Test.YtgdlpdkkncjbbaaWSized
import Derived.Test.YtgdlpdkkncjbbaaPFnExactCountsx8
import Derived.WalkKit
import Derived.ProofKit
import Derived.OpenShut
import Derived.ShutString
import Derived.ChangeOld
import Derived.Below
import Derived.SizedLaws
import Derived.Carry
namespace Go.Proofs.Ytgdlpdkkncjbbaa.fnExactCounts
open Go.ChangeShapes Go.WideShapes Go.ChangeAt Go.RowKit
open Go.ChangeMaps (open_string shut_string)
open Go.Proofs.Ytgdlpdkkncjbbaa.Open Go.Proofs.Ytgdlpdkkncjbbaa.PFnExactCounts Go.Proofs.YtgdlpdkkncjbbaaW.PrintWords Go.Proofs.Ytgdlpdkkncjbbaa.Pure.FnExactCountsStm_
set_option linter.unusedVariables false
theorem own : ownKnob Try.prog.godebug = none := by kernel_rfl
theorem laidOut : laidOutB Try.prog = true := by kernel_rfl
set_option maxRecDepth 100000 in
theorem opened0 : Opens Try.prog (Kd.pair (Kd.int .i64) (Kd.pair (Kd.int .i64) (Kd.pair (Kd.pair (Kd.int .i64) (Kd.int .i64)) (Kd.pair Kd.string (Kd.pair (Kd.pair (Kd.int .i64) (Kd.pair (Kd.int .i64) Kd.string)) (Kd.pair (Kd.int .i64) (Kd.pair (Kd.int .i64) (Kd.pair (Kd.int .i64) (Kd.pair (Kd.pair (Kd.int .i64) (Kd.int .i64)) Kd.string))))))))) 72 (fun x : (Int × Int × (Int × Int) × ByteArray × (Int × Int × ByteArray) × Int × Int × Int × (Int × Int) × ByteArray) => ((Lit.int .i64 x.1).wf = true ∧ ((Lit.int .i64 x.2.1).wf = true ∧ (((Lit.int .i64 x.2.2.1.1).wf = true ∧ (Lit.int .i64 x.2.2.1.2).wf = true) ∧ (x.2.2.2.1.size ≤ maxLen ∧ (((Lit.int .i64 x.2.2.2.2.1.1).wf = true ∧ ((Lit.int .i64 x.2.2.2.2.1.2.1).wf = true ∧ x.2.2.2.2.1.2.2.size ≤ maxLen)) ∧ ((Lit.int .i64 x.2.2.2.2.2.1).wf = true ∧ ((Lit.int .i64 x.2.2.2.2.2.2.1).wf = true ∧ ((Lit.int .i64 x.2.2.2.2.2.2.2.1).wf = true ∧ (((Lit.int .i64 x.2.2.2.2.2.2.2.2.1.1).wf = true ∧ (Lit.int .i64 x.2.2.2.2.2.2.2.2.1.2).wf = true) ∧ x.2.2.2.2.2.2.2.2.2.size ≤ maxLen)))))))))) := (opens_struct Try.underlying72 (opensF_cons (opens_int Try.underlying2) (by kernel_rfl) (opensF_cons (opens_int Try.underlying2) (by kernel_rfl) (opensF_cons (opens_struct Try.underlying70 (opensF_cons (opens_int Try.underlying2) (by kernel_rfl) (opensF_one (opens_int Try.underlying2) (by kernel_rfl) (by kernel_rfl)))) (by kernel_rfl) (opensF_cons (opens_string Try.underlying9) (by kernel_rfl) (opensF_cons (opens_struct Try.underlying61 (opensF_cons (opens_int Try.underlying2) (by kernel_rfl) (opensF_cons (opens_int Try.underlying2) (by kernel_rfl) (opensF_one (opens_string Try.underlying9) (by kernel_rfl) (by kernel_rfl))))) (by kernel_rfl) (opensF_cons (opens_int Try.underlying2) (by kernel_rfl) (opensF_cons (opens_int Try.underlying2) (by kernel_rfl) (opensF_cons (opens_int Try.underlying2) (by kernel_rfl) (opensF_cons (opens_struct Try.underlying40 (opensF_cons (opens_int Try.underlying2) (by kernel_rfl) (opensF_one (opens_int Try.underlying2) (by kernel_rfl) (by kernel_rfl)))) (by kernel_rfl) (opensF_one (opens_string Try.underlying9) (by kernel_rfl) (by kernel_rfl))))))))))))
set_option maxRecDepth 100000 in
theorem lifted (os : Os) (started : os.Started) (H : Type) (enc : TypeId × Value → H) :
    ReturnsInHanded {} Try.checked os 12 .any (Rows.fnExactCountsSpec.pre6 enc Try.prog Try.f12 Rows.fnExactCountsRow.domain false) (Rows.fnExactCountsSpec.post enc Try.prog Try.f12 false true false false) := by
  refine returnsInHanded_of_change_sized (C := Try.checked) own started (by kernel_rfl) Try.func12
    (ChangeSpec.witness6 (enc := enc) (C := Try.checked) false ⟨#[], #[.agg #[.int .i64 0, .int .i64 0, .int .i64 0, .int .i64 0, .string ByteArray.empty, .int .i64 0, .int .i64 0, .string ByteArray.empty, .int .i64 0, .int .i64 0, .int .i64 0, .int .i64 0, .int .i64 0, .string ByteArray.empty]], []⟩ 8 (by kernel_rfl) (by kernel_rfl) (by kernel_rfl) (by kernel_rfl)) ?_
  intro W base args ds gs before hval0 hW hcnd hsz0 _
  have hsz : (DataW.weightsEach Try.prog (Try.f12.params.toList ++ Rows.fnExactCountsSpec.plain.varTypes Try.prog) (ds ++ gs)).all (· ≤ reachBytes) = true := hsz0
  have hval : ∀ (j : Nat) t v, Try.f12.params[j]? = some t → args[j]? = some v → Value.okWide Try.prog W .any base t v := hval0
  have hW' := hW
  obtain ⟨p, q, hA0, hV, rfl, hfz, hnd⟩ := hW
  have hA : DataW.TrodAll enc Try.prog W 0 (fun _ => true) true Try.f12.params.toList args.toList ds p := hA0
  rw [Try.params12] at hA hval hsz
  obtain ⟨v0, vs0, d0, ds0, p0, q0, hargs, rfl, rfl, h0, r0⟩ := trodAll_cons hA
  obtain ⟨rfl, rfl, rfl⟩ := trodAll_nil r0
  obtain rfl : args = #[v0] := by cases args; simp_all
  obtain ⟨rfl, rfl⟩ := trodVars_none hV
  have k0 := h0
  have lt0 : ∀ x ∈ p0, x.block < W.heap.size := by obtain ⟨m, hm⟩ := k0; exact DataW.trod_lt m _ _ _ hm
  obtain ⟨fu0, hf0⟩ := h0
  obtain ⟨x0, g0, K0⟩ := opened0 H enc W _ _ _ _ _ _ hf0
  obtain ⟨_, _, e0, rfl, ⟨_, _, rfl, rfl, ⟨_, _, rfl, ⟨_, _, rfl, rfl, rfl⟩, ⟨_, _, rfl, rfl, ⟨_, _, rfl, ⟨_, _, rfl, rfl, ⟨_, _, rfl, rfl, rfl⟩⟩, ⟨_, _, rfl, rfl, ⟨_, _, rfl, rfl, ⟨_, _, rfl, rfl, ⟨_, _, rfl, ⟨_, _, rfl, rfl, rfl⟩, rfl⟩⟩⟩⟩⟩⟩⟩⟩⟩ := K0
  have ev0 : v0 = .agg #[.int .i64 x0.1, .int .i64 x0.2.1, .int .i64 x0.2.2.1.1, .int .i64 x0.2.2.1.2, .string x0.2.2.2.1, .int .i64 x0.2.2.2.2.1.1, .int .i64 x0.2.2.2.2.1.2.1, .string x0.2.2.2.2.1.2.2, .int .i64 x0.2.2.2.2.2.1, .int .i64 x0.2.2.2.2.2.2.1, .int .i64 x0.2.2.2.2.2.2.2.1, .int .i64 x0.2.2.2.2.2.2.2.2.1.1, .int .i64 x0.2.2.2.2.2.2.2.2.1.2, .string x0.2.2.2.2.2.2.2.2.2] := (agg_of Try.underlying72 (hval 0 72 v0 rfl rfl)).trans (congrArg Value.agg (Array.ext' e0))
  clear e0
  subst ev0
  clear hA0 hval0 hsz0 hsz hval
  obtain ⟨k, h⟩ := Pure.FnExactCounts x0 g0
  refine (Go.Proofs.Ytgdlpdkkncjbbaa.PFnExactCounts.laws_FnExactCounts.calls k x0.1 x0.2.1 x0.2.2.1.1 x0.2.2.1.2 x0.2.2.2.1 x0.2.2.2.2.1.1 x0.2.2.2.2.1.2.1 x0.2.2.2.2.1.2.2 x0.2.2.2.2.2.1 x0.2.2.2.2.2.2.1 x0.2.2.2.2.2.2.2.1 x0.2.2.2.2.2.2.2.2.1.1 x0.2.2.2.2.2.2.2.2.1.2 x0.2.2.2.2.2.2.2.2.2 true W h).mono ?_
  rintro e W' ⟨he, bel0⟩
  have bel : Below W.heap.size W W' := bel0
  subst he
  exact ⟨_, rfl, _, _, _, [], _, [], hW', trodAll_mk1 (shut_bool Try.underlying4 _), (trodAll_cons_mk (Below.trod laidOut (by kernel_rfl) (of_decide_eq_true (by kernel_rfl)) k0 bel lt0) trodAll_mk0), rfl, bel.frame _, fun h => by cases h⟩
theorem over : Rows.fnExactCountsRow.holds Try.pinned (OpenSpec.ofChange Rows.fnExactCountsSpec) :=
  OpenClaim.holds_of_wide 12 Try.f12 rfl rfl rfl rfl rfl rfl rfl ⟨rfl, rfl, rfl, rfl, rfl⟩ rfl rfl rfl rfl rfl (by kernel_rfl) Try.func12 (by kernel_rfl)
    (of_decide_eq_true (by kernel_rfl)) (by unfold Func.isWrapper; first | (rw [if_pos (by decide +kernel)]; kernel_rfl) | (rw [if_neg (by decide +kernel)]; exact ⟨rfl, rfl⟩))
    (fun os started H enc _ => lifted os started H enc)
theorem proved : Rows.FnExactCountsSaid := over
#print axioms proved
end Go.Proofs.Ytgdlpdkkncjbbaa.fnExactCounts
namespace Go.Proofs.Ytgdlpdkkncjbbaa
/-- The row, under a short name, for the claim. -/
theorem fnExactCounts_holds : Rows.FnExactCountsSaid := fnExactCounts.proved
end Go.Proofs.Ytgdlpdkkncjbbaa
