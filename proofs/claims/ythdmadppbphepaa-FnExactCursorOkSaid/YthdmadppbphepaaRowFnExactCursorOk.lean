/- The row of the law FnExactCursorOk, out of its plain statement and the walk. -/
import Derived.Test.YthdmadppbphepaaRows
import Derived.Test.YthdmadppbphepaaPureFnExactCursorOk
import Derived.Test.YthdmadppbphepaaStmFnExactCursorOk
import Derived.Test.YthdmadppbphepaaOpen
import Derived.Test.YthdmadppbphepaaWSized
import Derived.Test.YthdmadppbphepaaPFnExactCursorOkx1
import Derived.WalkKit
import Derived.ProofKit
import Derived.OpenShut
import Derived.ShutString
import Derived.ChangeOld
import Derived.Below
import Derived.SizedLaws
import Derived.Carry
namespace Go.Proofs.Ythdmadppbphepaa.fnExactCursorOk
open Go.ChangeShapes Go.WideShapes Go.ChangeAt Go.RowKit
open Go.ChangeMaps (open_string shut_string)
open Go.Proofs.Ythdmadppbphepaa.Open Go.Proofs.Ythdmadppbphepaa.PFnExactCursorOk Go.Proofs.YthdmadppbphepaaW.PrintWords Go.Proofs.Ythdmadppbphepaa.Pure.FnExactCursorOkStm_
set_option linter.unusedVariables false
theorem own : ownKnob Try.prog.godebug = none := by kernel_rfl
theorem laidOut : laidOutB Try.prog = true := by kernel_rfl
theorem opened0 : Opens Try.prog (Kd.pair Kd.bool Kd.string) 30 (fun x : (Bool × ByteArray) => (True ∧ x.2.size ≤ maxLen)) := (opens_struct Try.underlying30 (opensF_cons (opens_bool Try.underlying4) (by kernel_rfl) (opensF_one (opens_string Try.underlying9) (by kernel_rfl) (by kernel_rfl))))
set_option maxRecDepth 100000 in
theorem lifted (os : Os) (started : os.Started) (H : Type) (enc : TypeId × Value → H) :
    ReturnsInHanded {} Try.checked os 4 .any (Rows.fnExactCursorOkSpec.pre6 enc Try.prog Try.f4 Rows.fnExactCursorOkRow.domain false) (Rows.fnExactCursorOkSpec.post enc Try.prog Try.f4 false true false false) := by
  refine returnsInHanded_of_change_sized (C := Try.checked) own started (by kernel_rfl) Try.func4
    (ChangeSpec.witness6 (enc := enc) (C := Try.checked) false ⟨#[], #[.agg #[.bool false, .string ByteArray.empty]], []⟩ 8 (by kernel_rfl) (by kernel_rfl) (by kernel_rfl) (by kernel_rfl)) ?_
  intro W base args ds gs before hval0 hW hcnd hsz0 _
  have hsz : (DataW.weightsEach Try.prog (Try.f4.params.toList ++ Rows.fnExactCursorOkSpec.plain.varTypes Try.prog) (ds ++ gs)).all (· ≤ reachBytes) = true := hsz0
  have hval : ∀ (j : Nat) t v, Try.f4.params[j]? = some t → args[j]? = some v → Value.okWide Try.prog W .any base t v := hval0
  have hW' := hW
  obtain ⟨p, q, hA0, hV, rfl, hfz, hnd⟩ := hW
  have hA : DataW.TrodAll enc Try.prog W 0 (fun _ => true) true Try.f4.params.toList args.toList ds p := hA0
  rw [Try.params4] at hA hval hsz
  obtain ⟨v0, vs0, d0, ds0, p0, q0, hargs, rfl, rfl, h0, r0⟩ := trodAll_cons hA
  obtain ⟨rfl, rfl, rfl⟩ := trodAll_nil r0
  obtain rfl : args = #[v0] := by cases args; simp_all
  obtain ⟨rfl, rfl⟩ := trodVars_none hV
  have k0 := h0
  have lt0 : ∀ x ∈ p0, x.block < W.heap.size := by obtain ⟨m, hm⟩ := k0; exact DataW.trod_lt m _ _ _ hm
  obtain ⟨fu0, hf0⟩ := h0
  obtain ⟨x0, g0, K0⟩ := opened0 H enc W _ _ _ _ _ _ hf0
  obtain ⟨_, _, e0, rfl, rfl⟩ := K0
  have ev0 : v0 = .agg #[.bool x0.1, .string x0.2] := (agg_of Try.underlying30 (hval 0 30 v0 rfl rfl)).trans (congrArg Value.agg (Array.ext' e0))
  clear e0
  subst ev0
  clear hA0 hval0 hsz0 hsz hval
  obtain ⟨k, h⟩ := Pure.FnExactCursorOk x0 g0
  refine (Go.Proofs.Ythdmadppbphepaa.PFnExactCursorOk.laws_FnExactCursorOk.calls k x0.1 x0.2 true W h).mono ?_
  rintro e W' ⟨he, bel0⟩
  have bel : Below W.heap.size W W' := bel0
  subst he
  exact ⟨_, rfl, _, _, _, [], _, [], hW', trodAll_mk1 (shut_bool Try.underlying4 _), (trodAll_cons_mk (Below.trod laidOut (by kernel_rfl) (of_decide_eq_true (by kernel_rfl)) k0 bel lt0) trodAll_mk0), rfl, bel.frame _, fun h => by cases h⟩
theorem over : Rows.fnExactCursorOkRow.holds Try.pinned (OpenSpec.ofChange Rows.fnExactCursorOkSpec) :=
  OpenClaim.holds_of_wide 4 Try.f4 rfl rfl rfl rfl rfl rfl rfl ⟨rfl, rfl, rfl, rfl, rfl⟩ rfl rfl rfl rfl rfl (by kernel_rfl) Try.func4 (by kernel_rfl)
    (of_decide_eq_true (by kernel_rfl)) (by unfold Func.isWrapper; first | (rw [if_pos (by decide +kernel)]; kernel_rfl) | (rw [if_neg (by decide +kernel)]; exact ⟨rfl, rfl⟩))
    (fun os started H enc _ => lifted os started H enc)
theorem proved : Rows.FnExactCursorOkSaid := over
#print axioms proved
end Go.Proofs.Ythdmadppbphepaa.fnExactCursorOk
namespace Go.Proofs.Ythdmadppbphepaa
/-- The row, under a short name, for the claim. -/
theorem fnExactCursorOk_holds : Rows.FnExactCursorOkSaid := fnExactCursorOk.proved
end Go.Proofs.Ythdmadppbphepaa
