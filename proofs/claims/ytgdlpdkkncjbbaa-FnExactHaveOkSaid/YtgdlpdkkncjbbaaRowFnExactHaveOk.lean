/- The row of the law FnExactHaveOk, out of its plain statement and the walk. -/
import Derived.Test.YtgdlpdkkncjbbaaRows
import Derived.Test.YtgdlpdkkncjbbaaPureFnExactHaveOk
import Derived.Test.YtgdlpdkkncjbbaaStmFnExactHaveOk
import Derived.Test.YtgdlpdkkncjbbaaOpen
import Derived.Test.YtgdlpdkkncjbbaaWSized
import Derived.Test.YtgdlpdkkncjbbaaPFnExactHaveOkx5
import Derived.WalkKit
import Derived.ProofKit
import Derived.OpenShut
import Derived.ShutString
import Derived.ChangeOld
import Derived.Below
import Derived.SizedLaws
import Derived.Carry
namespace Go.Proofs.Ytgdlpdkkncjbbaa.fnExactHaveOk
open Go.ChangeShapes Go.WideShapes Go.ChangeAt Go.RowKit
open Go.ChangeMaps (open_string shut_string)
open Go.Proofs.Ytgdlpdkkncjbbaa.Open Go.Proofs.Ytgdlpdkkncjbbaa.PFnExactHaveOk Go.Proofs.YtgdlpdkkncjbbaaW.PrintWords Go.Proofs.Ytgdlpdkkncjbbaa.Pure.FnExactHaveOkStm_
set_option linter.unusedVariables false
theorem own : ownKnob Try.prog.godebug = none := by kernel_rfl
theorem laidOut : laidOutB Try.prog = true := by kernel_rfl
set_option maxRecDepth 100000 in
theorem open99 : Opens Try.prog k99 99 good99 :=
  opens_iso (fun x : S99 => (x.f0, x.f1)) (fun a => ⟨a.1, a.2⟩) (fun _ => rfl) (opens_struct Try.underlying99 (opensF_cons (opens_int Try.underlying2) (by kernel_rfl) (opensF_one (opens_string Try.underlying9) (by kernel_rfl) (by kernel_rfl))))
set_option maxRecDepth 100000 in
theorem opened0 : Opens Try.prog (Kd.pair (Kd.int .i64) (Kd.int .i64)) 51 (fun x : (Int × Int) => ((Lit.int .i64 x.1).wf = true ∧ (Lit.int .i64 x.2).wf = true)) := (opens_struct Try.underlying51 (opensF_cons (opens_int Try.underlying2) (by kernel_rfl) (opensF_one (opens_int Try.underlying2) (by kernel_rfl) (by kernel_rfl))))
set_option maxRecDepth 100000 in
theorem opened2 : Opens Try.prog (Kd.slice 99 k99) 52 (fun x : List (S99) => (x.length ≤ maxLen ∧ ∀ y ∈ x, (fun x => good99 x) y)) := (opens_slice Try.underlying52 (by kernel_rfl) open99)
set_option maxRecDepth 100000 in
theorem lifted (os : Os) (started : os.Started) (H : Type) (enc : TypeId × Value → H) :
    ReturnsInHanded {} Try.checked os 9 .any (Rows.fnExactHaveOkSpec.pre6 enc Try.prog Try.f9 Rows.fnExactHaveOkRow.domain false) (Rows.fnExactHaveOkSpec.post enc Try.prog Try.f9 false true false false) := by
  refine returnsInHanded_of_change_sized (C := Try.checked) own started (by kernel_rfl) Try.func9
    (ChangeSpec.witness6 (enc := enc) (C := Try.checked) false ⟨#[], #[.agg #[.int .i64 0, .int .i64 0], .int .i64 0, .slice none 0 0], []⟩ 8 (by kernel_rfl) (by kernel_rfl) (by kernel_rfl) (by kernel_rfl)) ?_
  intro W base args ds gs before hval0 hW hcnd hsz0 _
  have hsz : (DataW.weightsEach Try.prog (Try.f9.params.toList ++ Rows.fnExactHaveOkSpec.plain.varTypes Try.prog) (ds ++ gs)).all (· ≤ reachBytes) = true := hsz0
  have hval : ∀ (j : Nat) t v, Try.f9.params[j]? = some t → args[j]? = some v → Value.okWide Try.prog W .any base t v := hval0
  have hW' := hW
  obtain ⟨p, q, hA0, hV, rfl, hfz, hnd⟩ := hW
  have hA : DataW.TrodAll enc Try.prog W 0 (fun _ => true) true Try.f9.params.toList args.toList ds p := hA0
  rw [Try.params9] at hA hval hsz
  obtain ⟨v0, vs0, d0, ds0, p0, q0, hargs, rfl, rfl, h0, r0⟩ := trodAll_cons hA
  obtain ⟨v1, vs1, d1, ds1, p1, q1, rfl, rfl, rfl, h1, r1⟩ := trodAll_cons r0
  obtain ⟨v2, vs2, d2, ds2, p2, q2, rfl, rfl, rfl, h2, r2⟩ := trodAll_cons r1
  obtain ⟨rfl, rfl, rfl⟩ := trodAll_nil r2
  obtain rfl : args = #[v0, v1, v2] := by cases args; simp_all
  obtain ⟨rfl, rfl⟩ := trodVars_none hV
  have k0 := h0
  have lt0 : ∀ x ∈ p0, x.block < W.heap.size := by obtain ⟨m, hm⟩ := k0; exact DataW.trod_lt m _ _ _ hm
  obtain ⟨fu0, hf0⟩ := h0
  obtain ⟨x0, g0, K0⟩ := opened0 H enc W _ _ _ _ _ _ hf0
  obtain ⟨_, _, e0, rfl, rfl⟩ := K0
  have ev0 : v0 = .agg #[.int .i64 x0.1, .int .i64 x0.2] := (agg_of Try.underlying51 (hval 0 51 v0 rfl rfl)).trans (congrArg Value.agg (Array.ext' e0))
  clear e0
  subst ev0
  obtain ⟨x1, rfl, rfl, rfl, w1⟩ := open_int Try.underlying2 (hval 1 2 v1 rfl rfl) h1
  have k2 := h2
  have lt2 : ∀ x ∈ p2, x.block < W.heap.size := by obtain ⟨m, hm⟩ := k2; exact DataW.trod_lt m _ _ _ hm
  obtain ⟨fu2, hf2⟩ := h2
  obtain ⟨x2, g2, K2⟩ := opened2 H enc W _ _ _ _ _ _ hf2
  obtain ⟨A2, len2, c2, rfl⟩ := okWide_slice Try.underlying52 (hval 2 52 v2 rfl rfl)
  obtain ⟨A2_, c2_, e2, hc2, hr2⟩ := K2
  simp only [Value.cells, List.cons.injEq, Value.slice.injEq, and_true] at e2
  obtain ⟨rfl, rfl, rfl⟩ := e2
  clear hA0 hval0 hsz0 hsz hval
  obtain ⟨k, h⟩ := Pure.FnExactHaveOk x0 g0 x1 w1 x2 g2
  refine (Go.Proofs.Ytgdlpdkkncjbbaa.PFnExactHaveOk.laws_FnExactHaveOk.calls k x0.1 x0.2 x1 _ _ x2 true W hr2 hc2 h).mono ?_
  rintro e W' ⟨he, bel0⟩
  have bel : Below W.heap.size W W' := bel0
  subst he
  exact ⟨_, rfl, _, _, _, [], _, [], hW', trodAll_mk1 (shut_bool Try.underlying4 _), (trodAll_cons_mk (Below.trod laidOut (by kernel_rfl) (of_decide_eq_true (by kernel_rfl)) k0 bel lt0) (trodAll_cons_mk (shut_int Try.underlying2 w1) (trodAll_cons_mk (Below.trod laidOut (by kernel_rfl) (of_decide_eq_true (by kernel_rfl)) k2 bel lt2) trodAll_mk0))), rfl, bel.frame _, fun h => by cases h⟩
theorem over : Rows.fnExactHaveOkRow.holds Try.pinned (OpenSpec.ofChange Rows.fnExactHaveOkSpec) :=
  OpenClaim.holds_of_wide 9 Try.f9 rfl rfl rfl rfl rfl rfl rfl ⟨rfl, rfl, rfl, rfl, rfl⟩ rfl rfl rfl rfl rfl (by kernel_rfl) Try.func9 (by kernel_rfl)
    (of_decide_eq_true (by kernel_rfl)) (by unfold Func.isWrapper; first | (rw [if_pos (by decide +kernel)]; kernel_rfl) | (rw [if_neg (by decide +kernel)]; exact ⟨rfl, rfl⟩))
    (fun os started H enc _ => lifted os started H enc)
theorem proved : Rows.FnExactHaveOkSaid := over
#print axioms proved
end Go.Proofs.Ytgdlpdkkncjbbaa.fnExactHaveOk
namespace Go.Proofs.Ytgdlpdkkncjbbaa
/-- The row, under a short name, for the claim. -/
theorem fnExactHaveOk_holds : Rows.FnExactHaveOkSaid := fnExactHaveOk.proved
end Go.Proofs.Ytgdlpdkkncjbbaa
