/- The row of the law FnExactNewServer, out of its contract by the light walk. -/
import Derived.Test.YtmfcnjbmmjbdfaaRows
import Derived.Test.YtmfcnjbmmjbdfaaLawNewServer
import Derived.Test.YtmfcnjbmmjbdfaaLwOpen
import Derived.WalkKit
import Derived.ProofKit
import Derived.OpenShut
import Derived.ShutString
import Derived.ChangeOld
import Derived.Below
import Derived.SizedLaws
import Derived.Carry
namespace Go.Proofs.Ytmfcnjbmmjbdfaa.fnExactNewServer
open Go.ChangeShapes Go.WideShapes Go.ChangeAt Go.RowKit
open Go.ChangeMaps (open_string shut_string)
open Go.Proofs.Ytmfcnjbmmjbdfaa.LwOpen Go.Proofs.Ytmfcnjbmmjbdfaa.Lw Go.Proofs.Ytmfcnjbmmjbdfaa.Hlp
set_option linter.unusedVariables false
theorem own : ownKnob Try.prog.godebug = none := by kernel_rfl
theorem laidOut : laidOutB Try.prog = true := by kernel_rfl
set_option maxRecDepth 100000 in
theorem lifted (os : Os) (started : os.Started) (H : Type) (enc : TypeId × Value → H) :
    ReturnsInHanded {} Try.checked os 3 .any (Rows.fnExactNewServerSpec.pre6 enc Try.prog Try.f3 Rows.fnExactNewServerRow.domain false) (Rows.fnExactNewServerSpec.post enc Try.prog Try.f3 false true false false) := by
  refine returnsInHanded_of_change_sized (C := Try.checked) own started (by kernel_rfl) Try.func3
    (ChangeSpec.witness6 (enc := enc) (C := Try.checked) false ⟨#[], #[.int .i64 0], []⟩ 8 (by kernel_rfl) (by kernel_rfl) (by kernel_rfl) (by kernel_rfl)) ?_
  intro W base args ds gs before hval0 hW hcnd hsz0 _
  have hval : ∀ (j : Nat) t v, Try.f3.params[j]? = some t → args[j]? = some v → Value.okWide Try.prog W .any base t v := hval0
  have hW' := hW
  obtain ⟨p, q, hA0, hV, rfl, hfz, hnd⟩ := hW
  have hA : DataW.TrodAll enc Try.prog W 0 (fun _ => true) true Try.f3.params.toList args.toList ds p := hA0
  rw [Try.params3] at hA hval
  obtain ⟨v0, vs0, d0, ds0, p0, q0, hargs, rfl, rfl, h0, r0⟩ := trodAll_cons hA
  obtain ⟨rfl, rfl, rfl⟩ := trodAll_nil r0
  obtain rfl : args = #[v0] := by cases args; simp_all
  obtain ⟨rfl, rfl⟩ := trodVars_none hV
  obtain ⟨x0, rfl, rfl, rfl, w0⟩ := open_int Try.underlying2 (hval 0 2 v0 rfl rfl) h0
  have L := lawNewServer_a (wm W) x0  
  clear hA0 hval0 hsz0 hval
  refine (L.run W (fun _ _ h => h)).mono ?_
  rintro e W' ⟨v, M', he, _, _, _, hv, bel0⟩
  have bel : Below W.heap.size W W' := bel0
  obtain rfl : v = .bool true := hv
  subst he
  exact ⟨_, rfl, _, _, _, [], _, [], hW', trodAll_mk1 (shut_bool Try.underlying4 _), (trodAll_cons_mk (shut_int Try.underlying2 w0) trodAll_mk0), rfl, bel.frame _, fun h => by cases h⟩
theorem closed0 : (Rows.fnExactNewServerRow.inPlace == Try.prog.inPlace 3) = true := by kernel_rfl
theorem closed1 : (Rows.fnExactNewServerRow.unfollowed == Try.prog.unfollowed 3) = true := by kernel_rfl
theorem closed2 : (Rows.fnExactNewServerRow.recurses == Try.prog.recurses 3) = true := by kernel_rfl
theorem closed3 : (Rows.fnExactNewServerRow.named == Try.prog.varsNamed 3) = true := by kernel_rfl
theorem closed : joinedFacts Try.prog 3 Try.f3 Rows.fnExactNewServerSpec Rows.fnExactNewServerRow = true := by
  unfold joinedFacts
  rw [closed0, closed1, closed2, closed3, laidOut]
  kernel_rfl
theorem over : Rows.fnExactNewServerRow.holds Try.pinned (OpenSpec.ofChange Rows.fnExactNewServerSpec) :=
  OpenClaim.holds_of_wide 3 Try.f3 rfl rfl rfl rfl rfl rfl rfl ⟨rfl, rfl, rfl, rfl, rfl⟩ rfl rfl rfl rfl rfl (by kernel_rfl) Try.func3 closed
    (of_decide_eq_true (by kernel_rfl)) (by unfold Func.isWrapper; first | (rw [if_pos (by decide +kernel)]; kernel_rfl) | (rw [if_neg (by decide +kernel)]; exact ⟨rfl, rfl⟩))
    (fun os started H enc _ => lifted os started H enc)
theorem proved : Rows.FnExactNewServerSaid := over
#print axioms proved
end Go.Proofs.Ytmfcnjbmmjbdfaa.fnExactNewServer
namespace Go.Proofs.Ytmfcnjbmmjbdfaa
/-- The row, under a short name, for the claim. -/
theorem fnExactNewServer_holds : Rows.FnExactNewServerSaid := fnExactNewServer.proved
end Go.Proofs.Ytmfcnjbmmjbdfaa
