/- The row of the law FnCursor, out of its contract by the light walk. -/
import Derived.Test.YtefhbbmklpnpoaaGreatRows
import Derived.Test.YtefhbbmklpnpoaaGreatLawFnCursor
import Derived.Test.YtefhbbmklpnpoaaGreatLwOpen
import Derived.WalkKit
import Derived.ProofKit
import Derived.OpenShut
import Derived.ShutString
import Derived.ChangeOld
import Derived.Below
import Derived.SizedLaws
import Derived.Carry
namespace Go.Proofs.YtefhbbmklpnpoaaGreat.fnCursor
open Go.ChangeShapes Go.WideShapes Go.ChangeAt Go.RowKit
open Go.ChangeMaps (open_string shut_string)
open Go.Proofs.YtefhbbmklpnpoaaGreat.LwOpen Go.Proofs.YtefhbbmklpnpoaaGreat.Lw Go.Proofs.YtefhbbmklpnpoaaGreat.Hlp
set_option linter.unusedVariables false
theorem own : ownKnob Tryz.prog.godebug = none := by kernel_rfl
theorem laidOut : laidOutB Tryz.prog = true := by kernel_rfl
set_option maxRecDepth 100000 in
theorem opened0 : Opens Tryz.prog (RSl RByteO 1 1) 45 := (opens_slice (R := RByteO) (z := 1) (by_ := 1) Tryz.underlying45 (by kernel_rfl) (opens_byte Tryz.underlying5))
set_option maxRecDepth 100000 in
theorem lifted (os : Os) (started : os.Started) (H : Type) (enc : TypeId × Value → H) :
    ReturnsInHanded {} Tryz.checked os 4 .any (Rows.fnCursorSpec.pre6 enc Tryz.prog Tryz.f4 Rows.fnCursorRow.domain false) (Rows.fnCursorSpec.post enc Tryz.prog Tryz.f4 false true false false) := by
  refine returnsInHanded_of_change_sized (C := Tryz.checked) own started (by kernel_rfl) Tryz.func4
    (ChangeSpec.witness6 (enc := enc) (C := Tryz.checked) false ⟨#[], #[.slice none 0 0], []⟩ 8 (by kernel_rfl) (by kernel_rfl) (by kernel_rfl) (by kernel_rfl)) ?_
  intro W base args ds gs before hval0 hW hcnd hsz0 _
  have hval : ∀ (j : Nat) t v, Tryz.f4.params[j]? = some t → args[j]? = some v → Value.okWide Tryz.prog W .any base t v := hval0
  have hW' := hW
  obtain ⟨p, q, hA0, hV, rfl, hfz, hnd⟩ := hW
  have hA : DataW.TrodAll enc Tryz.prog W 0 (fun _ => true) true Tryz.f4.params.toList args.toList ds p := hA0
  rw [Tryz.params4] at hA hval
  obtain ⟨v0, vs0, d0, ds0, p0, q0, hargs, rfl, rfl, h0, r0⟩ := trodAll_cons hA
  obtain ⟨rfl, rfl, rfl⟩ := trodAll_nil r0
  obtain rfl : args = #[v0] := by cases args; simp_all
  obtain ⟨rfl, rfl⟩ := trodVars_none hV
  have k0 := h0
  have lt0 : ∀ x ∈ p0, x.block < W.heap.size := by obtain ⟨m, hm⟩ := k0; exact DataW.trod_lt m _ _ _ hm
  obtain ⟨fu0, hf0⟩ := h0
  obtain ⟨x0, K0⟩ := opened0 H enc W _ _ _ _ _ _ hf0
  obtain ⟨A0, len0, c0, rfl⟩ := okWide_slice Tryz.underlying45 (hval 0 45 v0 rfl rfl)
  obtain ⟨A0_, c0_, e0, K0⟩ := K0
  simp only [Value.cells, List.cons.injEq, Value.slice.injEq, and_true] at e0
  obtain ⟨rfl, rfl, rfl⟩ := e0
  have L := lawFnCursor_a (wm W) x0 _ _ K0
  clear hA0 hval0 hsz0 hval
  refine (L.run W (fun _ _ h => h)).mono ?_
  rintro e W' ⟨v, M', he, _, _, _, hv, bel0⟩
  have bel : Below W.heap.size W W' := bel0
  obtain rfl : v = .bool true := hv
  subst he
  exact ⟨_, rfl, _, _, _, [], _, [], hW', trodAll_mk1 (shut_bool Tryz.underlying4 _), (trodAll_cons_mk (Below.trod laidOut (by kernel_rfl) (of_decide_eq_true (by kernel_rfl)) k0 bel lt0) trodAll_mk0), rfl, bel.frame _, fun h => by cases h⟩
theorem closed0 : (Rows.fnCursorRow.inPlace == Tryz.prog.inPlace 4) = true := by kernel_rfl
theorem closed1 : (Rows.fnCursorRow.unfollowed == Tryz.prog.unfollowed 4) = true := by kernel_rfl
theorem closed2 : (Rows.fnCursorRow.recurses == Tryz.prog.recurses 4) = true := by kernel_rfl
theorem closed3 : (Rows.fnCursorRow.named == Tryz.prog.varsNamed 4) = true := by kernel_rfl
theorem closed : joinedFacts Tryz.prog 4 Tryz.f4 Rows.fnCursorSpec Rows.fnCursorRow = true := by
  unfold joinedFacts
  rw [closed0, closed1, closed2, closed3, laidOut]
  kernel_rfl
theorem over : Rows.fnCursorRow.holds Tryz.pinned (OpenSpec.ofChange Rows.fnCursorSpec) :=
  OpenClaim.holds_of_wide 4 Tryz.f4 rfl rfl rfl rfl rfl rfl rfl ⟨rfl, rfl, rfl, rfl, rfl⟩ rfl rfl rfl rfl rfl (by kernel_rfl) Tryz.func4 closed
    (of_decide_eq_true (by kernel_rfl)) (by unfold Func.isWrapper; first | (rw [if_pos (by decide +kernel)]; kernel_rfl) | (rw [if_neg (by decide +kernel)]; exact ⟨rfl, rfl⟩))
    (fun os started H enc _ => lifted os started H enc)
theorem proved : Rows.FnCursorSaid := over
#print axioms proved
end Go.Proofs.YtefhbbmklpnpoaaGreat.fnCursor
namespace Go.Proofs.YtefhbbmklpnpoaaGreat
/-- The row, under a short name, for the claim. -/
theorem fnCursor_holds : Rows.FnCursorSaid := fnCursor.proved
end Go.Proofs.YtefhbbmklpnpoaaGreat
