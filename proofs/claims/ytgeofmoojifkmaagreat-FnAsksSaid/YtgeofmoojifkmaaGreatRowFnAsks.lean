/- The row of the law FnAsks, out of its contract by the light walk. -/
import Derived.Test.YtgeofmoojifkmaaGreatRows
import Derived.Test.YtgeofmoojifkmaaGreatLawFnAsks
import Derived.Test.YtgeofmoojifkmaaGreatLwOpen
import Derived.WalkKit
import Derived.ProofKit
import Derived.OpenShut
import Derived.ShutString
import Derived.ChangeOld
import Derived.Below
import Derived.SizedLaws
import Derived.Carry
namespace Go.Proofs.YtgeofmoojifkmaaGreat.fnAsks
open Go.ChangeShapes Go.WideShapes Go.ChangeAt Go.RowKit
open Go.ChangeMaps (open_string shut_string)
open Go.Proofs.YtgeofmoojifkmaaGreat.LwOpen Go.Proofs.YtgeofmoojifkmaaGreat.Lw Go.Proofs.YtgeofmoojifkmaaGreat.Hlp
set_option linter.unusedVariables false
theorem own : ownKnob Tryz.prog.godebug = none := by kernel_rfl
theorem laidOut : laidOutB Tryz.prog = true := by kernel_rfl
set_option maxRecDepth 100000 in
theorem opened0 : Opens Tryz.prog (RSl RByteO 1 1) 22 := (opens_slice (R := RByteO) (z := 1) (by_ := 1) Tryz.underlying22 (by kernel_rfl) (opens_byte Tryz.underlying5))
set_option maxRecDepth 100000 in
theorem lifted (os : Os) (started : os.Started) (H : Type) (enc : TypeId × Value → H) :
    ReturnsInHanded {} Tryz.checked os 3 .any (Rows.fnAsksSpec.pre6 enc Tryz.prog Tryz.f3 Rows.fnAsksRow.domain false) (Rows.fnAsksSpec.post enc Tryz.prog Tryz.f3 false true false false) := by
  refine returnsInHanded_of_change_sized (C := Tryz.checked) own started (by kernel_rfl) Tryz.func3
    (ChangeSpec.witness6 (enc := enc) (C := Tryz.checked) false ⟨#[], #[.slice none 0 0], []⟩ 8 (by kernel_rfl) (by kernel_rfl) (by kernel_rfl) (by kernel_rfl)) ?_
  intro W base args ds gs before hval0 hW hcnd hsz0 _
  have hval : ∀ (j : Nat) t v, Tryz.f3.params[j]? = some t → args[j]? = some v → Value.okWide Tryz.prog W .any base t v := hval0
  have hW' := hW
  obtain ⟨p, q, hA0, hV, rfl, hfz, hnd⟩ := hW
  have hA : DataW.TrodAll enc Tryz.prog W 0 (fun _ => true) true Tryz.f3.params.toList args.toList ds p := hA0
  rw [Tryz.params3] at hA hval
  obtain ⟨v0, vs0, d0, ds0, p0, q0, hargs, rfl, rfl, h0, r0⟩ := trodAll_cons hA
  obtain ⟨rfl, rfl, rfl⟩ := trodAll_nil r0
  obtain rfl : args = #[v0] := by cases args; simp_all
  obtain ⟨rfl, rfl⟩ := trodVars_none hV
  have k0 := h0
  have lt0 : ∀ x ∈ p0, x.block < W.heap.size := by obtain ⟨m, hm⟩ := k0; exact DataW.trod_lt m _ _ _ hm
  obtain ⟨fu0, hf0⟩ := h0
  obtain ⟨x0, K0⟩ := opened0 H enc W _ _ _ _ _ _ hf0
  obtain ⟨A0, len0, c0, rfl⟩ := okWide_slice Tryz.underlying22 (hval 0 22 v0 rfl rfl)
  obtain ⟨A0_, c0_, e0, K0⟩ := K0
  simp only [Value.cells, List.cons.injEq, Value.slice.injEq, and_true] at e0
  obtain ⟨rfl, rfl, rfl⟩ := e0
  have L := lawFnAsks_a (wm W) x0 _ _ K0
  clear hA0 hval0 hsz0 hval
  refine (L.run W (fun _ _ h => h)).mono ?_
  rintro e W' ⟨v, M', he, _, _, _, hv, bel0⟩
  have bel : Below W.heap.size W W' := bel0
  obtain rfl : v = .bool true := hv
  subst he
  exact ⟨_, rfl, _, _, _, [], _, [], hW', trodAll_mk1 (shut_bool Tryz.underlying4 _), (trodAll_cons_mk (Below.trod laidOut (by kernel_rfl) (of_decide_eq_true (by kernel_rfl)) k0 bel lt0) trodAll_mk0), rfl, bel.frame _, fun h => by cases h⟩
theorem closed0 : (Rows.fnAsksRow.inPlace == Tryz.prog.inPlace 3) = true := by kernel_rfl
theorem closed1 : (Rows.fnAsksRow.unfollowed == Tryz.prog.unfollowed 3) = true := by kernel_rfl
theorem closed2 : (Rows.fnAsksRow.recurses == Tryz.prog.recurses 3) = true := by kernel_rfl
theorem closed3 : (Rows.fnAsksRow.named == Tryz.prog.varsNamed 3) = true := by kernel_rfl
theorem closed : joinedFacts Tryz.prog 3 Tryz.f3 Rows.fnAsksSpec Rows.fnAsksRow = true := by
  unfold joinedFacts
  rw [closed0, closed1, closed2, closed3, laidOut]
  kernel_rfl
theorem over : Rows.fnAsksRow.holds Tryz.pinned (OpenSpec.ofChange Rows.fnAsksSpec) :=
  OpenClaim.holds_of_wide 3 Tryz.f3 rfl rfl rfl rfl rfl rfl rfl ⟨rfl, rfl, rfl, rfl, rfl⟩ rfl rfl rfl rfl rfl (by kernel_rfl) Tryz.func3 closed
    (of_decide_eq_true (by kernel_rfl)) (by unfold Func.isWrapper; first | (rw [if_pos (by decide +kernel)]; kernel_rfl) | (rw [if_neg (by decide +kernel)]; exact ⟨rfl, rfl⟩))
    (fun os started H enc _ => lifted os started H enc)
theorem proved : Rows.FnAsksSaid := over
#print axioms proved
end Go.Proofs.YtgeofmoojifkmaaGreat.fnAsks
namespace Go.Proofs.YtgeofmoojifkmaaGreat
/-- The row, under a short name, for the claim. -/
theorem fnAsks_holds : Rows.FnAsksSaid := fnAsks.proved
end Go.Proofs.YtgeofmoojifkmaaGreat
