/- The row of the law FnExactChosen, out of its contract by the light walk. -/
import Derived.Test.YtmmgknhefobloaaRows
import Derived.Test.YtmmgknhefobloaaLawChosen
import Derived.Test.YtmmgknhefobloaaLwOpen
import Derived.WalkKit
import Derived.ProofKit
import Derived.OpenShut
import Derived.ShutString
import Derived.ChangeOld
import Derived.Below
import Derived.SizedLaws
import Derived.Carry
namespace Go.Proofs.Ytmmgknhefobloaa.fnExactChosen
open Go.ChangeShapes Go.WideShapes Go.ChangeAt Go.RowKit
open Go.ChangeMaps (open_string shut_string)
open Go.Proofs.Ytmmgknhefobloaa.LwOpen Go.Proofs.Ytmmgknhefobloaa.Lw Go.Proofs.Ytmmgknhefobloaa.Hlp
set_option linter.unusedVariables false
theorem own : ownKnob Try.prog.godebug = none := by kernel_rfl
theorem laidOut : laidOutB Try.prog = true := by kernel_rfl
set_option maxRecDepth 100000 in
theorem open37 : Opens Try.prog RBallot 37 :=
  opens_to (fun a => ⟨a.1, a.2⟩) (by rintro M a cs ⟨_, _, rfl, rfl, rfl⟩; exact ⟨rfl, trivial⟩) (opens_struct Try.underlying37 (opensF_cons (opens_int Try.underlying2) (by kernel_rfl) (opensF_one (opens_int Try.underlying2) (by kernel_rfl) (by kernel_rfl))))
set_option maxRecDepth 100000 in
theorem open39 : Opens Try.prog RInc 39 :=
  opens_to (fun a => ⟨a.1, a.2.1, a.2.2.1, a.2.2.2⟩) (by rintro M a cs ⟨_, _, rfl, rfl, ⟨_, _, rfl, rfl, ⟨_, _, rfl, rfl, rfl⟩⟩⟩; exact ⟨rfl, trivial⟩) (opens_struct Try.underlying39 (opensF_cons (opens_int Try.underlying2) (by kernel_rfl) (opensF_cons (opens_int Try.underlying2) (by kernel_rfl) (opensF_cons (opens_int Try.underlying2) (by kernel_rfl) (opensF_one (opens_int Try.underlying2) (by kernel_rfl) (by kernel_rfl))))))
set_option maxRecDepth 100000 in
theorem open84 : Opens Try.prog RSlot 84 :=
  opens_to (fun a => ⟨a.1, a.2.1, a.2.2.1, a.2.2.2⟩) (by rintro M a cs ⟨_, _, rfl, rfl, ⟨_, _, rfl, ⟨rfl, b1⟩, ⟨_, _, rfl, ⟨rfl, b2⟩, ⟨rfl, b3⟩⟩⟩⟩; exact ⟨rfl, trivial⟩) (opens_struct Try.underlying84 (opensF_cons (opens_int Try.underlying2) (by kernel_rfl) (opensF_cons open37 (by kernel_rfl) (opensF_cons open37 (by kernel_rfl) (opensF_one open39 (by kernel_rfl) (by kernel_rfl))))))
set_option maxRecDepth 100000 in
theorem open42 : Opens Try.prog RTry 42 :=
  opens_to (fun a => ⟨a.1, a.2.1, a.2.2.1, a.2.2.2.1, a.2.2.2.2.1, a.2.2.2.2.2.1, a.2.2.2.2.2.2⟩) (by rintro M a cs ⟨_, _, rfl, rfl, ⟨_, _, rfl, ⟨rfl, b1⟩, ⟨_, _, rfl, ⟨rfl, b2⟩, ⟨_, _, rfl, ⟨rfl, b3⟩, ⟨_, _, rfl, ⟨A0, c0, rfl, s0⟩, ⟨_, _, rfl, ⟨A1, c1, rfl, s1⟩, rfl⟩⟩⟩⟩⟩⟩; exact ⟨A0, c0, A1, c1, rfl, trivial, s0, s1⟩) (opens_struct Try.underlying42 (opensF_cons (opens_int Try.underlying2) (by kernel_rfl) (opensF_cons open37 (by kernel_rfl) (opensF_cons open39 (by kernel_rfl) (opensF_cons open37 (by kernel_rfl) (opensF_cons (opens_slice (R := RInt) (z := 1) (by_ := 8) Try.underlying40 (by kernel_rfl) (opens_int Try.underlying2)) (by kernel_rfl) (opensF_cons (opens_slice (R := RInt) (z := 1) (by_ := 8) Try.underlying40 (by kernel_rfl) (opens_int Try.underlying2)) (by kernel_rfl) (opensF_one (opens_bool Try.underlying4) (by kernel_rfl) (by kernel_rfl)))))))))
set_option maxRecDepth 100000 in
theorem open44 : Opens Try.prog RMon 44 :=
  opens_to (fun a => ⟨a.1, a.2.1, a.2.2.1, a.2.2.2⟩) (by rintro M a cs ⟨_, _, rfl, rfl, ⟨_, _, rfl, rfl, ⟨_, _, rfl, ⟨A0, c0, rfl, s0⟩, ⟨A1, c1, A2, c2, rfl, b1, s1, s2⟩⟩⟩⟩; exact ⟨A0, c0, A1, c1, A2, c2, rfl, trivial, s0, s1, s2⟩) (opens_struct Try.underlying44 (opensF_cons (opens_int Try.underlying2) (by kernel_rfl) (opensF_cons (opens_int Try.underlying2) (by kernel_rfl) (opensF_cons (opens_slice (R := RSlot) (z := 9) (by_ := 72) Try.underlying35 (by kernel_rfl) open84) (by kernel_rfl) (opensF_one open42 (by kernel_rfl) (by kernel_rfl))))))
set_option maxRecDepth 100000 in
theorem opened0 : Opens Try.prog (RSl RMon 15 168) 22 := (opens_slice (R := RMon) (z := 15) (by_ := 168) Try.underlying22 (by kernel_rfl) open44)
set_option maxRecDepth 100000 in
theorem lifted (os : Os) (started : os.Started) (H : Type) (enc : TypeId × Value → H) :
    ReturnsInHanded {} Try.checked os 3 .any (Rows.fnExactChosenSpec.pre6 enc Try.prog Try.f3 Rows.fnExactChosenRow.domain false) (Rows.fnExactChosenSpec.post enc Try.prog Try.f3 false true false false) := by
  refine returnsInHanded_of_change_sized (C := Try.checked) own started (by kernel_rfl) Try.func3
    (ChangeSpec.witness6 (enc := enc) (C := Try.checked) false ⟨#[], #[.slice none 0 0, .int .i64 0], []⟩ 8 (by kernel_rfl) (by kernel_rfl) (by kernel_rfl) (by kernel_rfl)) ?_
  intro W base args ds gs before hval0 hW hcnd hsz0 _
  have hval : ∀ (j : Nat) t v, Try.f3.params[j]? = some t → args[j]? = some v → Value.okWide Try.prog W .any base t v := hval0
  have hW' := hW
  obtain ⟨p, q, hA0, hV, rfl, hfz, hnd⟩ := hW
  have hA : DataW.TrodAll enc Try.prog W 0 (fun _ => true) true Try.f3.params.toList args.toList ds p := hA0
  rw [Try.params3] at hA hval
  obtain ⟨v0, vs0, d0, ds0, p0, q0, hargs, rfl, rfl, h0, r0⟩ := trodAll_cons hA
  obtain ⟨v1, vs1, d1, ds1, p1, q1, rfl, rfl, rfl, h1, r1⟩ := trodAll_cons r0
  obtain ⟨rfl, rfl, rfl⟩ := trodAll_nil r1
  obtain rfl : args = #[v0, v1] := by cases args; simp_all
  obtain ⟨rfl, rfl⟩ := trodVars_none hV
  have k0 := h0
  have lt0 : ∀ x ∈ p0, x.block < W.heap.size := by obtain ⟨m, hm⟩ := k0; exact DataW.trod_lt m _ _ _ hm
  obtain ⟨fu0, hf0⟩ := h0
  obtain ⟨x0, K0⟩ := opened0 H enc W _ _ _ _ _ _ hf0
  obtain ⟨A0, len0, c0, rfl⟩ := okWide_slice Try.underlying22 (hval 0 22 v0 rfl rfl)
  obtain ⟨A0_, c0_, e0, K0⟩ := K0
  simp only [Value.cells, List.cons.injEq, Value.slice.injEq, and_true] at e0
  obtain ⟨rfl, rfl, rfl⟩ := e0
  obtain ⟨x1, rfl, rfl, rfl, w1⟩ := open_int Try.underlying2 (hval 1 2 v1 rfl rfl) h1
  have L := lawChosen_a (wm W) x0 x1 _ _ K0
  clear hA0 hval0 hsz0 hval
  refine (L.run W (fun _ _ h => h)).mono ?_
  rintro e W' ⟨v, M', he, _, _, _, hv, bel0⟩
  have bel : Below W.heap.size W W' := bel0
  obtain rfl : v = .bool true := hv
  subst he
  exact ⟨_, rfl, _, _, _, [], _, [], hW', trodAll_mk1 (shut_bool Try.underlying4 _), (trodAll_cons_mk (Below.trod laidOut (by kernel_rfl) (of_decide_eq_true (by kernel_rfl)) k0 bel lt0) (trodAll_cons_mk (shut_int Try.underlying2 w1) trodAll_mk0)), rfl, bel.frame _, fun h => by cases h⟩
theorem closed0 : (Rows.fnExactChosenRow.inPlace == Try.prog.inPlace 3) = true := by kernel_rfl
theorem closed1 : (Rows.fnExactChosenRow.unfollowed == Try.prog.unfollowed 3) = true := by kernel_rfl
theorem closed2 : (Rows.fnExactChosenRow.recurses == Try.prog.recurses 3) = true := by kernel_rfl
theorem closed3 : (Rows.fnExactChosenRow.named == Try.prog.varsNamed 3) = true := by kernel_rfl
theorem closed : joinedFacts Try.prog 3 Try.f3 Rows.fnExactChosenSpec Rows.fnExactChosenRow = true := by
  unfold joinedFacts
  rw [closed0, closed1, closed2, closed3, laidOut]
  kernel_rfl
theorem over : Rows.fnExactChosenRow.holds Try.pinned (OpenSpec.ofChange Rows.fnExactChosenSpec) :=
  OpenClaim.holds_of_wide 3 Try.f3 rfl rfl rfl rfl rfl rfl rfl ⟨rfl, rfl, rfl, rfl, rfl⟩ rfl rfl rfl rfl rfl (by kernel_rfl) Try.func3 closed
    (of_decide_eq_true (by kernel_rfl)) (by unfold Func.isWrapper; first | (rw [if_pos (by decide +kernel)]; kernel_rfl) | (rw [if_neg (by decide +kernel)]; exact ⟨rfl, rfl⟩))
    (fun os started H enc _ => lifted os started H enc)
theorem proved : Rows.FnExactChosenSaid := over
#print axioms proved
end Go.Proofs.Ytmmgknhefobloaa.fnExactChosen
namespace Go.Proofs.Ytmmgknhefobloaa
/-- The row, under a short name, for the claim. -/
theorem fnExactChosen_holds : Rows.FnExactChosenSaid := fnExactChosen.proved
end Go.Proofs.Ytmmgknhefobloaa
