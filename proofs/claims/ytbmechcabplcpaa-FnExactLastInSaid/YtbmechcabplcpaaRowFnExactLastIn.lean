/- The row of the law FnExactLastIn, out of its plain statement and the walk. -/
import Derived.Test.YtbmechcabplcpaaRows
import Derived.Test.YtbmechcabplcpaaPureFnExactLastIn
import Derived.Test.YtbmechcabplcpaaStmFnExactLastIn
import Derived.Test.YtbmechcabplcpaaOpen
import Derived.Test.YtbmechcabplcpaaWSized
import Derived.Test.YtbmechcabplcpaaMFnExactLastInx4
import Derived.WalkKit
import Derived.ProofKit
import Derived.OpenShut
import Derived.ShutString
import Derived.ChangeOld
import Derived.Below
import Derived.SizedLaws
import Derived.Carry
namespace Go.Proofs.Ytbmechcabplcpaa.fnExactLastIn
open Go.ChangeShapes Go.WideShapes Go.ChangeAt Go.RowKit
open Go.ChangeMaps (open_string shut_string)
open Go.Proofs.Ytbmechcabplcpaa.Open Go.Proofs.Ytbmechcabplcpaa.MFnExactLastIn Go.Proofs.YtbmechcabplcpaaW.PrintWords Go.Proofs.Ytbmechcabplcpaa.Pure.FnExactLastInStm_
set_option linter.unusedVariables false
theorem own : ownKnob Try.prog.godebug = none := by kernel_rfl
theorem laidOut : laidOutB Try.prog = true := by kernel_rfl
set_option maxRecDepth 100000 in
theorem open51 : Opens Try.prog k51 51 good51 :=
  opens_iso (fun x : S51 => (x.f0, x.f1)) (fun a => ⟨a.1, a.2⟩) (fun _ => rfl) (opens_struct Try.underlying51 (opensF_cons (opens_int Try.underlying2) (by kernel_rfl) (opensF_one (opens_int Try.underlying2) (by kernel_rfl) (by kernel_rfl))))
set_option maxRecDepth 100000 in
theorem open52 : Opens Try.prog k52 52 good52 :=
  opens_iso (fun x : S52 => (x.f0, x.f1)) (fun a => ⟨a.1, a.2⟩) (fun _ => rfl) (opens_struct Try.underlying52 (opensF_cons (opens_int Try.underlying2) (by kernel_rfl) (opensF_one (opens_int Try.underlying2) (by kernel_rfl) (by kernel_rfl))))
set_option maxRecDepth 100000 in
theorem open107 : Opens Try.prog k107 107 good107 :=
  opens_iso (fun x : S107 => (x.f0, x.f1)) (fun a => ⟨a.1, a.2⟩) (fun _ => rfl) (opens_struct Try.underlying107 (opensF_cons (opens_int Try.underlying2) (by kernel_rfl) (opensF_one (opens_int Try.underlying2) (by kernel_rfl) (by kernel_rfl))))
set_option maxRecDepth 100000 in
theorem open109 : Opens Try.prog k109 109 good109 :=
  opens_iso (fun x : S109 => (x.f0, x.f1, x.f2, x.f3, x.f4, x.f5, x.f6)) (fun a => ⟨a.1, a.2.1, a.2.2.1, a.2.2.2.1, a.2.2.2.2.1, a.2.2.2.2.2.1, a.2.2.2.2.2.2⟩) (fun _ => rfl) (opens_struct Try.underlying109 (opensF_cons open52 (by kernel_rfl) (opensF_cons open52 (by kernel_rfl) (opensF_cons (opens_string Try.underlying9) (by kernel_rfl) (opensF_cons (opens_bool Try.underlying4) (by kernel_rfl) (opensF_cons (opens_int Try.underlying2) (by kernel_rfl) (opensF_cons (opens_int Try.underlying2) (by kernel_rfl) (opensF_one open107 (by kernel_rfl) (by kernel_rfl)))))))))
set_option maxRecDepth 100000 in
theorem open111 : Opens Try.prog k111 111 good111 :=
  opens_iso (fun x : S111 => (x.f0, x.f1, x.f2)) (fun a => ⟨a.1, a.2.1, a.2.2⟩) (fun _ => rfl) (opens_struct Try.underlying111 (opensF_cons open51 (by kernel_rfl) (opensF_cons open109 (by kernel_rfl) (opensF_one (opens_string Try.underlying9) (by kernel_rfl) (by kernel_rfl)))))
set_option maxRecDepth 100000 in
theorem opened0 : Opens Try.prog (Kd.slice 111 k111) 22 (fun x : List (S111) => (x.length ≤ maxLen ∧ ∀ y ∈ x, (fun x => good111 x) y)) := (opens_slice Try.underlying22 (by kernel_rfl) open111)
set_option maxRecDepth 100000 in
theorem lifted (os : Os) (started : os.Started) (H : Type) (enc : TypeId × Value → H) :
    ReturnsInHanded {} Try.checked os 3 .any (Rows.fnExactLastInSpec.pre6 enc Try.prog Try.f3 Rows.fnExactLastInRow.domain false) (Rows.fnExactLastInSpec.post enc Try.prog Try.f3 false true false false) := by
  refine returnsInHanded_of_change_sized (C := Try.checked) own started (by kernel_rfl) Try.func3
    (ChangeSpec.witness6 (enc := enc) (C := Try.checked) false ⟨#[], #[.slice none 0 0, .string ByteArray.empty], []⟩ 8 (by kernel_rfl) (by kernel_rfl) (by kernel_rfl) (by kernel_rfl)) ?_
  intro W base args ds gs before hval0 hW hcnd hsz0 _
  have hsz : (DataW.weightsEach Try.prog (Try.f3.params.toList ++ Rows.fnExactLastInSpec.plain.varTypes Try.prog) (ds ++ gs)).all (· ≤ reachBytes) = true := hsz0
  have hval : ∀ (j : Nat) t v, Try.f3.params[j]? = some t → args[j]? = some v → Value.okWide Try.prog W .any base t v := hval0
  have hW' := hW
  obtain ⟨p, q, hA0, hV, rfl, hfz, hnd⟩ := hW
  have hA : DataW.TrodAll enc Try.prog W 0 (fun _ => true) true Try.f3.params.toList args.toList ds p := hA0
  rw [Try.params3] at hA hval hsz
  obtain ⟨v0, vs0, d0, ds0, p0, q0, hargs, rfl, rfl, h0, r0⟩ := trodAll_cons hA
  obtain ⟨v1, vs1, d1, ds1, p1, q1, rfl, rfl, rfl, h1, r1⟩ := trodAll_cons r0
  obtain ⟨rfl, rfl, rfl⟩ := trodAll_nil r1
  obtain rfl : args = #[v0, v1] := by cases args; simp_all
  obtain ⟨rfl, rfl⟩ := trodVars_none hV
  have k0 := h0
  have lt0 : ∀ x ∈ p0, x.block < W.heap.size := by obtain ⟨m, hm⟩ := k0; exact DataW.trod_lt m _ _ _ hm
  obtain ⟨fu0, hf0⟩ := h0
  obtain ⟨x0, g0, K0⟩ := opened0 H enc W _ _ _ _ _ _ hf0
  obtain ⟨A0, len0, c0, rfl⟩ := okWide_slice Try.underlying22 (hval 0 22 v0 rfl rfl)
  obtain ⟨A0_, c0_, e0, hc0, hr0⟩ := K0
  simp only [Value.cells, List.cons.injEq, Value.slice.injEq, and_true] at e0
  obtain ⟨rfl, rfl, rfl⟩ := e0
  obtain ⟨x1, rfl, rfl, rfl, y1⟩ := open_string Try.underlying9 (hval 1 9 v1 rfl rfl) h1
  have w1 : x1.size ≤ 140737488351232 := by
    have z := sized_string hsz (j := 1) (t := 9) rfl rfl
    rw [Array.length_toList] at z
    exact z
  clear hA0 hval0 hsz0 hsz hval
  obtain ⟨k, h⟩ := Pure.FnExactLastIn x0 g0 x1 w1
  refine (Go.Proofs.Ytbmechcabplcpaa.MFnExactLastIn.laws_FnExactLastIn.calls k _ _ x0 x1 true W hr0 hc0 h).mono ?_
  rintro e W' ⟨he, bel0⟩
  have bel : Below W.heap.size W W' := bel0
  subst he
  exact ⟨_, rfl, _, _, _, [], _, [], hW', trodAll_mk1 (shut_bool Try.underlying4 _), (trodAll_cons_mk (Below.trod laidOut (by kernel_rfl) (of_decide_eq_true (by kernel_rfl)) k0 bel lt0) (trodAll_cons_mk (shut_string Try.underlying9 y1) trodAll_mk0)), rfl, bel.frame _, fun h => by cases h⟩
theorem over : Rows.fnExactLastInRow.holds Try.pinned (OpenSpec.ofChange Rows.fnExactLastInSpec) :=
  OpenClaim.holds_of_wide 3 Try.f3 rfl rfl rfl rfl rfl rfl rfl ⟨rfl, rfl, rfl, rfl, rfl⟩ rfl rfl rfl rfl rfl (by kernel_rfl) Try.func3 (by kernel_rfl)
    (of_decide_eq_true (by kernel_rfl)) (by unfold Func.isWrapper; first | (rw [if_pos (by decide +kernel)]; kernel_rfl) | (rw [if_neg (by decide +kernel)]; exact ⟨rfl, rfl⟩))
    (fun os started H enc _ => lifted os started H enc)
theorem proved : Rows.FnExactLastInSaid := over
#print axioms proved
end Go.Proofs.Ytbmechcabplcpaa.fnExactLastIn
namespace Go.Proofs.Ytbmechcabplcpaa
/-- The row, under a short name, for the claim. -/
theorem fnExactLastIn_holds : Rows.FnExactLastInSaid := fnExactLastIn.proved
end Go.Proofs.Ytbmechcabplcpaa
