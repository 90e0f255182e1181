/- The row of the law FnExactStartedOf, out of its contract by the light walk. -/
import Derived.Test.YtmdbeooianiojaaRows
import Derived.Test.YtmdbeooianiojaaLawStartedOf
import Derived.Test.YtmdbeooianiojaaLwOpen
import Derived.WalkKit
import Derived.ProofKit
import Derived.OpenShut
import Derived.ShutString
import Derived.ChangeOld
import Derived.Below
import Derived.SizedLaws
import Derived.Carry
namespace Go.Proofs.Ytmdbeooianiojaa.fnExactStartedOf
open Go.ChangeShapes Go.WideShapes Go.ChangeAt Go.RowKit
open Go.ChangeMaps (open_string shut_string)
open Go.Proofs.Ytmdbeooianiojaa.LwOpen Go.Proofs.Ytmdbeooianiojaa.Lw Go.Proofs.Ytmdbeooianiojaa.Hlp
set_option linter.unusedVariables false
theorem own : ownKnob Try.prog.godebug = none := by kernel_rfl
theorem laidOut : laidOutB Try.prog = true := by kernel_rfl
set_option maxRecDepth 100000 in
theorem open32 : Opens Try.prog RPg 32 :=
  opens_to (fun a => ⟨a.1, a.2⟩) (by rintro M a cs ⟨_, _, rfl, rfl, rfl⟩; exact ⟨rfl, trivial⟩) (opens_struct Try.underlying32 (opensF_cons (opens_int Try.underlying2) (by kernel_rfl) (opensF_one (opens_int Try.underlying2) (by kernel_rfl) (by kernel_rfl))))
set_option maxRecDepth 100000 in
theorem open34 : Opens Try.prog RVer 34 :=
  opens_to (fun a => ⟨a.1, a.2⟩) (by rintro M a cs ⟨_, _, rfl, rfl, rfl⟩; exact ⟨rfl, trivial⟩) (opens_struct Try.underlying34 (opensF_cons (opens_int Try.underlying2) (by kernel_rfl) (opensF_one (opens_int Try.underlying2) (by kernel_rfl) (by kernel_rfl))))
set_option maxRecDepth 100000 in
theorem open107 : Opens Try.prog RHead 107 :=
  opens_to (fun a => ⟨a.1, a.2.1, a.2.2.1, a.2.2.2⟩) (by rintro M a cs ⟨_, _, rfl, ⟨rfl, b1⟩, ⟨_, _, rfl, ⟨rfl, b2⟩, ⟨_, _, rfl, rfl, rfl⟩⟩⟩; exact ⟨rfl, (by simp_all)⟩) (opens_struct Try.underlying107 (opensF_cons (opens_string Try.underlying9) (by kernel_rfl) (opensF_cons open34 (by kernel_rfl) (opensF_cons (opens_int Try.underlying2) (by kernel_rfl) (opensF_one (opens_int Try.underlying2) (by kernel_rfl) (by kernel_rfl))))))
set_option maxRecDepth 100000 in
theorem open120 : Opens Try.prog RLast 120 :=
  opens_to (fun a => ⟨a.1, a.2.1, a.2.2⟩) (by rintro M a cs ⟨_, _, rfl, rfl, ⟨_, _, rfl, rfl, ⟨rfl, b1⟩⟩⟩; exact ⟨rfl, trivial⟩) (opens_struct Try.underlying120 (opensF_cons (opens_int Try.underlying2) (by kernel_rfl) (opensF_cons (opens_int Try.underlying2) (by kernel_rfl) (opensF_one open34 (by kernel_rfl) (by kernel_rfl)))))
set_option maxRecDepth 100000 in
theorem open109 : Opens Try.prog RReq 109 :=
  opens_to (fun a => ⟨a.1, a.2⟩) (by rintro M a cs ⟨_, _, rfl, rfl, rfl⟩; exact ⟨rfl, trivial⟩) (opens_struct Try.underlying109 (opensF_cons (opens_int Try.underlying2) (by kernel_rfl) (opensF_one (opens_int Try.underlying2) (by kernel_rfl) (by kernel_rfl))))
set_option maxRecDepth 100000 in
theorem open111 : Opens Try.prog REntry 111 :=
  opens_to (fun a => ⟨a.1, a.2.1, a.2.2.1, a.2.2.2.1, a.2.2.2.2.1, a.2.2.2.2.2.1, a.2.2.2.2.2.2⟩) (by rintro M a cs ⟨_, _, rfl, ⟨rfl, b1⟩, ⟨_, _, rfl, ⟨rfl, b2⟩, ⟨_, _, rfl, ⟨rfl, b3⟩, ⟨_, _, rfl, rfl, ⟨_, _, rfl, rfl, ⟨_, _, rfl, rfl, ⟨rfl, b4⟩⟩⟩⟩⟩⟩⟩; exact ⟨rfl, (by simp_all)⟩) (opens_struct Try.underlying111 (opensF_cons open34 (by kernel_rfl) (opensF_cons open34 (by kernel_rfl) (opensF_cons (opens_string Try.underlying9) (by kernel_rfl) (opensF_cons (opens_bool Try.underlying4) (by kernel_rfl) (opensF_cons (opens_int Try.underlying2) (by kernel_rfl) (opensF_cons (opens_int Try.underlying2) (by kernel_rfl) (opensF_one open109 (by kernel_rfl) (by kernel_rfl)))))))))
set_option maxRecDepth 100000 in
theorem open114 : Opens Try.prog RChunk 114 :=
  opens_to (fun a => ⟨a.1, a.2.1, a.2.2.1, a.2.2.2.1, a.2.2.2.2⟩) (by rintro M a cs ⟨_, _, rfl, ⟨rfl, b1⟩, ⟨_, _, rfl, ⟨rfl, b2⟩, ⟨_, _, rfl, rfl, ⟨_, _, rfl, rfl, ⟨rfl, b3⟩⟩⟩⟩⟩; exact ⟨rfl, (by simp_all)⟩) (opens_struct Try.underlying114 (opensF_cons (opens_string Try.underlying9) (by kernel_rfl) (opensF_cons open34 (by kernel_rfl) (opensF_cons (opens_int Try.underlying2) (by kernel_rfl) (opensF_cons (opens_int Try.underlying2) (by kernel_rfl) (opensF_one (opens_string Try.underlying9) (by kernel_rfl) (by kernel_rfl)))))))
set_option maxRecDepth 100000 in
theorem open40 : Opens Try.prog RPgState 40 :=
  opens_to (fun a => ⟨a.1, a.2.1, a.2.2.1, a.2.2.2.1, a.2.2.2.2.1, a.2.2.2.2.2.1, a.2.2.2.2.2.2.1, a.2.2.2.2.2.2.2.1, a.2.2.2.2.2.2.2.2⟩) (by rintro M a cs ⟨_, _, rfl, ⟨rfl, b1⟩, ⟨_, _, rfl, rfl, ⟨_, _, rfl, rfl, ⟨_, _, rfl, ⟨rfl, b2⟩, ⟨_, _, rfl, ⟨A0, c0, rfl, s0⟩, ⟨_, _, rfl, ⟨A1, c1, rfl, s1⟩, ⟨_, _, rfl, ⟨A2, c2, rfl, s2⟩, ⟨_, _, rfl, ⟨rfl, b3⟩, ⟨A3, c3, rfl, s3⟩⟩⟩⟩⟩⟩⟩⟩⟩; exact ⟨A0, c0, A1, c1, A2, c2, A3, c3, rfl, trivial, s0, s1, s2, s3⟩) (opens_struct Try.underlying40 (opensF_cons open32 (by kernel_rfl) (opensF_cons (opens_int Try.underlying2) (by kernel_rfl) (opensF_cons (opens_int Try.underlying2) (by kernel_rfl) (opensF_cons open34 (by kernel_rfl) (opensF_cons (opens_slice (R := RHead) (z := 5) (by_ := 48) Try.underlying35 (by kernel_rfl) open107) (by kernel_rfl) (opensF_cons (opens_slice (R := RLast) (z := 4) (by_ := 32) Try.underlying36 (by kernel_rfl) open120) (by kernel_rfl) (opensF_cons (opens_slice (R := REntry) (z := 10) (by_ := 88) Try.underlying37 (by kernel_rfl) open111) (by kernel_rfl) (opensF_cons open34 (by kernel_rfl) (opensF_one (opens_slice (R := RChunk) (z := 6) (by_ := 64) Try.underlying38 (by kernel_rfl) open114) (by kernel_rfl) (by kernel_rfl)))))))))))
set_option maxRecDepth 100000 in
theorem open42 : Opens Try.prog RNotice 42 :=
  opens_to (fun a => ⟨a.1, a.2⟩) (by rintro M a cs ⟨_, _, rfl, rfl, ⟨A0, c0, A1, c1, A2, c2, A3, c3, rfl, b1, s0, s1, s2, s3⟩⟩; exact ⟨A0, c0, A1, c1, A2, c2, A3, c3, rfl, trivial, s0, s1, s2, s3⟩) (opens_struct Try.underlying42 (opensF_cons (opens_int Try.underlying2) (by kernel_rfl) (opensF_one open40 (by kernel_rfl) (by kernel_rfl))))
set_option maxRecDepth 100000 in
theorem opened0 : Opens Try.prog (RSl RNotice 13 168) 22 := (opens_slice (R := RNotice) (z := 13) (by_ := 168) Try.underlying22 (by kernel_rfl) open42)
set_option maxRecDepth 100000 in
theorem lifted (os : Os) (started : os.Started) (H : Type) (enc : TypeId × Value → H) :
    ReturnsInHanded {} Try.checked os 4 .any (Rows.fnExactStartedOfSpec.pre6 enc Try.prog Try.f4 Rows.fnExactStartedOfRow.domain false) (Rows.fnExactStartedOfSpec.post enc Try.prog Try.f4 false true false false) := by
  refine returnsInHanded_of_change_sized (C := Try.checked) own started (by kernel_rfl) Try.func4
    (ChangeSpec.witness6 (enc := enc) (C := Try.checked) false ⟨#[], #[.slice none 0 0], []⟩ 8 (by kernel_rfl) (by kernel_rfl) (by kernel_rfl) (by kernel_rfl)) ?_
  intro W base args ds gs before hval0 hW hcnd hsz0 _
  have hval : ∀ (j : Nat) t v, Try.f4.params[j]? = some t → args[j]? = some v → Value.okWide Try.prog W .any base t v := hval0
  have hW' := hW
  obtain ⟨p, q, hA0, hV, rfl, hfz, hnd⟩ := hW
  have hA : DataW.TrodAll enc Try.prog W 0 (fun _ => true) true Try.f4.params.toList args.toList ds p := hA0
  rw [Try.params4] at hA hval
  obtain ⟨v0, vs0, d0, ds0, p0, q0, hargs, rfl, rfl, h0, r0⟩ := trodAll_cons hA
  obtain ⟨rfl, rfl, rfl⟩ := trodAll_nil r0
  obtain rfl : args = #[v0] := by cases args; simp_all
  obtain ⟨rfl, rfl⟩ := trodVars_none hV
  have k0 := h0
  have lt0 : ∀ x ∈ p0, x.block < W.heap.size := by obtain ⟨m, hm⟩ := k0; exact DataW.trod_lt m _ _ _ hm
  obtain ⟨fu0, hf0⟩ := h0
  obtain ⟨x0, K0⟩ := opened0 H enc W _ _ _ _ _ _ hf0
  obtain ⟨A0, len0, c0, rfl⟩ := okWide_slice Try.underlying22 (hval 0 22 v0 rfl rfl)
  obtain ⟨A0_, c0_, e0, K0⟩ := K0
  simp only [Value.cells, List.cons.injEq, Value.slice.injEq, and_true] at e0
  obtain ⟨rfl, rfl, rfl⟩ := e0
  have L := lawStartedOf_a (wm W) x0 _ _ K0
  clear hA0 hval0 hsz0 hval
  refine (L.run W (fun _ _ h => h)).mono ?_
  rintro e W' ⟨v, M', he, _, _, _, hv, bel0⟩
  have bel : Below W.heap.size W W' := bel0
  obtain rfl : v = .bool true := hv
  subst he
  exact ⟨_, rfl, _, _, _, [], _, [], hW', trodAll_mk1 (shut_bool Try.underlying4 _), (trodAll_cons_mk (Below.trod laidOut (by kernel_rfl) (of_decide_eq_true (by kernel_rfl)) k0 bel lt0) trodAll_mk0), rfl, bel.frame _, fun h => by cases h⟩
theorem over : Rows.fnExactStartedOfRow.holds Try.pinned (OpenSpec.ofChange Rows.fnExactStartedOfSpec) :=
  OpenClaim.holds_of_wide 4 Try.f4 rfl rfl rfl rfl rfl rfl rfl ⟨rfl, rfl, rfl, rfl, rfl⟩ rfl rfl rfl rfl rfl (by kernel_rfl) Try.func4 (by kernel_rfl)
    (of_decide_eq_true (by kernel_rfl)) (by unfold Func.isWrapper; first | (rw [if_pos (by decide +kernel)]; kernel_rfl) | (rw [if_neg (by decide +kernel)]; exact ⟨rfl, rfl⟩))
    (fun os started H enc _ => lifted os started H enc)
theorem proved : Rows.FnExactStartedOfSaid := over
#print axioms proved
end Go.Proofs.Ytmdbeooianiojaa.fnExactStartedOf
namespace Go.Proofs.Ytmdbeooianiojaa
/-- The row, under a short name, for the claim. -/
theorem fnExactStartedOf_holds : Rows.FnExactStartedOfSaid := fnExactStartedOf.proved
end Go.Proofs.Ytmdbeooianiojaa
