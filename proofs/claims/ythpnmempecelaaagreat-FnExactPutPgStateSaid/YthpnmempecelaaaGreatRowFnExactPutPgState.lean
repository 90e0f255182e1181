/- The row of the law FnExactPutPgState, out of its contract by the light walk. -/
import Derived.Test.YthpnmempecelaaaGreatRows
import Derived.Test.YthpnmempecelaaaGreatLawPutPgState
import Derived.Test.YthpnmempecelaaaGreatLwOpen
import Derived.WalkKit
import Derived.ProofKit
import Derived.OpenShut
import Derived.ShutString
import Derived.ChangeOld
import Derived.Below
import Derived.SizedLaws
import Derived.Carry
namespace Go.Proofs.YthpnmempecelaaaGreat.fnExactPutPgState
open Go.ChangeShapes Go.WideShapes Go.ChangeAt Go.RowKit
open Go.ChangeMaps (open_string shut_string)
open Go.Proofs.YthpnmempecelaaaGreat.LwOpen Go.Proofs.YthpnmempecelaaaGreat.Lw Go.Proofs.YthpnmempecelaaaGreat.Hlp
set_option linter.unusedVariables false
theorem own : ownKnob Tryz.prog.godebug = none := by kernel_rfl
theorem laidOut : laidOutB Tryz.prog = true := by kernel_rfl
set_option maxRecDepth 100000 in
theorem open23 : Opens Tryz.prog RPg 23 :=
  opens_to (fun a => ⟨a.1, a.2⟩) (by rintro M a cs ⟨_, _, rfl, rfl, rfl⟩; exact ⟨rfl, trivial⟩) (opens_struct Tryz.underlying23 (opensF_cons (opens_int Tryz.underlying2) (by kernel_rfl) (opensF_one (opens_int Tryz.underlying2) (by kernel_rfl) (by kernel_rfl))))
set_option maxRecDepth 100000 in
theorem open25 : Opens Tryz.prog RVer 25 :=
  opens_to (fun a => ⟨a.1, a.2⟩) (by rintro M a cs ⟨_, _, rfl, rfl, rfl⟩; exact ⟨rfl, trivial⟩) (opens_struct Tryz.underlying25 (opensF_cons (opens_int Tryz.underlying2) (by kernel_rfl) (opensF_one (opens_int Tryz.underlying2) (by kernel_rfl) (by kernel_rfl))))
set_option maxRecDepth 100000 in
theorem open65 : Opens Tryz.prog RHead 65 :=
  opens_to (fun a => ⟨a.1, a.2.1, a.2.2.1, a.2.2.2⟩) (by rintro M a cs ⟨_, _, rfl, ⟨rfl, b1⟩, ⟨_, _, rfl, ⟨rfl, b2⟩, ⟨_, _, rfl, rfl, rfl⟩⟩⟩; exact ⟨rfl, (by simp_all)⟩) (opens_struct Tryz.underlying65 (opensF_cons (opens_string Tryz.underlying9) (by kernel_rfl) (opensF_cons open25 (by kernel_rfl) (opensF_cons (opens_int Tryz.underlying2) (by kernel_rfl) (opensF_one (opens_int Tryz.underlying2) (by kernel_rfl) (by kernel_rfl))))))
set_option maxRecDepth 100000 in
theorem open99 : Opens Tryz.prog RLast 99 :=
  opens_to (fun a => ⟨a.1, a.2.1, a.2.2⟩) (by rintro M a cs ⟨_, _, rfl, rfl, ⟨_, _, rfl, rfl, ⟨rfl, b1⟩⟩⟩; exact ⟨rfl, trivial⟩) (opens_struct Tryz.underlying99 (opensF_cons (opens_int Tryz.underlying2) (by kernel_rfl) (opensF_cons (opens_int Tryz.underlying2) (by kernel_rfl) (opensF_one open25 (by kernel_rfl) (by kernel_rfl)))))
set_option maxRecDepth 100000 in
theorem open68 : Opens Tryz.prog RReq 68 :=
  opens_to (fun a => ⟨a.1, a.2⟩) (by rintro M a cs ⟨_, _, rfl, rfl, rfl⟩; exact ⟨rfl, trivial⟩) (opens_struct Tryz.underlying68 (opensF_cons (opens_int Tryz.underlying2) (by kernel_rfl) (opensF_one (opens_int Tryz.underlying2) (by kernel_rfl) (by kernel_rfl))))
set_option maxRecDepth 100000 in
theorem open70 : Opens Tryz.prog REntry 70 :=
  opens_to (fun a => ⟨a.1, a.2.1, a.2.2.1, a.2.2.2.1, a.2.2.2.2.1, a.2.2.2.2.2.1, a.2.2.2.2.2.2⟩) (by rintro M a cs ⟨_, _, rfl, ⟨rfl, b1⟩, ⟨_, _, rfl, ⟨rfl, b2⟩, ⟨_, _, rfl, ⟨rfl, b3⟩, ⟨_, _, rfl, rfl, ⟨_, _, rfl, rfl, ⟨_, _, rfl, rfl, ⟨rfl, b4⟩⟩⟩⟩⟩⟩⟩; exact ⟨rfl, (by simp_all)⟩) (opens_struct Tryz.underlying70 (opensF_cons open25 (by kernel_rfl) (opensF_cons open25 (by kernel_rfl) (opensF_cons (opens_string Tryz.underlying9) (by kernel_rfl) (opensF_cons (opens_bool Tryz.underlying4) (by kernel_rfl) (opensF_cons (opens_int Tryz.underlying2) (by kernel_rfl) (opensF_cons (opens_int Tryz.underlying2) (by kernel_rfl) (opensF_one open68 (by kernel_rfl) (by kernel_rfl)))))))))
set_option maxRecDepth 100000 in
theorem open73 : Opens Tryz.prog RChunk 73 :=
  opens_to (fun a => ⟨a.1, a.2.1, a.2.2.1, a.2.2.2.1, a.2.2.2.2⟩) (by rintro M a cs ⟨_, _, rfl, ⟨rfl, b1⟩, ⟨_, _, rfl, ⟨rfl, b2⟩, ⟨_, _, rfl, rfl, ⟨_, _, rfl, rfl, ⟨rfl, b3⟩⟩⟩⟩⟩; exact ⟨rfl, (by simp_all)⟩) (opens_struct Tryz.underlying73 (opensF_cons (opens_string Tryz.underlying9) (by kernel_rfl) (opensF_cons open25 (by kernel_rfl) (opensF_cons (opens_int Tryz.underlying2) (by kernel_rfl) (opensF_cons (opens_int Tryz.underlying2) (by kernel_rfl) (opensF_one (opens_string Tryz.underlying9) (by kernel_rfl) (by kernel_rfl)))))))
set_option maxRecDepth 100000 in
theorem open31 : Opens Tryz.prog RPgState 31 :=
  opens_to (fun a => ⟨a.1, a.2.1, a.2.2.1, a.2.2.2.1, a.2.2.2.2.1, a.2.2.2.2.2.1, a.2.2.2.2.2.2.1, a.2.2.2.2.2.2.2.1, a.2.2.2.2.2.2.2.2⟩) (by rintro M a cs ⟨_, _, rfl, ⟨rfl, b1⟩, ⟨_, _, rfl, rfl, ⟨_, _, rfl, rfl, ⟨_, _, rfl, ⟨rfl, b2⟩, ⟨_, _, rfl, ⟨A0, c0, rfl, s0⟩, ⟨_, _, rfl, ⟨A1, c1, rfl, s1⟩, ⟨_, _, rfl, ⟨A2, c2, rfl, s2⟩, ⟨_, _, rfl, ⟨rfl, b3⟩, ⟨A3, c3, rfl, s3⟩⟩⟩⟩⟩⟩⟩⟩⟩; exact ⟨A0, c0, A1, c1, A2, c2, A3, c3, rfl, trivial, s0, s1, s2, s3⟩) (opens_struct Tryz.underlying31 (opensF_cons open23 (by kernel_rfl) (opensF_cons (opens_int Tryz.underlying2) (by kernel_rfl) (opensF_cons (opens_int Tryz.underlying2) (by kernel_rfl) (opensF_cons open25 (by kernel_rfl) (opensF_cons (opens_slice (R := RHead) (z := 5) (by_ := 48) Tryz.underlying26 (by kernel_rfl) open65) (by kernel_rfl) (opensF_cons (opens_slice (R := RLast) (z := 4) (by_ := 32) Tryz.underlying27 (by kernel_rfl) open99) (by kernel_rfl) (opensF_cons (opens_slice (R := REntry) (z := 10) (by_ := 88) Tryz.underlying28 (by kernel_rfl) open70) (by kernel_rfl) (opensF_cons open25 (by kernel_rfl) (opensF_one (opens_slice (R := RChunk) (z := 6) (by_ := 64) Tryz.underlying29 (by kernel_rfl) open73) (by kernel_rfl) (by kernel_rfl)))))))))))
theorem opened0 : Opens Tryz.prog RPgState 31 := open31
set_option maxRecDepth 100000 in
theorem lifted (os : Os) (started : os.Started) (H : Type) (enc : TypeId × Value → H) :
    ReturnsInHanded {} Tryz.checked os 3 .any (Rows.fnExactPutPgStateSpec.pre6 enc Tryz.prog Tryz.f3 Rows.fnExactPutPgStateRow.domain false) (Rows.fnExactPutPgStateSpec.post enc Tryz.prog Tryz.f3 false true false false) := by
  refine returnsInHanded_of_change_sized (C := Tryz.checked) own started (by kernel_rfl) Tryz.func3
    (ChangeSpec.witness6 (enc := enc) (C := Tryz.checked) false ⟨#[], #[.agg #[.int .i64 0, .int .i64 0, .int .i64 0, .int .i64 0, .int .i64 0, .int .i64 0, .slice none 0 0, .slice none 0 0, .slice none 0 0, .int .i64 0, .int .i64 0, .slice none 0 0]], []⟩ 8 (by kernel_rfl) (by kernel_rfl) (by kernel_rfl) (by kernel_rfl)) ?_
  intro W base args ds gs before hval0 hW hcnd hsz0 _
  have hval : ∀ (j : Nat) t v, Tryz.f3.params[j]? = some t → args[j]? = some v → Value.okWide Tryz.prog W .any base t v := hval0
  have hW' := hW
  obtain ⟨p, q, hA0, hV, rfl, hfz, hnd⟩ := hW
  have hA : DataW.TrodAll enc Tryz.prog W 0 (fun _ => true) true Tryz.f3.params.toList args.toList ds p := hA0
  rw [Tryz.params3] at hA hval
  obtain ⟨v0, vs0, d0, ds0, p0, q0, hargs, rfl, rfl, h0, r0⟩ := trodAll_cons hA
  obtain ⟨rfl, rfl, rfl⟩ := trodAll_nil r0
  obtain rfl : args = #[v0] := by cases args; simp_all
  obtain ⟨rfl, rfl⟩ := trodVars_none hV
  have k0 := h0
  have lt0 : ∀ x ∈ p0, x.block < W.heap.size := by obtain ⟨m, hm⟩ := k0; exact DataW.trod_lt m _ _ _ hm
  obtain ⟨fu0, hf0⟩ := h0
  obtain ⟨x0, K0⟩ := opened0 H enc W _ _ _ _ _ _ hf0
  have ev0 : v0 = .agg v0.cells.toList.toArray := by rw [Array.toArray_toList]; exact agg_of Tryz.underlying31 (hval 0 31 v0 rfl rfl)
  have L := lawPutPgState_a (wm W) x0 _ K0
  rw [← ev0] at L
  clear hA0 hval0 hsz0 hval
  refine (L.run W (fun _ _ h => h)).mono ?_
  rintro e W' ⟨v, M', he, _, _, _, hv, bel0⟩
  have bel : Below W.heap.size W W' := bel0
  obtain rfl : v = .bool true := hv
  subst he
  exact ⟨_, rfl, _, _, _, [], _, [], hW', trodAll_mk1 (shut_bool Tryz.underlying4 _), (trodAll_cons_mk (Below.trod laidOut (by kernel_rfl) (of_decide_eq_true (by kernel_rfl)) k0 bel lt0) trodAll_mk0), rfl, bel.frame _, fun h => by cases h⟩
theorem closed0 : (Rows.fnExactPutPgStateRow.inPlace == Tryz.prog.inPlace 3) = true := by kernel_rfl
theorem closed1 : (Rows.fnExactPutPgStateRow.unfollowed == Tryz.prog.unfollowed 3) = true := by kernel_rfl
theorem closed2 : (Rows.fnExactPutPgStateRow.recurses == Tryz.prog.recurses 3) = true := by kernel_rfl
theorem closed3 : (Rows.fnExactPutPgStateRow.named == Tryz.prog.varsNamed 3) = true := by kernel_rfl
theorem closed : joinedFacts Tryz.prog 3 Tryz.f3 Rows.fnExactPutPgStateSpec Rows.fnExactPutPgStateRow = true := by
  unfold joinedFacts
  rw [closed0, closed1, closed2, closed3, laidOut]
  kernel_rfl
theorem over : Rows.fnExactPutPgStateRow.holds Tryz.pinned (OpenSpec.ofChange Rows.fnExactPutPgStateSpec) :=
  OpenClaim.holds_of_wide 3 Tryz.f3 rfl rfl rfl rfl rfl rfl rfl ⟨rfl, rfl, rfl, rfl, rfl⟩ rfl rfl rfl rfl rfl (by kernel_rfl) Tryz.func3 closed
    (of_decide_eq_true (by kernel_rfl)) (by unfold Func.isWrapper; first | (rw [if_pos (by decide +kernel)]; kernel_rfl) | (rw [if_neg (by decide +kernel)]; exact ⟨rfl, rfl⟩))
    (fun os started H enc _ => lifted os started H enc)
theorem proved : Rows.FnExactPutPgStateSaid := over
#print axioms proved
end Go.Proofs.YthpnmempecelaaaGreat.fnExactPutPgState
namespace Go.Proofs.YthpnmempecelaaaGreat
/-- The row, under a short name, for the claim. -/
theorem fnExactPutPgState_holds : Rows.FnExactPutPgStateSaid := fnExactPutPgState.proved
end Go.Proofs.YthpnmempecelaaaGreat
