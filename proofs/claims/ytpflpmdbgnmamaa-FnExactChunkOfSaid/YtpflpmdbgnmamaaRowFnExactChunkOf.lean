/- The row of the law FnExactChunkOf, out of its contract by the light walk. -/
import Derived.Test.YtpflpmdbgnmamaaRows
import Derived.Test.YtpflpmdbgnmamaaLawChunkOf
import Derived.Test.YtpflpmdbgnmamaaLwOpen
import Derived.WalkKit
import Derived.ProofKit
import Derived.OpenShut
import Derived.ShutString
import Derived.ChangeOld
import Derived.Below
import Derived.SizedLaws
import Derived.Carry
namespace Go.Proofs.Ytpflpmdbgnmamaa.fnExactChunkOf
open Go.ChangeShapes Go.WideShapes Go.ChangeAt Go.RowKit
open Go.ChangeMaps (open_string shut_string)
open Go.Proofs.Ytpflpmdbgnmamaa.LwOpen Go.Proofs.Ytpflpmdbgnmamaa.Lw Go.Proofs.Ytpflpmdbgnmamaa.Hlp
set_option linter.unusedVariables false
theorem own : ownKnob Try.prog.godebug = none := by kernel_rfl
theorem laidOut : laidOutB Try.prog = true := by kernel_rfl
set_option maxRecDepth 100000 in
theorem open23 : Opens Try.prog RPg 23 :=
  opens_to (fun a => ⟨a.1, a.2⟩) (by rintro M a cs ⟨_, _, rfl, rfl, rfl⟩; exact ⟨rfl, trivial⟩) (opens_struct Try.underlying23 (opensF_cons (opens_int Try.underlying2) (by kernel_rfl) (opensF_one (opens_int Try.underlying2) (by kernel_rfl) (by kernel_rfl))))
set_option maxRecDepth 100000 in
theorem open25 : Opens Try.prog RVer 25 :=
  opens_to (fun a => ⟨a.1, a.2⟩) (by rintro M a cs ⟨_, _, rfl, rfl, rfl⟩; exact ⟨rfl, trivial⟩) (opens_struct Try.underlying25 (opensF_cons (opens_int Try.underlying2) (by kernel_rfl) (opensF_one (opens_int Try.underlying2) (by kernel_rfl) (by kernel_rfl))))
set_option maxRecDepth 100000 in
theorem open96 : Opens Try.prog RHead 96 :=
  opens_to (fun a => ⟨a.1, a.2.1, a.2.2.1, a.2.2.2⟩) (by rintro M a cs ⟨_, _, rfl, ⟨rfl, b1⟩, ⟨_, _, rfl, ⟨rfl, b2⟩, ⟨_, _, rfl, rfl, rfl⟩⟩⟩; exact ⟨rfl, (by simp_all)⟩) (opens_struct Try.underlying96 (opensF_cons (opens_string Try.underlying9) (by kernel_rfl) (opensF_cons open25 (by kernel_rfl) (opensF_cons (opens_int Try.underlying2) (by kernel_rfl) (opensF_one (opens_int Try.underlying2) (by kernel_rfl) (by kernel_rfl))))))
set_option maxRecDepth 100000 in
theorem open120 : Opens Try.prog RLast 120 :=
  opens_to (fun a => ⟨a.1, a.2.1, a.2.2⟩) (by rintro M a cs ⟨_, _, rfl, rfl, ⟨_, _, rfl, rfl, ⟨rfl, b1⟩⟩⟩; exact ⟨rfl, trivial⟩) (opens_struct Try.underlying120 (opensF_cons (opens_int Try.underlying2) (by kernel_rfl) (opensF_cons (opens_int Try.underlying2) (by kernel_rfl) (opensF_one open25 (by kernel_rfl) (by kernel_rfl)))))
set_option maxRecDepth 100000 in
theorem open99 : Opens Try.prog RReq 99 :=
  opens_to (fun a => ⟨a.1, a.2⟩) (by rintro M a cs ⟨_, _, rfl, rfl, rfl⟩; exact ⟨rfl, trivial⟩) (opens_struct Try.underlying99 (opensF_cons (opens_int Try.underlying2) (by kernel_rfl) (opensF_one (opens_int Try.underlying2) (by kernel_rfl) (by kernel_rfl))))
set_option maxRecDepth 100000 in
theorem open101 : Opens Try.prog REntry 101 :=
  opens_to (fun a => ⟨a.1, a.2.1, a.2.2.1, a.2.2.2.1, a.2.2.2.2.1, a.2.2.2.2.2.1, a.2.2.2.2.2.2⟩) (by rintro M a cs ⟨_, _, rfl, ⟨rfl, b1⟩, ⟨_, _, rfl, ⟨rfl, b2⟩, ⟨_, _, rfl, ⟨rfl, b3⟩, ⟨_, _, rfl, rfl, ⟨_, _, rfl, rfl, ⟨_, _, rfl, rfl, ⟨rfl, b4⟩⟩⟩⟩⟩⟩⟩; exact ⟨rfl, (by simp_all)⟩) (opens_struct Try.underlying101 (opensF_cons open25 (by kernel_rfl) (opensF_cons open25 (by kernel_rfl) (opensF_cons (opens_string Try.underlying9) (by kernel_rfl) (opensF_cons (opens_bool Try.underlying4) (by kernel_rfl) (opensF_cons (opens_int Try.underlying2) (by kernel_rfl) (opensF_cons (opens_int Try.underlying2) (by kernel_rfl) (opensF_one open99 (by kernel_rfl) (by kernel_rfl)))))))))
set_option maxRecDepth 100000 in
theorem open104 : Opens Try.prog RChunk 104 :=
  opens_to (fun a => ⟨a.1, a.2.1, a.2.2.1, a.2.2.2.1, a.2.2.2.2⟩) (by rintro M a cs ⟨_, _, rfl, ⟨rfl, b1⟩, ⟨_, _, rfl, ⟨rfl, b2⟩, ⟨_, _, rfl, rfl, ⟨_, _, rfl, rfl, ⟨rfl, b3⟩⟩⟩⟩⟩; exact ⟨rfl, (by simp_all)⟩) (opens_struct Try.underlying104 (opensF_cons (opens_string Try.underlying9) (by kernel_rfl) (opensF_cons open25 (by kernel_rfl) (opensF_cons (opens_int Try.underlying2) (by kernel_rfl) (opensF_cons (opens_int Try.underlying2) (by kernel_rfl) (opensF_one (opens_string Try.underlying9) (by kernel_rfl) (by kernel_rfl)))))))
set_option maxRecDepth 100000 in
theorem open31 : Opens Try.prog RPgState 31 :=
  opens_to (fun a => ⟨a.1, a.2.1, a.2.2.1, a.2.2.2.1, a.2.2.2.2.1, a.2.2.2.2.2.1, a.2.2.2.2.2.2.1, a.2.2.2.2.2.2.2.1, a.2.2.2.2.2.2.2.2⟩) (by rintro M a cs ⟨_, _, rfl, ⟨rfl, b1⟩, ⟨_, _, rfl, rfl, ⟨_, _, rfl, rfl, ⟨_, _, rfl, ⟨rfl, b2⟩, ⟨_, _, rfl, ⟨A0, c0, rfl, s0⟩, ⟨_, _, rfl, ⟨A1, c1, rfl, s1⟩, ⟨_, _, rfl, ⟨A2, c2, rfl, s2⟩, ⟨_, _, rfl, ⟨rfl, b3⟩, ⟨A3, c3, rfl, s3⟩⟩⟩⟩⟩⟩⟩⟩⟩; exact ⟨A0, c0, A1, c1, A2, c2, A3, c3, rfl, trivial, s0, s1, s2, s3⟩) (opens_struct Try.underlying31 (opensF_cons open23 (by kernel_rfl) (opensF_cons (opens_int Try.underlying2) (by kernel_rfl) (opensF_cons (opens_int Try.underlying2) (by kernel_rfl) (opensF_cons open25 (by kernel_rfl) (opensF_cons (opens_slice (R := RHead) (z := 5) (by_ := 48) Try.underlying26 (by kernel_rfl) open96) (by kernel_rfl) (opensF_cons (opens_slice (R := RLast) (z := 4) (by_ := 32) Try.underlying27 (by kernel_rfl) open120) (by kernel_rfl) (opensF_cons (opens_slice (R := REntry) (z := 10) (by_ := 88) Try.underlying28 (by kernel_rfl) open101) (by kernel_rfl) (opensF_cons open25 (by kernel_rfl) (opensF_one (opens_slice (R := RChunk) (z := 6) (by_ := 64) Try.underlying29 (by kernel_rfl) open104) (by kernel_rfl) (by kernel_rfl)))))))))))
theorem opened0 : Opens Try.prog RPgState 31 := open31
theorem opened2 : Opens Try.prog RVer 25 := open25
set_option maxRecDepth 100000 in
theorem lifted (os : Os) (started : os.Started) (H : Type) (enc : TypeId × Value → H) :
    ReturnsInHanded {} Try.checked os 5 .any (Rows.fnExactChunkOfSpec.pre6 enc Try.prog Try.f5 Rows.fnExactChunkOfRow.domain false) (Rows.fnExactChunkOfSpec.post enc Try.prog Try.f5 false true false false) := by
  refine returnsInHanded_of_change_sized (C := Try.checked) own started (by kernel_rfl) Try.func5
    (ChangeSpec.witness6 (enc := enc) (C := Try.checked) false ⟨#[], #[.agg #[.int .i64 0, .int .i64 0, .int .i64 0, .int .i64 0, .int .i64 0, .int .i64 0, .slice none 0 0, .slice none 0 0, .slice none 0 0, .int .i64 0, .int .i64 0, .slice none 0 0], .string ByteArray.empty, .agg #[.int .i64 0, .int .i64 0], .int .i64 0], []⟩ 8 (by kernel_rfl) (by kernel_rfl) (by kernel_rfl) (by kernel_rfl)) ?_
  intro W base args ds gs before hval0 hW hcnd hsz0 _
  have hval : ∀ (j : Nat) t v, Try.f5.params[j]? = some t → args[j]? = some v → Value.okWide Try.prog W .any base t v := hval0
  have hW' := hW
  obtain ⟨p, q, hA0, hV, rfl, hfz, hnd⟩ := hW
  have hA : DataW.TrodAll enc Try.prog W 0 (fun _ => true) true Try.f5.params.toList args.toList ds p := hA0
  rw [Try.params5] at hA hval
  obtain ⟨v0, vs0, d0, ds0, p0, q0, hargs, rfl, rfl, h0, r0⟩ := trodAll_cons hA
  obtain ⟨v1, vs1, d1, ds1, p1, q1, rfl, rfl, rfl, h1, r1⟩ := trodAll_cons r0
  obtain ⟨v2, vs2, d2, ds2, p2, q2, rfl, rfl, rfl, h2, r2⟩ := trodAll_cons r1
  obtain ⟨v3, vs3, d3, ds3, p3, q3, rfl, rfl, rfl, h3, r3⟩ := trodAll_cons r2
  obtain ⟨rfl, rfl, rfl⟩ := trodAll_nil r3
  obtain rfl : args = #[v0, v1, v2, v3] := by cases args; simp_all
  obtain ⟨rfl, rfl⟩ := trodVars_none hV
  have k0 := h0
  have lt0 : ∀ x ∈ p0, x.block < W.heap.size := by obtain ⟨m, hm⟩ := k0; exact DataW.trod_lt m _ _ _ hm
  obtain ⟨fu0, hf0⟩ := h0
  obtain ⟨x0, K0⟩ := opened0 H enc W _ _ _ _ _ _ hf0
  have ev0 : v0 = .agg v0.cells.toList.toArray := by rw [Array.toArray_toList]; exact agg_of Try.underlying31 (hval 0 31 v0 rfl rfl)
  obtain ⟨x1, rfl, rfl, rfl, y1⟩ := open_string Try.underlying9 (hval 1 9 v1 rfl rfl) h1
  have k2 := h2
  have lt2 : ∀ x ∈ p2, x.block < W.heap.size := by obtain ⟨m, hm⟩ := k2; exact DataW.trod_lt m _ _ _ hm
  obtain ⟨fu2, hf2⟩ := h2
  obtain ⟨x2, K2⟩ := opened2 H enc W _ _ _ _ _ _ hf2
  have ev2 : v2 = .agg v2.cells.toList.toArray := by rw [Array.toArray_toList]; exact agg_of Try.underlying25 (hval 2 25 v2 rfl rfl)
  obtain ⟨x3, rfl, rfl, rfl, w3⟩ := open_int Try.underlying2 (hval 3 2 v3 rfl rfl) h3
  have L := lawChunkOf_a (wm W) x0 x1 x2 x3 _ _ K0 (by unfold maxLen at y1; omega) K2
  rw [← ev0] at L
  rw [← ev2] at L
  clear hA0 hval0 hsz0 hval
  refine (L.run W (fun _ _ h => h)).mono ?_
  rintro e W' ⟨v, M', he, _, _, _, hv, bel0⟩
  have bel : Below W.heap.size W W' := bel0
  obtain rfl : v = .bool true := hv
  subst he
  exact ⟨_, rfl, _, _, _, [], _, [], hW', trodAll_mk1 (shut_bool Try.underlying4 _), (trodAll_cons_mk (Below.trod laidOut (by kernel_rfl) (of_decide_eq_true (by kernel_rfl)) k0 bel lt0) (trodAll_cons_mk (shut_string Try.underlying9 y1) (trodAll_cons_mk (Below.trod laidOut (by kernel_rfl) (of_decide_eq_true (by kernel_rfl)) k2 bel lt2) (trodAll_cons_mk (shut_int Try.underlying2 w3) trodAll_mk0)))), rfl, bel.frame _, fun h => by cases h⟩
theorem over : Rows.fnExactChunkOfRow.holds Try.pinned (OpenSpec.ofChange Rows.fnExactChunkOfSpec) :=
  OpenClaim.holds_of_wide 5 Try.f5 rfl rfl rfl rfl rfl rfl rfl ⟨rfl, rfl, rfl, rfl, rfl⟩ rfl rfl rfl rfl rfl (by kernel_rfl) Try.func5 (by kernel_rfl)
    (of_decide_eq_true (by kernel_rfl)) (by unfold Func.isWrapper; first | (rw [if_pos (by decide +kernel)]; kernel_rfl) | (rw [if_neg (by decide +kernel)]; exact ⟨rfl, rfl⟩))
    (fun os started H enc _ => lifted os started H enc)
theorem proved : Rows.FnExactChunkOfSaid := over
#print axioms proved
end Go.Proofs.Ytpflpmdbgnmamaa.fnExactChunkOf
namespace Go.Proofs.Ytpflpmdbgnmamaa
/-- The row, under a short name, for the claim. -/
theorem fnExactChunkOf_holds : Rows.FnExactChunkOfSaid := fnExactChunkOf.proved
end Go.Proofs.Ytpflpmdbgnmamaa
