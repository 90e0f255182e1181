/- The row of the law FnExactKthLast, out of its contract by the light walk. -/
import Derived.Test.YtalknfogpicobaaGreatRows
import Derived.Test.YtalknfogpicobaaGreatLawKthLast
import Derived.Test.YtalknfogpicobaaGreatLwOpen
import Derived.WalkKit
import Derived.ProofKit
import Derived.OpenShut
import Derived.ShutString
import Derived.ChangeOld
import Derived.Below
import Derived.SizedLaws
import Derived.Carry
namespace Go.Proofs.YtalknfogpicobaaGreat.fnExactKthLast
open Go.ChangeShapes Go.WideShapes Go.ChangeAt Go.RowKit
open Go.ChangeMaps (open_string shut_string)
open Go.Proofs.YtalknfogpicobaaGreat.LwOpen Go.Proofs.YtalknfogpicobaaGreat.Lw Go.Proofs.YtalknfogpicobaaGreat.Hlp
set_option linter.unusedVariables false
theorem own : ownKnob Tryz.prog.godebug = none := by kernel_rfl
theorem laidOut : laidOutB Tryz.prog = true := by kernel_rfl
set_option maxRecDepth 100000 in
theorem open35 : Opens Tryz.prog RPg 35 :=
  opens_to (fun a => ⟨a.1, a.2⟩) (by rintro M a cs ⟨_, _, rfl, rfl, rfl⟩; exact ⟨rfl, trivial⟩) (opens_struct Tryz.underlying35 (opensF_cons (opens_int Tryz.underlying2) (by kernel_rfl) (opensF_one (opens_int Tryz.underlying2) (by kernel_rfl) (by kernel_rfl))))
set_option maxRecDepth 100000 in
theorem open36 : Opens Tryz.prog RVer 36 :=
  opens_to (fun a => ⟨a.1, a.2⟩) (by rintro M a cs ⟨_, _, rfl, rfl, rfl⟩; exact ⟨rfl, trivial⟩) (opens_struct Tryz.underlying36 (opensF_cons (opens_int Tryz.underlying2) (by kernel_rfl) (opensF_one (opens_int Tryz.underlying2) (by kernel_rfl) (by kernel_rfl))))
set_option maxRecDepth 100000 in
theorem open102 : Opens Tryz.prog RHead 102 :=
  opens_to (fun a => ⟨a.1, a.2.1, a.2.2.1, a.2.2.2⟩) (by rintro M a cs ⟨_, _, rfl, ⟨rfl, b1⟩, ⟨_, _, rfl, ⟨rfl, b2⟩, ⟨_, _, rfl, rfl, rfl⟩⟩⟩; exact ⟨rfl, (by simp_all)⟩) (opens_struct Tryz.underlying102 (opensF_cons (opens_string Tryz.underlying9) (by kernel_rfl) (opensF_cons open36 (by kernel_rfl) (opensF_cons (opens_int Tryz.underlying2) (by kernel_rfl) (opensF_one (opens_int Tryz.underlying2) (by kernel_rfl) (by kernel_rfl))))))
set_option maxRecDepth 100000 in
theorem open124 : Opens Tryz.prog RLast 124 :=
  opens_to (fun a => ⟨a.1, a.2.1, a.2.2⟩) (by rintro M a cs ⟨_, _, rfl, rfl, ⟨_, _, rfl, rfl, ⟨rfl, b1⟩⟩⟩; exact ⟨rfl, trivial⟩) (opens_struct Tryz.underlying124 (opensF_cons (opens_int Tryz.underlying2) (by kernel_rfl) (opensF_cons (opens_int Tryz.underlying2) (by kernel_rfl) (opensF_one open36 (by kernel_rfl) (by kernel_rfl)))))
set_option maxRecDepth 100000 in
theorem open104 : Opens Tryz.prog RReq 104 :=
  opens_to (fun a => ⟨a.1, a.2⟩) (by rintro M a cs ⟨_, _, rfl, rfl, rfl⟩; exact ⟨rfl, trivial⟩) (opens_struct Tryz.underlying104 (opensF_cons (opens_int Tryz.underlying2) (by kernel_rfl) (opensF_one (opens_int Tryz.underlying2) (by kernel_rfl) (by kernel_rfl))))
set_option maxRecDepth 100000 in
theorem open106 : Opens Tryz.prog REntry 106 :=
  opens_to (fun a => ⟨a.1, a.2.1, a.2.2.1, a.2.2.2.1, a.2.2.2.2.1, a.2.2.2.2.2.1, a.2.2.2.2.2.2⟩) (by rintro M a cs ⟨_, _, rfl, ⟨rfl, b1⟩, ⟨_, _, rfl, ⟨rfl, b2⟩, ⟨_, _, rfl, ⟨rfl, b3⟩, ⟨_, _, rfl, rfl, ⟨_, _, rfl, rfl, ⟨_, _, rfl, rfl, ⟨rfl, b4⟩⟩⟩⟩⟩⟩⟩; exact ⟨rfl, (by simp_all)⟩) (opens_struct Tryz.underlying106 (opensF_cons open36 (by kernel_rfl) (opensF_cons open36 (by kernel_rfl) (opensF_cons (opens_string Tryz.underlying9) (by kernel_rfl) (opensF_cons (opens_bool Tryz.underlying4) (by kernel_rfl) (opensF_cons (opens_int Tryz.underlying2) (by kernel_rfl) (opensF_cons (opens_int Tryz.underlying2) (by kernel_rfl) (opensF_one open104 (by kernel_rfl) (by kernel_rfl)))))))))
set_option maxRecDepth 100000 in
theorem open109 : Opens Tryz.prog RChunk 109 :=
  opens_to (fun a => ⟨a.1, a.2.1, a.2.2.1, a.2.2.2.1, a.2.2.2.2⟩) (by rintro M a cs ⟨_, _, rfl, ⟨rfl, b1⟩, ⟨_, _, rfl, ⟨rfl, b2⟩, ⟨_, _, rfl, rfl, ⟨_, _, rfl, rfl, ⟨rfl, b3⟩⟩⟩⟩⟩; exact ⟨rfl, (by simp_all)⟩) (opens_struct Tryz.underlying109 (opensF_cons (opens_string Tryz.underlying9) (by kernel_rfl) (opensF_cons open36 (by kernel_rfl) (opensF_cons (opens_int Tryz.underlying2) (by kernel_rfl) (opensF_cons (opens_int Tryz.underlying2) (by kernel_rfl) (opensF_one (opens_string Tryz.underlying9) (by kernel_rfl) (by kernel_rfl)))))))
set_option maxRecDepth 100000 in
theorem open42 : Opens Tryz.prog RPgState 42 :=
  opens_to (fun a => ⟨a.1, a.2.1, a.2.2.1, a.2.2.2.1, a.2.2.2.2.1, a.2.2.2.2.2.1, a.2.2.2.2.2.2.1, a.2.2.2.2.2.2.2.1, a.2.2.2.2.2.2.2.2⟩) (by rintro M a cs ⟨_, _, rfl, ⟨rfl, b1⟩, ⟨_, _, rfl, rfl, ⟨_, _, rfl, rfl, ⟨_, _, rfl, ⟨rfl, b2⟩, ⟨_, _, rfl, ⟨A0, c0, rfl, s0⟩, ⟨_, _, rfl, ⟨A1, c1, rfl, s1⟩, ⟨_, _, rfl, ⟨A2, c2, rfl, s2⟩, ⟨_, _, rfl, ⟨rfl, b3⟩, ⟨A3, c3, rfl, s3⟩⟩⟩⟩⟩⟩⟩⟩⟩; exact ⟨A0, c0, A1, c1, A2, c2, A3, c3, rfl, trivial, s0, s1, s2, s3⟩) (opens_struct Tryz.underlying42 (opensF_cons open35 (by kernel_rfl) (opensF_cons (opens_int Tryz.underlying2) (by kernel_rfl) (opensF_cons (opens_int Tryz.underlying2) (by kernel_rfl) (opensF_cons open36 (by kernel_rfl) (opensF_cons (opens_slice (R := RHead) (z := 5) (by_ := 48) Tryz.underlying37 (by kernel_rfl) open102) (by kernel_rfl) (opensF_cons (opens_slice (R := RLast) (z := 4) (by_ := 32) Tryz.underlying38 (by kernel_rfl) open124) (by kernel_rfl) (opensF_cons (opens_slice (R := REntry) (z := 10) (by_ := 88) Tryz.underlying39 (by kernel_rfl) open106) (by kernel_rfl) (opensF_cons open36 (by kernel_rfl) (opensF_one (opens_slice (R := RChunk) (z := 6) (by_ := 64) Tryz.underlying40 (by kernel_rfl) open109) (by kernel_rfl) (by kernel_rfl)))))))))))
set_option maxRecDepth 100000 in
theorem open44 : Opens Tryz.prog RNotice 44 :=
  opens_to (fun a => ⟨a.1, a.2⟩) (by rintro M a cs ⟨_, _, rfl, rfl, ⟨A0, c0, A1, c1, A2, c2, A3, c3, rfl, b1, s0, s1, s2, s3⟩⟩; exact ⟨A0, c0, A1, c1, A2, c2, A3, c3, rfl, trivial, s0, s1, s2, s3⟩) (opens_struct Tryz.underlying44 (opensF_cons (opens_int Tryz.underlying2) (by kernel_rfl) (opensF_one open42 (by kernel_rfl) (by kernel_rfl))))
set_option maxRecDepth 100000 in
theorem opened0 : Opens Tryz.prog (RSl RNotice 13 168) 22 := (opens_slice (R := RNotice) (z := 13) (by_ := 168) Tryz.underlying22 (by kernel_rfl) open44)
set_option maxRecDepth 100000 in
theorem lifted (os : Os) (started : os.Started) (H : Type) (enc : TypeId × Value → H) :
    ReturnsInHanded {} Tryz.checked os 3 .any (Rows.fnExactKthLastSpec.pre6 enc Tryz.prog Tryz.f3 Rows.fnExactKthLastRow.domain false) (Rows.fnExactKthLastSpec.post enc Tryz.prog Tryz.f3 false true false false) := by
  refine returnsInHanded_of_change_sized (C := Tryz.checked) own started (by kernel_rfl) Tryz.func3
    (ChangeSpec.witness6 (enc := enc) (C := Tryz.checked) false ⟨#[], #[.slice none 0 0, .int .i64 0], []⟩ 8 (by kernel_rfl) (by kernel_rfl) (by kernel_rfl) (by kernel_rfl)) ?_
  intro W base args ds gs before hval0 hW hcnd hsz0 _
  have hval : ∀ (j : Nat) t v, Tryz.f3.params[j]? = some t → args[j]? = some v → Value.okWide Tryz.prog W .any base t v := hval0
  have hW' := hW
  obtain ⟨p, q, hA0, hV, rfl, hfz, hnd⟩ := hW
  have hA : DataW.TrodAll enc Tryz.prog W 0 (fun _ => true) true Tryz.f3.params.toList args.toList ds p := hA0
  rw [Tryz.params3] at hA hval
  obtain ⟨v0, vs0, d0, ds0, p0, q0, hargs, rfl, rfl, h0, r0⟩ := trodAll_cons hA
  obtain ⟨v1, vs1, d1, ds1, p1, q1, rfl, rfl, rfl, h1, r1⟩ := trodAll_cons r0
  obtain ⟨rfl, rfl, rfl⟩ := trodAll_nil r1
  obtain rfl : args = #[v0, v1] := by cases args; simp_all
  obtain ⟨rfl, rfl⟩ := trodVars_none hV
  have k0 := h0
  have lt0 : ∀ x ∈ p0, x.block < W.heap.size := by obtain ⟨m, hm⟩ := k0; exact DataW.trod_lt m _ _ _ hm
  obtain ⟨fu0, hf0⟩ := h0
  obtain ⟨x0, K0⟩ := opened0 H enc W _ _ _ _ _ _ hf0
  obtain ⟨A0, len0, c0, rfl⟩ := okWide_slice Tryz.underlying22 (hval 0 22 v0 rfl rfl)
  obtain ⟨A0_, c0_, e0, K0⟩ := K0
  simp only [Value.cells, List.cons.injEq, Value.slice.injEq, and_true] at e0
  obtain ⟨rfl, rfl, rfl⟩ := e0
  obtain ⟨x1, rfl, rfl, rfl, w1⟩ := open_int Tryz.underlying2 (hval 1 2 v1 rfl rfl) h1
  have L := lawKthLast_a (wm W) x0 x1 _ _ K0
  clear hA0 hval0 hsz0 hval
  refine (L.run W (fun _ _ h => h)).mono ?_
  rintro e W' ⟨v, M', he, _, _, _, hv, bel0⟩
  have bel : Below W.heap.size W W' := bel0
  obtain rfl : v = .bool true := hv
  subst he
  exact ⟨_, rfl, _, _, _, [], _, [], hW', trodAll_mk1 (shut_bool Tryz.underlying4 _), (trodAll_cons_mk (Below.trod laidOut (by kernel_rfl) (of_decide_eq_true (by kernel_rfl)) k0 bel lt0) (trodAll_cons_mk (shut_int Tryz.underlying2 w1) trodAll_mk0)), rfl, bel.frame _, fun h => by cases h⟩
theorem closed0 : (Rows.fnExactKthLastRow.inPlace == Tryz.prog.inPlace 3) = true := by kernel_rfl
theorem closed1 : (Rows.fnExactKthLastRow.unfollowed == Tryz.prog.unfollowed 3) = true := by kernel_rfl
theorem closed2 : (Rows.fnExactKthLastRow.recurses == Tryz.prog.recurses 3) = true := by kernel_rfl
theorem closed3 : (Rows.fnExactKthLastRow.named == Tryz.prog.varsNamed 3) = true := by kernel_rfl
theorem closed : joinedFacts Tryz.prog 3 Tryz.f3 Rows.fnExactKthLastSpec Rows.fnExactKthLastRow = true := by
  unfold joinedFacts
  rw [closed0, closed1, closed2, closed3, laidOut]
  kernel_rfl
theorem over : Rows.fnExactKthLastRow.holds Tryz.pinned (OpenSpec.ofChange Rows.fnExactKthLastSpec) :=
  OpenClaim.holds_of_wide 3 Tryz.f3 rfl rfl rfl rfl rfl rfl rfl ⟨rfl, rfl, rfl, rfl, rfl⟩ rfl rfl rfl rfl rfl (by kernel_rfl) Tryz.func3 closed
    (of_decide_eq_true (by kernel_rfl)) (by unfold Func.isWrapper; first | (rw [if_pos (by decide +kernel)]; kernel_rfl) | (rw [if_neg (by decide +kernel)]; exact ⟨rfl, rfl⟩))
    (fun os started H enc _ => lifted os started H enc)
theorem proved : Rows.FnExactKthLastSaid := over
#print axioms proved
end Go.Proofs.YtalknfogpicobaaGreat.fnExactKthLast
namespace Go.Proofs.YtalknfogpicobaaGreat
/-- The row, under a short name, for the claim. -/
theorem fnExactKthLast_holds : Rows.FnExactKthLastSaid := fnExactKthLast.proved
end Go.Proofs.YtalknfogpicobaaGreat
