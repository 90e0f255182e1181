/- The row of the law FnExactEndCall, out of its contract by the light walk. -/
import Derived.Test.YtkadfdkalglblaaGreatRows
import Derived.Test.YtkadfdkalglblaaGreatLawEndCall
import Derived.Test.YtkadfdkalglblaaGreatLwOpen
import Derived.WalkKit
import Derived.ProofKit
import Derived.OpenShut
import Derived.ShutString
import Derived.ChangeOld
import Derived.Below
import Derived.SizedLaws
import Derived.Carry
namespace Go.Proofs.YtkadfdkalglblaaGreat.fnExactEndCall
open Go.ChangeShapes Go.WideShapes Go.ChangeAt Go.RowKit
open Go.ChangeMaps (open_string shut_string)
open Go.Proofs.YtkadfdkalglblaaGreat.LwOpen Go.Proofs.YtkadfdkalglblaaGreat.Lw Go.Proofs.YtkadfdkalglblaaGreat.Hlp
set_option linter.unusedVariables false
theorem own : ownKnob Tryz.prog.godebug = none := by kernel_rfl
theorem laidOut : laidOutB Tryz.prog = true := by kernel_rfl
set_option maxRecDepth 100000 in
theorem open23 : Opens Tryz.prog RPg 23 :=
  opens_to (fun a => ⟨a.1, a.2⟩) (by rintro M a cs ⟨_, _, rfl, rfl, rfl⟩; exact ⟨rfl, trivial⟩) (opens_struct Tryz.underlying23 (opensF_cons (opens_int Tryz.underlying2) (by kernel_rfl) (opensF_one (opens_int Tryz.underlying2) (by kernel_rfl) (by kernel_rfl))))
set_option maxRecDepth 100000 in
theorem open25 : Opens Tryz.prog ROp 25 :=
  opens_to (fun a => ⟨a.1, a.2.1, a.2.2⟩) (by rintro M a cs ⟨_, _, rfl, rfl, ⟨_, _, rfl, rfl, ⟨rfl, b1⟩⟩⟩; exact ⟨rfl, (by simp_all)⟩) (opens_struct Tryz.underlying25 (opensF_cons (opens_int Tryz.underlying2) (by kernel_rfl) (opensF_cons (opens_int Tryz.underlying2) (by kernel_rfl) (opensF_one (opens_string Tryz.underlying9) (by kernel_rfl) (by kernel_rfl)))))
set_option maxRecDepth 100000 in
theorem open27 : Opens Tryz.prog RVer 27 :=
  opens_to (fun a => ⟨a.1, a.2⟩) (by rintro M a cs ⟨_, _, rfl, rfl, rfl⟩; exact ⟨rfl, trivial⟩) (opens_struct Tryz.underlying27 (opensF_cons (opens_int Tryz.underlying2) (by kernel_rfl) (opensF_one (opens_int Tryz.underlying2) (by kernel_rfl) (by kernel_rfl))))
set_option maxRecDepth 100000 in
theorem open29 : Opens Tryz.prog RCall 29 :=
  opens_to (fun a => ⟨a.1, a.2.1, a.2.2.1, a.2.2.2.1, a.2.2.2.2.1, a.2.2.2.2.2.1, a.2.2.2.2.2.2.1, a.2.2.2.2.2.2.2.1, a.2.2.2.2.2.2.2.2.1, a.2.2.2.2.2.2.2.2.2⟩) (by rintro M a cs ⟨_, _, rfl, rfl, ⟨_, _, rfl, rfl, ⟨_, _, rfl, ⟨rfl, b1⟩, ⟨_, _, rfl, ⟨rfl, b2⟩, ⟨_, _, rfl, ⟨rfl, b3⟩, ⟨_, _, rfl, rfl, ⟨_, _, rfl, rfl, ⟨_, _, rfl, rfl, ⟨_, _, rfl, ⟨rfl, b4⟩, ⟨rfl, b5⟩⟩⟩⟩⟩⟩⟩⟩⟩⟩; exact ⟨rfl, (by simp_all)⟩) (opens_struct Tryz.underlying29 (opensF_cons (opens_int Tryz.underlying2) (by kernel_rfl) (opensF_cons (opens_int Tryz.underlying2) (by kernel_rfl) (opensF_cons open23 (by kernel_rfl) (opensF_cons (opens_string Tryz.underlying9) (by kernel_rfl) (opensF_cons open25 (by kernel_rfl) (opensF_cons (opens_int Tryz.underlying2) (by kernel_rfl) (opensF_cons (opens_int Tryz.underlying2) (by kernel_rfl) (opensF_cons (opens_int Tryz.underlying2) (by kernel_rfl) (opensF_cons open27 (by kernel_rfl) (opensF_one (opens_string Tryz.underlying9) (by kernel_rfl) (by kernel_rfl))))))))))))
set_option maxRecDepth 100000 in
theorem open117 : Opens Tryz.prog RHead 117 :=
  opens_to (fun a => ⟨a.1, a.2.1, a.2.2.1, a.2.2.2⟩) (by rintro M a cs ⟨_, _, rfl, ⟨rfl, b1⟩, ⟨_, _, rfl, ⟨rfl, b2⟩, ⟨_, _, rfl, rfl, rfl⟩⟩⟩; exact ⟨rfl, (by simp_all)⟩) (opens_struct Tryz.underlying117 (opensF_cons (opens_string Tryz.underlying9) (by kernel_rfl) (opensF_cons open27 (by kernel_rfl) (opensF_cons (opens_int Tryz.underlying2) (by kernel_rfl) (opensF_one (opens_int Tryz.underlying2) (by kernel_rfl) (by kernel_rfl))))))
set_option maxRecDepth 100000 in
theorem open130 : Opens Tryz.prog RLast 130 :=
  opens_to (fun a => ⟨a.1, a.2.1, a.2.2⟩) (by rintro M a cs ⟨_, _, rfl, rfl, ⟨_, _, rfl, rfl, ⟨rfl, b1⟩⟩⟩; exact ⟨rfl, trivial⟩) (opens_struct Tryz.underlying130 (opensF_cons (opens_int Tryz.underlying2) (by kernel_rfl) (opensF_cons (opens_int Tryz.underlying2) (by kernel_rfl) (opensF_one open27 (by kernel_rfl) (by kernel_rfl)))))
set_option maxRecDepth 100000 in
theorem open37 : Opens Tryz.prog RReq 37 :=
  opens_to (fun a => ⟨a.1, a.2⟩) (by rintro M a cs ⟨_, _, rfl, rfl, rfl⟩; exact ⟨rfl, trivial⟩) (opens_struct Tryz.underlying37 (opensF_cons (opens_int Tryz.underlying2) (by kernel_rfl) (opensF_one (opens_int Tryz.underlying2) (by kernel_rfl) (by kernel_rfl))))
set_option maxRecDepth 100000 in
theorem open39 : Opens Tryz.prog REntry 39 :=
  opens_to (fun a => ⟨a.1, a.2.1, a.2.2.1, a.2.2.2.1, a.2.2.2.2.1, a.2.2.2.2.2.1, a.2.2.2.2.2.2⟩) (by rintro M a cs ⟨_, _, rfl, ⟨rfl, b1⟩, ⟨_, _, rfl, ⟨rfl, b2⟩, ⟨_, _, rfl, ⟨rfl, b3⟩, ⟨_, _, rfl, rfl, ⟨_, _, rfl, rfl, ⟨_, _, rfl, rfl, ⟨rfl, b4⟩⟩⟩⟩⟩⟩⟩; exact ⟨rfl, (by simp_all)⟩) (opens_struct Tryz.underlying39 (opensF_cons open27 (by kernel_rfl) (opensF_cons open27 (by kernel_rfl) (opensF_cons (opens_string Tryz.underlying9) (by kernel_rfl) (opensF_cons (opens_bool Tryz.underlying4) (by kernel_rfl) (opensF_cons (opens_int Tryz.underlying2) (by kernel_rfl) (opensF_cons (opens_int Tryz.underlying2) (by kernel_rfl) (opensF_one open37 (by kernel_rfl) (by kernel_rfl)))))))))
set_option maxRecDepth 100000 in
theorem open41 : Opens Tryz.prog RChunk 41 :=
  opens_to (fun a => ⟨a.1, a.2.1, a.2.2.1, a.2.2.2.1, a.2.2.2.2⟩) (by rintro M a cs ⟨_, _, rfl, ⟨rfl, b1⟩, ⟨_, _, rfl, ⟨rfl, b2⟩, ⟨_, _, rfl, rfl, ⟨_, _, rfl, rfl, ⟨rfl, b3⟩⟩⟩⟩⟩; exact ⟨rfl, (by simp_all)⟩) (opens_struct Tryz.underlying41 (opensF_cons (opens_string Tryz.underlying9) (by kernel_rfl) (opensF_cons open27 (by kernel_rfl) (opensF_cons (opens_int Tryz.underlying2) (by kernel_rfl) (opensF_cons (opens_int Tryz.underlying2) (by kernel_rfl) (opensF_one (opens_string Tryz.underlying9) (by kernel_rfl) (by kernel_rfl)))))))
set_option maxRecDepth 100000 in
theorem open35 : Opens Tryz.prog RPgState 35 :=
  opens_to (fun a => ⟨a.1, a.2.1, a.2.2.1, a.2.2.2.1, a.2.2.2.2.1, a.2.2.2.2.2.1, a.2.2.2.2.2.2.1, a.2.2.2.2.2.2.2.1, a.2.2.2.2.2.2.2.2⟩) (by rintro M a cs ⟨_, _, rfl, ⟨rfl, b1⟩, ⟨_, _, rfl, rfl, ⟨_, _, rfl, rfl, ⟨_, _, rfl, ⟨rfl, b2⟩, ⟨_, _, rfl, ⟨A0, c0, rfl, s0⟩, ⟨_, _, rfl, ⟨A1, c1, rfl, s1⟩, ⟨_, _, rfl, ⟨A2, c2, rfl, s2⟩, ⟨_, _, rfl, ⟨rfl, b3⟩, ⟨A3, c3, rfl, s3⟩⟩⟩⟩⟩⟩⟩⟩⟩; exact ⟨A0, c0, A1, c1, A2, c2, A3, c3, rfl, trivial, s0, s1, s2, s3⟩) (opens_struct Tryz.underlying35 (opensF_cons open23 (by kernel_rfl) (opensF_cons (opens_int Tryz.underlying2) (by kernel_rfl) (opensF_cons (opens_int Tryz.underlying2) (by kernel_rfl) (opensF_cons open27 (by kernel_rfl) (opensF_cons (opens_slice (R := RHead) (z := 5) (by_ := 48) Tryz.underlying30 (by kernel_rfl) open117) (by kernel_rfl) (opensF_cons (opens_slice (R := RLast) (z := 4) (by_ := 32) Tryz.underlying31 (by kernel_rfl) open130) (by kernel_rfl) (opensF_cons (opens_slice (R := REntry) (z := 10) (by_ := 88) Tryz.underlying32 (by kernel_rfl) open39) (by kernel_rfl) (opensF_cons open27 (by kernel_rfl) (opensF_one (opens_slice (R := RChunk) (z := 6) (by_ := 64) Tryz.underlying33 (by kernel_rfl) open41) (by kernel_rfl) (by kernel_rfl)))))))))))
set_option maxRecDepth 100000 in
theorem open43 : Opens Tryz.prog RMsg 43 :=
  opens_to (fun a => ⟨a.1, a.2.1, a.2.2.1, a.2.2.2.1, a.2.2.2.2.1, a.2.2.2.2.2.1, a.2.2.2.2.2.2.1, a.2.2.2.2.2.2.2.1, a.2.2.2.2.2.2.2.2.1, a.2.2.2.2.2.2.2.2.2.1, a.2.2.2.2.2.2.2.2.2.2.1, a.2.2.2.2.2.2.2.2.2.2.2.1, a.2.2.2.2.2.2.2.2.2.2.2.2.1, a.2.2.2.2.2.2.2.2.2.2.2.2.2.1, a.2.2.2.2.2.2.2.2.2.2.2.2.2.2⟩) (by rintro M a cs ⟨_, _, rfl, rfl, ⟨_, _, rfl, rfl, ⟨_, _, rfl, rfl, ⟨_, _, rfl, ⟨rfl, b1⟩, ⟨_, _, rfl, rfl, ⟨_, _, rfl, ⟨rfl, b2⟩, ⟨_, _, rfl, ⟨rfl, b3⟩, ⟨_, _, rfl, ⟨rfl, b4⟩, ⟨_, _, rfl, ⟨A0, c0, A1, c1, A2, c2, A3, c3, rfl, b5, s0, s1, s2, s3⟩, ⟨_, _, rfl, ⟨rfl, b6⟩, ⟨_, _, rfl, ⟨rfl, b7⟩, ⟨_, _, rfl, ⟨rfl, b8⟩, ⟨_, _, rfl, ⟨rfl, b9⟩, ⟨_, _, rfl, rfl, ⟨rfl, b10⟩⟩⟩⟩⟩⟩⟩⟩⟩⟩⟩⟩⟩⟩⟩; exact ⟨A0, c0, A1, c1, A2, c2, A3, c3, rfl, (by simp_all), s0, s1, s2, s3⟩) (opens_struct Tryz.underlying43 (opensF_cons (opens_int Tryz.underlying2) (by kernel_rfl) (opensF_cons (opens_int Tryz.underlying2) (by kernel_rfl) (opensF_cons (opens_int Tryz.underlying2) (by kernel_rfl) (opensF_cons open23 (by kernel_rfl) (opensF_cons (opens_int Tryz.underlying2) (by kernel_rfl) (opensF_cons (opens_string Tryz.underlying9) (by kernel_rfl) (opensF_cons open27 (by kernel_rfl) (opensF_cons open27 (by kernel_rfl) (opensF_cons open35 (by kernel_rfl) (opensF_cons open39 (by kernel_rfl) (opensF_cons open41 (by kernel_rfl) (opensF_cons open25 (by kernel_rfl) (opensF_cons open37 (by kernel_rfl) (opensF_cons (opens_int Tryz.underlying2) (by kernel_rfl) (opensF_one (opens_string Tryz.underlying9) (by kernel_rfl) (by kernel_rfl)))))))))))))))))
theorem opened0 : Opens Tryz.prog RCall 29 := open29
theorem opened1 : Opens Tryz.prog RMsg 43 := open43
set_option maxRecDepth 100000 in
theorem lifted (os : Os) (started : os.Started) (H : Type) (enc : TypeId × Value → H) :
    ReturnsInHanded {} Tryz.checked os 3 .any (Rows.fnExactEndCallSpec.pre6 enc Tryz.prog Tryz.f3 Rows.fnExactEndCallRow.domain false) (Rows.fnExactEndCallSpec.post enc Tryz.prog Tryz.f3 false true false false) := by
  refine returnsInHanded_of_change_sized (C := Tryz.checked) own started (by kernel_rfl) Tryz.func3
    (ChangeSpec.witness6 (enc := enc) (C := Tryz.checked) false ⟨#[], #[.agg #[.int .i64 0, .int .i64 0, .int .i64 0, .int .i64 0, .string ByteArray.empty, .int .i64 0, .int .i64 0, .string ByteArray.empty, .int .i64 0, .int .i64 0, .int .i64 0, .int .i64 0, .int .i64 0, .string ByteArray.empty], .agg #[.int .i64 0, .int .i64 0, .int .i64 0, .int .i64 0, .int .i64 0, .int .i64 0, .string ByteArray.empty, .int .i64 0, .int .i64 0, .int .i64 0, .int .i64 0, .int .i64 0, .int .i64 0, .int .i64 0, .int .i64 0, .int .i64 0, .int .i64 0, .slice none 0 0, .slice none 0 0, .slice none 0 0, .int .i64 0, .int .i64 0, .slice none 0 0, .int .i64 0, .int .i64 0, .int .i64 0, .int .i64 0, .string ByteArray.empty, .bool false, .int .i64 0, .int .i64 0, .int .i64 0, .int .i64 0, .string ByteArray.empty, .int .i64 0, .int .i64 0, .int .i64 0, .int .i64 0, .string ByteArray.empty, .int .i64 0, .int .i64 0, .string ByteArray.empty, .int .i64 0, .int .i64 0, .int .i64 0, .string ByteArray.empty], .int .i64 0], []⟩ 8 (by kernel_rfl) (by kernel_rfl) (by kernel_rfl) (by kernel_rfl)) ?_
  intro W base args ds gs before hval0 hW hcnd hsz0 _
  have hval : ∀ (j : Nat) t v, Tryz.f3.params[j]? = some t → args[j]? = some v → Value.okWide Tryz.prog W .any base t v := hval0
  have hW' := hW
  obtain ⟨p, q, hA0, hV, rfl, hfz, hnd⟩ := hW
  have hA : DataW.TrodAll enc Tryz.prog W 0 (fun _ => true) true Tryz.f3.params.toList args.toList ds p := hA0
  rw [Tryz.params3] at hA hval
  obtain ⟨v0, vs0, d0, ds0, p0, q0, hargs, rfl, rfl, h0, r0⟩ := trodAll_cons hA
  obtain ⟨v1, vs1, d1, ds1, p1, q1, rfl, rfl, rfl, h1, r1⟩ := trodAll_cons r0
  obtain ⟨v2, vs2, d2, ds2, p2, q2, rfl, rfl, rfl, h2, r2⟩ := trodAll_cons r1
  obtain ⟨rfl, rfl, rfl⟩ := trodAll_nil r2
  obtain rfl : args = #[v0, v1, v2] := by cases args; simp_all
  obtain ⟨rfl, rfl⟩ := trodVars_none hV
  have k0 := h0
  have lt0 : ∀ x ∈ p0, x.block < W.heap.size := by obtain ⟨m, hm⟩ := k0; exact DataW.trod_lt m _ _ _ hm
  obtain ⟨fu0, hf0⟩ := h0
  obtain ⟨x0, K0⟩ := opened0 H enc W _ _ _ _ _ _ hf0
  have ev0 : v0 = .agg v0.cells.toList.toArray := by rw [Array.toArray_toList]; exact agg_of Tryz.underlying29 (hval 0 29 v0 rfl rfl)
  have k1 := h1
  have lt1 : ∀ x ∈ p1, x.block < W.heap.size := by obtain ⟨m, hm⟩ := k1; exact DataW.trod_lt m _ _ _ hm
  obtain ⟨fu1, hf1⟩ := h1
  obtain ⟨x1, K1⟩ := opened1 H enc W _ _ _ _ _ _ hf1
  have ev1 : v1 = .agg v1.cells.toList.toArray := by rw [Array.toArray_toList]; exact agg_of Tryz.underlying43 (hval 1 43 v1 rfl rfl)
  obtain ⟨x2, rfl, rfl, rfl, w2⟩ := open_int Tryz.underlying2 (hval 2 2 v2 rfl rfl) h2
  have L := lawEndCall_a (wm W) x0 x1 x2 _ _ K0 K1
  rw [← ev0] at L
  rw [← ev1] at L
  clear hA0 hval0 hsz0 hval
  refine (L.run W (fun _ _ h => h)).mono ?_
  rintro e W' ⟨v, M', he, _, _, _, hv, bel0⟩
  have bel : Below W.heap.size W W' := bel0
  obtain rfl : v = .bool true := hv
  subst he
  exact ⟨_, rfl, _, _, _, [], _, [], hW', trodAll_mk1 (shut_bool Tryz.underlying4 _), (trodAll_cons_mk (Below.trod laidOut (by kernel_rfl) (of_decide_eq_true (by kernel_rfl)) k0 bel lt0) (trodAll_cons_mk (Below.trod laidOut (by kernel_rfl) (of_decide_eq_true (by kernel_rfl)) k1 bel lt1) (trodAll_cons_mk (shut_int Tryz.underlying2 w2) trodAll_mk0))), rfl, bel.frame _, fun h => by cases h⟩
theorem closed0 : (Rows.fnExactEndCallRow.inPlace == Tryz.prog.inPlace 3) = true := by kernel_rfl
theorem closed1 : (Rows.fnExactEndCallRow.unfollowed == Tryz.prog.unfollowed 3) = true := by kernel_rfl
theorem closed2 : (Rows.fnExactEndCallRow.recurses == Tryz.prog.recurses 3) = true := by kernel_rfl
theorem closed3 : (Rows.fnExactEndCallRow.named == Tryz.prog.varsNamed 3) = true := by kernel_rfl
theorem closed : joinedFacts Tryz.prog 3 Tryz.f3 Rows.fnExactEndCallSpec Rows.fnExactEndCallRow = true := by
  unfold joinedFacts
  rw [closed0, closed1, closed2, closed3, laidOut]
  kernel_rfl
theorem over : Rows.fnExactEndCallRow.holds Tryz.pinned (OpenSpec.ofChange Rows.fnExactEndCallSpec) :=
  OpenClaim.holds_of_wide 3 Tryz.f3 rfl rfl rfl rfl rfl rfl rfl ⟨rfl, rfl, rfl, rfl, rfl⟩ rfl rfl rfl rfl rfl (by kernel_rfl) Tryz.func3 closed
    (of_decide_eq_true (by kernel_rfl)) (by unfold Func.isWrapper; first | (rw [if_pos (by decide +kernel)]; kernel_rfl) | (rw [if_neg (by decide +kernel)]; exact ⟨rfl, rfl⟩))
    (fun os started H enc _ => lifted os started H enc)
theorem proved : Rows.FnExactEndCallSaid := over
#print axioms proved
end Go.Proofs.YtkadfdkalglblaaGreat.fnExactEndCall
namespace Go.Proofs.YtkadfdkalglblaaGreat
/-- The row, under a short name, for the claim. -/
theorem fnExactEndCall_holds : Rows.FnExactEndCallSaid := fnExactEndCall.proved
end Go.Proofs.YtkadfdkalglblaaGreat
