/- The row of the law FnExactStillLacks, out of its contract by the light walk. -/
import Derived.Test.YtoedjkeahjmpiaaGreatRows
import Derived.Test.YtoedjkeahjmpiaaGreatLawStillLacks
import Derived.Test.YtoedjkeahjmpiaaGreatLwOpen
import Derived.WalkKit
import Derived.ProofKit
import Derived.OpenShut
import Derived.ShutString
import Derived.ChangeOld
import Derived.Below
import Derived.SizedLaws
import Derived.Carry
namespace Go.Proofs.YtoedjkeahjmpiaaGreat.fnExactStillLacks
open Go.ChangeShapes Go.WideShapes Go.ChangeAt Go.RowKit
open Go.ChangeMaps (open_string shut_string)
open Go.Proofs.YtoedjkeahjmpiaaGreat.LwOpen Go.Proofs.YtoedjkeahjmpiaaGreat.Lw Go.Proofs.YtoedjkeahjmpiaaGreat.Hlp
set_option linter.unusedVariables false
theorem own : ownKnob Tryz.prog.godebug = none := by kernel_rfl
theorem laidOut : laidOutB Tryz.prog = true := by kernel_rfl
set_option maxRecDepth 100000 in
theorem open50 : Opens Tryz.prog RInterval 50 :=
  opens_to (fun a => ⟨a.1, a.2.1, a.2.2.1, a.2.2.2⟩) (by rintro M a cs ⟨_, _, rfl, rfl, ⟨_, _, rfl, rfl, ⟨_, _, rfl, ⟨A0, c0, rfl, s0⟩, rfl⟩⟩⟩; exact ⟨A0, c0, rfl, trivial, s0⟩) (opens_struct Tryz.underlying50 (opensF_cons (opens_int Tryz.underlying2) (by kernel_rfl) (opensF_cons (opens_int Tryz.underlying2) (by kernel_rfl) (opensF_cons (opens_slice (R := RInt) (z := 1) (by_ := 8) Tryz.underlying42 (by kernel_rfl) (opens_int Tryz.underlying2)) (by kernel_rfl) (opensF_one (opens_bool Tryz.underlying4) (by kernel_rfl) (by kernel_rfl))))))
set_option maxRecDepth 100000 in
theorem open24 : Opens Tryz.prog RCode 24 :=
  opens_to (fun a => ⟨a.1, a.2⟩) (by rintro M a cs ⟨_, _, rfl, rfl, rfl⟩; exact ⟨rfl, trivial⟩) (opens_struct Tryz.underlying24 (opensF_cons (opens_int Tryz.underlying2) (by kernel_rfl) (opensF_one (opens_int Tryz.underlying2) (by kernel_rfl) (by kernel_rfl))))
set_option maxRecDepth 100000 in
theorem open53 : Opens Tryz.prog RPg 53 :=
  opens_to (fun a => ⟨a.1, a.2⟩) (by rintro M a cs ⟨_, _, rfl, rfl, rfl⟩; exact ⟨rfl, trivial⟩) (opens_struct Tryz.underlying53 (opensF_cons (opens_int Tryz.underlying2) (by kernel_rfl) (opensF_one (opens_int Tryz.underlying2) (by kernel_rfl) (by kernel_rfl))))
set_option maxRecDepth 100000 in
theorem open54 : Opens Tryz.prog RVer 54 :=
  opens_to (fun a => ⟨a.1, a.2⟩) (by rintro M a cs ⟨_, _, rfl, rfl, rfl⟩; exact ⟨rfl, trivial⟩) (opens_struct Tryz.underlying54 (opensF_cons (opens_int Tryz.underlying2) (by kernel_rfl) (opensF_one (opens_int Tryz.underlying2) (by kernel_rfl) (by kernel_rfl))))
set_option maxRecDepth 100000 in
theorem open155 : Opens Tryz.prog RHead 155 :=
  opens_to (fun a => ⟨a.1, a.2.1, a.2.2.1, a.2.2.2⟩) (by rintro M a cs ⟨_, _, rfl, ⟨rfl, b1⟩, ⟨_, _, rfl, ⟨rfl, b2⟩, ⟨_, _, rfl, rfl, rfl⟩⟩⟩; exact ⟨rfl, (by simp_all)⟩) (opens_struct Tryz.underlying155 (opensF_cons (opens_string Tryz.underlying9) (by kernel_rfl) (opensF_cons open54 (by kernel_rfl) (opensF_cons (opens_int Tryz.underlying2) (by kernel_rfl) (opensF_one (opens_int Tryz.underlying2) (by kernel_rfl) (by kernel_rfl))))))
set_option maxRecDepth 100000 in
theorem open171 : Opens Tryz.prog RLast 171 :=
  opens_to (fun a => ⟨a.1, a.2.1, a.2.2⟩) (by rintro M a cs ⟨_, _, rfl, rfl, ⟨_, _, rfl, rfl, ⟨rfl, b1⟩⟩⟩; exact ⟨rfl, trivial⟩) (opens_struct Tryz.underlying171 (opensF_cons (opens_int Tryz.underlying2) (by kernel_rfl) (opensF_cons (opens_int Tryz.underlying2) (by kernel_rfl) (opensF_one open54 (by kernel_rfl) (by kernel_rfl)))))
set_option maxRecDepth 100000 in
theorem open157 : Opens Tryz.prog RReq 157 :=
  opens_to (fun a => ⟨a.1, a.2⟩) (by rintro M a cs ⟨_, _, rfl, rfl, rfl⟩; exact ⟨rfl, trivial⟩) (opens_struct Tryz.underlying157 (opensF_cons (opens_int Tryz.underlying2) (by kernel_rfl) (opensF_one (opens_int Tryz.underlying2) (by kernel_rfl) (by kernel_rfl))))
set_option maxRecDepth 100000 in
theorem open159 : Opens Tryz.prog REntry 159 :=
  opens_to (fun a => ⟨a.1, a.2.1, a.2.2.1, a.2.2.2.1, a.2.2.2.2.1, a.2.2.2.2.2.1, a.2.2.2.2.2.2⟩) (by rintro M a cs ⟨_, _, rfl, ⟨rfl, b1⟩, ⟨_, _, rfl, ⟨rfl, b2⟩, ⟨_, _, rfl, ⟨rfl, b3⟩, ⟨_, _, rfl, rfl, ⟨_, _, rfl, rfl, ⟨_, _, rfl, rfl, ⟨rfl, b4⟩⟩⟩⟩⟩⟩⟩; exact ⟨rfl, (by simp_all)⟩) (opens_struct Tryz.underlying159 (opensF_cons open54 (by kernel_rfl) (opensF_cons open54 (by kernel_rfl) (opensF_cons (opens_string Tryz.underlying9) (by kernel_rfl) (opensF_cons (opens_bool Tryz.underlying4) (by kernel_rfl) (opensF_cons (opens_int Tryz.underlying2) (by kernel_rfl) (opensF_cons (opens_int Tryz.underlying2) (by kernel_rfl) (opensF_one open157 (by kernel_rfl) (by kernel_rfl)))))))))
set_option maxRecDepth 100000 in
theorem open162 : Opens Tryz.prog RChunk 162 :=
  opens_to (fun a => ⟨a.1, a.2.1, a.2.2.1, a.2.2.2.1, a.2.2.2.2⟩) (by rintro M a cs ⟨_, _, rfl, ⟨rfl, b1⟩, ⟨_, _, rfl, ⟨rfl, b2⟩, ⟨_, _, rfl, rfl, ⟨_, _, rfl, rfl, ⟨rfl, b3⟩⟩⟩⟩⟩; exact ⟨rfl, (by simp_all)⟩) (opens_struct Tryz.underlying162 (opensF_cons (opens_string Tryz.underlying9) (by kernel_rfl) (opensF_cons open54 (by kernel_rfl) (opensF_cons (opens_int Tryz.underlying2) (by kernel_rfl) (opensF_cons (opens_int Tryz.underlying2) (by kernel_rfl) (opensF_one (opens_string Tryz.underlying9) (by kernel_rfl) (by kernel_rfl)))))))
set_option maxRecDepth 100000 in
theorem open60 : Opens Tryz.prog RPgState 60 :=
  opens_to (fun a => ⟨a.1, a.2.1, a.2.2.1, a.2.2.2.1, a.2.2.2.2.1, a.2.2.2.2.2.1, a.2.2.2.2.2.2.1, a.2.2.2.2.2.2.2.1, a.2.2.2.2.2.2.2.2⟩) (by rintro M a cs ⟨_, _, rfl, ⟨rfl, b1⟩, ⟨_, _, rfl, rfl, ⟨_, _, rfl, rfl, ⟨_, _, rfl, ⟨rfl, b2⟩, ⟨_, _, rfl, ⟨A0, c0, rfl, s0⟩, ⟨_, _, rfl, ⟨A1, c1, rfl, s1⟩, ⟨_, _, rfl, ⟨A2, c2, rfl, s2⟩, ⟨_, _, rfl, ⟨rfl, b3⟩, ⟨A3, c3, rfl, s3⟩⟩⟩⟩⟩⟩⟩⟩⟩; exact ⟨A0, c0, A1, c1, A2, c2, A3, c3, rfl, trivial, s0, s1, s2, s3⟩) (opens_struct Tryz.underlying60 (opensF_cons open53 (by kernel_rfl) (opensF_cons (opens_int Tryz.underlying2) (by kernel_rfl) (opensF_cons (opens_int Tryz.underlying2) (by kernel_rfl) (opensF_cons open54 (by kernel_rfl) (opensF_cons (opens_slice (R := RHead) (z := 5) (by_ := 48) Tryz.underlying55 (by kernel_rfl) open155) (by kernel_rfl) (opensF_cons (opens_slice (R := RLast) (z := 4) (by_ := 32) Tryz.underlying56 (by kernel_rfl) open171) (by kernel_rfl) (opensF_cons (opens_slice (R := REntry) (z := 10) (by_ := 88) Tryz.underlying57 (by kernel_rfl) open159) (by kernel_rfl) (opensF_cons open54 (by kernel_rfl) (opensF_one (opens_slice (R := RChunk) (z := 6) (by_ := 64) Tryz.underlying58 (by kernel_rfl) open162) (by kernel_rfl) (by kernel_rfl)))))))))))
set_option maxRecDepth 100000 in
theorem open62 : Opens Tryz.prog RNotice 62 :=
  opens_to (fun a => ⟨a.1, a.2⟩) (by rintro M a cs ⟨_, _, rfl, rfl, ⟨A0, c0, A1, c1, A2, c2, A3, c3, rfl, b1, s0, s1, s2, s3⟩⟩; exact ⟨A0, c0, A1, c1, A2, c2, A3, c3, rfl, trivial, s0, s1, s2, s3⟩) (opens_struct Tryz.underlying62 (opensF_cons (opens_int Tryz.underlying2) (by kernel_rfl) (opensF_one open60 (by kernel_rfl) (by kernel_rfl))))
set_option maxRecDepth 100000 in
theorem opened0 : Opens Tryz.prog (RSl RInterval 4 48) 22 := (opens_slice (R := RInterval) (z := 4) (by_ := 48) Tryz.underlying22 (by kernel_rfl) open50)
theorem opened1 : Opens Tryz.prog RCode 24 := open24
set_option maxRecDepth 100000 in
theorem opened2 : Opens Tryz.prog (RSl RNotice 13 168) 25 := (opens_slice (R := RNotice) (z := 13) (by_ := 168) Tryz.underlying25 (by kernel_rfl) open62)
set_option maxRecDepth 100000 in
theorem lifted (os : Os) (started : os.Started) (H : Type) (enc : TypeId × Value → H) :
    ReturnsInHanded {} Tryz.checked os 4 .any (Rows.fnExactStillLacksSpec.pre6 enc Tryz.prog Tryz.f4 Rows.fnExactStillLacksRow.domain false) (Rows.fnExactStillLacksSpec.post enc Tryz.prog Tryz.f4 false true false false) := by
  refine returnsInHanded_of_change_sized (C := Tryz.checked) own started (by kernel_rfl) Tryz.func4
    (ChangeSpec.witness6 (enc := enc) (C := Tryz.checked) false ⟨#[], #[.slice none 0 0, .agg #[.int .i64 0, .int .i64 0], .slice none 0 0], []⟩ 8 (by kernel_rfl) (by kernel_rfl) (by kernel_rfl) (by kernel_rfl)) ?_
  intro W base args ds gs before hval0 hW hcnd hsz0 _
  have hval : ∀ (j : Nat) t v, Tryz.f4.params[j]? = some t → args[j]? = some v → Value.okWide Tryz.prog W .any base t v := hval0
  have hW' := hW
  obtain ⟨p, q, hA0, hV, rfl, hfz, hnd⟩ := hW
  have hA : DataW.TrodAll enc Tryz.prog W 0 (fun _ => true) true Tryz.f4.params.toList args.toList ds p := hA0
  rw [Tryz.params4] at hA hval
  obtain ⟨v0, vs0, d0, ds0, p0, q0, hargs, rfl, rfl, h0, r0⟩ := trodAll_cons hA
  obtain ⟨v1, vs1, d1, ds1, p1, q1, rfl, rfl, rfl, h1, r1⟩ := trodAll_cons r0
  obtain ⟨v2, vs2, d2, ds2, p2, q2, rfl, rfl, rfl, h2, r2⟩ := trodAll_cons r1
  obtain ⟨rfl, rfl, rfl⟩ := trodAll_nil r2
  obtain rfl : args = #[v0, v1, v2] := by cases args; simp_all
  obtain ⟨rfl, rfl⟩ := trodVars_none hV
  have k0 := h0
  have lt0 : ∀ x ∈ p0, x.block < W.heap.size := by obtain ⟨m, hm⟩ := k0; exact DataW.trod_lt m _ _ _ hm
  obtain ⟨fu0, hf0⟩ := h0
  obtain ⟨x0, K0⟩ := opened0 H enc W _ _ _ _ _ _ hf0
  obtain ⟨A0, len0, c0, rfl⟩ := okWide_slice Tryz.underlying22 (hval 0 22 v0 rfl rfl)
  obtain ⟨A0_, c0_, e0, K0⟩ := K0
  simp only [Value.cells, List.cons.injEq, Value.slice.injEq, and_true] at e0
  obtain ⟨rfl, rfl, rfl⟩ := e0
  have k1 := h1
  have lt1 : ∀ x ∈ p1, x.block < W.heap.size := by obtain ⟨m, hm⟩ := k1; exact DataW.trod_lt m _ _ _ hm
  obtain ⟨fu1, hf1⟩ := h1
  obtain ⟨x1, K1⟩ := opened1 H enc W _ _ _ _ _ _ hf1
  have ev1 : v1 = .agg v1.cells.toList.toArray := by rw [Array.toArray_toList]; exact agg_of Tryz.underlying24 (hval 1 24 v1 rfl rfl)
  have k2 := h2
  have lt2 : ∀ x ∈ p2, x.block < W.heap.size := by obtain ⟨m, hm⟩ := k2; exact DataW.trod_lt m _ _ _ hm
  obtain ⟨fu2, hf2⟩ := h2
  obtain ⟨x2, K2⟩ := opened2 H enc W _ _ _ _ _ _ hf2
  obtain ⟨A2, len2, c2, rfl⟩ := okWide_slice Tryz.underlying25 (hval 2 25 v2 rfl rfl)
  obtain ⟨A2_, c2_, e2, K2⟩ := K2
  simp only [Value.cells, List.cons.injEq, Value.slice.injEq, and_true] at e2
  obtain ⟨rfl, rfl, rfl⟩ := e2
  have L := lawStillLacks_a (wm W) x0 x1 x2 _ _ _ _ _ K0 K1 K2
  rw [← ev1] at L
  clear hA0 hval0 hsz0 hval
  refine (L.run W (fun _ _ h => h)).mono ?_
  rintro e W' ⟨v, M', he, _, _, _, hv, bel0⟩
  have bel : Below W.heap.size W W' := bel0
  obtain rfl : v = .bool true := hv
  subst he
  exact ⟨_, rfl, _, _, _, [], _, [], hW', trodAll_mk1 (shut_bool Tryz.underlying4 _), (trodAll_cons_mk (Below.trod laidOut (by kernel_rfl) (of_decide_eq_true (by kernel_rfl)) k0 bel lt0) (trodAll_cons_mk (Below.trod laidOut (by kernel_rfl) (of_decide_eq_true (by kernel_rfl)) k1 bel lt1) (trodAll_cons_mk (Below.trod laidOut (by kernel_rfl) (of_decide_eq_true (by kernel_rfl)) k2 bel lt2) trodAll_mk0))), rfl, bel.frame _, fun h => by cases h⟩
theorem closed0 : (Rows.fnExactStillLacksRow.inPlace == Tryz.prog.inPlace 4) = true := by kernel_rfl
theorem closed1 : (Rows.fnExactStillLacksRow.unfollowed == Tryz.prog.unfollowed 4) = true := by kernel_rfl
theorem closed2 : (Rows.fnExactStillLacksRow.recurses == Tryz.prog.recurses 4) = true := by kernel_rfl
theorem closed3 : (Rows.fnExactStillLacksRow.named == Tryz.prog.varsNamed 4) = true := by kernel_rfl
theorem closed : joinedFacts Tryz.prog 4 Tryz.f4 Rows.fnExactStillLacksSpec Rows.fnExactStillLacksRow = true := by
  unfold joinedFacts
  rw [closed0, closed1, closed2, closed3, laidOut]
  kernel_rfl
theorem over : Rows.fnExactStillLacksRow.holds Tryz.pinned (OpenSpec.ofChange Rows.fnExactStillLacksSpec) :=
  OpenClaim.holds_of_wide 4 Tryz.f4 rfl rfl rfl rfl rfl rfl rfl ⟨rfl, rfl, rfl, rfl, rfl⟩ rfl rfl rfl rfl rfl (by kernel_rfl) Tryz.func4 closed
    (of_decide_eq_true (by kernel_rfl)) (by unfold Func.isWrapper; first | (rw [if_pos (by decide +kernel)]; kernel_rfl) | (rw [if_neg (by decide +kernel)]; exact ⟨rfl, rfl⟩))
    (fun os started H enc _ => lifted os started H enc)
theorem proved : Rows.FnExactStillLacksSaid := over
#print axioms proved
end Go.Proofs.YtoedjkeahjmpiaaGreat.fnExactStillLacks
namespace Go.Proofs.YtoedjkeahjmpiaaGreat
/-- The row, under a short name, for the claim. -/
theorem fnExactStillLacks_holds : Rows.FnExactStillLacksSaid := fnExactStillLacks.proved
end Go.Proofs.YtoedjkeahjmpiaaGreat
