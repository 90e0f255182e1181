/- The row of the law FnExactSameLine, out of its contract by the light walk. -/
import Derived.Test.YtbmechcabplcpaaRows
import Derived.Test.YtbmechcabplcpaaLaw0
import Derived.Test.YtbmechcabplcpaaLwOpen
import Derived.WalkKit
import Derived.ProofKit
import Derived.OpenShut
import Derived.ShutString
import Derived.ChangeOld
import Derived.Below
import Derived.SizedLaws
import Derived.Carry
namespace Go.Proofs.Ytbmechcabplcpaa.fnExactSameLine
open Go.ChangeShapes Go.WideShapes Go.ChangeAt Go.RowKit
open Go.ChangeMaps (open_string shut_string)
open Go.Proofs.Ytbmechcabplcpaa.LwOpen Go.Proofs.Ytbmechcabplcpaa.Lw Go.Proofs.Ytbmechcabplcpaa.Hlp
set_option linter.unusedVariables false
theorem own : ownKnob Try.prog.godebug = none := by kernel_rfl
theorem laidOut : laidOutB Try.prog = true := by kernel_rfl
set_option maxRecDepth 100000 in
theorem open49 : Opens Try.prog RCode 49 :=
  opens_to (fun a => ⟨a.1, a.2⟩) (by rintro M a cs ⟨_, _, rfl, rfl, rfl⟩; exact ⟨rfl, trivial⟩) (opens_struct Try.underlying49 (opensF_cons (opens_int Try.underlying2) (by kernel_rfl) (opensF_one (opens_int Try.underlying2) (by kernel_rfl) (by kernel_rfl))))
set_option maxRecDepth 100000 in
theorem open51 : Opens Try.prog RPg 51 :=
  opens_to (fun a => ⟨a.1, a.2⟩) (by rintro M a cs ⟨_, _, rfl, rfl, rfl⟩; exact ⟨rfl, trivial⟩) (opens_struct Try.underlying51 (opensF_cons (opens_int Try.underlying2) (by kernel_rfl) (opensF_one (opens_int Try.underlying2) (by kernel_rfl) (by kernel_rfl))))
set_option maxRecDepth 100000 in
theorem open52 : Opens Try.prog RVer 52 :=
  opens_to (fun a => ⟨a.1, a.2⟩) (by rintro M a cs ⟨_, _, rfl, rfl, rfl⟩; exact ⟨rfl, trivial⟩) (opens_struct Try.underlying52 (opensF_cons (opens_int Try.underlying2) (by kernel_rfl) (opensF_one (opens_int Try.underlying2) (by kernel_rfl) (by kernel_rfl))))
set_option maxRecDepth 100000 in
theorem open246 : Opens Try.prog RHead 246 :=
  opens_to (fun a => ⟨a.1, a.2.1, a.2.2.1, a.2.2.2⟩) (by rintro M a cs ⟨_, _, rfl, ⟨rfl, b1⟩, ⟨_, _, rfl, ⟨rfl, b2⟩, ⟨_, _, rfl, rfl, rfl⟩⟩⟩; exact ⟨rfl, (by simp_all)⟩) (opens_struct Try.underlying246 (opensF_cons (opens_string Try.underlying9) (by kernel_rfl) (opensF_cons open52 (by kernel_rfl) (opensF_cons (opens_int Try.underlying2) (by kernel_rfl) (opensF_one (opens_int Try.underlying2) (by kernel_rfl) (by kernel_rfl))))))
set_option maxRecDepth 100000 in
theorem open254 : Opens Try.prog RLast 254 :=
  opens_to (fun a => ⟨a.1, a.2.1, a.2.2⟩) (by rintro M a cs ⟨_, _, rfl, rfl, ⟨_, _, rfl, rfl, ⟨rfl, b1⟩⟩⟩; exact ⟨rfl, trivial⟩) (opens_struct Try.underlying254 (opensF_cons (opens_int Try.underlying2) (by kernel_rfl) (opensF_cons (opens_int Try.underlying2) (by kernel_rfl) (opensF_one open52 (by kernel_rfl) (by kernel_rfl)))))
set_option maxRecDepth 100000 in
theorem open107 : Opens Try.prog RReq 107 :=
  opens_to (fun a => ⟨a.1, a.2⟩) (by rintro M a cs ⟨_, _, rfl, rfl, rfl⟩; exact ⟨rfl, trivial⟩) (opens_struct Try.underlying107 (opensF_cons (opens_int Try.underlying2) (by kernel_rfl) (opensF_one (opens_int Try.underlying2) (by kernel_rfl) (by kernel_rfl))))
set_option maxRecDepth 100000 in
theorem open109 : Opens Try.prog REntry 109 :=
  opens_to (fun a => ⟨a.1, a.2.1, a.2.2.1, a.2.2.2.1, a.2.2.2.2.1, a.2.2.2.2.2.1, a.2.2.2.2.2.2⟩) (by rintro M a cs ⟨_, _, rfl, ⟨rfl, b1⟩, ⟨_, _, rfl, ⟨rfl, b2⟩, ⟨_, _, rfl, ⟨rfl, b3⟩, ⟨_, _, rfl, rfl, ⟨_, _, rfl, rfl, ⟨_, _, rfl, rfl, ⟨rfl, b4⟩⟩⟩⟩⟩⟩⟩; exact ⟨rfl, (by simp_all)⟩) (opens_struct Try.underlying109 (opensF_cons open52 (by kernel_rfl) (opensF_cons open52 (by kernel_rfl) (opensF_cons (opens_string Try.underlying9) (by kernel_rfl) (opensF_cons (opens_bool Try.underlying4) (by kernel_rfl) (opensF_cons (opens_int Try.underlying2) (by kernel_rfl) (opensF_cons (opens_int Try.underlying2) (by kernel_rfl) (opensF_one open107 (by kernel_rfl) (by kernel_rfl)))))))))
set_option maxRecDepth 100000 in
theorem open249 : Opens Try.prog RChunk 249 :=
  opens_to (fun a => ⟨a.1, a.2.1, a.2.2.1, a.2.2.2.1, a.2.2.2.2⟩) (by rintro M a cs ⟨_, _, rfl, ⟨rfl, b1⟩, ⟨_, _, rfl, ⟨rfl, b2⟩, ⟨_, _, rfl, rfl, ⟨_, _, rfl, rfl, ⟨rfl, b3⟩⟩⟩⟩⟩; exact ⟨rfl, (by simp_all)⟩) (opens_struct Try.underlying249 (opensF_cons (opens_string Try.underlying9) (by kernel_rfl) (opensF_cons open52 (by kernel_rfl) (opensF_cons (opens_int Try.underlying2) (by kernel_rfl) (opensF_cons (opens_int Try.underlying2) (by kernel_rfl) (opensF_one (opens_string Try.underlying9) (by kernel_rfl) (by kernel_rfl)))))))
set_option maxRecDepth 100000 in
theorem open58 : Opens Try.prog RPgState 58 :=
  opens_to (fun a => ⟨a.1, a.2.1, a.2.2.1, a.2.2.2.1, a.2.2.2.2.1, a.2.2.2.2.2.1, a.2.2.2.2.2.2.1, a.2.2.2.2.2.2.2.1, a.2.2.2.2.2.2.2.2⟩) (by rintro M a cs ⟨_, _, rfl, ⟨rfl, b1⟩, ⟨_, _, rfl, rfl, ⟨_, _, rfl, rfl, ⟨_, _, rfl, ⟨rfl, b2⟩, ⟨_, _, rfl, ⟨A0, c0, rfl, s0⟩, ⟨_, _, rfl, ⟨A1, c1, rfl, s1⟩, ⟨_, _, rfl, ⟨A2, c2, rfl, s2⟩, ⟨_, _, rfl, ⟨rfl, b3⟩, ⟨A3, c3, rfl, s3⟩⟩⟩⟩⟩⟩⟩⟩⟩; exact ⟨A0, c0, A1, c1, A2, c2, A3, c3, rfl, trivial, s0, s1, s2, s3⟩) (opens_struct Try.underlying58 (opensF_cons open51 (by kernel_rfl) (opensF_cons (opens_int Try.underlying2) (by kernel_rfl) (opensF_cons (opens_int Try.underlying2) (by kernel_rfl) (opensF_cons open52 (by kernel_rfl) (opensF_cons (opens_slice (R := RHead) (z := 5) (by_ := 48) Try.underlying53 (by kernel_rfl) open246) (by kernel_rfl) (opensF_cons (opens_slice (R := RLast) (z := 4) (by_ := 32) Try.underlying54 (by kernel_rfl) open254) (by kernel_rfl) (opensF_cons (opens_slice (R := REntry) (z := 10) (by_ := 88) Try.underlying55 (by kernel_rfl) open109) (by kernel_rfl) (opensF_cons open52 (by kernel_rfl) (opensF_one (opens_slice (R := RChunk) (z := 6) (by_ := 64) Try.underlying56 (by kernel_rfl) open249) (by kernel_rfl) (by kernel_rfl)))))))))))
set_option maxRecDepth 100000 in
theorem open196 : Opens Try.prog RWay 196 :=
  opens_to (fun a => ⟨a.1, a.2⟩) (by rintro M a cs ⟨_, _, rfl, ⟨rfl, b1⟩, ⟨rfl, b2⟩⟩; exact ⟨rfl, (by simp_all)⟩) (opens_struct Try.underlying196 (opensF_cons open109 (by kernel_rfl) (opensF_one (opens_string Try.underlying9) (by kernel_rfl) (by kernel_rfl))))
set_option maxRecDepth 100000 in
theorem open214 : Opens Try.prog RAck 214 :=
  opens_to (fun a => ⟨a.1, a.2⟩) (by rintro M a cs ⟨_, _, rfl, rfl, ⟨rfl, b1⟩⟩; exact ⟨rfl, trivial⟩) (opens_struct Try.underlying214 (opensF_cons (opens_int Try.underlying2) (by kernel_rfl) (opensF_one open52 (by kernel_rfl) (by kernel_rfl))))
set_option maxRecDepth 100000 in
theorem open272 : Opens Try.prog RGot 272 :=
  opens_to (fun a => ⟨a.1, a.2.1, a.2.2⟩) (by rintro M a cs ⟨_, _, rfl, rfl, ⟨_, _, rfl, ⟨rfl, b1⟩, ⟨rfl, b2⟩⟩⟩; exact ⟨rfl, (by simp_all)⟩) (opens_struct Try.underlying272 (opensF_cons (opens_int Try.underlying2) (by kernel_rfl) (opensF_cons open109 (by kernel_rfl) (opensF_one open249 (by kernel_rfl) (by kernel_rfl)))))
set_option maxRecDepth 100000 in
theorem open200 : Opens Try.prog RWait 200 :=
  opens_to (fun a => ⟨a.1, a.2.1, a.2.2.1, a.2.2.2⟩) (by rintro M a cs ⟨_, _, rfl, ⟨rfl, b1⟩, ⟨_, _, rfl, ⟨rfl, b2⟩, ⟨_, _, rfl, ⟨rfl, b3⟩, ⟨A0, c0, rfl, s0⟩⟩⟩⟩; exact ⟨A0, c0, rfl, (by simp_all), s0⟩) (opens_struct Try.underlying200 (opensF_cons open107 (by kernel_rfl) (opensF_cons (opens_string Try.underlying9) (by kernel_rfl) (opensF_cons open52 (by kernel_rfl) (opensF_one (opens_slice (R := RGot) (z := 17) (by_ := 160) Try.underlying198 (by kernel_rfl) open272) (by kernel_rfl) (by kernel_rfl))))))
set_option maxRecDepth 100000 in
theorem open63 : Opens Try.prog RLine 63 :=
  opens_to (fun a => ⟨a.1, a.2.1, a.2.2.1, a.2.2.2.1, a.2.2.2.2.1, a.2.2.2.2.2.1, a.2.2.2.2.2.2⟩) (by rintro M a cs ⟨_, _, rfl, rfl, ⟨_, _, rfl, ⟨rfl, b1⟩, ⟨_, _, rfl, ⟨A0, c0, rfl, s0⟩, ⟨_, _, rfl, ⟨A1, c1, A2, c2, A3, c3, A4, c4, rfl, b2, s1, s2, s3, s4⟩, ⟨_, _, rfl, ⟨A5, c5, rfl, s5⟩, ⟨_, _, rfl, ⟨A6, c6, rfl, s6⟩, ⟨A7, c7, rfl, s7⟩⟩⟩⟩⟩⟩⟩; exact ⟨A0, c0, A1, c1, A2, c2, A3, c3, A4, c4, A5, c5, A6, c6, A7, c7, rfl, trivial, s0, s1, s2, s3, s4, s5, s6, s7⟩) (opens_struct Try.underlying63 (opensF_cons (opens_int Try.underlying2) (by kernel_rfl) (opensF_cons open49 (by kernel_rfl) (opensF_cons (opens_slice (R := RInt) (z := 1) (by_ := 8) Try.underlying50 (by kernel_rfl) (opens_int Try.underlying2)) (by kernel_rfl) (opensF_cons open58 (by kernel_rfl) (opensF_cons (opens_slice (R := RWay) (z := 11) (by_ := 104) Try.underlying59 (by kernel_rfl) open196) (by kernel_rfl) (opensF_cons (opens_slice (R := RAck) (z := 3) (by_ := 24) Try.underlying60 (by kernel_rfl) open214) (by kernel_rfl) (opensF_one (opens_slice (R := RWait) (z := 6) (by_ := 72) Try.underlying61 (by kernel_rfl) open200) (by kernel_rfl) (by kernel_rfl)))))))))
theorem opened0 : Opens Try.prog RLine 63 := open63
theorem opened1 : Opens Try.prog RLine 63 := open63
set_option maxRecDepth 100000 in
theorem lifted (os : Os) (started : os.Started) (H : Type) (enc : TypeId × Value → H) :
    ReturnsInHanded {} Try.checked os 5 .any (Rows.fnExactSameLineSpec.pre6 enc Try.prog Try.f5 Rows.fnExactSameLineRow.domain false) (Rows.fnExactSameLineSpec.post enc Try.prog Try.f5 false true false false) := by
  refine returnsInHanded_of_change_sized (C := Try.checked) own started (by kernel_rfl) Try.func5
    (ChangeSpec.witness6 (enc := enc) (C := Try.checked) false ⟨#[], #[.agg #[.int .i64 0, .int .i64 0, .int .i64 0, .slice none 0 0, .int .i64 0, .int .i64 0, .int .i64 0, .int .i64 0, .int .i64 0, .int .i64 0, .slice none 0 0, .slice none 0 0, .slice none 0 0, .int .i64 0, .int .i64 0, .slice none 0 0, .slice none 0 0, .slice none 0 0, .slice none 0 0], .agg #[.int .i64 0, .int .i64 0, .int .i64 0, .slice none 0 0, .int .i64 0, .int .i64 0, .int .i64 0, .int .i64 0, .int .i64 0, .int .i64 0, .slice none 0 0, .slice none 0 0, .slice none 0 0, .int .i64 0, .int .i64 0, .slice none 0 0, .slice none 0 0, .slice none 0 0, .slice none 0 0]], []⟩ 8 (by kernel_rfl) (by kernel_rfl) (by kernel_rfl) (by kernel_rfl)) ?_
  intro W base args ds gs before hval0 hW hcnd hsz0 _
  have hval : ∀ (j : Nat) t v, Try.f5.params[j]? = some t → args[j]? = some v → Value.okWide Try.prog W .any base t v := hval0
  have hW' := hW
  obtain ⟨p, q, hA0, hV, rfl, hfz, hnd⟩ := hW
  have hA : DataW.TrodAll enc Try.prog W 0 (fun _ => true) true Try.f5.params.toList args.toList ds p := hA0
  rw [Try.params5] at hA hval
  obtain ⟨v0, vs0, d0, ds0, p0, q0, hargs, rfl, rfl, h0, r0⟩ := trodAll_cons hA
  obtain ⟨v1, vs1, d1, ds1, p1, q1, rfl, rfl, rfl, h1, r1⟩ := trodAll_cons r0
  obtain ⟨rfl, rfl, rfl⟩ := trodAll_nil r1
  obtain rfl : args = #[v0, v1] := by cases args; simp_all
  obtain ⟨rfl, rfl⟩ := trodVars_none hV
  have k0 := h0
  have lt0 : ∀ x ∈ p0, x.block < W.heap.size := by obtain ⟨m, hm⟩ := k0; exact DataW.trod_lt m _ _ _ hm
  obtain ⟨fu0, hf0⟩ := h0
  obtain ⟨x0, K0⟩ := opened0 H enc W _ _ _ _ _ _ hf0
  have ev0 : v0 = .agg v0.cells.toList.toArray := by rw [Array.toArray_toList]; exact agg_of Try.underlying63 (hval 0 63 v0 rfl rfl)
  have k1 := h1
  have lt1 : ∀ x ∈ p1, x.block < W.heap.size := by obtain ⟨m, hm⟩ := k1; exact DataW.trod_lt m _ _ _ hm
  obtain ⟨fu1, hf1⟩ := h1
  obtain ⟨x1, K1⟩ := opened1 H enc W _ _ _ _ _ _ hf1
  have ev1 : v1 = .agg v1.cells.toList.toArray := by rw [Array.toArray_toList]; exact agg_of Try.underlying63 (hval 1 63 v1 rfl rfl)
  have L := law_a (wm W) x0 x1 _ _ K0 K1
  rw [← ev0] at L
  rw [← ev1] at L
  clear hA0 hval0 hsz0 hval
  refine (L.run W (fun _ _ h => h)).mono ?_
  rintro e W' ⟨v, M', he, _, _, _, hv, bel0⟩
  have bel : Below W.heap.size W W' := bel0
  obtain rfl : v = .bool true := hv
  subst he
  exact ⟨_, rfl, _, _, _, [], _, [], hW', trodAll_mk1 (shut_bool Try.underlying4 _), (trodAll_cons_mk (Below.trod laidOut (by kernel_rfl) (of_decide_eq_true (by kernel_rfl)) k0 bel lt0) (trodAll_cons_mk (Below.trod laidOut (by kernel_rfl) (of_decide_eq_true (by kernel_rfl)) k1 bel lt1) trodAll_mk0)), rfl, bel.frame _, fun h => by cases h⟩
theorem over : Rows.fnExactSameLineRow.holds Try.pinned (OpenSpec.ofChange Rows.fnExactSameLineSpec) :=
  OpenClaim.holds_of_wide 5 Try.f5 rfl rfl rfl rfl rfl rfl rfl ⟨rfl, rfl, rfl, rfl, rfl⟩ rfl rfl rfl rfl rfl (by kernel_rfl) Try.func5 (by kernel_rfl)
    (of_decide_eq_true (by kernel_rfl)) (by unfold Func.isWrapper; first | (rw [if_pos (by decide +kernel)]; kernel_rfl) | (rw [if_neg (by decide +kernel)]; exact ⟨rfl, rfl⟩))
    (fun os started H enc _ => lifted os started H enc)
theorem proved : Rows.FnExactSameLineSaid := over
#print axioms proved
end Go.Proofs.Ytbmechcabplcpaa.fnExactSameLine
namespace Go.Proofs.Ytbmechcabplcpaa
/-- The row, under a short name, for the claim. -/
theorem fnExactSameLine_holds : Rows.FnExactSameLineSaid := fnExactSameLine.proved
end Go.Proofs.Ytbmechcabplcpaa
