/- The row of the law FnExactSameLead, out of its contract by the light walk. -/
import Derived.Test.YtmdbeooianiojaaGreatRows
import Derived.Test.YtmdbeooianiojaaGreatLawSameLead
import Derived.Test.YtmdbeooianiojaaGreatLwOpen
import Derived.WalkKit
import Derived.ProofKit
import Derived.OpenShut
import Derived.ShutString
import Derived.ChangeOld
import Derived.Below
import Derived.SizedLaws
import Derived.Carry
namespace Go.Proofs.YtmdbeooianiojaaGreat.fnExactSameLead
open Go.ChangeShapes Go.WideShapes Go.ChangeAt Go.RowKit
open Go.ChangeMaps (open_string shut_string)
open Go.Proofs.YtmdbeooianiojaaGreat.LwOpen Go.Proofs.YtmdbeooianiojaaGreat.Lw Go.Proofs.YtmdbeooianiojaaGreat.Hlp
set_option linter.unusedVariables false
theorem own : ownKnob Tryz.prog.godebug = none := by kernel_rfl
theorem laidOut : laidOutB Tryz.prog = true := by kernel_rfl
set_option maxRecDepth 100000 in
theorem open23 : Opens Tryz.prog RPg 23 :=
  opens_to (fun a => ⟨a.1, a.2⟩) (by rintro M a cs ⟨_, _, rfl, rfl, rfl⟩; exact ⟨rfl, trivial⟩) (opens_struct Tryz.underlying23 (opensF_cons (opens_int Tryz.underlying2) (by kernel_rfl) (opensF_one (opens_int Tryz.underlying2) (by kernel_rfl) (by kernel_rfl))))
set_option maxRecDepth 100000 in
theorem open25 : Opens Tryz.prog RCode 25 :=
  opens_to (fun a => ⟨a.1, a.2⟩) (by rintro M a cs ⟨_, _, rfl, rfl, rfl⟩; exact ⟨rfl, trivial⟩) (opens_struct Tryz.underlying25 (opensF_cons (opens_int Tryz.underlying2) (by kernel_rfl) (opensF_one (opens_int Tryz.underlying2) (by kernel_rfl) (by kernel_rfl))))
set_option maxRecDepth 100000 in
theorem open108 : Opens Tryz.prog RInterval 108 :=
  opens_to (fun a => ⟨a.1, a.2.1, a.2.2.1, a.2.2.2⟩) (by rintro M a cs ⟨_, _, rfl, rfl, ⟨_, _, rfl, rfl, ⟨_, _, rfl, ⟨A0, c0, rfl, s0⟩, rfl⟩⟩⟩; exact ⟨A0, c0, rfl, trivial, s0⟩) (opens_struct Tryz.underlying108 (opensF_cons (opens_int Tryz.underlying2) (by kernel_rfl) (opensF_cons (opens_int Tryz.underlying2) (by kernel_rfl) (opensF_cons (opens_slice (R := RInt) (z := 1) (by_ := 8) Tryz.underlying26 (by kernel_rfl) (opens_int Tryz.underlying2)) (by kernel_rfl) (opensF_one (opens_bool Tryz.underlying4) (by kernel_rfl) (by kernel_rfl))))))
set_option maxRecDepth 100000 in
theorem open30 : Opens Tryz.prog RVer 30 :=
  opens_to (fun a => ⟨a.1, a.2⟩) (by rintro M a cs ⟨_, _, rfl, rfl, rfl⟩; exact ⟨rfl, trivial⟩) (opens_struct Tryz.underlying30 (opensF_cons (opens_int Tryz.underlying2) (by kernel_rfl) (opensF_one (opens_int Tryz.underlying2) (by kernel_rfl) (by kernel_rfl))))
set_option maxRecDepth 100000 in
theorem open117 : Opens Tryz.prog RHead 117 :=
  opens_to (fun a => ⟨a.1, a.2.1, a.2.2.1, a.2.2.2⟩) (by rintro M a cs ⟨_, _, rfl, ⟨rfl, b1⟩, ⟨_, _, rfl, ⟨rfl, b2⟩, ⟨_, _, rfl, rfl, rfl⟩⟩⟩; exact ⟨rfl, (by simp_all)⟩) (opens_struct Tryz.underlying117 (opensF_cons (opens_string Tryz.underlying9) (by kernel_rfl) (opensF_cons open30 (by kernel_rfl) (opensF_cons (opens_int Tryz.underlying2) (by kernel_rfl) (opensF_one (opens_int Tryz.underlying2) (by kernel_rfl) (by kernel_rfl))))))
set_option maxRecDepth 100000 in
theorem open178 : Opens Tryz.prog RLast 178 :=
  opens_to (fun a => ⟨a.1, a.2.1, a.2.2⟩) (by rintro M a cs ⟨_, _, rfl, rfl, ⟨_, _, rfl, rfl, ⟨rfl, b1⟩⟩⟩; exact ⟨rfl, trivial⟩) (opens_struct Tryz.underlying178 (opensF_cons (opens_int Tryz.underlying2) (by kernel_rfl) (opensF_cons (opens_int Tryz.underlying2) (by kernel_rfl) (opensF_one open30 (by kernel_rfl) (by kernel_rfl)))))
set_option maxRecDepth 100000 in
theorem open163 : Opens Tryz.prog RReq 163 :=
  opens_to (fun a => ⟨a.1, a.2⟩) (by rintro M a cs ⟨_, _, rfl, rfl, rfl⟩; exact ⟨rfl, trivial⟩) (opens_struct Tryz.underlying163 (opensF_cons (opens_int Tryz.underlying2) (by kernel_rfl) (opensF_one (opens_int Tryz.underlying2) (by kernel_rfl) (by kernel_rfl))))
set_option maxRecDepth 100000 in
theorem open165 : Opens Tryz.prog REntry 165 :=
  opens_to (fun a => ⟨a.1, a.2.1, a.2.2.1, a.2.2.2.1, a.2.2.2.2.1, a.2.2.2.2.2.1, a.2.2.2.2.2.2⟩) (by rintro M a cs ⟨_, _, rfl, ⟨rfl, b1⟩, ⟨_, _, rfl, ⟨rfl, b2⟩, ⟨_, _, rfl, ⟨rfl, b3⟩, ⟨_, _, rfl, rfl, ⟨_, _, rfl, rfl, ⟨_, _, rfl, rfl, ⟨rfl, b4⟩⟩⟩⟩⟩⟩⟩; exact ⟨rfl, (by simp_all)⟩) (opens_struct Tryz.underlying165 (opensF_cons open30 (by kernel_rfl) (opensF_cons open30 (by kernel_rfl) (opensF_cons (opens_string Tryz.underlying9) (by kernel_rfl) (opensF_cons (opens_bool Tryz.underlying4) (by kernel_rfl) (opensF_cons (opens_int Tryz.underlying2) (by kernel_rfl) (opensF_cons (opens_int Tryz.underlying2) (by kernel_rfl) (opensF_one open163 (by kernel_rfl) (by kernel_rfl)))))))))
set_option maxRecDepth 100000 in
theorem open122 : Opens Tryz.prog RChunk 122 :=
  opens_to (fun a => ⟨a.1, a.2.1, a.2.2.1, a.2.2.2.1, a.2.2.2.2⟩) (by rintro M a cs ⟨_, _, rfl, ⟨rfl, b1⟩, ⟨_, _, rfl, ⟨rfl, b2⟩, ⟨_, _, rfl, rfl, ⟨_, _, rfl, rfl, ⟨rfl, b3⟩⟩⟩⟩⟩; exact ⟨rfl, (by simp_all)⟩) (opens_struct Tryz.underlying122 (opensF_cons (opens_string Tryz.underlying9) (by kernel_rfl) (opensF_cons open30 (by kernel_rfl) (opensF_cons (opens_int Tryz.underlying2) (by kernel_rfl) (opensF_cons (opens_int Tryz.underlying2) (by kernel_rfl) (opensF_one (opens_string Tryz.underlying9) (by kernel_rfl) (by kernel_rfl)))))))
set_option maxRecDepth 100000 in
theorem open36 : Opens Tryz.prog RPgState 36 :=
  opens_to (fun a => ⟨a.1, a.2.1, a.2.2.1, a.2.2.2.1, a.2.2.2.2.1, a.2.2.2.2.2.1, a.2.2.2.2.2.2.1, a.2.2.2.2.2.2.2.1, a.2.2.2.2.2.2.2.2⟩) (by rintro M a cs ⟨_, _, rfl, ⟨rfl, b1⟩, ⟨_, _, rfl, rfl, ⟨_, _, rfl, rfl, ⟨_, _, rfl, ⟨rfl, b2⟩, ⟨_, _, rfl, ⟨A0, c0, rfl, s0⟩, ⟨_, _, rfl, ⟨A1, c1, rfl, s1⟩, ⟨_, _, rfl, ⟨A2, c2, rfl, s2⟩, ⟨_, _, rfl, ⟨rfl, b3⟩, ⟨A3, c3, rfl, s3⟩⟩⟩⟩⟩⟩⟩⟩⟩; exact ⟨A0, c0, A1, c1, A2, c2, A3, c3, rfl, trivial, s0, s1, s2, s3⟩) (opens_struct Tryz.underlying36 (opensF_cons open23 (by kernel_rfl) (opensF_cons (opens_int Tryz.underlying2) (by kernel_rfl) (opensF_cons (opens_int Tryz.underlying2) (by kernel_rfl) (opensF_cons open30 (by kernel_rfl) (opensF_cons (opens_slice (R := RHead) (z := 5) (by_ := 48) Tryz.underlying31 (by kernel_rfl) open117) (by kernel_rfl) (opensF_cons (opens_slice (R := RLast) (z := 4) (by_ := 32) Tryz.underlying32 (by kernel_rfl) open178) (by kernel_rfl) (opensF_cons (opens_slice (R := REntry) (z := 10) (by_ := 88) Tryz.underlying33 (by kernel_rfl) open165) (by kernel_rfl) (opensF_cons open30 (by kernel_rfl) (opensF_one (opens_slice (R := RChunk) (z := 6) (by_ := 64) Tryz.underlying34 (by kernel_rfl) open122) (by kernel_rfl) (by kernel_rfl)))))))))))
set_option maxRecDepth 100000 in
theorem open111 : Opens Tryz.prog RNotice 111 :=
  opens_to (fun a => ⟨a.1, a.2⟩) (by rintro M a cs ⟨_, _, rfl, rfl, ⟨A0, c0, A1, c1, A2, c2, A3, c3, rfl, b1, s0, s1, s2, s3⟩⟩; exact ⟨A0, c0, A1, c1, A2, c2, A3, c3, rfl, trivial, s0, s1, s2, s3⟩) (opens_struct Tryz.underlying111 (opensF_cons (opens_int Tryz.underlying2) (by kernel_rfl) (opensF_one open36 (by kernel_rfl) (by kernel_rfl))))
set_option maxRecDepth 100000 in
theorem open119 : Opens Tryz.prog RFill 119 :=
  opens_to (fun a => ⟨a.1, a.2.1, a.2.2⟩) (by rintro M a cs ⟨_, _, rfl, rfl, ⟨_, _, rfl, rfl, ⟨rfl, b1⟩⟩⟩; exact ⟨rfl, (by simp_all)⟩) (opens_struct Tryz.underlying119 (opensF_cons (opens_int Tryz.underlying2) (by kernel_rfl) (opensF_cons (opens_int Tryz.underlying2) (by kernel_rfl) (opensF_one open117 (by kernel_rfl) (by kernel_rfl)))))
set_option maxRecDepth 100000 in
theorem open168 : Opens Tryz.prog RWay 168 :=
  opens_to (fun a => ⟨a.1, a.2⟩) (by rintro M a cs ⟨_, _, rfl, ⟨rfl, b1⟩, ⟨rfl, b2⟩⟩; exact ⟨rfl, (by simp_all)⟩) (opens_struct Tryz.underlying168 (opensF_cons open165 (by kernel_rfl) (opensF_one (opens_string Tryz.underlying9) (by kernel_rfl) (by kernel_rfl))))
set_option maxRecDepth 100000 in
theorem open183 : Opens Tryz.prog RAck 183 :=
  opens_to (fun a => ⟨a.1, a.2⟩) (by rintro M a cs ⟨_, _, rfl, rfl, ⟨rfl, b1⟩⟩; exact ⟨rfl, trivial⟩) (opens_struct Tryz.underlying183 (opensF_cons (opens_int Tryz.underlying2) (by kernel_rfl) (opensF_one open30 (by kernel_rfl) (by kernel_rfl))))
set_option maxRecDepth 100000 in
theorem open197 : Opens Tryz.prog RGot 197 :=
  opens_to (fun a => ⟨a.1, a.2.1, a.2.2⟩) (by rintro M a cs ⟨_, _, rfl, rfl, ⟨_, _, rfl, ⟨rfl, b1⟩, ⟨rfl, b2⟩⟩⟩; exact ⟨rfl, (by simp_all)⟩) (opens_struct Tryz.underlying197 (opensF_cons (opens_int Tryz.underlying2) (by kernel_rfl) (opensF_cons open165 (by kernel_rfl) (opensF_one open122 (by kernel_rfl) (by kernel_rfl)))))
set_option maxRecDepth 100000 in
theorem open172 : Opens Tryz.prog RWait 172 :=
  opens_to (fun a => ⟨a.1, a.2.1, a.2.2.1, a.2.2.2⟩) (by rintro M a cs ⟨_, _, rfl, ⟨rfl, b1⟩, ⟨_, _, rfl, ⟨rfl, b2⟩, ⟨_, _, rfl, ⟨rfl, b3⟩, ⟨A0, c0, rfl, s0⟩⟩⟩⟩; exact ⟨A0, c0, rfl, (by simp_all), s0⟩) (opens_struct Tryz.underlying172 (opensF_cons open163 (by kernel_rfl) (opensF_cons (opens_string Tryz.underlying9) (by kernel_rfl) (opensF_cons open30 (by kernel_rfl) (opensF_one (opens_slice (R := RGot) (z := 17) (by_ := 160) Tryz.underlying170 (by kernel_rfl) open197) (by kernel_rfl) (by kernel_rfl))))))
set_option maxRecDepth 100000 in
theorem open42 : Opens Tryz.prog RLine 42 :=
  opens_to (fun a => ⟨a.1, a.2.1, a.2.2.1, a.2.2.2.1, a.2.2.2.2.1, a.2.2.2.2.2.1, a.2.2.2.2.2.2⟩) (by rintro M a cs ⟨_, _, rfl, rfl, ⟨_, _, rfl, ⟨rfl, b1⟩, ⟨_, _, rfl, ⟨A0, c0, rfl, s0⟩, ⟨_, _, rfl, ⟨A1, c1, A2, c2, A3, c3, A4, c4, rfl, b2, s1, s2, s3, s4⟩, ⟨_, _, rfl, ⟨A5, c5, rfl, s5⟩, ⟨_, _, rfl, ⟨A6, c6, rfl, s6⟩, ⟨A7, c7, rfl, s7⟩⟩⟩⟩⟩⟩⟩; exact ⟨A0, c0, A1, c1, A2, c2, A3, c3, A4, c4, A5, c5, A6, c6, A7, c7, rfl, trivial, s0, s1, s2, s3, s4, s5, s6, s7⟩) (opens_struct Tryz.underlying42 (opensF_cons (opens_int Tryz.underlying2) (by kernel_rfl) (opensF_cons open25 (by kernel_rfl) (opensF_cons (opens_slice (R := RInt) (z := 1) (by_ := 8) Tryz.underlying26 (by kernel_rfl) (opens_int Tryz.underlying2)) (by kernel_rfl) (opensF_cons open36 (by kernel_rfl) (opensF_cons (opens_slice (R := RWay) (z := 11) (by_ := 104) Tryz.underlying38 (by kernel_rfl) open168) (by kernel_rfl) (opensF_cons (opens_slice (R := RAck) (z := 3) (by_ := 24) Tryz.underlying39 (by kernel_rfl) open183) (by kernel_rfl) (opensF_one (opens_slice (R := RWait) (z := 6) (by_ := 72) Tryz.underlying40 (by kernel_rfl) open172) (by kernel_rfl) (by kernel_rfl)))))))))
set_option maxRecDepth 100000 in
theorem open44 : Opens Tryz.prog RLead 44 :=
  opens_to (fun a => ⟨a.1, a.2.1, a.2.2.1, a.2.2.2.1, a.2.2.2.2.1, a.2.2.2.2.2.1, a.2.2.2.2.2.2.1, a.2.2.2.2.2.2.2.1, a.2.2.2.2.2.2.2.2.1, a.2.2.2.2.2.2.2.2.2.1, a.2.2.2.2.2.2.2.2.2.2.1, a.2.2.2.2.2.2.2.2.2.2.2⟩) (by rintro M a cs ⟨_, _, rfl, ⟨rfl, b1⟩, ⟨_, _, rfl, rfl, ⟨_, _, rfl, rfl, ⟨_, _, rfl, ⟨rfl, b2⟩, ⟨_, _, rfl, ⟨A0, c0, rfl, s0⟩, ⟨_, _, rfl, ⟨A1, c1, rfl, s1⟩, ⟨_, _, rfl, ⟨A2, c2, rfl, s2⟩, ⟨_, _, rfl, ⟨A3, c3, A4, c4, A5, c5, A6, c6, rfl, b3, s3, s4, s5, s6⟩, ⟨_, _, rfl, ⟨A7, c7, rfl, s7⟩, ⟨_, _, rfl, ⟨A8, c8, rfl, s8⟩, ⟨_, _, rfl, ⟨A9, c9, rfl, s9⟩, ⟨A10, c10, A11, c11, A12, c12, A13, c13, A14, c14, A15, c15, A16, c16, A17, c17, rfl, b4, s10, s11, s12, s13, s14, s15, s16, s17⟩⟩⟩⟩⟩⟩⟩⟩⟩⟩⟩⟩; exact ⟨A0, c0, A1, c1, A2, c2, A3, c3, A4, c4, A5, c5, A6, c6, A7, c7, A8, c8, A9, c9, A10, c10, A11, c11, A12, c12, A13, c13, A14, c14, A15, c15, A16, c16, A17, c17, rfl, trivial, s0, s1, s2, s3, s4, s5, s6, s7, s8, s9, s10, s11, s12, s13, s14, s15, s16, s17⟩) (opens_struct Tryz.underlying44 (opensF_cons open23 (by kernel_rfl) (opensF_cons (opens_int Tryz.underlying2) (by kernel_rfl) (opensF_cons (opens_int Tryz.underlying2) (by kernel_rfl) (opensF_cons open25 (by kernel_rfl) (opensF_cons (opens_slice (R := RInt) (z := 1) (by_ := 8) Tryz.underlying26 (by kernel_rfl) (opens_int Tryz.underlying2)) (by kernel_rfl) (opensF_cons (opens_slice (R := RInterval) (z := 4) (by_ := 48) Tryz.underlying27 (by kernel_rfl) open108) (by kernel_rfl) (opensF_cons (opens_slice (R := RNotice) (z := 13) (by_ := 168) Tryz.underlying28 (by kernel_rfl) open111) (by kernel_rfl) (opensF_cons open36 (by kernel_rfl) (opensF_cons (opens_slice (R := RFill) (z := 7) (by_ := 64) Tryz.underlying37 (by kernel_rfl) open119) (by kernel_rfl) (opensF_cons (opens_slice (R := RChunk) (z := 6) (by_ := 64) Tryz.underlying34 (by kernel_rfl) open122) (by kernel_rfl) (opensF_cons (opens_slice (R := RInt) (z := 1) (by_ := 8) Tryz.underlying26 (by kernel_rfl) (opens_int Tryz.underlying2)) (by kernel_rfl) (opensF_one open42 (by kernel_rfl) (by kernel_rfl))))))))))))))
theorem opened0 : Opens Tryz.prog RLead 44 := open44
theorem opened1 : Opens Tryz.prog RLead 44 := open44
set_option maxRecDepth 100000 in
theorem lifted (os : Os) (started : os.Started) (H : Type) (enc : TypeId × Value → H) :
    ReturnsInHanded {} Tryz.checked os 3 .any (Rows.fnExactSameLeadSpec.pre6 enc Tryz.prog Tryz.f3 Rows.fnExactSameLeadRow.domain false) (Rows.fnExactSameLeadSpec.post enc Tryz.prog Tryz.f3 false true false false) := by
  refine returnsInHanded_of_change_sized (C := Tryz.checked) own started (by kernel_rfl) Tryz.func3
    (ChangeSpec.witness6 (enc := enc) (C := Tryz.checked) false ⟨#[], #[.agg #[.int .i64 0, .int .i64 0, .int .i64 0, .int .i64 0, .int .i64 0, .int .i64 0, .slice none 0 0, .slice none 0 0, .slice none 0 0, .int .i64 0, .int .i64 0, .int .i64 0, .int .i64 0, .int .i64 0, .int .i64 0, .slice none 0 0, .slice none 0 0, .slice none 0 0, .int .i64 0, .int .i64 0, .slice none 0 0, .slice none 0 0, .slice none 0 0, .slice none 0 0, .int .i64 0, .int .i64 0, .int .i64 0, .slice none 0 0, .int .i64 0, .int .i64 0, .int .i64 0, .int .i64 0, .int .i64 0, .int .i64 0, .slice none 0 0, .slice none 0 0, .slice none 0 0, .int .i64 0, .int .i64 0, .slice none 0 0, .slice none 0 0, .slice none 0 0, .slice none 0 0], .agg #[.int .i64 0, .int .i64 0, .int .i64 0, .int .i64 0, .int .i64 0, .int .i64 0, .slice none 0 0, .slice none 0 0, .slice none 0 0, .int .i64 0, .int .i64 0, .int .i64 0, .int .i64 0, .int .i64 0, .int .i64 0, .slice none 0 0, .slice none 0 0, .slice none 0 0, .int .i64 0, .int .i64 0, .slice none 0 0, .slice none 0 0, .slice none 0 0, .slice none 0 0, .int .i64 0, .int .i64 0, .int .i64 0, .slice none 0 0, .int .i64 0, .int .i64 0, .int .i64 0, .int .i64 0, .int .i64 0, .int .i64 0, .slice none 0 0, .slice none 0 0, .slice none 0 0, .int .i64 0, .int .i64 0, .slice none 0 0, .slice none 0 0, .slice none 0 0, .slice none 0 0]], []⟩ 8 (by kernel_rfl) (by kernel_rfl) (by kernel_rfl) (by kernel_rfl)) ?_
  intro W base args ds gs before hval0 hW hcnd hsz0 _
  have hval : ∀ (j : Nat) t v, Tryz.f3.params[j]? = some t → args[j]? = some v → Value.okWide Tryz.prog W .any base t v := hval0
  have hW' := hW
  obtain ⟨p, q, hA0, hV, rfl, hfz, hnd⟩ := hW
  have hA : DataW.TrodAll enc Tryz.prog W 0 (fun _ => true) true Tryz.f3.params.toList args.toList ds p := hA0
  rw [Tryz.params3] at hA hval
  obtain ⟨v0, vs0, d0, ds0, p0, q0, hargs, rfl, rfl, h0, r0⟩ := trodAll_cons hA
  obtain ⟨v1, vs1, d1, ds1, p1, q1, rfl, rfl, rfl, h1, r1⟩ := trodAll_cons r0
  obtain ⟨rfl, rfl, rfl⟩ := trodAll_nil r1
  obtain rfl : args = #[v0, v1] := by cases args; simp_all
  obtain ⟨rfl, rfl⟩ := trodVars_none hV
  have k0 := h0
  have lt0 : ∀ x ∈ p0, x.block < W.heap.size := by obtain ⟨m, hm⟩ := k0; exact DataW.trod_lt m _ _ _ hm
  obtain ⟨fu0, hf0⟩ := h0
  obtain ⟨x0, K0⟩ := opened0 H enc W _ _ _ _ _ _ hf0
  have ev0 : v0 = .agg v0.cells.toList.toArray := by rw [Array.toArray_toList]; exact agg_of Tryz.underlying44 (hval 0 44 v0 rfl rfl)
  have k1 := h1
  have lt1 : ∀ x ∈ p1, x.block < W.heap.size := by obtain ⟨m, hm⟩ := k1; exact DataW.trod_lt m _ _ _ hm
  obtain ⟨fu1, hf1⟩ := h1
  obtain ⟨x1, K1⟩ := opened1 H enc W _ _ _ _ _ _ hf1
  have ev1 : v1 = .agg v1.cells.toList.toArray := by rw [Array.toArray_toList]; exact agg_of Tryz.underlying44 (hval 1 44 v1 rfl rfl)
  have L := lawSameLead_a (wm W) x0 x1 _ _ K0 K1
  rw [← ev0] at L
  rw [← ev1] at L
  clear hA0 hval0 hsz0 hval
  refine (L.run W (fun _ _ h => h)).mono ?_
  rintro e W' ⟨v, M', he, _, _, _, hv, bel0⟩
  have bel : Below W.heap.size W W' := bel0
  obtain rfl : v = .bool true := hv
  subst he
  exact ⟨_, rfl, _, _, _, [], _, [], hW', trodAll_mk1 (shut_bool Tryz.underlying4 _), (trodAll_cons_mk (Below.trod laidOut (by kernel_rfl) (of_decide_eq_true (by kernel_rfl)) k0 bel lt0) (trodAll_cons_mk (Below.trod laidOut (by kernel_rfl) (of_decide_eq_true (by kernel_rfl)) k1 bel lt1) trodAll_mk0)), rfl, bel.frame _, fun h => by cases h⟩
theorem over : Rows.fnExactSameLeadRow.holds Tryz.pinned (OpenSpec.ofChange Rows.fnExactSameLeadSpec) :=
  OpenClaim.holds_of_wide 3 Tryz.f3 rfl rfl rfl rfl rfl rfl rfl ⟨rfl, rfl, rfl, rfl, rfl⟩ rfl rfl rfl rfl rfl (by kernel_rfl) Tryz.func3 (by kernel_rfl)
    (of_decide_eq_true (by kernel_rfl)) (by unfold Func.isWrapper; first | (rw [if_pos (by decide +kernel)]; kernel_rfl) | (rw [if_neg (by decide +kernel)]; exact ⟨rfl, rfl⟩))
    (fun os started H enc _ => lifted os started H enc)
theorem proved : Rows.FnExactSameLeadSaid := over
#print axioms proved
end Go.Proofs.YtmdbeooianiojaaGreat.fnExactSameLead
namespace Go.Proofs.YtmdbeooianiojaaGreat
/-- The row, under a short name, for the claim. -/
theorem fnExactSameLead_holds : Rows.FnExactSameLeadSaid := fnExactSameLead.proved
end Go.Proofs.YtmdbeooianiojaaGreat
