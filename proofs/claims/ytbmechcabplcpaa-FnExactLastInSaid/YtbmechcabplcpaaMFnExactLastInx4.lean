-- Printed by the session's own program out of the translation.
import Derived.Test.YtbmechcabplcpaaMFnExactLastInx0
import Derived.Test.YtbmechcabplcpaaMFnExactLastInx1
import Derived.Test.YtbmechcabplcpaaMFnExactLastInx2
import Derived.Test.YtbmechcabplcpaaMFnExactLastInx3
namespace Go.Proofs.Ytbmechcabplcpaa.MFnExactLastIn
open Go.RowKit Go.Proofs.YtbmechcabplcpaaW.PrintWords Go.Proofs.YtbmechcabplcpaaW.PrintLast Go.Proofs.YtbmechcabplcpaaW.PrintMore
attribute [local go_sem] max2_int min2_int max_two min_two max_three min_three max_four min_four   -- for this text's walks alone
set_option linter.unusedVariables false
set_option linter.unusedSimpArgs false

/-! ### laws_FnExactLastIn: function 3 -/
def laws_FnExactLastIn.j0 : Nat → List (S111) → List (S33) → Bool → Option (Bool)
  | 0, _, _, _ => none
  | k + 1, x0, x8, x42 => if x42 = true then (some false) else ((laws_toMadeS.f k x0).bind fun t231 => ((laws_eqMadeS.f k x8 t231).bind fun t234 => (if t234 = true then (some true) else (some false))))
def laws_FnExactLastIn.f (k : Nat) (l0 : List (S111)) (a1 : ByteArray) : Option (Bool) := if (a1.size : Int) > 1048576 then (some true) else ((laws_szMadeS.f k l0 1048576).bind fun t193 => (if t193 < 0 then (some true) else ((laws_toMadeS.f k l0).bind fun t194 => ((spec_LastIn.f k t194 a1).bind fun bt197 => ((laws_toMadeS.f k l0).bind fun t212 => ((impl_LastIn.f t212 a1).bind fun bt215 => ((laws_eqMade.f bt215.1 bt215.2.1 bt215.2.2.1 bt215.2.2.2.1 bt215.2.2.2.2.1 bt215.2.2.2.2.2.1 bt215.2.2.2.2.2.2.1 bt215.2.2.2.2.2.2.2.1 bt215.2.2.2.2.2.2.2.2.1 bt215.2.2.2.2.2.2.2.2.2.1 bt215.2.2.2.2.2.2.2.2.2.2.1 bt215.2.2.2.2.2.2.2.2.2.2.2.1 bt215.2.2.2.2.2.2.2.2.2.2.2.2.1 bt197.1 bt197.2.1 bt197.2.2.1 bt197.2.2.2.1 bt197.2.2.2.2.1 bt197.2.2.2.2.2.1 bt197.2.2.2.2.2.2.1 bt197.2.2.2.2.2.2.2.1 bt197.2.2.2.2.2.2.2.2.1 bt197.2.2.2.2.2.2.2.2.2.1 bt197.2.2.2.2.2.2.2.2.2.2.1 bt197.2.2.2.2.2.2.2.2.2.2.2.1 bt197.2.2.2.2.2.2.2.2.2.2.2.2.1).bind fun t230 => (if t230 = true then (laws_FnExactLastIn.j0 k l0 t212 (bt215.2.2.2.2.2.2.2.2.2.2.2.2.2 != bt197.2.2.2.2.2.2.2.2.2.2.2.2.2)) else (laws_FnExactLastIn.j0 k l0 t212 true)))))))))
theorem laws_FnExactLastIn.mono_l : ∀ k, (∀ y0 y1 y2, LeO (laws_FnExactLastIn.j0 k y0 y1 y2) (laws_FnExactLastIn.j0 (k + 1) y0 y1 y2))
  | 0 => fun _ _ _ r h => by simp [laws_FnExactLastIn.j0] at h
  | k + 1 => by
    have ih0 := laws_FnExactLastIn.mono_l k
    · intro y0 y1 y2
      unfold laws_FnExactLastIn.j0
      repeat' first
      | (with_reducible exact ih0 _ _ _)
      | (with_reducible exact laws_eqMadeS.mono _ _ _)
      | (with_reducible exact laws_szMadeS.mono _ _ _)
      | (with_reducible exact laws_toMadeS.mono _ _)
      | (with_reducible exact spec_LastIn.mono _ _ _)
      | (with_reducible exact LeO.refl _)
      | (with_reducible exact LeO.none _)
      | (with_reducible refine LeO.ite ?_ ?_)
      | (with_reducible refine LeO.bind ?_ (fun _ => ?_))
      | exact ih0 _ _ _
      | exact laws_eqMadeS.mono _ _ _
      | exact laws_szMadeS.mono _ _ _
      | exact laws_toMadeS.mono _ _
      | exact spec_LastIn.mono _ _ _
      | exact LeO.none _
      | refine LeO.ite ?_ ?_
      | refine LeO.bind ?_ (fun _ => ?_)
theorem laws_FnExactLastIn.mono : ∀ a0 a1 k, LeO (laws_FnExactLastIn.f k a0 a1) (laws_FnExactLastIn.f (k + 1) a0 a1) := by
  intro a0 a1 k
  have ih0 := laws_FnExactLastIn.mono_l k
  unfold laws_FnExactLastIn.f
  repeat' first
      | (with_reducible exact ih0 _ _ _)
      | (with_reducible exact laws_eqMadeS.mono _ _ _)
      | (with_reducible exact laws_szMadeS.mono _ _ _)
      | (with_reducible exact laws_toMadeS.mono _ _)
      | (with_reducible exact spec_LastIn.mono _ _ _)
      | (with_reducible exact LeO.refl _)
      | (with_reducible exact LeO.none _)
      | (with_reducible refine LeO.ite ?_ ?_)
      | (with_reducible refine LeO.bind ?_ (fun _ => ?_))
      | exact ih0 _ _ _
      | exact laws_eqMadeS.mono _ _ _
      | exact laws_szMadeS.mono _ _ _
      | exact laws_toMadeS.mono _ _
      | exact spec_LastIn.mono _ _ _
      | exact LeO.none _
      | refine LeO.ite ?_ ?_
      | refine LeO.bind ?_ (fun _ => ?_)
set_option maxHeartbeats 8000000 in
set_option maxRecDepth 100000 in
theorem laws_FnExactLastIn.calls (k : Nat) (A0 : Option Addr) (c0 : Nat) (l0 : List (S111)) (a1 : ByteArray) (r : Bool) (w : World) (hr0 : Kd.C k111 w A0 l0.length l0) (hc0 : l0.length ≤ c0) (h : laws_FnExactLastIn.f k l0 a1 = some r) :
    Calls Try.prog 3 #[.slice A0 l0.length c0, .string a1] w fun e w' => e = .returned (.bool r) ∧ Below w.heap.size w w' := by
  have hu33 := Try.underlying33
  have HR0 := Aside0.mk hr0
  have HC0 := Aside0.mk hc0
  clear hr0 hc0
  have HB := Aside0.mk (Below.refl w.heap.size w)
  have H : (if (a1.size : Int) > 1048576 then (some true) else ((laws_szMadeS.f k l0 1048576).bind fun t193 => (if t193 < 0 then (some true) else ((laws_toMadeS.f k l0).bind fun t194 => ((spec_LastIn.f k t194 a1).bind fun bt197 => ((laws_toMadeS.f k l0).bind fun t212 => ((impl_LastIn.f t212 a1).bind fun bt215 => ((laws_eqMade.f bt215.1 bt215.2.1 bt215.2.2.1 bt215.2.2.2.1 bt215.2.2.2.2.1 bt215.2.2.2.2.2.1 bt215.2.2.2.2.2.2.1 bt215.2.2.2.2.2.2.2.1 bt215.2.2.2.2.2.2.2.2.1 bt215.2.2.2.2.2.2.2.2.2.1 bt215.2.2.2.2.2.2.2.2.2.2.1 bt215.2.2.2.2.2.2.2.2.2.2.2.1 bt215.2.2.2.2.2.2.2.2.2.2.2.2.1 bt197.1 bt197.2.1 bt197.2.2.1 bt197.2.2.2.1 bt197.2.2.2.2.1 bt197.2.2.2.2.2.1 bt197.2.2.2.2.2.2.1 bt197.2.2.2.2.2.2.2.1 bt197.2.2.2.2.2.2.2.2.1 bt197.2.2.2.2.2.2.2.2.2.1 bt197.2.2.2.2.2.2.2.2.2.2.1 bt197.2.2.2.2.2.2.2.2.2.2.2.1 bt197.2.2.2.2.2.2.2.2.2.2.2.2.1).bind fun t230 => (if t230 = true then (laws_FnExactLastIn.j0 k l0 t212 (bt215.2.2.2.2.2.2.2.2.2.2.2.2.2 != bt197.2.2.2.2.2.2.2.2.2.2.2.2.2)) else (laws_FnExactLastIn.j0 k l0 t212 true)))))))))) = some r := h
  clear h
  by_cases c3 : (a1.size : Int) > 1048576
  · rw [if_pos c3] at H
    have c3b0 : decide (1048576 < (a1.size : Int)) = true := decide_eq_true c3
    have c3b1 : decide (1048576 < a1.size) = true := decide_eq_true (by omega)
    clear c3
    obtain rfl := Option.some.inj H
    go_enter Try.func3, Try.ntmps3
    go_wp2
    go_ret
    exact ⟨by first | rfl | (simp [errW_none, errW_some] <;> rfl) | (simp [*, errW_none, errW_some] <;> rfl), by repeat (first | (with_reducible first | exact HB.out | apply below_alloc | apply pw_below_drewN | apply below_drew1) | exact HB.out)⟩
  · rw [if_neg c3] at H
    have c3b0 : decide (1048576 < (a1.size : Int)) = false := decide_eq_false c3
    have c3b1 : decide (1048576 < a1.size) = false := decide_eq_false (by omega)
    clear c3
    replace H := Option.bind_eq_some_iff.mp H
    obtain ⟨t193, A40, H⟩ := H
    replace H : (if t193 < 0 then (some true) else ((laws_toMadeS.f k l0).bind fun t194 => ((spec_LastIn.f k t194 a1).bind fun bt197 => ((laws_toMadeS.f k l0).bind fun t212 => ((impl_LastIn.f t212 a1).bind fun bt215 => ((laws_eqMade.f bt215.1 bt215.2.1 bt215.2.2.1 bt215.2.2.2.1 bt215.2.2.2.2.1 bt215.2.2.2.2.2.1 bt215.2.2.2.2.2.2.1 bt215.2.2.2.2.2.2.2.1 bt215.2.2.2.2.2.2.2.2.1 bt215.2.2.2.2.2.2.2.2.2.1 bt215.2.2.2.2.2.2.2.2.2.2.1 bt215.2.2.2.2.2.2.2.2.2.2.2.1 bt215.2.2.2.2.2.2.2.2.2.2.2.2.1 bt197.1 bt197.2.1 bt197.2.2.1 bt197.2.2.2.1 bt197.2.2.2.2.1 bt197.2.2.2.2.2.1 bt197.2.2.2.2.2.2.1 bt197.2.2.2.2.2.2.2.1 bt197.2.2.2.2.2.2.2.2.1 bt197.2.2.2.2.2.2.2.2.2.1 bt197.2.2.2.2.2.2.2.2.2.2.1 bt197.2.2.2.2.2.2.2.2.2.2.2.1 bt197.2.2.2.2.2.2.2.2.2.2.2.2.1).bind fun t230 => (if t230 = true then (laws_FnExactLastIn.j0 k l0 t212 (bt215.2.2.2.2.2.2.2.2.2.2.2.2.2 != bt197.2.2.2.2.2.2.2.2.2.2.2.2.2)) else (laws_FnExactLastIn.j0 k l0 t212 true)))))))) = some r := H
    have A4 := Aside0.mk A40
    clear A40
    by_cases c5 : t193 < 0
    · rw [if_pos c5] at H
      have c5b0 : decide (t193 < 0) = true := decide_eq_true c5
      clear c5
      obtain rfl := Option.some.inj H
      go_enter Try.func3, Try.ntmps3
      go_wp2_with (first | ((with_reducible refine gate_callee (f := 7) rfl ?_); refine goesL_ (some 16) rfl rfl Try.func7 (by kernel_rfl) rfl #[.slice A0 l0.length c0, .int .i64 1048576] rfl (by (try simp only [List.map_toArray, List.map_cons, List.map_nil]); first | done | rfl | (simp only [List.length_drop, List.length_take]; rfl)) ?_; (with_reducible refine (laws_szMadeS.calls k _ _ l0 1048576 t193 _ ?side1 ?side2 A4.out).mono ?_); (case side1 => repeat (first | exact HR0.out | (with_reducible refine Kd.C_alloc ?_ _) | (with_reducible refine Kd.C_drewN ?_ _) | (with_reducible refine Kd.C_drew ?_))); (case side2 => exact HC0.out); rintro e w6 ⟨rfl, hb⟩; refine ⟨_, rfl, ?_⟩; have n0_ := Aside0.mk (below_step (by repeat (first | (with_reducible first | exact HB.out | apply below_alloc | apply pw_below_drewN | apply below_drew1) | exact HB.out)) hb); clear HB; have HB := n0_; clear n0_; (try clear hb); (try clear hb2); (try clear hk); (try clear hi)))
      go_ret
      exact ⟨by first | rfl | (simp [errW_none, errW_some] <;> rfl) | (simp [*, errW_none, errW_some] <;> rfl), by repeat (first | (with_reducible first | exact HB.out | apply below_alloc | apply pw_below_drewN | apply below_drew1) | exact HB.out)⟩
    · rw [if_neg c5] at H
      have c5b0 : decide (t193 < 0) = false := decide_eq_false c5
      clear c5
      replace H := Option.bind_eq_some_iff.mp H
      obtain ⟨t194, A70, H⟩ := H
      replace H : ((spec_LastIn.f k t194 a1).bind fun bt197 => ((laws_toMadeS.f k l0).bind fun t212 => ((impl_LastIn.f t212 a1).bind fun bt215 => ((laws_eqMade.f bt215.1 bt215.2.1 bt215.2.2.1 bt215.2.2.2.1 bt215.2.2.2.2.1 bt215.2.2.2.2.2.1 bt215.2.2.2.2.2.2.1 bt215.2.2.2.2.2.2.2.1 bt215.2.2.2.2.2.2.2.2.1 bt215.2.2.2.2.2.2.2.2.2.1 bt215.2.2.2.2.2.2.2.2.2.2.1 bt215.2.2.2.2.2.2.2.2.2.2.2.1 bt215.2.2.2.2.2.2.2.2.2.2.2.2.1 bt197.1 bt197.2.1 bt197.2.2.1 bt197.2.2.2.1 bt197.2.2.2.2.1 bt197.2.2.2.2.2.1 bt197.2.2.2.2.2.2.1 bt197.2.2.2.2.2.2.2.1 bt197.2.2.2.2.2.2.2.2.1 bt197.2.2.2.2.2.2.2.2.2.1 bt197.2.2.2.2.2.2.2.2.2.2.1 bt197.2.2.2.2.2.2.2.2.2.2.2.1 bt197.2.2.2.2.2.2.2.2.2.2.2.2.1).bind fun t230 => (if t230 = true then (laws_FnExactLastIn.j0 k l0 t212 (bt215.2.2.2.2.2.2.2.2.2.2.2.2.2 != bt197.2.2.2.2.2.2.2.2.2.2.2.2.2)) else (laws_FnExactLastIn.j0 k l0 t212 true)))))) = some r := H
      have A7 := Aside0.mk A70
      clear A70
      replace H := Option.bind_eq_some_iff.mp H
      obtain ⟨⟨t197, t198, t199, t200, t201, t202, t203, t204, t205, t206, t207, t208, t209, t210⟩, A80, H⟩ := H
      replace H : ((laws_toMadeS.f k l0).bind fun t212 => ((impl_LastIn.f t212 a1).bind fun bt215 => ((laws_eqMade.f bt215.1 bt215.2.1 bt215.2.2.1 bt215.2.2.2.1 bt215.2.2.2.2.1 bt215.2.2.2.2.2.1 bt215.2.2.2.2.2.2.1 bt215.2.2.2.2.2.2.2.1 bt215.2.2.2.2.2.2.2.2.1 bt215.2.2.2.2.2.2.2.2.2.1 bt215.2.2.2.2.2.2.2.2.2.2.1 bt215.2.2.2.2.2.2.2.2.2.2.2.1 bt215.2.2.2.2.2.2.2.2.2.2.2.2.1 t197 t198 t199 t200 t201 t202 t203 t204 t205 t206 t207 t208 t209).bind fun t230 => (if t230 = true then (laws_FnExactLastIn.j0 k l0 t212 (bt215.2.2.2.2.2.2.2.2.2.2.2.2.2 != t210)) else (laws_FnExactLastIn.j0 k l0 t212 true))))) = some r := H
      have A8 := Aside0.mk A80
      clear A80
      replace H := Option.bind_eq_some_iff.mp H
      obtain ⟨t212, A90, H⟩ := H
      replace H : ((impl_LastIn.f t212 a1).bind fun bt215 => ((laws_eqMade.f bt215.1 bt215.2.1 bt215.2.2.1 bt215.2.2.2.1 bt215.2.2.2.2.1 bt215.2.2.2.2.2.1 bt215.2.2.2.2.2.2.1 bt215.2.2.2.2.2.2.2.1 bt215.2.2.2.2.2.2.2.2.1 bt215.2.2.2.2.2.2.2.2.2.1 bt215.2.2.2.2.2.2.2.2.2.2.1 bt215.2.2.2.2.2.2.2.2.2.2.2.1 bt215.2.2.2.2.2.2.2.2.2.2.2.2.1 t197 t198 t199 t200 t201 t202 t203 t204 t205 t206 t207 t208 t209).bind fun t230 => (if t230 = true then (laws_FnExactLastIn.j0 k l0 t212 (bt215.2.2.2.2.2.2.2.2.2.2.2.2.2 != t210)) else (laws_FnExactLastIn.j0 k l0 t212 true)))) = some r := H
      have A9 := Aside0.mk A90
      clear A90
      replace H := Option.bind_eq_some_iff.mp H
      obtain ⟨⟨t215, t216, t217, t218, t219, t220, t221, t222, t223, t224, t225, t226, t227, t228⟩, A100, H⟩ := H
      replace H : ((laws_eqMade.f t215 t216 t217 t218 t219 t220 t221 t222 t223 t224 t225 t226 t227 t197 t198 t199 t200 t201 t202 t203 t204 t205 t206 t207 t208 t209).bind fun t230 => (if t230 = true then (laws_FnExactLastIn.j0 k l0 t212 (t228 != t210)) else (laws_FnExactLastIn.j0 k l0 t212 true))) = some r := H
      have A10 := Aside0.mk A100
      clear A100
      have HC11 := Aside0.mk H
      clear H
      go_enter Try.func3, Try.ntmps3
      go_upto_region 10 with (first | ((with_reducible refine gate_callee (f := 7) rfl ?_); refine goesL_ (some 16) rfl rfl Try.func7 (by kernel_rfl) rfl #[.slice A0 l0.length c0, .int .i64 1048576] rfl (by (try simp only [List.map_toArray, List.map_cons, List.map_nil]); first | done | rfl | (simp only [List.length_drop, List.length_take]; rfl)) ?_; (with_reducible refine (laws_szMadeS.calls k _ _ l0 1048576 t193 _ ?side1 ?side2 A4.out).mono ?_); (case side1 => repeat (first | exact HR0.out | (with_reducible refine Kd.C_alloc ?_ _) | (with_reducible refine Kd.C_drewN ?_ _) | (with_reducible refine Kd.C_drew ?_))); (case side2 => exact HC0.out); rintro e w12 ⟨rfl, hb⟩; refine ⟨_, rfl, ?_⟩; have n0_ := Aside0.mk (below_step (by repeat (first | (with_reducible first | exact HB.out | apply below_alloc | apply pw_below_drewN | apply below_drew1) | exact HB.out)) hb); clear HB; have HB := n0_; clear n0_; (try clear hb); (try clear hb2); (try clear hk); (try clear hi)) | ((with_reducible refine gate_callee (f := 9) rfl ?_); refine goesL_ (some 21) rfl rfl Try.func9 (by kernel_rfl) rfl #[.slice A0 l0.length c0] rfl (by (try simp only [List.map_toArray, List.map_cons, List.map_nil]); first | done | rfl | (simp only [List.length_drop, List.length_take]; rfl)) ?_; (with_reducible refine (laws_toMadeS.calls k _ _ l0 t194 _ ?side1 ?side2 A7.out).mono ?_); (case side1 => repeat (first | exact (Kd.C_below HR0.out HB.out) | (with_reducible refine Kd.C_alloc ?_ _) | (with_reducible refine Kd.C_drewN ?_ _) | (with_reducible refine Kd.C_drew ?_))); (case side2 => exact HC0.out); rintro e w13 ⟨v195, rfl, ho0, hb⟩; refine ⟨_, rfl, ?_⟩; have n0_ := Aside0.mk (Kd.R_lower ho0 (below_size (by repeat (first | (with_reducible first | exact HB.out | apply below_alloc | apply pw_below_drewN | apply below_drew1) | exact HB.out)))); have n1_ := Aside0.mk (below_step (by repeat (first | (with_reducible first | exact HB.out | apply below_alloc | apply pw_below_drewN | apply below_drew1) | exact HB.out)) hb); clear HB; have HO196 := n0_; have HB := n1_; clear n0_ n1_; (try clear hb); (try clear hb2); (try clear hk); (try clear hi); (try clear ho0); obtain ⟨Ao14, co14, eo14⟩ := Kd.R_slice HO196.out; subst eo14) | ((with_reducible refine gate_callee (f := 8) rfl ?_); refine goesL_ (some 23) rfl rfl Try.func8 (by kernel_rfl) rfl #[.slice Ao14 t194.length co14, .string a1] rfl (by (try simp only [List.map_toArray, List.map_cons, List.map_nil]); first | done | rfl | (simp only [List.length_drop, List.length_take]; rfl)) ?_; (with_reducible refine (spec_LastIn.calls k _ _ t194 a1 t197 t198 t199 t200 t201 t202 t203 t204 t205 t206 t207 t208 t209 t210 _ ?side1 ?side2 A8.out).mono ?_); (case side1 => repeat (first | exact (Kd.R_reads' HO196.out).2.2 | (with_reducible refine Kd.C_alloc ?_ _) | (with_reducible refine Kd.C_drewN ?_ _) | (with_reducible refine Kd.C_drew ?_))); (case side2 => exact (Kd.R_reads' HO196.out).2.1); rintro e w15 ⟨rfl, hb⟩; refine ⟨_, rfl, ?_⟩; have n0_ := Aside0.mk (Kd.R_below (by (with_reducible repeat (first | apply Kd.R_alloc | apply Kd.R_drewN | apply Kd.R_drew)); exact HO196.out) hb); have n1_ := Aside0.mk (below_step (by repeat (first | (with_reducible first | exact HB.out | apply below_alloc | apply pw_below_drewN | apply below_drew1) | exact HB.out)) hb); clear HO196; clear HB; have HO196 := n0_; have HB := n1_; clear n0_ n1_; (try clear hb); (try clear hb2); (try clear hk); (try clear hi)) | ((with_reducible refine gate_dst (N := 6) rfl ?_); refine box_event ?hg (N := 6) ?hd (cs := #[.int .i64 0, .int .i64 0, .int .i64 0, .int .i64 0, .int .i64 0, .int .i64 0, .string (⟨#[]⟩ : ByteArray), .bool false, .int .i64 0, .int .i64 0, .int .i64 0, .int .i64 0, .string (⟨#[]⟩ : ByteArray)]) (t := 33) ?hr ?_; (case hd => rfl); (case hg => rfl); (case hr => first | (go_simp; done) | (go_simp; rfl)); intro gb211 hg w16 hbox hb; have n0_ := Aside0.mk (Kd.R_below (Kd.R_elderB (by (with_reducible repeat (first | apply Kd.R_alloc | apply Kd.R_drewN | apply Kd.R_drew)); exact HO196.out) gb211 (Nat.le_of_eq hg.symm)) hb); have n1_ := Aside0.mk (below_step (by repeat (first | (with_reducible first | exact HB.out | apply below_alloc | apply pw_below_drewN | apply below_drew1) | exact HB.out)) hb); have n2_ := Aside0.mk (hbox); have n3_ := Aside0.mk ((by rw [hg]; exact (below_size (by repeat (first | (with_reducible first | exact HB.out | apply below_alloc | apply pw_below_drewN | apply below_drew1) | exact HB.out))) : w.heap.size ≤ gb211)); have n4_ := Aside0.mk ((by rw [hg]; exact (below_size (by repeat (first | (with_reducible first | exact HB.out | apply below_alloc | apply pw_below_drewN | apply below_drew1) | exact HB.out))) : w.heap.size ≤ gb211)); clear HO196; clear HB; have HO196 := n0_; have HB := n1_; have BK211 := n2_; have GW211 := n3_; have GE211 := n4_; clear n0_ n1_ n2_ n3_ n4_; clear hb hbox hg; have hcz17_0 : w16.cell? ⟨gb211, 0, none⟩ = some (.int .i64 0) := (blk_cell BK211.out 0).trans rfl; have hcz17_1 : w16.cell? ⟨gb211, 1, none⟩ = some (.int .i64 0) := (blk_cell BK211.out 1).trans rfl; have hcz17_2 : w16.cell? ⟨gb211, 2, none⟩ = some (.int .i64 0) := (blk_cell BK211.out 2).trans rfl; have hcz17_3 : w16.cell? ⟨gb211, 3, none⟩ = some (.int .i64 0) := (blk_cell BK211.out 3).trans rfl; have hcz17_4 : w16.cell? ⟨gb211, 4, none⟩ = some (.int .i64 0) := (blk_cell BK211.out 4).trans rfl; have hcz17_5 : w16.cell? ⟨gb211, 5, none⟩ = some (.int .i64 0) := (blk_cell BK211.out 5).trans rfl; have hcz17_6 : w16.cell? ⟨gb211, 6, none⟩ = some (.string (⟨#[]⟩ : ByteArray)) := (blk_cell BK211.out 6).trans rfl; have hcz17_7 : w16.cell? ⟨gb211, 7, none⟩ = some (.bool false) := (blk_cell BK211.out 7).trans rfl; have hcz17_8 : w16.cell? ⟨gb211, 8, none⟩ = some (.int .i64 0) := (blk_cell BK211.out 8).trans rfl; have hcz17_9 : w16.cell? ⟨gb211, 9, none⟩ = some (.int .i64 0) := (blk_cell BK211.out 9).trans rfl; have hcz17_10 : w16.cell? ⟨gb211, 10, none⟩ = some (.int .i64 0) := (blk_cell BK211.out 10).trans rfl; have hcz17_11 : w16.cell? ⟨gb211, 11, none⟩ = some (.int .i64 0) := (blk_cell BK211.out 11).trans rfl; have hcz17_12 : w16.cell? ⟨gb211, 12, none⟩ = some (.string (⟨#[]⟩ : ByteArray)) := (blk_cell BK211.out 12).trans rfl; have hfz17_0 := blk_frozen BK211.out 0; have hfz17_1 := blk_frozen BK211.out 1; have hfz17_2 := blk_frozen BK211.out 2; have hfz17_3 := blk_frozen BK211.out 3; have hfz17_4 := blk_frozen BK211.out 4; have hfz17_5 := blk_frozen BK211.out 5; have hfz17_6 := blk_frozen BK211.out 6; have hfz17_7 := blk_frozen BK211.out 7; have hfz17_8 := blk_frozen BK211.out 8; have hfz17_9 := blk_frozen BK211.out 9; have hfz17_10 := blk_frozen BK211.out 10; have hfz17_11 := blk_frozen BK211.out 11; have hfz17_12 := blk_frozen BK211.out 12) | ((with_reducible refine gate_callee (f := 9) rfl ?_); refine goesL_ (some 27) rfl rfl Try.func9 (by kernel_rfl) rfl #[.slice A0 l0.length c0] rfl (by (try simp only [List.map_toArray, List.map_cons, List.map_nil]); first | done | rfl | (simp only [List.length_drop, List.length_take]; rfl)) ?_; (with_reducible refine (laws_toMadeS.calls k _ _ l0 t212 _ ?side1 ?side2 A9.out).mono ?_); (case side1 => exact Kd.C_below HR0.out (by repeat (first | (with_reducible first | exact HB.out | apply below_alloc | apply pw_below_drewN | apply below_drew1 | refine below_set ?_ GE211.out) | exact HB.out))); (case side2 => exact HC0.out); rintro e w18 ⟨v213, rfl, ho0, hb⟩; refine ⟨_, rfl, ?_⟩; have n0_ := Aside0.mk (Kd.R_elder' (by (with_reducible repeat (first | apply Kd.R_alloc | apply Kd.R_drewN | apply Kd.R_drew)); exact (Kd.R_mono (Kd.R_far (p := ⟨gb211, 12, none⟩) (Kd.R_far (p := ⟨gb211, 11, none⟩) (Kd.R_far (p := ⟨gb211, 10, none⟩) (Kd.R_far (p := ⟨gb211, 9, none⟩) (Kd.R_far (p := ⟨gb211, 8, none⟩) (Kd.R_far (p := ⟨gb211, 7, none⟩) (Kd.R_far (p := ⟨gb211, 6, none⟩) (Kd.R_far (p := ⟨gb211, 5, none⟩) (Kd.R_far (p := ⟨gb211, 4, none⟩) (Kd.R_far (p := ⟨gb211, 3, none⟩) (Kd.R_far (p := ⟨gb211, 2, none⟩) (Kd.R_far (p := ⟨gb211, 1, none⟩) (Kd.R_far (p := ⟨gb211, 0, none⟩) (Kd.R_mono HO196.out (fun k_ hk => (⟨hk, hk.2⟩ : _ ∧ k_ ≠ gb211))) (fun _ hk => hk.2) (.int .i64 t197)) (fun _ hk => hk.2) (.int .i64 t198)) (fun _ hk => hk.2) (.int .i64 t199)) (fun _ hk => hk.2) (.int .i64 t200)) (fun _ hk => hk.2) (.int .i64 t201)) (fun _ hk => hk.2) (.int .i64 t202)) (fun _ hk => hk.2) (.string t203)) (fun _ hk => hk.2) (.bool t204)) (fun _ hk => hk.2) (.int .i64 t205)) (fun _ hk => hk.2) (.int .i64 t206)) (fun _ hk => hk.2) (.int .i64 t207)) (fun _ hk => hk.2) (.int .i64 t208)) (fun _ hk => hk.2) (.string t209)) (fun _ h_ => h_.1))) (Kd.R_base ho0) hb); have n1_ := Aside0.mk (Kd.R_lower (Kd.R_newB (Kd.R_new' ho0 (Kd.R_lt (by (with_reducible repeat (first | apply Kd.R_alloc | apply Kd.R_drewN | apply Kd.R_drew)); exact (Kd.R_mono (Kd.R_far (p := ⟨gb211, 12, none⟩) (Kd.R_far (p := ⟨gb211, 11, none⟩) (Kd.R_far (p := ⟨gb211, 10, none⟩) (Kd.R_far (p := ⟨gb211, 9, none⟩) (Kd.R_far (p := ⟨gb211, 8, none⟩) (Kd.R_far (p := ⟨gb211, 7, none⟩) (Kd.R_far (p := ⟨gb211, 6, none⟩) (Kd.R_far (p := ⟨gb211, 5, none⟩) (Kd.R_far (p := ⟨gb211, 4, none⟩) (Kd.R_far (p := ⟨gb211, 3, none⟩) (Kd.R_far (p := ⟨gb211, 2, none⟩) (Kd.R_far (p := ⟨gb211, 1, none⟩) (Kd.R_far (p := ⟨gb211, 0, none⟩) (Kd.R_mono HO196.out (fun k_ hk => (⟨hk, hk.2⟩ : _ ∧ k_ ≠ gb211))) (fun _ hk => hk.2) (.int .i64 t197)) (fun _ hk => hk.2) (.int .i64 t198)) (fun _ hk => hk.2) (.int .i64 t199)) (fun _ hk => hk.2) (.int .i64 t200)) (fun _ hk => hk.2) (.int .i64 t201)) (fun _ hk => hk.2) (.int .i64 t202)) (fun _ hk => hk.2) (.string t203)) (fun _ hk => hk.2) (.bool t204)) (fun _ hk => hk.2) (.int .i64 t205)) (fun _ hk => hk.2) (.int .i64 t206)) (fun _ hk => hk.2) (.int .i64 t207)) (fun _ hk => hk.2) (.int .i64 t208)) (fun _ hk => hk.2) (.string t209)) (fun _ h_ => h_.1))))) (g := gb211) (o := .cells #[.int .i64 t197, .int .i64 t198, .int .i64 t199, .int .i64 t200, .int .i64 t201, .int .i64 t202, .string t203, .bool t204, .int .i64 t205, .int .i64 t206, .int .i64 t207, .int .i64 t208, .string t209] 33 (0, 0)) (by (with_reducible repeat (first | refine blk_drewN ?_ _ | refine blk_drew ?_ | refine blk_alloc ?_ _)); refine blk_put (cs := #[.int .i64 t197, .int .i64 t198, .int .i64 t199, .int .i64 t200, .int .i64 t201, .int .i64 t202, .string t203, .bool t204, .int .i64 t205, .int .i64 t206, .int .i64 t207, .int .i64 t208, .string (⟨#[]⟩ : ByteArray)]) ?_ 12 _ rfl; (with_reducible repeat (first | refine blk_drewN ?_ _ | refine blk_drew ?_ | refine blk_alloc ?_ _)); refine blk_put (cs := #[.int .i64 t197, .int .i64 t198, .int .i64 t199, .int .i64 t200, .int .i64 t201, .int .i64 t202, .string t203, .bool t204, .int .i64 t205, .int .i64 t206, .int .i64 t207, .int .i64 0, .string (⟨#[]⟩ : ByteArray)]) ?_ 11 _ rfl; (with_reducible repeat (first | refine blk_drewN ?_ _ | refine blk_drew ?_ | refine blk_alloc ?_ _)); refine blk_put (cs := #[.int .i64 t197, .int .i64 t198, .int .i64 t199, .int .i64 t200, .int .i64 t201, .int .i64 t202, .string t203, .bool t204, .int .i64 t205, .int .i64 t206, .int .i64 0, .int .i64 0, .string (⟨#[]⟩ : ByteArray)]) ?_ 10 _ rfl; (with_reducible repeat (first | refine blk_drewN ?_ _ | refine blk_drew ?_ | refine blk_alloc ?_ _)); refine blk_put (cs := #[.int .i64 t197, .int .i64 t198, .int .i64 t199, .int .i64 t200, .int .i64 t201, .int .i64 t202, .string t203, .bool t204, .int .i64 t205, .int .i64 0, .int .i64 0, .int .i64 0, .string (⟨#[]⟩ : ByteArray)]) ?_ 9 _ rfl; (with_reducible repeat (first | refine blk_drewN ?_ _ | refine blk_drew ?_ | refine blk_alloc ?_ _)); refine blk_put (cs := #[.int .i64 t197, .int .i64 t198, .int .i64 t199, .int .i64 t200, .int .i64 t201, .int .i64 t202, .string t203, .bool t204, .int .i64 0, .int .i64 0, .int .i64 0, .int .i64 0, .string (⟨#[]⟩ : ByteArray)]) ?_ 8 _ rfl; (with_reducible repeat (first | refine blk_drewN ?_ _ | refine blk_drew ?_ | refine blk_alloc ?_ _)); refine blk_put (cs := #[.int .i64 t197, .int .i64 t198, .int .i64 t199, .int .i64 t200, .int .i64 t201, .int .i64 t202, .string t203, .bool false, .int .i64 0, .int .i64 0, .int .i64 0, .int .i64 0, .string (⟨#[]⟩ : ByteArray)]) ?_ 7 _ rfl; (with_reducible repeat (first | refine blk_drewN ?_ _ | refine blk_drew ?_ | refine blk_alloc ?_ _)); refine blk_put (cs := #[.int .i64 t197, .int .i64 t198, .int .i64 t199, .int .i64 t200, .int .i64 t201, .int .i64 t202, .string (⟨#[]⟩ : ByteArray), .bool false, .int .i64 0, .int .i64 0, .int .i64 0, .int .i64 0, .string (⟨#[]⟩ : ByteArray)]) ?_ 6 _ rfl; (with_reducible repeat (first | refine blk_drewN ?_ _ | refine blk_drew ?_ | refine blk_alloc ?_ _)); refine blk_put (cs := #[.int .i64 t197, .int .i64 t198, .int .i64 t199, .int .i64 t200, .int .i64 t201, .int .i64 0, .string (⟨#[]⟩ : ByteArray), .bool false, .int .i64 0, .int .i64 0, .int .i64 0, .int .i64 0, .string (⟨#[]⟩ : ByteArray)]) ?_ 5 _ rfl; (with_reducible repeat (first | refine blk_drewN ?_ _ | refine blk_drew ?_ | refine blk_alloc ?_ _)); refine blk_put (cs := #[.int .i64 t197, .int .i64 t198, .int .i64 t199, .int .i64 t200, .int .i64 0, .int .i64 0, .string (⟨#[]⟩ : ByteArray), .bool false, .int .i64 0, .int .i64 0, .int .i64 0, .int .i64 0, .string (⟨#[]⟩ : ByteArray)]) ?_ 4 _ rfl; (with_reducible repeat (first | refine blk_drewN ?_ _ | refine blk_drew ?_ | refine blk_alloc ?_ _)); refine blk_put (cs := #[.int .i64 t197, .int .i64 t198, .int .i64 t199, .int .i64 0, .int .i64 0, .int .i64 0, .string (⟨#[]⟩ : ByteArray), .bool false, .int .i64 0, .int .i64 0, .int .i64 0, .int .i64 0, .string (⟨#[]⟩ : ByteArray)]) ?_ 3 _ rfl; (with_reducible repeat (first | refine blk_drewN ?_ _ | refine blk_drew ?_ | refine blk_alloc ?_ _)); refine blk_put (cs := #[.int .i64 t197, .int .i64 t198, .int .i64 0, .int .i64 0, .int .i64 0, .int .i64 0, .string (⟨#[]⟩ : ByteArray), .bool false, .int .i64 0, .int .i64 0, .int .i64 0, .int .i64 0, .string (⟨#[]⟩ : ByteArray)]) ?_ 2 _ rfl; (with_reducible repeat (first | refine blk_drewN ?_ _ | refine blk_drew ?_ | refine blk_alloc ?_ _)); refine blk_put (cs := #[.int .i64 t197, .int .i64 0, .int .i64 0, .int .i64 0, .int .i64 0, .int .i64 0, .string (⟨#[]⟩ : ByteArray), .bool false, .int .i64 0, .int .i64 0, .int .i64 0, .int .i64 0, .string (⟨#[]⟩ : ByteArray)]) ?_ 1 _ rfl; (with_reducible repeat (first | refine blk_drewN ?_ _ | refine blk_drew ?_ | refine blk_alloc ?_ _)); refine blk_put (cs := #[.int .i64 0, .int .i64 0, .int .i64 0, .int .i64 0, .int .i64 0, .int .i64 0, .string (⟨#[]⟩ : ByteArray), .bool false, .int .i64 0, .int .i64 0, .int .i64 0, .int .i64 0, .string (⟨#[]⟩ : ByteArray)]) ?_ 0 _ rfl; (with_reducible repeat (first | refine blk_drewN ?_ _ | refine blk_drew ?_ | refine blk_alloc ?_ _)); exact BK211.out)) (below_size (by repeat (first | (with_reducible first | exact HB.out | apply below_alloc | apply pw_below_drewN | apply below_drew1 | refine below_set ?_ GE211.out) | exact HB.out)))); have n2_ := Aside0.mk (blk_below (g := gb211) (o := .cells #[.int .i64 t197, .int .i64 t198, .int .i64 t199, .int .i64 t200, .int .i64 t201, .int .i64 t202, .string t203, .bool t204, .int .i64 t205, .int .i64 t206, .int .i64 t207, .int .i64 t208, .string t209] 33 (0, 0)) (by (with_reducible repeat (first | refine blk_drewN ?_ _ | refine blk_drew ?_ | refine blk_alloc ?_ _)); refine blk_put (cs := #[.int .i64 t197, .int .i64 t198, .int .i64 t199, .int .i64 t200, .int .i64 t201, .int .i64 t202, .string t203, .bool t204, .int .i64 t205, .int .i64 t206, .int .i64 t207, .int .i64 t208, .string (⟨#[]⟩ : ByteArray)]) ?_ 12 _ rfl; (with_reducible repeat (first | refine blk_drewN ?_ _ | refine blk_drew ?_ | refine blk_alloc ?_ _)); refine blk_put (cs := #[.int .i64 t197, .int .i64 t198, .int .i64 t199, .int .i64 t200, .int .i64 t201, .int .i64 t202, .string t203, .bool t204, .int .i64 t205, .int .i64 t206, .int .i64 t207, .int .i64 0, .string (⟨#[]⟩ : ByteArray)]) ?_ 11 _ rfl; (with_reducible repeat (first | refine blk_drewN ?_ _ | refine blk_drew ?_ | refine blk_alloc ?_ _)); refine blk_put (cs := #[.int .i64 t197, .int .i64 t198, .int .i64 t199, .int .i64 t200, .int .i64 t201, .int .i64 t202, .string t203, .bool t204, .int .i64 t205, .int .i64 t206, .int .i64 0, .int .i64 0, .string (⟨#[]⟩ : ByteArray)]) ?_ 10 _ rfl; (with_reducible repeat (first | refine blk_drewN ?_ _ | refine blk_drew ?_ | refine blk_alloc ?_ _)); refine blk_put (cs := #[.int .i64 t197, .int .i64 t198, .int .i64 t199, .int .i64 t200, .int .i64 t201, .int .i64 t202, .string t203, .bool t204, .int .i64 t205, .int .i64 0, .int .i64 0, .int .i64 0, .string (⟨#[]⟩ : ByteArray)]) ?_ 9 _ rfl; (with_reducible repeat (first | refine blk_drewN ?_ _ | refine blk_drew ?_ | refine blk_alloc ?_ _)); refine blk_put (cs := #[.int .i64 t197, .int .i64 t198, .int .i64 t199, .int .i64 t200, .int .i64 t201, .int .i64 t202, .string t203, .bool t204, .int .i64 0, .int .i64 0, .int .i64 0, .int .i64 0, .string (⟨#[]⟩ : ByteArray)]) ?_ 8 _ rfl; (with_reducible repeat (first | refine blk_drewN ?_ _ | refine blk_drew ?_ | refine blk_alloc ?_ _)); refine blk_put (cs := #[.int .i64 t197, .int .i64 t198, .int .i64 t199, .int .i64 t200, .int .i64 t201, .int .i64 t202, .string t203, .bool false, .int .i64 0, .int .i64 0, .int .i64 0, .int .i64 0, .string (⟨#[]⟩ : ByteArray)]) ?_ 7 _ rfl; (with_reducible repeat (first | refine blk_drewN ?_ _ | refine blk_drew ?_ | refine blk_alloc ?_ _)); refine blk_put (cs := #[.int .i64 t197, .int .i64 t198, .int .i64 t199, .int .i64 t200, .int .i64 t201, .int .i64 t202, .string (⟨#[]⟩ : ByteArray), .bool false, .int .i64 0, .int .i64 0, .int .i64 0, .int .i64 0, .string (⟨#[]⟩ : ByteArray)]) ?_ 6 _ rfl; (with_reducible repeat (first | refine blk_drewN ?_ _ | refine blk_drew ?_ | refine blk_alloc ?_ _)); refine blk_put (cs := #[.int .i64 t197, .int .i64 t198, .int .i64 t199, .int .i64 t200, .int .i64 t201, .int .i64 0, .string (⟨#[]⟩ : ByteArray), .bool false, .int .i64 0, .int .i64 0, .int .i64 0, .int .i64 0, .string (⟨#[]⟩ : ByteArray)]) ?_ 5 _ rfl; (with_reducible repeat (first | refine blk_drewN ?_ _ | refine blk_drew ?_ | refine blk_alloc ?_ _)); refine blk_put (cs := #[.int .i64 t197, .int .i64 t198, .int .i64 t199, .int .i64 t200, .int .i64 0, .int .i64 0, .string (⟨#[]⟩ : ByteArray), .bool false, .int .i64 0, .int .i64 0, .int .i64 0, .int .i64 0, .string (⟨#[]⟩ : ByteArray)]) ?_ 4 _ rfl; (with_reducible repeat (first | refine blk_drewN ?_ _ | refine blk_drew ?_ | refine blk_alloc ?_ _)); refine blk_put (cs := #[.int .i64 t197, .int .i64 t198, .int .i64 t199, .int .i64 0, .int .i64 0, .int .i64 0, .string (⟨#[]⟩ : ByteArray), .bool false, .int .i64 0, .int .i64 0, .int .i64 0, .int .i64 0, .string (⟨#[]⟩ : ByteArray)]) ?_ 3 _ rfl; (with_reducible repeat (first | refine blk_drewN ?_ _ | refine blk_drew ?_ | refine blk_alloc ?_ _)); refine blk_put (cs := #[.int .i64 t197, .int .i64 t198, .int .i64 0, .int .i64 0, .int .i64 0, .int .i64 0, .string (⟨#[]⟩ : ByteArray), .bool false, .int .i64 0, .int .i64 0, .int .i64 0, .int .i64 0, .string (⟨#[]⟩ : ByteArray)]) ?_ 2 _ rfl; (with_reducible repeat (first | refine blk_drewN ?_ _ | refine blk_drew ?_ | refine blk_alloc ?_ _)); refine blk_put (cs := #[.int .i64 t197, .int .i64 0, .int .i64 0, .int .i64 0, .int .i64 0, .int .i64 0, .string (⟨#[]⟩ : ByteArray), .bool false, .int .i64 0, .int .i64 0, .int .i64 0, .int .i64 0, .string (⟨#[]⟩ : ByteArray)]) ?_ 1 _ rfl; (with_reducible repeat (first | refine blk_drewN ?_ _ | refine blk_drew ?_ | refine blk_alloc ?_ _)); refine blk_put (cs := #[.int .i64 0, .int .i64 0, .int .i64 0, .int .i64 0, .int .i64 0, .int .i64 0, .string (⟨#[]⟩ : ByteArray), .bool false, .int .i64 0, .int .i64 0, .int .i64 0, .int .i64 0, .string (⟨#[]⟩ : ByteArray)]) ?_ 0 _ rfl; (with_reducible repeat (first | refine blk_drewN ?_ _ | refine blk_drew ?_ | refine blk_alloc ?_ _)); exact BK211.out) hb); have n3_ := Aside0.mk (below_step (by repeat (first | (with_reducible first | exact HB.out | apply below_alloc | apply pw_below_drewN | apply below_drew1 | refine below_set ?_ GE211.out) | exact HB.out)) hb); clear HO196; clear BK211; clear HB; have HO196 := n0_; have HO214 := n1_; have BK211 := n2_; have HB := n3_; clear n0_ n1_ n2_ n3_; (try clear hb); (try clear hb2); (try clear hk); (try clear hi); (try clear ho0); obtain ⟨Ao19, co19, eo19⟩ := Kd.R_slice HO214.out; subst eo19) | ((with_reducible refine gate_callee (f := 10) rfl ?_); refine goesL_ (some 31) rfl rfl Try.func10 (by kernel_rfl) rfl #[.slice Ao19 t212.length co19, .string a1] rfl (by (try simp only [List.map_toArray, List.map_cons, List.map_nil]); first | done | rfl | (simp only [List.length_drop, List.length_take]; rfl)) ?_; (with_reducible refine (impl_LastIn.calls _ _ t212 a1 t215 t216 t217 t218 t219 t220 t221 t222 t223 t224 t225 t226 t227 t228 _ ?side1 ?side2 A10.out).mono ?_); (case side1 => repeat (first | exact (Kd.R_reads' HO214.out).2.2 | (with_reducible refine Kd.C_alloc ?_ _) | (with_reducible refine Kd.C_drewN ?_ _) | (with_reducible refine Kd.C_drew ?_))); (case side2 => exact (Kd.R_reads' HO214.out).2.1); rintro e w20 ⟨rfl, hb⟩; refine ⟨_, rfl, ?_⟩; have n0_ := Aside0.mk (Kd.R_below (by (with_reducible repeat (first | apply Kd.R_alloc | apply Kd.R_drewN | apply Kd.R_drew)); exact HO196.out) hb); have n1_ := Aside0.mk (Kd.R_below (by (with_reducible repeat (first | apply Kd.R_alloc | apply Kd.R_drewN | apply Kd.R_drew)); exact HO214.out) hb); have n2_ := Aside0.mk (blk_below (g := gb211) (o := .cells #[.int .i64 t197, .int .i64 t198, .int .i64 t199, .int .i64 t200, .int .i64 t201, .int .i64 t202, .string t203, .bool t204, .int .i64 t205, .int .i64 t206, .int .i64 t207, .int .i64 t208, .string t209] 33 (0, 0)) (by (with_reducible repeat (first | refine blk_drewN ?_ _ | refine blk_drew ?_ | refine blk_alloc ?_ _)); exact BK211.out) hb); have n3_ := Aside0.mk (below_step (by repeat (first | (with_reducible first | exact HB.out | apply below_alloc | apply pw_below_drewN | apply below_drew1 | refine below_set ?_ GE211.out) | exact HB.out)) hb); clear HO196; clear HO214; clear BK211; clear HB; have HO196 := n0_; have HO214 := n1_; have BK211 := n2_; have HB := n3_; clear n0_ n1_ n2_ n3_; (try clear hb); (try clear hb2); (try clear hk); (try clear hi)) | ((with_reducible refine gate_dst (N := 9) rfl ?_); refine box_event ?hg (N := 9) ?hd (cs := #[.int .i64 0, .int .i64 0, .int .i64 0, .int .i64 0, .int .i64 0, .int .i64 0, .string (⟨#[]⟩ : ByteArray), .bool false, .int .i64 0, .int .i64 0, .int .i64 0, .int .i64 0, .string (⟨#[]⟩ : ByteArray)]) (t := 33) ?hr ?_; (case hd => rfl); (case hg => rfl); (case hr => first | (go_simp; done) | (go_simp; rfl)); intro gb229 hg w21 hbox hb; have n0_ := Aside0.mk (Kd.R_below (Kd.R_elderB (by (with_reducible repeat (first | apply Kd.R_alloc | apply Kd.R_drewN | apply Kd.R_drew)); exact HO196.out) gb229 (Nat.le_of_eq hg.symm)) hb); have n1_ := Aside0.mk (Kd.R_below (Kd.R_elderB (by (with_reducible repeat (first | apply Kd.R_alloc | apply Kd.R_drewN | apply Kd.R_drew)); exact HO214.out) gb229 (Nat.le_of_eq hg.symm)) hb); have n2_ := Aside0.mk (blk_below (g := gb211) (o := .cells #[.int .i64 t197, .int .i64 t198, .int .i64 t199, .int .i64 t200, .int .i64 t201, .int .i64 t202, .string t203, .bool t204, .int .i64 t205, .int .i64 t206, .int .i64 t207, .int .i64 t208, .string t209] 33 (0, 0)) (by (with_reducible repeat (first | refine blk_drewN ?_ _ | refine blk_drew ?_ | refine blk_alloc ?_ _)); exact BK211.out) hb); have n3_ := Aside0.mk (below_step (by repeat (first | (with_reducible first | exact HB.out | apply below_alloc | apply pw_below_drewN | apply below_drew1 | refine below_set ?_ GE211.out) | exact HB.out)) hb); have n4_ := Aside0.mk (hbox); have n5_ := Aside0.mk ((by rw [hg]; exact (below_size (by repeat (first | (with_reducible first | exact HB.out | apply below_alloc | apply pw_below_drewN | apply below_drew1 | refine below_set ?_ GE211.out) | exact HB.out))) : w.heap.size ≤ gb229)); have n6_ := Aside0.mk ((by rw [hg]; exact (below_size (by repeat (first | (with_reducible first | exact HB.out | apply below_alloc | apply pw_below_drewN | apply below_drew1 | refine below_set ?_ GE211.out) | exact HB.out))) : w.heap.size ≤ gb229)); have n7_ := Aside0.mk ((by rw [hg]; exact Nat.ne_of_lt (blk_lt (g := gb211) (o := .cells #[.int .i64 t197, .int .i64 t198, .int .i64 t199, .int .i64 t200, .int .i64 t201, .int .i64 t202, .string t203, .bool t204, .int .i64 t205, .int .i64 t206, .int .i64 t207, .int .i64 t208, .string t209] 33 (0, 0)) (by (with_reducible repeat (first | refine blk_drewN ?_ _ | refine blk_drew ?_ | refine blk_alloc ?_ _)); exact BK211.out)) : gb211 ≠ gb229)); have n8_ := Aside0.mk ((by rw [hg]; exact Nat.ne_of_gt (blk_lt (g := gb211) (o := .cells #[.int .i64 t197, .int .i64 t198, .int .i64 t199, .int .i64 t200, .int .i64 t201, .int .i64 t202, .string t203, .bool t204, .int .i64 t205, .int .i64 t206, .int .i64 t207, .int .i64 t208, .string t209] 33 (0, 0)) (by (with_reducible repeat (first | refine blk_drewN ?_ _ | refine blk_drew ?_ | refine blk_alloc ?_ _)); exact BK211.out)) : gb229 ≠ gb211)); clear HO196; clear HO214; clear BK211; clear HB; have HO196 := n0_; have HO214 := n1_; have BK211 := n2_; have HB := n3_; have BK229 := n4_; have GW229 := n5_; have GE229 := n6_; have NB211_229 := n7_; have NB229_211 := n8_; clear n0_ n1_ n2_ n3_ n4_ n5_ n6_ n7_ n8_; clear hb hbox hg; have hnb22 := NB229_211.out; have hnc22 := NB211_229.out; have hcz23_0 : w21.cell? ⟨gb229, 0, none⟩ = some (.int .i64 0) := (blk_cell BK229.out 0).trans rfl; have hcz23_1 : w21.cell? ⟨gb229, 1, none⟩ = some (.int .i64 0) := (blk_cell BK229.out 1).trans rfl; have hcz23_2 : w21.cell? ⟨gb229, 2, none⟩ = some (.int .i64 0) := (blk_cell BK229.out 2).trans rfl; have hcz23_3 : w21.cell? ⟨gb229, 3, none⟩ = some (.int .i64 0) := (blk_cell BK229.out 3).trans rfl; have hcz23_4 : w21.cell? ⟨gb229, 4, none⟩ = some (.int .i64 0) := (blk_cell BK229.out 4).trans rfl; have hcz23_5 : w21.cell? ⟨gb229, 5, none⟩ = some (.int .i64 0) := (blk_cell BK229.out 5).trans rfl; have hcz23_6 : w21.cell? ⟨gb229, 6, none⟩ = some (.string (⟨#[]⟩ : ByteArray)) := (blk_cell BK229.out 6).trans rfl; have hcz23_7 : w21.cell? ⟨gb229, 7, none⟩ = some (.bool false) := (blk_cell BK229.out 7).trans rfl; have hcz23_8 : w21.cell? ⟨gb229, 8, none⟩ = some (.int .i64 0) := (blk_cell BK229.out 8).trans rfl; have hcz23_9 : w21.cell? ⟨gb229, 9, none⟩ = some (.int .i64 0) := (blk_cell BK229.out 9).trans rfl; have hcz23_10 : w21.cell? ⟨gb229, 10, none⟩ = some (.int .i64 0) := (blk_cell BK229.out 10).trans rfl; have hcz23_11 : w21.cell? ⟨gb229, 11, none⟩ = some (.int .i64 0) := (blk_cell BK229.out 11).trans rfl; have hcz23_12 : w21.cell? ⟨gb229, 12, none⟩ = some (.string (⟨#[]⟩ : ByteArray)) := (blk_cell BK229.out 12).trans rfl; have hfz23_0 := blk_frozen BK229.out 0; have hfz23_1 := blk_frozen BK229.out 1; have hfz23_2 := blk_frozen BK229.out 2; have hfz23_3 := blk_frozen BK229.out 3; have hfz23_4 := blk_frozen BK229.out 4; have hfz23_5 := blk_frozen BK229.out 5; have hfz23_6 := blk_frozen BK229.out 6; have hfz23_7 := blk_frozen BK229.out 7; have hfz23_8 := blk_frozen BK229.out 8; have hfz23_9 := blk_frozen BK229.out 9; have hfz23_10 := blk_frozen BK229.out 10; have hfz23_11 := blk_frozen BK229.out 11; have hfz23_12 := blk_frozen BK229.out 12))
      (try simp only [Act.put, List.setIfInBounds_toArray, List.set_cons_zero, List.set_cons_succ])
      go_cut [42] (fun v42 wc => ∃ (kq : Nat) (x42_10 : Bool), v42 = .bool x42_10 ∧ Aside0 (laws_FnExactLastIn.j0 kq l0 t212 x42_10 = some r) ∧ Aside0 (kq ≤ k) ∧ Aside0 (Kd.R k33 33 wc w.heap.size (fun k_ => k_ ≠ gb211 ∧ k_ ≠ gb229) (.slice Ao19 t212.length co19) t212) ∧ Aside0 (wc.heap[gb211]? = some (.cells #[.int .i64 t197, .int .i64 t198, .int .i64 t199, .int .i64 t200, .int .i64 t201, .int .i64 t202, .string t203, .bool t204, .int .i64 t205, .int .i64 t206, .int .i64 t207, .int .i64 t208, .string t209] 33 (0, 0))) ∧ Aside0 (wc.heap[gb229]? = some (.cells #[.int .i64 t215, .int .i64 t216, .int .i64 t217, .int .i64 t218, .int .i64 t219, .int .i64 t220, .string t221, .bool t222, .int .i64 t223, .int .i64 t224, .int .i64 t225, .int .i64 t226, .string t227] 33 (0, 0))) ∧ Aside0 (Below w.heap.size w wc))
      case first =>
        have H := HC11.out
        clear HC11
        replace H := Option.bind_eq_some_iff.mp H
        obtain ⟨t230, A240, H⟩ := H
        replace H : (if t230 = true then (laws_FnExactLastIn.j0 k l0 t212 (t228 != t210)) else (laws_FnExactLastIn.j0 k l0 t212 true)) = some r := H
        have A24 := Aside0.mk A240
        clear A240
        by_cases c25 : t230 = true
        · subst c25
          have H1 : (laws_FnExactLastIn.j0 k l0 t212 (t228 != t210)) = some r := by rw [if_pos rfl] at H; exact H
          clear H
          have H := H1
          clear H1
          have H' := Aside0.mk H
          clear H
          have hnb26 := NB229_211.out
          have hnc26 := NB211_229.out
          have hcz27_0 : w21.cell? ⟨gb229, 0, none⟩ = some (.int .i64 0) := (blk_cell BK229.out 0).trans rfl
          have hcz27_1 : w21.cell? ⟨gb229, 1, none⟩ = some (.int .i64 0) := (blk_cell BK229.out 1).trans rfl
          have hcz27_2 : w21.cell? ⟨gb229, 2, none⟩ = some (.int .i64 0) := (blk_cell BK229.out 2).trans rfl
          have hcz27_3 : w21.cell? ⟨gb229, 3, none⟩ = some (.int .i64 0) := (blk_cell BK229.out 3).trans rfl
          have hcz27_4 : w21.cell? ⟨gb229, 4, none⟩ = some (.int .i64 0) := (blk_cell BK229.out 4).trans rfl
          have hcz27_5 : w21.cell? ⟨gb229, 5, none⟩ = some (.int .i64 0) := (blk_cell BK229.out 5).trans rfl
          have hcz27_6 : w21.cell? ⟨gb229, 6, none⟩ = some (.string (⟨#[]⟩ : ByteArray)) := (blk_cell BK229.out 6).trans rfl
          have hcz27_7 : w21.cell? ⟨gb229, 7, none⟩ = some (.bool false) := (blk_cell BK229.out 7).trans rfl
          have hcz27_8 : w21.cell? ⟨gb229, 8, none⟩ = some (.int .i64 0) := (blk_cell BK229.out 8).trans rfl
          have hcz27_9 : w21.cell? ⟨gb229, 9, none⟩ = some (.int .i64 0) := (blk_cell BK229.out 9).trans rfl
          have hcz27_10 : w21.cell? ⟨gb229, 10, none⟩ = some (.int .i64 0) := (blk_cell BK229.out 10).trans rfl
          have hcz27_11 : w21.cell? ⟨gb229, 11, none⟩ = some (.int .i64 0) := (blk_cell BK229.out 11).trans rfl
          have hcz27_12 : w21.cell? ⟨gb229, 12, none⟩ = some (.string (⟨#[]⟩ : ByteArray)) := (blk_cell BK229.out 12).trans rfl
          have hfz27_0 := blk_frozen BK229.out 0
          have hfz27_1 := blk_frozen BK229.out 1
          have hfz27_2 := blk_frozen BK229.out 2
          have hfz27_3 := blk_frozen BK229.out 3
          have hfz27_4 := blk_frozen BK229.out 4
          have hfz27_5 := blk_frozen BK229.out 5
          have hfz27_6 := blk_frozen BK229.out 6
          have hfz27_7 := blk_frozen BK229.out 7
          have hfz27_8 := blk_frozen BK229.out 8
          have hfz27_9 := blk_frozen BK229.out 9
          have hfz27_10 := blk_frozen BK229.out 10
          have hfz27_11 := blk_frozen BK229.out 11
          have hfz27_12 := blk_frozen BK229.out 12
          have hcz28_0 : w21.cell? ⟨gb211, 0, none⟩ = some (.int .i64 t197) := (blk_cell BK211.out 0).trans rfl
          have hcz28_1 : w21.cell? ⟨gb211, 1, none⟩ = some (.int .i64 t198) := (blk_cell BK211.out 1).trans rfl
          have hcz28_2 : w21.cell? ⟨gb211, 2, none⟩ = some (.int .i64 t199) := (blk_cell BK211.out 2).trans rfl
          have hcz28_3 : w21.cell? ⟨gb211, 3, none⟩ = some (.int .i64 t200) := (blk_cell BK211.out 3).trans rfl
          have hcz28_4 : w21.cell? ⟨gb211, 4, none⟩ = some (.int .i64 t201) := (blk_cell BK211.out 4).trans rfl
          have hcz28_5 : w21.cell? ⟨gb211, 5, none⟩ = some (.int .i64 t202) := (blk_cell BK211.out 5).trans rfl
          have hcz28_6 : w21.cell? ⟨gb211, 6, none⟩ = some (.string t203) := (blk_cell BK211.out 6).trans rfl
          have hcz28_7 : w21.cell? ⟨gb211, 7, none⟩ = some (.bool t204) := (blk_cell BK211.out 7).trans rfl
          have hcz28_8 : w21.cell? ⟨gb211, 8, none⟩ = some (.int .i64 t205) := (blk_cell BK211.out 8).trans rfl
          have hcz28_9 : w21.cell? ⟨gb211, 9, none⟩ = some (.int .i64 t206) := (blk_cell BK211.out 9).trans rfl
          have hcz28_10 : w21.cell? ⟨gb211, 10, none⟩ = some (.int .i64 t207) := (blk_cell BK211.out 10).trans rfl
          have hcz28_11 : w21.cell? ⟨gb211, 11, none⟩ = some (.int .i64 t208) := (blk_cell BK211.out 11).trans rfl
          have hcz28_12 : w21.cell? ⟨gb211, 12, none⟩ = some (.string t209) := (blk_cell BK211.out 12).trans rfl
          have hfz28_0 := blk_frozen BK211.out 0
          have hfz28_1 := blk_frozen BK211.out 1
          have hfz28_2 := blk_frozen BK211.out 2
          have hfz28_3 := blk_frozen BK211.out 3
          have hfz28_4 := blk_frozen BK211.out 4
          have hfz28_5 := blk_frozen BK211.out 5
          have hfz28_6 := blk_frozen BK211.out 6
          have hfz28_7 := blk_frozen BK211.out 7
          have hfz28_8 := blk_frozen BK211.out 8
          have hfz28_9 := blk_frozen BK211.out 9
          have hfz28_10 := blk_frozen BK211.out 10
          have hfz28_11 := blk_frozen BK211.out 11
          have hfz28_12 := blk_frozen BK211.out 12
          go_wp2_with (first | ((with_reducible refine gate_callee (f := 11) rfl ?_); refine goesL_ (some 36) rfl rfl Try.func11 (by kernel_rfl) rfl #[.agg #[.int .i64 t215, .int .i64 t216, .int .i64 t217, .int .i64 t218, .int .i64 t219, .int .i64 t220, .string t221, .bool t222, .int .i64 t223, .int .i64 t224, .int .i64 t225, .int .i64 t226, .string t227], .agg #[.int .i64 t197, .int .i64 t198, .int .i64 t199, .int .i64 t200, .int .i64 t201, .int .i64 t202, .string t203, .bool t204, .int .i64 t205, .int .i64 t206, .int .i64 t207, .int .i64 t208, .string t209]] rfl (by (try simp only [List.map_toArray, List.map_cons, List.map_nil]); first | done | rfl | (simp only [List.length_drop, List.length_take]; rfl)) ?_; (with_reducible refine (laws_eqMade.calls t215 t216 t217 t218 t219 t220 t221 t222 t223 t224 t225 t226 t227 t197 t198 t199 t200 t201 t202 t203 t204 t205 t206 t207 t208 t209 true _ A24.out).mono ?_); rintro e w29 ⟨rfl, hb⟩; refine ⟨_, rfl, ?_⟩; have n0_ := Aside0.mk (Kd.R_below (by (with_reducible repeat (first | apply Kd.R_alloc | apply Kd.R_drewN | apply Kd.R_drew)); exact (Kd.R_mono (Kd.R_far (p := ⟨gb229, 12, none⟩) (Kd.R_far (p := ⟨gb229, 11, none⟩) (Kd.R_far (p := ⟨gb229, 10, none⟩) (Kd.R_far (p := ⟨gb229, 9, none⟩) (Kd.R_far (p := ⟨gb229, 8, none⟩) (Kd.R_far (p := ⟨gb229, 7, none⟩) (Kd.R_far (p := ⟨gb229, 6, none⟩) (Kd.R_far (p := ⟨gb229, 5, none⟩) (Kd.R_far (p := ⟨gb229, 4, none⟩) (Kd.R_far (p := ⟨gb229, 3, none⟩) (Kd.R_far (p := ⟨gb229, 2, none⟩) (Kd.R_far (p := ⟨gb229, 1, none⟩) (Kd.R_far (p := ⟨gb229, 0, none⟩) (Kd.R_mono HO196.out (fun k_ hk => (⟨hk, hk.2⟩ : _ ∧ k_ ≠ gb229))) (fun _ hk => hk.2) (.int .i64 t215)) (fun _ hk => hk.2) (.int .i64 t216)) (fun _ hk => hk.2) (.int .i64 t217)) (fun _ hk => hk.2) (.int .i64 t218)) (fun _ hk => hk.2) (.int .i64 t219)) (fun _ hk => hk.2) (.int .i64 t220)) (fun _ hk => hk.2) (.string t221)) (fun _ hk => hk.2) (.bool t222)) (fun _ hk => hk.2) (.int .i64 t223)) (fun _ hk => hk.2) (.int .i64 t224)) (fun _ hk => hk.2) (.int .i64 t225)) (fun _ hk => hk.2) (.int .i64 t226)) (fun _ hk => hk.2) (.string t227)) (fun _ h_ => h_.1))) hb); have n1_ := Aside0.mk (Kd.R_below (by (with_reducible repeat (first | apply Kd.R_alloc | apply Kd.R_drewN | apply Kd.R_drew)); exact (Kd.R_mono (Kd.R_far (p := ⟨gb229, 12, none⟩) (Kd.R_far (p := ⟨gb229, 11, none⟩) (Kd.R_far (p := ⟨gb229, 10, none⟩) (Kd.R_far (p := ⟨gb229, 9, none⟩) (Kd.R_far (p := ⟨gb229, 8, none⟩) (Kd.R_far (p := ⟨gb229, 7, none⟩) (Kd.R_far (p := ⟨gb229, 6, none⟩) (Kd.R_far (p := ⟨gb229, 5, none⟩) (Kd.R_far (p := ⟨gb229, 4, none⟩) (Kd.R_far (p := ⟨gb229, 3, none⟩) (Kd.R_far (p := ⟨gb229, 2, none⟩) (Kd.R_far (p := ⟨gb229, 1, none⟩) (Kd.R_far (p := ⟨gb229, 0, none⟩) (Kd.R_mono HO214.out (fun k_ hk => (⟨hk, hk.2⟩ : _ ∧ k_ ≠ gb229))) (fun _ hk => hk.2) (.int .i64 t215)) (fun _ hk => hk.2) (.int .i64 t216)) (fun _ hk => hk.2) (.int .i64 t217)) (fun _ hk => hk.2) (.int .i64 t218)) (fun _ hk => hk.2) (.int .i64 t219)) (fun _ hk => hk.2) (.int .i64 t220)) (fun _ hk => hk.2) (.string t221)) (fun _ hk => hk.2) (.bool t222)) (fun _ hk => hk.2) (.int .i64 t223)) (fun _ hk => hk.2) (.int .i64 t224)) (fun _ hk => hk.2) (.int .i64 t225)) (fun _ hk => hk.2) (.int .i64 t226)) (fun _ hk => hk.2) (.string t227)) (fun _ h_ => h_.1))) hb); have n2_ := Aside0.mk (blk_below (g := gb211) (o := .cells #[.int .i64 t197, .int .i64 t198, .int .i64 t199, .int .i64 t200, .int .i64 t201, .int .i64 t202, .string t203, .bool t204, .int .i64 t205, .int .i64 t206, .int .i64 t207, .int .i64 t208, .string t209] 33 (0, 0)) (by (with_reducible repeat (first | refine blk_drewN ?_ _ | refine blk_drew ?_ | refine blk_alloc ?_ _)); refine blk_far ?_ NB211_229.out _; (with_reducible repeat (first | refine blk_drewN ?_ _ | refine blk_drew ?_ | refine blk_alloc ?_ _)); refine blk_far ?_ NB211_229.out _; (with_reducible repeat (first | refine blk_drewN ?_ _ | refine blk_drew ?_ | refine blk_alloc ?_ _)); refine blk_far ?_ NB211_229.out _; (with_reducible repeat (first | refine blk_drewN ?_ _ | refine blk_drew ?_ | refine blk_alloc ?_ _)); refine blk_far ?_ NB211_229.out _; (with_reducible repeat (first | refine blk_drewN ?_ _ | refine blk_drew ?_ | refine blk_alloc ?_ _)); refine blk_far ?_ NB211_229.out _; (with_reducible repeat (first | refine blk_drewN ?_ _ | refine blk_drew ?_ | refine blk_alloc ?_ _)); refine blk_far ?_ NB211_229.out _; (with_reducible repeat (first | refine blk_drewN ?_ _ | refine blk_drew ?_ | refine blk_alloc ?_ _)); refine blk_far ?_ NB211_229.out _; (with_reducible repeat (first | refine blk_drewN ?_ _ | refine blk_drew ?_ | refine blk_alloc ?_ _)); refine blk_far ?_ NB211_229.out _; (with_reducible repeat (first | refine blk_drewN ?_ _ | refine blk_drew ?_ | refine blk_alloc ?_ _)); refine blk_far ?_ NB211_229.out _; (with_reducible repeat (first | refine blk_drewN ?_ _ | refine blk_drew ?_ | refine blk_alloc ?_ _)); refine blk_far ?_ NB211_229.out _; (with_reducible repeat (first | refine blk_drewN ?_ _ | refine blk_drew ?_ | refine blk_alloc ?_ _)); refine blk_far ?_ NB211_229.out _; (with_reducible repeat (first | refine blk_drewN ?_ _ | refine blk_drew ?_ | refine blk_alloc ?_ _)); refine blk_far ?_ NB211_229.out _; (with_reducible repeat (first | refine blk_drewN ?_ _ | refine blk_drew ?_ | refine blk_alloc ?_ _)); refine blk_far ?_ NB211_229.out _; (with_reducible repeat (first | refine blk_drewN ?_ _ | refine blk_drew ?_ | refine blk_alloc ?_ _)); exact BK211.out) hb); have n3_ := Aside0.mk (blk_below (g := gb229) (o := .cells #[.int .i64 t215, .int .i64 t216, .int .i64 t217, .int .i64 t218, .int .i64 t219, .int .i64 t220, .string t221, .bool t222, .int .i64 t223, .int .i64 t224, .int .i64 t225, .int .i64 t226, .string t227] 33 (0, 0)) (by (with_reducible repeat (first | refine blk_drewN ?_ _ | refine blk_drew ?_ | refine blk_alloc ?_ _)); refine blk_put (cs := #[.int .i64 t215, .int .i64 t216, .int .i64 t217, .int .i64 t218, .int .i64 t219, .int .i64 t220, .string t221, .bool t222, .int .i64 t223, .int .i64 t224, .int .i64 t225, .int .i64 t226, .string (⟨#[]⟩ : ByteArray)]) ?_ 12 _ rfl; (with_reducible repeat (first | refine blk_drewN ?_ _ | refine blk_drew ?_ | refine blk_alloc ?_ _)); refine blk_put (cs := #[.int .i64 t215, .int .i64 t216, .int .i64 t217, .int .i64 t218, .int .i64 t219, .int .i64 t220, .string t221, .bool t222, .int .i64 t223, .int .i64 t224, .int .i64 t225, .int .i64 0, .string (⟨#[]⟩ : ByteArray)]) ?_ 11 _ rfl; (with_reducible repeat (first | refine blk_drewN ?_ _ | refine blk_drew ?_ | refine blk_alloc ?_ _)); refine blk_put (cs := #[.int .i64 t215, .int .i64 t216, .int .i64 t217, .int .i64 t218, .int .i64 t219, .int .i64 t220, .string t221, .bool t222, .int .i64 t223, .int .i64 t224, .int .i64 0, .int .i64 0, .string (⟨#[]⟩ : ByteArray)]) ?_ 10 _ rfl; (with_reducible repeat (first | refine blk_drewN ?_ _ | refine blk_drew ?_ | refine blk_alloc ?_ _)); refine blk_put (cs := #[.int .i64 t215, .int .i64 t216, .int .i64 t217, .int .i64 t218, .int .i64 t219, .int .i64 t220, .string t221, .bool t222, .int .i64 t223, .int .i64 0, .int .i64 0, .int .i64 0, .string (⟨#[]⟩ : ByteArray)]) ?_ 9 _ rfl; (with_reducible repeat (first | refine blk_drewN ?_ _ | refine blk_drew ?_ | refine blk_alloc ?_ _)); refine blk_put (cs := #[.int .i64 t215, .int .i64 t216, .int .i64 t217, .int .i64 t218, .int .i64 t219, .int .i64 t220, .string t221, .bool t222, .int .i64 0, .int .i64 0, .int .i64 0, .int .i64 0, .string (⟨#[]⟩ : ByteArray)]) ?_ 8 _ rfl; (with_reducible repeat (first | refine blk_drewN ?_ _ | refine blk_drew ?_ | refine blk_alloc ?_ _)); refine blk_put (cs := #[.int .i64 t215, .int .i64 t216, .int .i64 t217, .int .i64 t218, .int .i64 t219, .int .i64 t220, .string t221, .bool false, .int .i64 0, .int .i64 0, .int .i64 0, .int .i64 0, .string (⟨#[]⟩ : ByteArray)]) ?_ 7 _ rfl; (with_reducible repeat (first | refine blk_drewN ?_ _ | refine blk_drew ?_ | refine blk_alloc ?_ _)); refine blk_put (cs := #[.int .i64 t215, .int .i64 t216, .int .i64 t217, .int .i64 t218, .int .i64 t219, .int .i64 t220, .string (⟨#[]⟩ : ByteArray), .bool false, .int .i64 0, .int .i64 0, .int .i64 0, .int .i64 0, .string (⟨#[]⟩ : ByteArray)]) ?_ 6 _ rfl; (with_reducible repeat (first | refine blk_drewN ?_ _ | refine blk_drew ?_ | refine blk_alloc ?_ _)); refine blk_put (cs := #[.int .i64 t215, .int .i64 t216, .int .i64 t217, .int .i64 t218, .int .i64 t219, .int .i64 0, .string (⟨#[]⟩ : ByteArray), .bool false, .int .i64 0, .int .i64 0, .int .i64 0, .int .i64 0, .string (⟨#[]⟩ : ByteArray)]) ?_ 5 _ rfl; (with_reducible repeat (first | refine blk_drewN ?_ _ | refine blk_drew ?_ | refine blk_alloc ?_ _)); refine blk_put (cs := #[.int .i64 t215, .int .i64 t216, .int .i64 t217, .int .i64 t218, .int .i64 0, .int .i64 0, .string (⟨#[]⟩ : ByteArray), .bool false, .int .i64 0, .int .i64 0, .int .i64 0, .int .i64 0, .string (⟨#[]⟩ : ByteArray)]) ?_ 4 _ rfl; (with_reducible repeat (first | refine blk_drewN ?_ _ | refine blk_drew ?_ | refine blk_alloc ?_ _)); refine blk_put (cs := #[.int .i64 t215, .int .i64 t216, .int .i64 t217, .int .i64 0, .int .i64 0, .int .i64 0, .string (⟨#[]⟩ : ByteArray), .bool false, .int .i64 0, .int .i64 0, .int .i64 0, .int .i64 0, .string (⟨#[]⟩ : ByteArray)]) ?_ 3 _ rfl; (with_reducible repeat (first | refine blk_drewN ?_ _ | refine blk_drew ?_ | refine blk_alloc ?_ _)); refine blk_put (cs := #[.int .i64 t215, .int .i64 t216, .int .i64 0, .int .i64 0, .int .i64 0, .int .i64 0, .string (⟨#[]⟩ : ByteArray), .bool false, .int .i64 0, .int .i64 0, .int .i64 0, .int .i64 0, .string (⟨#[]⟩ : ByteArray)]) ?_ 2 _ rfl; (with_reducible repeat (first | refine blk_drewN ?_ _ | refine blk_drew ?_ | refine blk_alloc ?_ _)); refine blk_put (cs := #[.int .i64 t215, .int .i64 0, .int .i64 0, .int .i64 0, .int .i64 0, .int .i64 0, .string (⟨#[]⟩ : ByteArray), .bool false, .int .i64 0, .int .i64 0, .int .i64 0, .int .i64 0, .string (⟨#[]⟩ : ByteArray)]) ?_ 1 _ rfl; (with_reducible repeat (first | refine blk_drewN ?_ _ | refine blk_drew ?_ | refine blk_alloc ?_ _)); refine blk_put (cs := #[.int .i64 0, .int .i64 0, .int .i64 0, .int .i64 0, .int .i64 0, .int .i64 0, .string (⟨#[]⟩ : ByteArray), .bool false, .int .i64 0, .int .i64 0, .int .i64 0, .int .i64 0, .string (⟨#[]⟩ : ByteArray)]) ?_ 0 _ rfl; (with_reducible repeat (first | refine blk_drewN ?_ _ | refine blk_drew ?_ | refine blk_alloc ?_ _)); exact BK229.out) hb); have n4_ := Aside0.mk (below_step (by repeat (first | (with_reducible first | exact HB.out | apply below_alloc | apply pw_below_drewN | apply below_drew1 | refine below_set ?_ GE211.out | refine below_set ?_ GE229.out) | exact HB.out)) hb); clear HO196; clear HO214; clear BK211; clear BK229; clear HB; have HO196 := n0_; have HO214 := n1_; have BK211 := n2_; have BK229 := n3_; have HB := n4_; clear n0_ n1_ n2_ n3_ n4_; (try clear hb); (try clear hb2); (try clear hk); (try clear hi)))
          go_meet
          case rel => exact ⟨_, ((t228 != t210)), (by first | rfl | (simp; done) | (simp [*]; done)), H', ⟨by first | omega | exact Nat.le_refl _⟩, ⟨by (with_reducible repeat (first | apply Kd.R_alloc | apply Kd.R_drewN | apply Kd.R_drew)); exact Kd.R_mono HO214.out (fun _ hk => ⟨hk.1.2, hk.2⟩)⟩, ⟨by (with_reducible repeat (first | refine blk_drewN ?_ _ | refine blk_drew ?_ | refine blk_alloc ?_ _)); exact BK211.out⟩, ⟨by (with_reducible repeat (first | refine blk_drewN ?_ _ | refine blk_drew ?_ | refine blk_alloc ?_ _)); exact BK229.out⟩, ⟨by repeat (first | (with_reducible first | exact HB.out | apply below_alloc | apply pw_below_drewN | apply below_drew1 | refine below_set ?_ GE211.out | refine below_set ?_ GE229.out) | exact HB.out)⟩⟩
        · replace c25 := Bool.eq_false_iff.mpr c25
          subst c25
          have H1 : (laws_FnExactLastIn.j0 k l0 t212 true) = some r := by rw [if_neg (show ¬ (false = true) by decide)] at H; exact H
          clear H
          have H := H1
          clear H1
          have H' := Aside0.mk H
          clear H
          have hnb30 := NB229_211.out
          have hnc30 := NB211_229.out
          have hcz31_0 : w21.cell? ⟨gb229, 0, none⟩ = some (.int .i64 0) := (blk_cell BK229.out 0).trans rfl
          have hcz31_1 : w21.cell? ⟨gb229, 1, none⟩ = some (.int .i64 0) := (blk_cell BK229.out 1).trans rfl
          have hcz31_2 : w21.cell? ⟨gb229, 2, none⟩ = some (.int .i64 0) := (blk_cell BK229.out 2).trans rfl
          have hcz31_3 : w21.cell? ⟨gb229, 3, none⟩ = some (.int .i64 0) := (blk_cell BK229.out 3).trans rfl
          have hcz31_4 : w21.cell? ⟨gb229, 4, none⟩ = some (.int .i64 0) := (blk_cell BK229.out 4).trans rfl
          have hcz31_5 : w21.cell? ⟨gb229, 5, none⟩ = some (.int .i64 0) := (blk_cell BK229.out 5).trans rfl
          have hcz31_6 : w21.cell? ⟨gb229, 6, none⟩ = some (.string (⟨#[]⟩ : ByteArray)) := (blk_cell BK229.out 6).trans rfl
          have hcz31_7 : w21.cell? ⟨gb229, 7, none⟩ = some (.bool false) := (blk_cell BK229.out 7).trans rfl
          have hcz31_8 : w21.cell? ⟨gb229, 8, none⟩ = some (.int .i64 0) := (blk_cell BK229.out 8).trans rfl
          have hcz31_9 : w21.cell? ⟨gb229, 9, none⟩ = some (.int .i64 0) := (blk_cell BK229.out 9).trans rfl
          have hcz31_10 : w21.cell? ⟨gb229, 10, none⟩ = some (.int .i64 0) := (blk_cell BK229.out 10).trans rfl
          have hcz31_11 : w21.cell? ⟨gb229, 11, none⟩ = some (.int .i64 0) := (blk_cell BK229.out 11).trans rfl
          have hcz31_12 : w21.cell? ⟨gb229, 12, none⟩ = some (.string (⟨#[]⟩ : ByteArray)) := (blk_cell BK229.out 12).trans rfl
          have hfz31_0 := blk_frozen BK229.out 0
          have hfz31_1 := blk_frozen BK229.out 1
          have hfz31_2 := blk_frozen BK229.out 2
          have hfz31_3 := blk_frozen BK229.out 3
          have hfz31_4 := blk_frozen BK229.out 4
          have hfz31_5 := blk_frozen BK229.out 5
          have hfz31_6 := blk_frozen BK229.out 6
          have hfz31_7 := blk_frozen BK229.out 7
          have hfz31_8 := blk_frozen BK229.out 8
          have hfz31_9 := blk_frozen BK229.out 9
          have hfz31_10 := blk_frozen BK229.out 10
          have hfz31_11 := blk_frozen BK229.out 11
          have hfz31_12 := blk_frozen BK229.out 12
          have hcz32_0 : w21.cell? ⟨gb211, 0, none⟩ = some (.int .i64 t197) := (blk_cell BK211.out 0).trans rfl
          have hcz32_1 : w21.cell? ⟨gb211, 1, none⟩ = some (.int .i64 t198) := (blk_cell BK211.out 1).trans rfl
          have hcz32_2 : w21.cell? ⟨gb211, 2, none⟩ = some (.int .i64 t199) := (blk_cell BK211.out 2).trans rfl
          have hcz32_3 : w21.cell? ⟨gb211, 3, none⟩ = some (.int .i64 t200) := (blk_cell BK211.out 3).trans rfl
          have hcz32_4 : w21.cell? ⟨gb211, 4, none⟩ = some (.int .i64 t201) := (blk_cell BK211.out 4).trans rfl
          have hcz32_5 : w21.cell? ⟨gb211, 5, none⟩ = some (.int .i64 t202) := (blk_cell BK211.out 5).trans rfl
          have hcz32_6 : w21.cell? ⟨gb211, 6, none⟩ = some (.string t203) := (blk_cell BK211.out 6).trans rfl
          have hcz32_7 : w21.cell? ⟨gb211, 7, none⟩ = some (.bool t204) := (blk_cell BK211.out 7).trans rfl
          have hcz32_8 : w21.cell? ⟨gb211, 8, none⟩ = some (.int .i64 t205) := (blk_cell BK211.out 8).trans rfl
          have hcz32_9 : w21.cell? ⟨gb211, 9, none⟩ = some (.int .i64 t206) := (blk_cell BK211.out 9).trans rfl
          have hcz32_10 : w21.cell? ⟨gb211, 10, none⟩ = some (.int .i64 t207) := (blk_cell BK211.out 10).trans rfl
          have hcz32_11 : w21.cell? ⟨gb211, 11, none⟩ = some (.int .i64 t208) := (blk_cell BK211.out 11).trans rfl
          have hcz32_12 : w21.cell? ⟨gb211, 12, none⟩ = some (.string t209) := (blk_cell BK211.out 12).trans rfl
          have hfz32_0 := blk_frozen BK211.out 0
          have hfz32_1 := blk_frozen BK211.out 1
          have hfz32_2 := blk_frozen BK211.out 2
          have hfz32_3 := blk_frozen BK211.out 3
          have hfz32_4 := blk_frozen BK211.out 4
          have hfz32_5 := blk_frozen BK211.out 5
          have hfz32_6 := blk_frozen BK211.out 6
          have hfz32_7 := blk_frozen BK211.out 7
          have hfz32_8 := blk_frozen BK211.out 8
          have hfz32_9 := blk_frozen BK211.out 9
          have hfz32_10 := blk_frozen BK211.out 10
          have hfz32_11 := blk_frozen BK211.out 11
          have hfz32_12 := blk_frozen BK211.out 12
          go_wp2_with (first | ((with_reducible refine gate_callee (f := 11) rfl ?_); refine goesL_ (some 36) rfl rfl Try.func11 (by kernel_rfl) rfl #[.agg #[.int .i64 t215, .int .i64 t216, .int .i64 t217, .int .i64 t218, .int .i64 t219, .int .i64 t220, .string t221, .bool t222, .int .i64 t223, .int .i64 t224, .int .i64 t225, .int .i64 t226, .string t227], .agg #[.int .i64 t197, .int .i64 t198, .int .i64 t199, .int .i64 t200, .int .i64 t201, .int .i64 t202, .string t203, .bool t204, .int .i64 t205, .int .i64 t206, .int .i64 t207, .int .i64 t208, .string t209]] rfl (by (try simp only [List.map_toArray, List.map_cons, List.map_nil]); first | done | rfl | (simp only [List.length_drop, List.length_take]; rfl)) ?_; (with_reducible refine (laws_eqMade.calls t215 t216 t217 t218 t219 t220 t221 t222 t223 t224 t225 t226 t227 t197 t198 t199 t200 t201 t202 t203 t204 t205 t206 t207 t208 t209 false _ A24.out).mono ?_); rintro e w33 ⟨rfl, hb⟩; refine ⟨_, rfl, ?_⟩; have n0_ := Aside0.mk (Kd.R_below (by (with_reducible repeat (first | apply Kd.R_alloc | apply Kd.R_drewN | apply Kd.R_drew)); exact (Kd.R_mono (Kd.R_far (p := ⟨gb229, 12, none⟩) (Kd.R_far (p := ⟨gb229, 11, none⟩) (Kd.R_far (p := ⟨gb229, 10, none⟩) (Kd.R_far (p := ⟨gb229, 9, none⟩) (Kd.R_far (p := ⟨gb229, 8, none⟩) (Kd.R_far (p := ⟨gb229, 7, none⟩) (Kd.R_far (p := ⟨gb229, 6, none⟩) (Kd.R_far (p := ⟨gb229, 5, none⟩) (Kd.R_far (p := ⟨gb229, 4, none⟩) (Kd.R_far (p := ⟨gb229, 3, none⟩) (Kd.R_far (p := ⟨gb229, 2, none⟩) (Kd.R_far (p := ⟨gb229, 1, none⟩) (Kd.R_far (p := ⟨gb229, 0, none⟩) (Kd.R_mono HO196.out (fun k_ hk => (⟨hk, hk.2⟩ : _ ∧ k_ ≠ gb229))) (fun _ hk => hk.2) (.int .i64 t215)) (fun _ hk => hk.2) (.int .i64 t216)) (fun _ hk => hk.2) (.int .i64 t217)) (fun _ hk => hk.2) (.int .i64 t218)) (fun _ hk => hk.2) (.int .i64 t219)) (fun _ hk => hk.2) (.int .i64 t220)) (fun _ hk => hk.2) (.string t221)) (fun _ hk => hk.2) (.bool t222)) (fun _ hk => hk.2) (.int .i64 t223)) (fun _ hk => hk.2) (.int .i64 t224)) (fun _ hk => hk.2) (.int .i64 t225)) (fun _ hk => hk.2) (.int .i64 t226)) (fun _ hk => hk.2) (.string t227)) (fun _ h_ => h_.1))) hb); have n1_ := Aside0.mk (Kd.R_below (by (with_reducible repeat (first | apply Kd.R_alloc | apply Kd.R_drewN | apply Kd.R_drew)); exact (Kd.R_mono (Kd.R_far (p := ⟨gb229, 12, none⟩) (Kd.R_far (p := ⟨gb229, 11, none⟩) (Kd.R_far (p := ⟨gb229, 10, none⟩) (Kd.R_far (p := ⟨gb229, 9, none⟩) (Kd.R_far (p := ⟨gb229, 8, none⟩) (Kd.R_far (p := ⟨gb229, 7, none⟩) (Kd.R_far (p := ⟨gb229, 6, none⟩) (Kd.R_far (p := ⟨gb229, 5, none⟩) (Kd.R_far (p := ⟨gb229, 4, none⟩) (Kd.R_far (p := ⟨gb229, 3, none⟩) (Kd.R_far (p := ⟨gb229, 2, none⟩) (Kd.R_far (p := ⟨gb229, 1, none⟩) (Kd.R_far (p := ⟨gb229, 0, none⟩) (Kd.R_mono HO214.out (fun k_ hk => (⟨hk, hk.2⟩ : _ ∧ k_ ≠ gb229))) (fun _ hk => hk.2) (.int .i64 t215)) (fun _ hk => hk.2) (.int .i64 t216)) (fun _ hk => hk.2) (.int .i64 t217)) (fun _ hk => hk.2) (.int .i64 t218)) (fun _ hk => hk.2) (.int .i64 t219)) (fun _ hk => hk.2) (.int .i64 t220)) (fun _ hk => hk.2) (.string t221)) (fun _ hk => hk.2) (.bool t222)) (fun _ hk => hk.2) (.int .i64 t223)) (fun _ hk => hk.2) (.int .i64 t224)) (fun _ hk => hk.2) (.int .i64 t225)) (fun _ hk => hk.2) (.int .i64 t226)) (fun _ hk => hk.2) (.string t227)) (fun _ h_ => h_.1))) hb); have n2_ := Aside0.mk (blk_below (g := gb211) (o := .cells #[.int .i64 t197, .int .i64 t198, .int .i64 t199, .int .i64 t200, .int .i64 t201, .int .i64 t202, .string t203, .bool t204, .int .i64 t205, .int .i64 t206, .int .i64 t207, .int .i64 t208, .string t209] 33 (0, 0)) (by (with_reducible repeat (first | refine blk_drewN ?_ _ | refine blk_drew ?_ | refine blk_alloc ?_ _)); refine blk_far ?_ NB211_229.out _; (with_reducible repeat (first | refine blk_drewN ?_ _ | refine blk_drew ?_ | refine blk_alloc ?_ _)); refine blk_far ?_ NB211_229.out _; (with_reducible repeat (first | refine blk_drewN ?_ _ | refine blk_drew ?_ | refine blk_alloc ?_ _)); refine blk_far ?_ NB211_229.out _; (with_reducible repeat (first | refine blk_drewN ?_ _ | refine blk_drew ?_ | refine blk_alloc ?_ _)); refine blk_far ?_ NB211_229.out _; (with_reducible repeat (first | refine blk_drewN ?_ _ | refine blk_drew ?_ | refine blk_alloc ?_ _)); refine blk_far ?_ NB211_229.out _; (with_reducible repeat (first | refine blk_drewN ?_ _ | refine blk_drew ?_ | refine blk_alloc ?_ _)); refine blk_far ?_ NB211_229.out _; (with_reducible repeat (first | refine blk_drewN ?_ _ | refine blk_drew ?_ | refine blk_alloc ?_ _)); refine blk_far ?_ NB211_229.out _; (with_reducible repeat (first | refine blk_drewN ?_ _ | refine blk_drew ?_ | refine blk_alloc ?_ _)); refine blk_far ?_ NB211_229.out _; (with_reducible repeat (first | refine blk_drewN ?_ _ | refine blk_drew ?_ | refine blk_alloc ?_ _)); refine blk_far ?_ NB211_229.out _; (with_reducible repeat (first | refine blk_drewN ?_ _ | refine blk_drew ?_ | refine blk_alloc ?_ _)); refine blk_far ?_ NB211_229.out _; (with_reducible repeat (first | refine blk_drewN ?_ _ | refine blk_drew ?_ | refine blk_alloc ?_ _)); refine blk_far ?_ NB211_229.out _; (with_reducible repeat (first | refine blk_drewN ?_ _ | refine blk_drew ?_ | refine blk_alloc ?_ _)); refine blk_far ?_ NB211_229.out _; (with_reducible repeat (first | refine blk_drewN ?_ _ | refine blk_drew ?_ | refine blk_alloc ?_ _)); refine blk_far ?_ NB211_229.out _; (with_reducible repeat (first | refine blk_drewN ?_ _ | refine blk_drew ?_ | refine blk_alloc ?_ _)); exact BK211.out) hb); have n3_ := Aside0.mk (blk_below (g := gb229) (o := .cells #[.int .i64 t215, .int .i64 t216, .int .i64 t217, .int .i64 t218, .int .i64 t219, .int .i64 t220, .string t221, .bool t222, .int .i64 t223, .int .i64 t224, .int .i64 t225, .int .i64 t226, .string t227] 33 (0, 0)) (by (with_reducible repeat (first | refine blk_drewN ?_ _ | refine blk_drew ?_ | refine blk_alloc ?_ _)); refine blk_put (cs := #[.int .i64 t215, .int .i64 t216, .int .i64 t217, .int .i64 t218, .int .i64 t219, .int .i64 t220, .string t221, .bool t222, .int .i64 t223, .int .i64 t224, .int .i64 t225, .int .i64 t226, .string (⟨#[]⟩ : ByteArray)]) ?_ 12 _ rfl; (with_reducible repeat (first | refine blk_drewN ?_ _ | refine blk_drew ?_ | refine blk_alloc ?_ _)); refine blk_put (cs := #[.int .i64 t215, .int .i64 t216, .int .i64 t217, .int .i64 t218, .int .i64 t219, .int .i64 t220, .string t221, .bool t222, .int .i64 t223, .int .i64 t224, .int .i64 t225, .int .i64 0, .string (⟨#[]⟩ : ByteArray)]) ?_ 11 _ rfl; (with_reducible repeat (first | refine blk_drewN ?_ _ | refine blk_drew ?_ | refine blk_alloc ?_ _)); refine blk_put (cs := #[.int .i64 t215, .int .i64 t216, .int .i64 t217, .int .i64 t218, .int .i64 t219, .int .i64 t220, .string t221, .bool t222, .int .i64 t223, .int .i64 t224, .int .i64 0, .int .i64 0, .string (⟨#[]⟩ : ByteArray)]) ?_ 10 _ rfl; (with_reducible repeat (first | refine blk_drewN ?_ _ | refine blk_drew ?_ | refine blk_alloc ?_ _)); refine blk_put (cs := #[.int .i64 t215, .int .i64 t216, .int .i64 t217, .int .i64 t218, .int .i64 t219, .int .i64 t220, .string t221, .bool t222, .int .i64 t223, .int .i64 0, .int .i64 0, .int .i64 0, .string (⟨#[]⟩ : ByteArray)]) ?_ 9 _ rfl; (with_reducible repeat (first | refine blk_drewN ?_ _ | refine blk_drew ?_ | refine blk_alloc ?_ _)); refine blk_put (cs := #[.int .i64 t215, .int .i64 t216, .int .i64 t217, .int .i64 t218, .int .i64 t219, .int .i64 t220, .string t221, .bool t222, .int .i64 0, .int .i64 0, .int .i64 0, .int .i64 0, .string (⟨#[]⟩ : ByteArray)]) ?_ 8 _ rfl; (with_reducible repeat (first | refine blk_drewN ?_ _ | refine blk_drew ?_ | refine blk_alloc ?_ _)); refine blk_put (cs := #[.int .i64 t215, .int .i64 t216, .int .i64 t217, .int .i64 t218, .int .i64 t219, .int .i64 t220, .string t221, .bool false, .int .i64 0, .int .i64 0, .int .i64 0, .int .i64 0, .string (⟨#[]⟩ : ByteArray)]) ?_ 7 _ rfl; (with_reducible repeat (first | refine blk_drewN ?_ _ | refine blk_drew ?_ | refine blk_alloc ?_ _)); refine blk_put (cs := #[.int .i64 t215, .int .i64 t216, .int .i64 t217, .int .i64 t218, .int .i64 t219, .int .i64 t220, .string (⟨#[]⟩ : ByteArray), .bool false, .int .i64 0, .int .i64 0, .int .i64 0, .int .i64 0, .string (⟨#[]⟩ : ByteArray)]) ?_ 6 _ rfl; (with_reducible repeat (first | refine blk_drewN ?_ _ | refine blk_drew ?_ | refine blk_alloc ?_ _)); refine blk_put (cs := #[.int .i64 t215, .int .i64 t216, .int .i64 t217, .int .i64 t218, .int .i64 t219, .int .i64 0, .string (⟨#[]⟩ : ByteArray), .bool false, .int .i64 0, .int .i64 0, .int .i64 0, .int .i64 0, .string (⟨#[]⟩ : ByteArray)]) ?_ 5 _ rfl; (with_reducible repeat (first | refine blk_drewN ?_ _ | refine blk_drew ?_ | refine blk_alloc ?_ _)); refine blk_put (cs := #[.int .i64 t215, .int .i64 t216, .int .i64 t217, .int .i64 t218, .int .i64 0, .int .i64 0, .string (⟨#[]⟩ : ByteArray), .bool false, .int .i64 0, .int .i64 0, .int .i64 0, .int .i64 0, .string (⟨#[]⟩ : ByteArray)]) ?_ 4 _ rfl; (with_reducible repeat (first | refine blk_drewN ?_ _ | refine blk_drew ?_ | refine blk_alloc ?_ _)); refine blk_put (cs := #[.int .i64 t215, .int .i64 t216, .int .i64 t217, .int .i64 0, .int .i64 0, .int .i64 0, .string (⟨#[]⟩ : ByteArray), .bool false, .int .i64 0, .int .i64 0, .int .i64 0, .int .i64 0, .string (⟨#[]⟩ : ByteArray)]) ?_ 3 _ rfl; (with_reducible repeat (first | refine blk_drewN ?_ _ | refine blk_drew ?_ | refine blk_alloc ?_ _)); refine blk_put (cs := #[.int .i64 t215, .int .i64 t216, .int .i64 0, .int .i64 0, .int .i64 0, .int .i64 0, .string (⟨#[]⟩ : ByteArray), .bool false, .int .i64 0, .int .i64 0, .int .i64 0, .int .i64 0, .string (⟨#[]⟩ : ByteArray)]) ?_ 2 _ rfl; (with_reducible repeat (first | refine blk_drewN ?_ _ | refine blk_drew ?_ | refine blk_alloc ?_ _)); refine blk_put (cs := #[.int .i64 t215, .int .i64 0, .int .i64 0, .int .i64 0, .int .i64 0, .int .i64 0, .string (⟨#[]⟩ : ByteArray), .bool false, .int .i64 0, .int .i64 0, .int .i64 0, .int .i64 0, .string (⟨#[]⟩ : ByteArray)]) ?_ 1 _ rfl; (with_reducible repeat (first | refine blk_drewN ?_ _ | refine blk_drew ?_ | refine blk_alloc ?_ _)); refine blk_put (cs := #[.int .i64 0, .int .i64 0, .int .i64 0, .int .i64 0, .int .i64 0, .int .i64 0, .string (⟨#[]⟩ : ByteArray), .bool false, .int .i64 0, .int .i64 0, .int .i64 0, .int .i64 0, .string (⟨#[]⟩ : ByteArray)]) ?_ 0 _ rfl; (with_reducible repeat (first | refine blk_drewN ?_ _ | refine blk_drew ?_ | refine blk_alloc ?_ _)); exact BK229.out) hb); have n4_ := Aside0.mk (below_step (by repeat (first | (with_reducible first | exact HB.out | apply below_alloc | apply pw_below_drewN | apply below_drew1 | refine below_set ?_ GE211.out | refine below_set ?_ GE229.out) | exact HB.out)) hb); clear HO196; clear HO214; clear BK211; clear BK229; clear HB; have HO196 := n0_; have HO214 := n1_; have BK211 := n2_; have BK229 := n3_; have HB := n4_; clear n0_ n1_ n2_ n3_ n4_; (try clear hb); (try clear hb2); (try clear hk); (try clear hi)))
          go_meet
          case rel => exact ⟨_, (true), (by first | rfl | (simp; done) | (simp [*]; done)), H', ⟨by first | omega | exact Nat.le_refl _⟩, ⟨by (with_reducible repeat (first | apply Kd.R_alloc | apply Kd.R_drewN | apply Kd.R_drew)); exact Kd.R_mono HO214.out (fun _ hk => ⟨hk.1.2, hk.2⟩)⟩, ⟨by (with_reducible repeat (first | refine blk_drewN ?_ _ | refine blk_drew ?_ | refine blk_alloc ?_ _)); exact BK211.out⟩, ⟨by (with_reducible repeat (first | refine blk_drewN ?_ _ | refine blk_drew ?_ | refine blk_alloc ?_ _)); exact BK229.out⟩, ⟨by repeat (first | (with_reducible first | exact HB.out | apply below_alloc | apply pw_below_drewN | apply below_drew1 | refine below_set ?_ GE211.out | refine below_set ?_ GE229.out) | exact HB.out)⟩⟩
      case rest =>
        clear HC11
        try clear c1
        try clear c2
        try clear p2
        try clear c3
        try clear c3b0
        try clear c3b1
        try clear c5
        try clear c5b0
        try clear c7
        try clear c8
        try clear c9
        try clear c10
        try clear c11
        try clear c22
        try clear c25
        try clear c26
        try clear c30
        try clear hcz17_0
        try clear hcz17_1
        try clear hcz17_10
        try clear hcz17_11
        try clear hcz17_12
        try clear hcz17_2
        try clear hcz17_3
        try clear hcz17_4
        try clear hcz17_5
        try clear hcz17_6
        try clear hcz17_7
        try clear hcz17_8
        try clear hcz17_9
        try clear hcz23_0
        try clear hcz23_1
        try clear hcz23_10
        try clear hcz23_11
        try clear hcz23_12
        try clear hcz23_2
        try clear hcz23_3
        try clear hcz23_4
        try clear hcz23_5
        try clear hcz23_6
        try clear hcz23_7
        try clear hcz23_8
        try clear hcz23_9
        try clear hcz27_0
        try clear hcz27_1
        try clear hcz27_10
        try clear hcz27_11
        try clear hcz27_12
        try clear hcz27_2
        try clear hcz27_3
        try clear hcz27_4
        try clear hcz27_5
        try clear hcz27_6
        try clear hcz27_7
        try clear hcz27_8
        try clear hcz27_9
        try clear hcz28_0
        try clear hcz28_1
        try clear hcz28_10
        try clear hcz28_11
        try clear hcz28_12
        try clear hcz28_2
        try clear hcz28_3
        try clear hcz28_4
        try clear hcz28_5
        try clear hcz28_6
        try clear hcz28_7
        try clear hcz28_8
        try clear hcz28_9
        try clear hcz31_0
        try clear hcz31_1
        try clear hcz31_10
        try clear hcz31_11
        try clear hcz31_12
        try clear hcz31_2
        try clear hcz31_3
        try clear hcz31_4
        try clear hcz31_5
        try clear hcz31_6
        try clear hcz31_7
        try clear hcz31_8
        try clear hcz31_9
        try clear hcz32_0
        try clear hcz32_1
        try clear hcz32_10
        try clear hcz32_11
        try clear hcz32_12
        try clear hcz32_2
        try clear hcz32_3
        try clear hcz32_4
        try clear hcz32_5
        try clear hcz32_6
        try clear hcz32_7
        try clear hcz32_8
        try clear hcz32_9
        try clear hfz17_0
        try clear hfz17_1
        try clear hfz17_10
        try clear hfz17_11
        try clear hfz17_12
        try clear hfz17_2
        try clear hfz17_3
        try clear hfz17_4
        try clear hfz17_5
        try clear hfz17_6
        try clear hfz17_7
        try clear hfz17_8
        try clear hfz17_9
        try clear hfz23_0
        try clear hfz23_1
        try clear hfz23_10
        try clear hfz23_11
        try clear hfz23_12
        try clear hfz23_2
        try clear hfz23_3
        try clear hfz23_4
        try clear hfz23_5
        try clear hfz23_6
        try clear hfz23_7
        try clear hfz23_8
        try clear hfz23_9
        try clear hfz27_0
        try clear hfz27_1
        try clear hfz27_10
        try clear hfz27_11
        try clear hfz27_12
        try clear hfz27_2
        try clear hfz27_3
        try clear hfz27_4
        try clear hfz27_5
        try clear hfz27_6
        try clear hfz27_7
        try clear hfz27_8
        try clear hfz27_9
        try clear hfz28_0
        try clear hfz28_1
        try clear hfz28_10
        try clear hfz28_11
        try clear hfz28_12
        try clear hfz28_2
        try clear hfz28_3
        try clear hfz28_4
        try clear hfz28_5
        try clear hfz28_6
        try clear hfz28_7
        try clear hfz28_8
        try clear hfz28_9
        try clear hfz31_0
        try clear hfz31_1
        try clear hfz31_10
        try clear hfz31_11
        try clear hfz31_12
        try clear hfz31_2
        try clear hfz31_3
        try clear hfz31_4
        try clear hfz31_5
        try clear hfz31_6
        try clear hfz31_7
        try clear hfz31_8
        try clear hfz31_9
        try clear hfz32_0
        try clear hfz32_1
        try clear hfz32_10
        try clear hfz32_11
        try clear hfz32_12
        try clear hfz32_2
        try clear hfz32_3
        try clear hfz32_4
        try clear hfz32_5
        try clear hfz32_6
        try clear hfz32_7
        try clear hfz32_8
        try clear hfz32_9
        obtain ⟨kq, x42_10, rfl, HA, HJ10, HO_8, BK211, BK229, HB⟩ := hcut
        cases kq with
        | zero => exact absurd HA.out (by simp [laws_FnExactLastIn.j0])
        | succ kj10 =>
          have H := HA.out
          clear HA
          simp only [laws_FnExactLastIn.j0] at H
          by_cases c34 : x42_10 = true
          · subst c34
            have H1 : (some false) = some r := by rw [if_pos rfl] at H; exact H
            clear H
            have H := H1
            clear H1
            obtain rfl := Option.some.inj H
            go_wp2
            go_ret
            exact ⟨by first | rfl | (simp [errW_none, errW_some] <;> rfl) | (simp [*, errW_none, errW_some] <;> rfl), by repeat (first | (with_reducible first | exact HB.out | apply below_alloc | apply pw_below_drewN | apply below_drew1 | refine below_set ?_ GE211.out | refine below_set ?_ GE229.out) | exact HB.out)⟩
          · replace c34 := Bool.eq_false_iff.mpr c34
            subst c34
            have H1 : ((laws_toMadeS.f kj10 l0).bind fun t231 => ((laws_eqMadeS.f kj10 t212 t231).bind fun t234 => (if t234 = true then (some true) else (some false)))) = some r := by rw [if_neg (show ¬ (false = true) by decide)] at H; exact H
            clear H
            have H := H1
            clear H1
            replace H := Option.bind_eq_some_iff.mp H
            obtain ⟨t231, A350, H⟩ := H
            replace H : ((laws_eqMadeS.f kj10 t212 t231).bind fun t234 => (if t234 = true then (some true) else (some false))) = some r := H
            have A35 := Aside0.mk A350
            clear A350
            replace H := Option.bind_eq_some_iff.mp H
            obtain ⟨t234, A360, H⟩ := H
            replace H : (if t234 = true then (some true) else (some false)) = some r := H
            have A36 := Aside0.mk A360
            clear A360
            by_cases c37 : t234 = true
            · subst c37
              have H1 : (some true) = some r := by rw [if_pos rfl] at H; exact H
              clear H
              have H := H1
              clear H1
              obtain rfl := Option.some.inj H
              go_wp2_with (first | ((with_reducible refine gate_callee (f := 9) rfl ?_); refine goesL_ (some 45) rfl rfl Try.func9 (by kernel_rfl) rfl #[.slice A0 l0.length c0] rfl (by (try simp only [List.map_toArray, List.map_cons, List.map_nil]); first | done | rfl | (simp only [List.length_drop, List.length_take]; rfl)) ?_; (with_reducible refine (laws_toMadeS.calls kj10 _ _ l0 t231 _ ?side1 ?side2 A35.out).mono ?_); (case side1 => repeat (first | exact (Kd.C_below HR0.out HB.out) | (with_reducible refine Kd.C_alloc ?_ _) | (with_reducible refine Kd.C_drewN ?_ _) | (with_reducible refine Kd.C_drew ?_))); (case side2 => exact HC0.out); rintro e w38 ⟨v232, rfl, ho0, hb⟩; refine ⟨_, rfl, ?_⟩; have n0_ := Aside0.mk (Kd.R_elder' (by (with_reducible repeat (first | apply Kd.R_alloc | apply Kd.R_drewN | apply Kd.R_drew)); exact HO_8.out) (Kd.R_base ho0) hb); have n1_ := Aside0.mk (Kd.R_lower (Kd.R_newB (Kd.R_newB (Kd.R_new' ho0 (Kd.R_lt (by (with_reducible repeat (first | apply Kd.R_alloc | apply Kd.R_drewN | apply Kd.R_drew)); exact HO_8.out))) (g := gb211) (o := .cells #[.int .i64 t197, .int .i64 t198, .int .i64 t199, .int .i64 t200, .int .i64 t201, .int .i64 t202, .string t203, .bool t204, .int .i64 t205, .int .i64 t206, .int .i64 t207, .int .i64 t208, .string t209] 33 (0, 0)) (by (with_reducible repeat (first | refine blk_drewN ?_ _ | refine blk_drew ?_ | refine blk_alloc ?_ _)); exact BK211.out)) (g := gb229) (o := .cells #[.int .i64 t215, .int .i64 t216, .int .i64 t217, .int .i64 t218, .int .i64 t219, .int .i64 t220, .string t221, .bool t222, .int .i64 t223, .int .i64 t224, .int .i64 t225, .int .i64 t226, .string t227] 33 (0, 0)) (by (with_reducible repeat (first | refine blk_drewN ?_ _ | refine blk_drew ?_ | refine blk_alloc ?_ _)); exact BK229.out)) (below_size (by repeat (first | (with_reducible first | exact HB.out | apply below_alloc | apply pw_below_drewN | apply below_drew1 | refine below_set ?_ GE211.out | refine below_set ?_ GE229.out) | exact HB.out)))); have n2_ := Aside0.mk (blk_below (g := gb211) (o := .cells #[.int .i64 t197, .int .i64 t198, .int .i64 t199, .int .i64 t200, .int .i64 t201, .int .i64 t202, .string t203, .bool t204, .int .i64 t205, .int .i64 t206, .int .i64 t207, .int .i64 t208, .string t209] 33 (0, 0)) (by (with_reducible repeat (first | refine blk_drewN ?_ _ | refine blk_drew ?_ | refine blk_alloc ?_ _)); exact BK211.out) hb); have n3_ := Aside0.mk (blk_below (g := gb229) (o := .cells #[.int .i64 t215, .int .i64 t216, .int .i64 t217, .int .i64 t218, .int .i64 t219, .int .i64 t220, .string t221, .bool t222, .int .i64 t223, .int .i64 t224, .int .i64 t225, .int .i64 t226, .string t227] 33 (0, 0)) (by (with_reducible repeat (first | refine blk_drewN ?_ _ | refine blk_drew ?_ | refine blk_alloc ?_ _)); exact BK229.out) hb); have n4_ := Aside0.mk (below_step (by repeat (first | (with_reducible first | exact HB.out | apply below_alloc | apply pw_below_drewN | apply below_drew1 | refine below_set ?_ GE211.out | refine below_set ?_ GE229.out) | exact HB.out)) hb); clear HO_8; clear BK211; clear BK229; clear HB; have HO_8 := n0_; have HO233 := n1_; have BK211 := n2_; have BK229 := n3_; have HB := n4_; clear n0_ n1_ n2_ n3_ n4_; (try clear hb); (try clear hb2); (try clear hk); (try clear hi); (try clear ho0); obtain ⟨Ao39, co39, eo39⟩ := Kd.R_slice HO233.out; subst eo39) | ((with_reducible refine gate_callee (f := 12) rfl ?_); refine goesL_ (some 46) rfl rfl Try.func12 (by kernel_rfl) rfl #[.slice Ao19 t212.length co19, .slice Ao39 t231.length co39] rfl (by (try simp only [List.map_toArray, List.map_cons, List.map_nil]); first | done | rfl | (simp only [List.length_drop, List.length_take]; rfl)) ?_; (with_reducible refine (laws_eqMadeS.calls kj10 _ _ t212 _ _ t231 true _ ?side1 ?side2 ?side3 ?side4 A36.out).mono ?_); (case side1 => repeat (first | exact (Kd.R_reads' HO_8.out).2.2 | (with_reducible refine Kd.C_alloc ?_ _) | (with_reducible refine Kd.C_drewN ?_ _) | (with_reducible refine Kd.C_drew ?_))); (case side2 => exact (Kd.R_reads' HO_8.out).2.1); (case side3 => repeat (first | exact (Kd.R_reads' HO233.out).2.2 | (with_reducible refine Kd.C_alloc ?_ _) | (with_reducible refine Kd.C_drewN ?_ _) | (with_reducible refine Kd.C_drew ?_))); (case side4 => exact (Kd.R_reads' HO233.out).2.1); rintro e w40 ⟨rfl, hb⟩; refine ⟨_, rfl, ?_⟩; have n0_ := Aside0.mk (Kd.R_below (by (with_reducible repeat (first | apply Kd.R_alloc | apply Kd.R_drewN | apply Kd.R_drew)); exact HO_8.out) hb); have n1_ := Aside0.mk (Kd.R_below (by (with_reducible repeat (first | apply Kd.R_alloc | apply Kd.R_drewN | apply Kd.R_drew)); exact HO233.out) hb); have n2_ := Aside0.mk (blk_below (g := gb211) (o := .cells #[.int .i64 t197, .int .i64 t198, .int .i64 t199, .int .i64 t200, .int .i64 t201, .int .i64 t202, .string t203, .bool t204, .int .i64 t205, .int .i64 t206, .int .i64 t207, .int .i64 t208, .string t209] 33 (0, 0)) (by (with_reducible repeat (first | refine blk_drewN ?_ _ | refine blk_drew ?_ | refine blk_alloc ?_ _)); exact BK211.out) hb); have n3_ := Aside0.mk (blk_below (g := gb229) (o := .cells #[.int .i64 t215, .int .i64 t216, .int .i64 t217, .int .i64 t218, .int .i64 t219, .int .i64 t220, .string t221, .bool t222, .int .i64 t223, .int .i64 t224, .int .i64 t225, .int .i64 t226, .string t227] 33 (0, 0)) (by (with_reducible repeat (first | refine blk_drewN ?_ _ | refine blk_drew ?_ | refine blk_alloc ?_ _)); exact BK229.out) hb); have n4_ := Aside0.mk (below_step (by repeat (first | (with_reducible first | exact HB.out | apply below_alloc | apply pw_below_drewN | apply below_drew1 | refine below_set ?_ GE211.out | refine below_set ?_ GE229.out) | exact HB.out)) hb); clear HO_8; clear HO233; clear BK211; clear BK229; clear HB; have HO_8 := n0_; have HO233 := n1_; have BK211 := n2_; have BK229 := n3_; have HB := n4_; clear n0_ n1_ n2_ n3_ n4_; (try clear hb); (try clear hb2); (try clear hk); (try clear hi)))
              go_ret
              exact ⟨by first | rfl | (simp [errW_none, errW_some] <;> rfl) | (simp [*, errW_none, errW_some] <;> rfl), by repeat (first | (with_reducible first | exact HB.out | apply below_alloc | apply pw_below_drewN | apply below_drew1 | refine below_set ?_ GE211.out | refine below_set ?_ GE229.out) | exact HB.out)⟩
            · replace c37 := Bool.eq_false_iff.mpr c37
              subst c37
              have H1 : (some false) = some r := by rw [if_neg (show ¬ (false = true) by decide)] at H; exact H
              clear H
              have H := H1
              clear H1
              obtain rfl := Option.some.inj H
              go_wp2_with (first | ((with_reducible refine gate_callee (f := 9) rfl ?_); refine goesL_ (some 45) rfl rfl Try.func9 (by kernel_rfl) rfl #[.slice A0 l0.length c0] rfl (by (try simp only [List.map_toArray, List.map_cons, List.map_nil]); first | done | rfl | (simp only [List.length_drop, List.length_take]; rfl)) ?_; (with_reducible refine (laws_toMadeS.calls kj10 _ _ l0 t231 _ ?side1 ?side2 A35.out).mono ?_); (case side1 => repeat (first | exact (Kd.C_below HR0.out HB.out) | (with_reducible refine Kd.C_alloc ?_ _) | (with_reducible refine Kd.C_drewN ?_ _) | (with_reducible refine Kd.C_drew ?_))); (case side2 => exact HC0.out); rintro e w41 ⟨v232, rfl, ho0, hb⟩; refine ⟨_, rfl, ?_⟩; have n0_ := Aside0.mk (Kd.R_elder' (by (with_reducible repeat (first | apply Kd.R_alloc | apply Kd.R_drewN | apply Kd.R_drew)); exact HO_8.out) (Kd.R_base ho0) hb); have n1_ := Aside0.mk (Kd.R_lower (Kd.R_newB (Kd.R_newB (Kd.R_new' ho0 (Kd.R_lt (by (with_reducible repeat (first | apply Kd.R_alloc | apply Kd.R_drewN | apply Kd.R_drew)); exact HO_8.out))) (g := gb211) (o := .cells #[.int .i64 t197, .int .i64 t198, .int .i64 t199, .int .i64 t200, .int .i64 t201, .int .i64 t202, .string t203, .bool t204, .int .i64 t205, .int .i64 t206, .int .i64 t207, .int .i64 t208, .string t209] 33 (0, 0)) (by (with_reducible repeat (first | refine blk_drewN ?_ _ | refine blk_drew ?_ | refine blk_alloc ?_ _)); exact BK211.out)) (g := gb229) (o := .cells #[.int .i64 t215, .int .i64 t216, .int .i64 t217, .int .i64 t218, .int .i64 t219, .int .i64 t220, .string t221, .bool t222, .int .i64 t223, .int .i64 t224, .int .i64 t225, .int .i64 t226, .string t227] 33 (0, 0)) (by (with_reducible repeat (first | refine blk_drewN ?_ _ | refine blk_drew ?_ | refine blk_alloc ?_ _)); exact BK229.out)) (below_size (by repeat (first | (with_reducible first | exact HB.out | apply below_alloc | apply pw_below_drewN | apply below_drew1 | refine below_set ?_ GE211.out | refine below_set ?_ GE229.out) | exact HB.out)))); have n2_ := Aside0.mk (blk_below (g := gb211) (o := .cells #[.int .i64 t197, .int .i64 t198, .int .i64 t199, .int .i64 t200, .int .i64 t201, .int .i64 t202, .string t203, .bool t204, .int .i64 t205, .int .i64 t206, .int .i64 t207, .int .i64 t208, .string t209] 33 (0, 0)) (by (with_reducible repeat (first | refine blk_drewN ?_ _ | refine blk_drew ?_ | refine blk_alloc ?_ _)); exact BK211.out) hb); have n3_ := Aside0.mk (blk_below (g := gb229) (o := .cells #[.int .i64 t215, .int .i64 t216, .int .i64 t217, .int .i64 t218, .int .i64 t219, .int .i64 t220, .string t221, .bool t222, .int .i64 t223, .int .i64 t224, .int .i64 t225, .int .i64 t226, .string t227] 33 (0, 0)) (by (with_reducible repeat (first | refine blk_drewN ?_ _ | refine blk_drew ?_ | refine blk_alloc ?_ _)); exact BK229.out) hb); have n4_ := Aside0.mk (below_step (by repeat (first | (with_reducible first | exact HB.out | apply below_alloc | apply pw_below_drewN | apply below_drew1 | refine below_set ?_ GE211.out | refine below_set ?_ GE229.out) | exact HB.out)) hb); clear HO_8; clear BK211; clear BK229; clear HB; have HO_8 := n0_; have HO233 := n1_; have BK211 := n2_; have BK229 := n3_; have HB := n4_; clear n0_ n1_ n2_ n3_ n4_; (try clear hb); (try clear hb2); (try clear hk); (try clear hi); (try clear ho0); obtain ⟨Ao42, co42, eo42⟩ := Kd.R_slice HO233.out; subst eo42) | ((with_reducible refine gate_callee (f := 12) rfl ?_); refine goesL_ (some 46) rfl rfl Try.func12 (by kernel_rfl) rfl #[.slice Ao19 t212.length co19, .slice Ao42 t231.length co42] rfl (by (try simp only [List.map_toArray, List.map_cons, List.map_nil]); first | done | rfl | (simp only [List.length_drop, List.length_take]; rfl)) ?_; (with_reducible refine (laws_eqMadeS.calls kj10 _ _ t212 _ _ t231 false _ ?side1 ?side2 ?side3 ?side4 A36.out).mono ?_); (case side1 => repeat (first | exact (Kd.R_reads' HO_8.out).2.2 | (with_reducible refine Kd.C_alloc ?_ _) | (with_reducible refine Kd.C_drewN ?_ _) | (with_reducible refine Kd.C_drew ?_))); (case side2 => exact (Kd.R_reads' HO_8.out).2.1); (case side3 => repeat (first | exact (Kd.R_reads' HO233.out).2.2 | (with_reducible refine Kd.C_alloc ?_ _) | (with_reducible refine Kd.C_drewN ?_ _) | (with_reducible refine Kd.C_drew ?_))); (case side4 => exact (Kd.R_reads' HO233.out).2.1); rintro e w43 ⟨rfl, hb⟩; refine ⟨_, rfl, ?_⟩; have n0_ := Aside0.mk (Kd.R_below (by (with_reducible repeat (first | apply Kd.R_alloc | apply Kd.R_drewN | apply Kd.R_drew)); exact HO_8.out) hb); have n1_ := Aside0.mk (Kd.R_below (by (with_reducible repeat (first | apply Kd.R_alloc | apply Kd.R_drewN | apply Kd.R_drew)); exact HO233.out) hb); have n2_ := Aside0.mk (blk_below (g := gb211) (o := .cells #[.int .i64 t197, .int .i64 t198, .int .i64 t199, .int .i64 t200, .int .i64 t201, .int .i64 t202, .string t203, .bool t204, .int .i64 t205, .int .i64 t206, .int .i64 t207, .int .i64 t208, .string t209] 33 (0, 0)) (by (with_reducible repeat (first | refine blk_drewN ?_ _ | refine blk_drew ?_ | refine blk_alloc ?_ _)); exact BK211.out) hb); have n3_ := Aside0.mk (blk_below (g := gb229) (o := .cells #[.int .i64 t215, .int .i64 t216, .int .i64 t217, .int .i64 t218, .int .i64 t219, .int .i64 t220, .string t221, .bool t222, .int .i64 t223, .int .i64 t224, .int .i64 t225, .int .i64 t226, .string t227] 33 (0, 0)) (by (with_reducible repeat (first | refine blk_drewN ?_ _ | refine blk_drew ?_ | refine blk_alloc ?_ _)); exact BK229.out) hb); have n4_ := Aside0.mk (below_step (by repeat (first | (with_reducible first | exact HB.out | apply below_alloc | apply pw_below_drewN | apply below_drew1 | refine below_set ?_ GE211.out | refine below_set ?_ GE229.out) | exact HB.out)) hb); clear HO_8; clear HO233; clear BK211; clear BK229; clear HB; have HO_8 := n0_; have HO233 := n1_; have BK211 := n2_; have BK229 := n3_; have HB := n4_; clear n0_ n1_ n2_ n3_ n4_; (try clear hb); (try clear hb2); (try clear hk); (try clear hi)))
              go_ret
              exact ⟨by first | rfl | (simp [errW_none, errW_some] <;> rfl) | (simp [*, errW_none, errW_some] <;> rfl), by repeat (first | (with_reducible first | exact HB.out | apply below_alloc | apply pw_below_drewN | apply below_drew1 | refine below_set ?_ GE211.out | refine below_set ?_ GE229.out) | exact HB.out)⟩

end Go.Proofs.Ytbmechcabplcpaa.MFnExactLastIn
