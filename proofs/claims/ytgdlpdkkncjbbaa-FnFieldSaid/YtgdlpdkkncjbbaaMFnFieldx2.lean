-- The law FnField's function, walked on the way that is taken: out of the session's own print.
import Derived.Test.YtgdlpdkkncjbbaaMFnFieldx0
import Derived.Test.YtgdlpdkkncjbbaaMFnFieldx1
namespace Go.Proofs.Ytgdlpdkkncjbbaa.MFnField
open Go.RowKit Go.Proofs.YtgdlpdkkncjbbaaW.PrintWords Go.Proofs.YtgdlpdkkncjbbaaW.PrintLast Go.Proofs.YtgdlpdkkncjbbaaW.PrintMore
attribute [local go_sem] max2_int min2_int max_two min_two max_three min_three max_four min_four   -- for this text's walks alone
set_option linter.unusedVariables false
set_option linter.unusedSimpArgs false

/-! ### laws_FnField: function 4 -/
def laws_FnField.j0 : Nat → Int → Int → Int → Bool → Option (Bool)
  | 0, _, _, _, _ => none
  | k + 1, x3, x4, x8, x174 => if x174 = true then (some false) else (if x4 = 0 then ((impl_GfDiv.f k x8 x4).bind fun bt144 => (if bt144.2 = 3 then (some (x8 == 0)) else (some false))) else ((impl_GfDiv.f k x8 x4).bind fun bt146 => ((impl_GfInv.f k x4).bind fun bt148 => ((impl_GfMul.f k x4 bt148.1).bind fun bt150 => (if bt146.2 = 0 then (if bt146.1 = x3 then (if bt148.2 = 0 then (if bt150.2 = 0 then (some (bt150.1 == 1)) else (some false)) else (some false)) else (some false)) else (some false))))))
def laws_FnField.f (k : Nat) (l0 : List Int) : Option (Bool) := if (l0.length : Int) > 1048576 then (some true) else ((laws_a8At.f l0 0 256).bind fun t121 => ((laws_a8At.f l0 1 256).bind fun t122 => ((laws_a8At.f l0 2 256).bind fun t123 => ((impl_GfAdd.f t121 t122).bind fun bt124 => ((impl_GfMul.f k t121 t122).bind fun bt126 => ((impl_GfMul.f k t122 t121).bind fun bt128 => ((impl_GfMul.f k bt126.1 t123).bind fun bt130 => ((impl_GfMul.f k t122 t123).bind fun bt132 => ((impl_GfMul.f k t121 bt132.1).bind fun bt134 => ((impl_GfMul.f k bt124.1 t123).bind fun bt136 => ((impl_GfMul.f k t121 t123).bind fun bt138 => ((impl_GfAdd.f bt138.1 bt132.1).bind fun bt140 => ((impl_GfMul.f k t121 1).bind fun bt142 => (if bt124.2 = 0 then (if bt126.2 = 0 then (if bt128.2 = 0 then (if bt130.2 = 0 then (if bt132.2 = 0 then (if bt134.2 = 0 then (if bt136.2 = 0 then (if bt138.2 = 0 then (if bt140.2 = 0 then (if bt142.2 = 0 then (if bt126.1 = bt128.1 then (if bt130.1 = bt134.1 then (if bt136.1 = bt140.1 then (if bt142.1 = t121 then (if bt124.1 = (Go.bits .xor .i64 t121 t122) then (if bt126.1 < 0 then (laws_FnField.j0 k t121 t122 bt126.1 true) else (laws_FnField.j0 k t121 t122 bt126.1 (decide (bt126.1 > 255)))) else (laws_FnField.j0 k t121 t122 bt126.1 true)) else (laws_FnField.j0 k t121 t122 bt126.1 true)) else (laws_FnField.j0 k t121 t122 bt126.1 true)) else (laws_FnField.j0 k t121 t122 bt126.1 true)) else (laws_FnField.j0 k t121 t122 bt126.1 true)) else (laws_FnField.j0 k t121 t122 bt126.1 true)) else (laws_FnField.j0 k t121 t122 bt126.1 true)) else (laws_FnField.j0 k t121 t122 bt126.1 true)) else (laws_FnField.j0 k t121 t122 bt126.1 true)) else (laws_FnField.j0 k t121 t122 bt126.1 true)) else (laws_FnField.j0 k t121 t122 bt126.1 true)) else (laws_FnField.j0 k t121 t122 bt126.1 true)) else (laws_FnField.j0 k t121 t122 bt126.1 true)) else (laws_FnField.j0 k t121 t122 bt126.1 true)) else (laws_FnField.j0 k t121 t122 bt126.1 true)))))))))))))))
theorem laws_FnField.mono_l : ∀ k, (∀ y0 y1 y2 y3, LeO (laws_FnField.j0 k y0 y1 y2 y3) (laws_FnField.j0 (k + 1) y0 y1 y2 y3))
  | 0 => fun _ _ _ _ r h => by simp [laws_FnField.j0] at h
  | k + 1 => by
    have ih0 := laws_FnField.mono_l k
    · intro y0 y1 y2 y3
      unfold laws_FnField.j0
      repeat' first
      | (with_reducible exact ih0 _ _ _ _)
      | (with_reducible exact impl_GfDiv.mono _ _ _)
      | (with_reducible exact impl_GfInv.mono _ _)
      | (with_reducible exact impl_GfMul.mono _ _ _)
      | (with_reducible exact LeO.refl _)
      | (with_reducible exact LeO.none _)
      | (with_reducible refine LeO.ite ?_ ?_)
      | (with_reducible refine LeO.bind ?_ (fun _ => ?_))
      | exact ih0 _ _ _ _
      | exact impl_GfDiv.mono _ _ _
      | exact impl_GfInv.mono _ _
      | exact impl_GfMul.mono _ _ _
      | exact LeO.none _
      | refine LeO.ite ?_ ?_
      | refine LeO.bind ?_ (fun _ => ?_)
theorem laws_FnField.mono : ∀ a0 k, LeO (laws_FnField.f k a0) (laws_FnField.f (k + 1) a0) := by
  intro a0 k
  have ih0 := laws_FnField.mono_l k
  unfold laws_FnField.f
  repeat' first
      | (with_reducible exact ih0 _ _ _ _)
      | (with_reducible exact impl_GfDiv.mono _ _ _)
      | (with_reducible exact impl_GfInv.mono _ _)
      | (with_reducible exact impl_GfMul.mono _ _ _)
      | (with_reducible exact LeO.refl _)
      | (with_reducible exact LeO.none _)
      | (with_reducible refine LeO.ite ?_ ?_)
      | (with_reducible refine LeO.bind ?_ (fun _ => ?_))
      | exact ih0 _ _ _ _
      | exact impl_GfDiv.mono _ _ _
      | exact impl_GfInv.mono _ _
      | exact impl_GfMul.mono _ _ _
      | exact LeO.none _
      | refine LeO.ite ?_ ?_
      | refine LeO.bind ?_ (fun _ => ?_)
def FieldPath (k : Nat) (l0 : List Int) : Prop := ∀ t121 t122 t123 t124 t125 t126 t127 t128 t129 t130 t131 t132 t133 t134 t135 t136 t137 t138 t139 t140 t141 t142 t143 : Int, laws_a8At.f l0 0 256 = some t121 → laws_a8At.f l0 1 256 = some t122 → laws_a8At.f l0 2 256 = some t123 → impl_GfAdd.f t121 t122 = some (t124, t125) → impl_GfMul.f k t121 t122 = some (t126, t127) → impl_GfMul.f k t122 t121 = some (t128, t129) → impl_GfMul.f k t126 t123 = some (t130, t131) → impl_GfMul.f k t122 t123 = some (t132, t133) → impl_GfMul.f k t121 t132 = some (t134, t135) → impl_GfMul.f k t124 t123 = some (t136, t137) → impl_GfMul.f k t121 t123 = some (t138, t139) → impl_GfAdd.f t138 t132 = some (t140, t141) → impl_GfMul.f k t121 1 = some (t142, t143) → (t125 = 0) ∧ (t127 = 0) ∧ (t129 = 0) ∧ (t131 = 0) ∧ (t133 = 0) ∧ (t135 = 0) ∧ (t137 = 0) ∧ (t139 = 0) ∧ (t141 = 0) ∧ (t143 = 0) ∧ (t126 = t128) ∧ (t130 = t134) ∧ (t136 = t140) ∧ (t142 = t121) ∧ (t124 = (Go.bits .xor .i64 t121 t122)) ∧ (¬ t126 < 0)
set_option maxHeartbeats 8000000 in
set_option maxRecDepth 100000 in
theorem laws_FnField.calls (k : Nat) (A0 : Option Addr) (c0 : Nat) (l0 : List Int) (r : Bool) (w : World) (hr0 : Kd.C (Kd.int .u8) w A0 l0.length l0) (hc0 : l0.length ≤ c0) (PP : FieldPath k l0) (h : laws_FnField.f k l0 = some r) :
    Calls Try.prog 4 #[.slice A0 l0.length c0] w fun e w' => e = .returned (.bool r) ∧ Drawn0 w w' := by
  have HR0 := Aside0.mk hr0
  have HC0 := Aside0.mk hc0
  clear hr0 hc0
  have H : (if (l0.length : Int) > 1048576 then (some true) else ((laws_a8At.f l0 0 256).bind fun t121 => ((laws_a8At.f l0 1 256).bind fun t122 => ((laws_a8At.f l0 2 256).bind fun t123 => ((impl_GfAdd.f t121 t122).bind fun bt124 => ((impl_GfMul.f k t121 t122).bind fun bt126 => ((impl_GfMul.f k t122 t121).bind fun bt128 => ((impl_GfMul.f k bt126.1 t123).bind fun bt130 => ((impl_GfMul.f k t122 t123).bind fun bt132 => ((impl_GfMul.f k t121 bt132.1).bind fun bt134 => ((impl_GfMul.f k bt124.1 t123).bind fun bt136 => ((impl_GfMul.f k t121 t123).bind fun bt138 => ((impl_GfAdd.f bt138.1 bt132.1).bind fun bt140 => ((impl_GfMul.f k t121 1).bind fun bt142 => (if bt124.2 = 0 then (if bt126.2 = 0 then (if bt128.2 = 0 then (if bt130.2 = 0 then (if bt132.2 = 0 then (if bt134.2 = 0 then (if bt136.2 = 0 then (if bt138.2 = 0 then (if bt140.2 = 0 then (if bt142.2 = 0 then (if bt126.1 = bt128.1 then (if bt130.1 = bt134.1 then (if bt136.1 = bt140.1 then (if bt142.1 = t121 then (if bt124.1 = (Go.bits .xor .i64 t121 t122) then (if bt126.1 < 0 then (laws_FnField.j0 k t121 t122 bt126.1 true) else (laws_FnField.j0 k t121 t122 bt126.1 (decide (bt126.1 > 255)))) else (laws_FnField.j0 k t121 t122 bt126.1 true)) else (laws_FnField.j0 k t121 t122 bt126.1 true)) else (laws_FnField.j0 k t121 t122 bt126.1 true)) else (laws_FnField.j0 k t121 t122 bt126.1 true)) else (laws_FnField.j0 k t121 t122 bt126.1 true)) else (laws_FnField.j0 k t121 t122 bt126.1 true)) else (laws_FnField.j0 k t121 t122 bt126.1 true)) else (laws_FnField.j0 k t121 t122 bt126.1 true)) else (laws_FnField.j0 k t121 t122 bt126.1 true)) else (laws_FnField.j0 k t121 t122 bt126.1 true)) else (laws_FnField.j0 k t121 t122 bt126.1 true)) else (laws_FnField.j0 k t121 t122 bt126.1 true)) else (laws_FnField.j0 k t121 t122 bt126.1 true)) else (laws_FnField.j0 k t121 t122 bt126.1 true)) else (laws_FnField.j0 k t121 t122 bt126.1 true)))))))))))))))) = some r := h
  clear h
  by_cases c2 : (l0.length : Int) > 1048576
  · rw [if_pos c2] at H
    have c2b0 : decide (1048576 < (l0.length : Int)) = true := decide_eq_true c2
    have c2b1 : decide (1048576 < l0.length) = true := decide_eq_true (by omega)
    clear c2
    obtain rfl := Option.some.inj H
    go_enter Try.func4, Try.ntmps4
    go_wp2
    go_ret
    exact ⟨by first | rfl | (simp; done) | (simp [*]; done), by repeat (first | exact Drawn0.refl _ | apply Drawn0.step)⟩
  · rw [if_neg c2] at H
    have c2b0 : decide (1048576 < (l0.length : Int)) = false := decide_eq_false c2
    have c2b1 : decide (1048576 < l0.length) = false := decide_eq_false (by omega)
    clear c2
    replace H := Option.bind_eq_some_iff.mp H
    obtain ⟨t121, A30, H⟩ := H
    replace H : ((laws_a8At.f l0 1 256).bind fun t122 => ((laws_a8At.f l0 2 256).bind fun t123 => ((impl_GfAdd.f t121 t122).bind fun bt124 => ((impl_GfMul.f k t121 t122).bind fun bt126 => ((impl_GfMul.f k t122 t121).bind fun bt128 => ((impl_GfMul.f k bt126.1 t123).bind fun bt130 => ((impl_GfMul.f k t122 t123).bind fun bt132 => ((impl_GfMul.f k t121 bt132.1).bind fun bt134 => ((impl_GfMul.f k bt124.1 t123).bind fun bt136 => ((impl_GfMul.f k t121 t123).bind fun bt138 => ((impl_GfAdd.f bt138.1 bt132.1).bind fun bt140 => ((impl_GfMul.f k t121 1).bind fun bt142 => (if bt124.2 = 0 then (if bt126.2 = 0 then (if bt128.2 = 0 then (if bt130.2 = 0 then (if bt132.2 = 0 then (if bt134.2 = 0 then (if bt136.2 = 0 then (if bt138.2 = 0 then (if bt140.2 = 0 then (if bt142.2 = 0 then (if bt126.1 = bt128.1 then (if bt130.1 = bt134.1 then (if bt136.1 = bt140.1 then (if bt142.1 = t121 then (if bt124.1 = (Go.bits .xor .i64 t121 t122) then (if bt126.1 < 0 then (laws_FnField.j0 k t121 t122 bt126.1 true) else (laws_FnField.j0 k t121 t122 bt126.1 (decide (bt126.1 > 255)))) else (laws_FnField.j0 k t121 t122 bt126.1 true)) else (laws_FnField.j0 k t121 t122 bt126.1 true)) else (laws_FnField.j0 k t121 t122 bt126.1 true)) else (laws_FnField.j0 k t121 t122 bt126.1 true)) else (laws_FnField.j0 k t121 t122 bt126.1 true)) else (laws_FnField.j0 k t121 t122 bt126.1 true)) else (laws_FnField.j0 k t121 t122 bt126.1 true)) else (laws_FnField.j0 k t121 t122 bt126.1 true)) else (laws_FnField.j0 k t121 t122 bt126.1 true)) else (laws_FnField.j0 k t121 t122 bt126.1 true)) else (laws_FnField.j0 k t121 t122 bt126.1 true)) else (laws_FnField.j0 k t121 t122 bt126.1 true)) else (laws_FnField.j0 k t121 t122 bt126.1 true)) else (laws_FnField.j0 k t121 t122 bt126.1 true)) else (laws_FnField.j0 k t121 t122 bt126.1 true)))))))))))))) = some r := H
    have A3 := Aside0.mk A30
    clear A30
    replace H := Option.bind_eq_some_iff.mp H
    obtain ⟨t122, A40, H⟩ := H
    replace H : ((laws_a8At.f l0 2 256).bind fun t123 => ((impl_GfAdd.f t121 t122).bind fun bt124 => ((impl_GfMul.f k t121 t122).bind fun bt126 => ((impl_GfMul.f k t122 t121).bind fun bt128 => ((impl_GfMul.f k bt126.1 t123).bind fun bt130 => ((impl_GfMul.f k t122 t123).bind fun bt132 => ((impl_GfMul.f k t121 bt132.1).bind fun bt134 => ((impl_GfMul.f k bt124.1 t123).bind fun bt136 => ((impl_GfMul.f k t121 t123).bind fun bt138 => ((impl_GfAdd.f bt138.1 bt132.1).bind fun bt140 => ((impl_GfMul.f k t121 1).bind fun bt142 => (if bt124.2 = 0 then (if bt126.2 = 0 then (if bt128.2 = 0 then (if bt130.2 = 0 then (if bt132.2 = 0 then (if bt134.2 = 0 then (if bt136.2 = 0 then (if bt138.2 = 0 then (if bt140.2 = 0 then (if bt142.2 = 0 then (if bt126.1 = bt128.1 then (if bt130.1 = bt134.1 then (if bt136.1 = bt140.1 then (if bt142.1 = t121 then (if bt124.1 = (Go.bits .xor .i64 t121 t122) then (if bt126.1 < 0 then (laws_FnField.j0 k t121 t122 bt126.1 true) else (laws_FnField.j0 k t121 t122 bt126.1 (decide (bt126.1 > 255)))) else (laws_FnField.j0 k t121 t122 bt126.1 true)) else (laws_FnField.j0 k t121 t122 bt126.1 true)) else (laws_FnField.j0 k t121 t122 bt126.1 true)) else (laws_FnField.j0 k t121 t122 bt126.1 true)) else (laws_FnField.j0 k t121 t122 bt126.1 true)) else (laws_FnField.j0 k t121 t122 bt126.1 true)) else (laws_FnField.j0 k t121 t122 bt126.1 true)) else (laws_FnField.j0 k t121 t122 bt126.1 true)) else (laws_FnField.j0 k t121 t122 bt126.1 true)) else (laws_FnField.j0 k t121 t122 bt126.1 true)) else (laws_FnField.j0 k t121 t122 bt126.1 true)) else (laws_FnField.j0 k t121 t122 bt126.1 true)) else (laws_FnField.j0 k t121 t122 bt126.1 true)) else (laws_FnField.j0 k t121 t122 bt126.1 true)) else (laws_FnField.j0 k t121 t122 bt126.1 true))))))))))))) = some r := H
    have A4 := Aside0.mk A40
    clear A40
    replace H := Option.bind_eq_some_iff.mp H
    obtain ⟨t123, A50, H⟩ := H
    replace H : ((impl_GfAdd.f t121 t122).bind fun bt124 => ((impl_GfMul.f k t121 t122).bind fun bt126 => ((impl_GfMul.f k t122 t121).bind fun bt128 => ((impl_GfMul.f k bt126.1 t123).bind fun bt130 => ((impl_GfMul.f k t122 t123).bind fun bt132 => ((impl_GfMul.f k t121 bt132.1).bind fun bt134 => ((impl_GfMul.f k bt124.1 t123).bind fun bt136 => ((impl_GfMul.f k t121 t123).bind fun bt138 => ((impl_GfAdd.f bt138.1 bt132.1).bind fun bt140 => ((impl_GfMul.f k t121 1).bind fun bt142 => (if bt124.2 = 0 then (if bt126.2 = 0 then (if bt128.2 = 0 then (if bt130.2 = 0 then (if bt132.2 = 0 then (if bt134.2 = 0 then (if bt136.2 = 0 then (if bt138.2 = 0 then (if bt140.2 = 0 then (if bt142.2 = 0 then (if bt126.1 = bt128.1 then (if bt130.1 = bt134.1 then (if bt136.1 = bt140.1 then (if bt142.1 = t121 then (if bt124.1 = (Go.bits .xor .i64 t121 t122) then (if bt126.1 < 0 then (laws_FnField.j0 k t121 t122 bt126.1 true) else (laws_FnField.j0 k t121 t122 bt126.1 (decide (bt126.1 > 255)))) else (laws_FnField.j0 k t121 t122 bt126.1 true)) else (laws_FnField.j0 k t121 t122 bt126.1 true)) else (laws_FnField.j0 k t121 t122 bt126.1 true)) else (laws_FnField.j0 k t121 t122 bt126.1 true)) else (laws_FnField.j0 k t121 t122 bt126.1 true)) else (laws_FnField.j0 k t121 t122 bt126.1 true)) else (laws_FnField.j0 k t121 t122 bt126.1 true)) else (laws_FnField.j0 k t121 t122 bt126.1 true)) else (laws_FnField.j0 k t121 t122 bt126.1 true)) else (laws_FnField.j0 k t121 t122 bt126.1 true)) else (laws_FnField.j0 k t121 t122 bt126.1 true)) else (laws_FnField.j0 k t121 t122 bt126.1 true)) else (laws_FnField.j0 k t121 t122 bt126.1 true)) else (laws_FnField.j0 k t121 t122 bt126.1 true)) else (laws_FnField.j0 k t121 t122 bt126.1 true)))))))))))) = some r := H
    have A5 := Aside0.mk A50
    clear A50
    replace H := Option.bind_eq_some_iff.mp H
    obtain ⟨⟨t124, t125⟩, A60, H⟩ := H
    replace H : ((impl_GfMul.f k t121 t122).bind fun bt126 => ((impl_GfMul.f k t122 t121).bind fun bt128 => ((impl_GfMul.f k bt126.1 t123).bind fun bt130 => ((impl_GfMul.f k t122 t123).bind fun bt132 => ((impl_GfMul.f k t121 bt132.1).bind fun bt134 => ((impl_GfMul.f k t124 t123).bind fun bt136 => ((impl_GfMul.f k t121 t123).bind fun bt138 => ((impl_GfAdd.f bt138.1 bt132.1).bind fun bt140 => ((impl_GfMul.f k t121 1).bind fun bt142 => (if t125 = 0 then (if bt126.2 = 0 then (if bt128.2 = 0 then (if bt130.2 = 0 then (if bt132.2 = 0 then (if bt134.2 = 0 then (if bt136.2 = 0 then (if bt138.2 = 0 then (if bt140.2 = 0 then (if bt142.2 = 0 then (if bt126.1 = bt128.1 then (if bt130.1 = bt134.1 then (if bt136.1 = bt140.1 then (if bt142.1 = t121 then (if t124 = (Go.bits .xor .i64 t121 t122) then (if bt126.1 < 0 then (laws_FnField.j0 k t121 t122 bt126.1 true) else (laws_FnField.j0 k t121 t122 bt126.1 (decide (bt126.1 > 255)))) else (laws_FnField.j0 k t121 t122 bt126.1 true)) else (laws_FnField.j0 k t121 t122 bt126.1 true)) else (laws_FnField.j0 k t121 t122 bt126.1 true)) else (laws_FnField.j0 k t121 t122 bt126.1 true)) else (laws_FnField.j0 k t121 t122 bt126.1 true)) else (laws_FnField.j0 k t121 t122 bt126.1 true)) else (laws_FnField.j0 k t121 t122 bt126.1 true)) else (laws_FnField.j0 k t121 t122 bt126.1 true)) else (laws_FnField.j0 k t121 t122 bt126.1 true)) else (laws_FnField.j0 k t121 t122 bt126.1 true)) else (laws_FnField.j0 k t121 t122 bt126.1 true)) else (laws_FnField.j0 k t121 t122 bt126.1 true)) else (laws_FnField.j0 k t121 t122 bt126.1 true)) else (laws_FnField.j0 k t121 t122 bt126.1 true)) else (laws_FnField.j0 k t121 t122 bt126.1 true))))))))))) = some r := H
    have A6 := Aside0.mk A60
    clear A60
    replace H := Option.bind_eq_some_iff.mp H
    obtain ⟨⟨t126, t127⟩, A70, H⟩ := H
    replace H : ((impl_GfMul.f k t122 t121).bind fun bt128 => ((impl_GfMul.f k t126 t123).bind fun bt130 => ((impl_GfMul.f k t122 t123).bind fun bt132 => ((impl_GfMul.f k t121 bt132.1).bind fun bt134 => ((impl_GfMul.f k t124 t123).bind fun bt136 => ((impl_GfMul.f k t121 t123).bind fun bt138 => ((impl_GfAdd.f bt138.1 bt132.1).bind fun bt140 => ((impl_GfMul.f k t121 1).bind fun bt142 => (if t125 = 0 then (if t127 = 0 then (if bt128.2 = 0 then (if bt130.2 = 0 then (if bt132.2 = 0 then (if bt134.2 = 0 then (if bt136.2 = 0 then (if bt138.2 = 0 then (if bt140.2 = 0 then (if bt142.2 = 0 then (if t126 = bt128.1 then (if bt130.1 = bt134.1 then (if bt136.1 = bt140.1 then (if bt142.1 = t121 then (if t124 = (Go.bits .xor .i64 t121 t122) then (if t126 < 0 then (laws_FnField.j0 k t121 t122 t126 true) else (laws_FnField.j0 k t121 t122 t126 (decide (t126 > 255)))) else (laws_FnField.j0 k t121 t122 t126 true)) else (laws_FnField.j0 k t121 t122 t126 true)) else (laws_FnField.j0 k t121 t122 t126 true)) else (laws_FnField.j0 k t121 t122 t126 true)) else (laws_FnField.j0 k t121 t122 t126 true)) else (laws_FnField.j0 k t121 t122 t126 true)) else (laws_FnField.j0 k t121 t122 t126 true)) else (laws_FnField.j0 k t121 t122 t126 true)) else (laws_FnField.j0 k t121 t122 t126 true)) else (laws_FnField.j0 k t121 t122 t126 true)) else (laws_FnField.j0 k t121 t122 t126 true)) else (laws_FnField.j0 k t121 t122 t126 true)) else (laws_FnField.j0 k t121 t122 t126 true)) else (laws_FnField.j0 k t121 t122 t126 true)) else (laws_FnField.j0 k t121 t122 t126 true)))))))))) = some r := H
    have A7 := Aside0.mk A70
    clear A70
    replace H := Option.bind_eq_some_iff.mp H
    obtain ⟨⟨t128, t129⟩, A80, H⟩ := H
    replace H : ((impl_GfMul.f k t126 t123).bind fun bt130 => ((impl_GfMul.f k t122 t123).bind fun bt132 => ((impl_GfMul.f k t121 bt132.1).bind fun bt134 => ((impl_GfMul.f k t124 t123).bind fun bt136 => ((impl_GfMul.f k t121 t123).bind fun bt138 => ((impl_GfAdd.f bt138.1 bt132.1).bind fun bt140 => ((impl_GfMul.f k t121 1).bind fun bt142 => (if t125 = 0 then (if t127 = 0 then (if t129 = 0 then (if bt130.2 = 0 then (if bt132.2 = 0 then (if bt134.2 = 0 then (if bt136.2 = 0 then (if bt138.2 = 0 then (if bt140.2 = 0 then (if bt142.2 = 0 then (if t126 = t128 then (if bt130.1 = bt134.1 then (if bt136.1 = bt140.1 then (if bt142.1 = t121 then (if t124 = (Go.bits .xor .i64 t121 t122) then (if t126 < 0 then (laws_FnField.j0 k t121 t122 t126 true) else (laws_FnField.j0 k t121 t122 t126 (decide (t126 > 255)))) else (laws_FnField.j0 k t121 t122 t126 true)) else (laws_FnField.j0 k t121 t122 t126 true)) else (laws_FnField.j0 k t121 t122 t126 true)) else (laws_FnField.j0 k t121 t122 t126 true)) else (laws_FnField.j0 k t121 t122 t126 true)) else (laws_FnField.j0 k t121 t122 t126 true)) else (laws_FnField.j0 k t121 t122 t126 true)) else (laws_FnField.j0 k t121 t122 t126 true)) else (laws_FnField.j0 k t121 t122 t126 true)) else (laws_FnField.j0 k t121 t122 t126 true)) else (laws_FnField.j0 k t121 t122 t126 true)) else (laws_FnField.j0 k t121 t122 t126 true)) else (laws_FnField.j0 k t121 t122 t126 true)) else (laws_FnField.j0 k t121 t122 t126 true)) else (laws_FnField.j0 k t121 t122 t126 true))))))))) = some r := H
    have A8 := Aside0.mk A80
    clear A80
    replace H := Option.bind_eq_some_iff.mp H
    obtain ⟨⟨t130, t131⟩, A90, H⟩ := H
    replace H : ((impl_GfMul.f k t122 t123).bind fun bt132 => ((impl_GfMul.f k t121 bt132.1).bind fun bt134 => ((impl_GfMul.f k t124 t123).bind fun bt136 => ((impl_GfMul.f k t121 t123).bind fun bt138 => ((impl_GfAdd.f bt138.1 bt132.1).bind fun bt140 => ((impl_GfMul.f k t121 1).bind fun bt142 => (if t125 = 0 then (if t127 = 0 then (if t129 = 0 then (if t131 = 0 then (if bt132.2 = 0 then (if bt134.2 = 0 then (if bt136.2 = 0 then (if bt138.2 = 0 then (if bt140.2 = 0 then (if bt142.2 = 0 then (if t126 = t128 then (if t130 = bt134.1 then (if bt136.1 = bt140.1 then (if bt142.1 = t121 then (if t124 = (Go.bits .xor .i64 t121 t122) then (if t126 < 0 then (laws_FnField.j0 k t121 t122 t126 true) else (laws_FnField.j0 k t121 t122 t126 (decide (t126 > 255)))) else (laws_FnField.j0 k t121 t122 t126 true)) else (laws_FnField.j0 k t121 t122 t126 true)) else (laws_FnField.j0 k t121 t122 t126 true)) else (laws_FnField.j0 k t121 t122 t126 true)) else (laws_FnField.j0 k t121 t122 t126 true)) else (laws_FnField.j0 k t121 t122 t126 true)) else (laws_FnField.j0 k t121 t122 t126 true)) else (laws_FnField.j0 k t121 t122 t126 true)) else (laws_FnField.j0 k t121 t122 t126 true)) else (laws_FnField.j0 k t121 t122 t126 true)) else (laws_FnField.j0 k t121 t122 t126 true)) else (laws_FnField.j0 k t121 t122 t126 true)) else (laws_FnField.j0 k t121 t122 t126 true)) else (laws_FnField.j0 k t121 t122 t126 true)) else (laws_FnField.j0 k t121 t122 t126 true)))))))) = some r := H
    have A9 := Aside0.mk A90
    clear A90
    replace H := Option.bind_eq_some_iff.mp H
    obtain ⟨⟨t132, t133⟩, A100, H⟩ := H
    replace H : ((impl_GfMul.f k t121 t132).bind fun bt134 => ((impl_GfMul.f k t124 t123).bind fun bt136 => ((impl_GfMul.f k t121 t123).bind fun bt138 => ((impl_GfAdd.f bt138.1 t132).bind fun bt140 => ((impl_GfMul.f k t121 1).bind fun bt142 => (if t125 = 0 then (if t127 = 0 then (if t129 = 0 then (if t131 = 0 then (if t133 = 0 then (if bt134.2 = 0 then (if bt136.2 = 0 then (if bt138.2 = 0 then (if bt140.2 = 0 then (if bt142.2 = 0 then (if t126 = t128 then (if t130 = bt134.1 then (if bt136.1 = bt140.1 then (if bt142.1 = t121 then (if t124 = (Go.bits .xor .i64 t121 t122) then (if t126 < 0 then (laws_FnField.j0 k t121 t122 t126 true) else (laws_FnField.j0 k t121 t122 t126 (decide (t126 > 255)))) else (laws_FnField.j0 k t121 t122 t126 true)) else (laws_FnField.j0 k t121 t122 t126 true)) else (laws_FnField.j0 k t121 t122 t126 true)) else (laws_FnField.j0 k t121 t122 t126 true)) else (laws_FnField.j0 k t121 t122 t126 true)) else (laws_FnField.j0 k t121 t122 t126 true)) else (laws_FnField.j0 k t121 t122 t126 true)) else (laws_FnField.j0 k t121 t122 t126 true)) else (laws_FnField.j0 k t121 t122 t126 true)) else (laws_FnField.j0 k t121 t122 t126 true)) else (laws_FnField.j0 k t121 t122 t126 true)) else (laws_FnField.j0 k t121 t122 t126 true)) else (laws_FnField.j0 k t121 t122 t126 true)) else (laws_FnField.j0 k t121 t122 t126 true)) else (laws_FnField.j0 k t121 t122 t126 true))))))) = some r := H
    have A10 := Aside0.mk A100
    clear A100
    replace H := Option.bind_eq_some_iff.mp H
    obtain ⟨⟨t134, t135⟩, A110, H⟩ := H
    replace H : ((impl_GfMul.f k t124 t123).bind fun bt136 => ((impl_GfMul.f k t121 t123).bind fun bt138 => ((impl_GfAdd.f bt138.1 t132).bind fun bt140 => ((impl_GfMul.f k t121 1).bind fun bt142 => (if t125 = 0 then (if t127 = 0 then (if t129 = 0 then (if t131 = 0 then (if t133 = 0 then (if t135 = 0 then (if bt136.2 = 0 then (if bt138.2 = 0 then (if bt140.2 = 0 then (if bt142.2 = 0 then (if t126 = t128 then (if t130 = t134 then (if bt136.1 = bt140.1 then (if bt142.1 = t121 then (if t124 = (Go.bits .xor .i64 t121 t122) then (if t126 < 0 then (laws_FnField.j0 k t121 t122 t126 true) else (laws_FnField.j0 k t121 t122 t126 (decide (t126 > 255)))) else (laws_FnField.j0 k t121 t122 t126 true)) else (laws_FnField.j0 k t121 t122 t126 true)) else (laws_FnField.j0 k t121 t122 t126 true)) else (laws_FnField.j0 k t121 t122 t126 true)) else (laws_FnField.j0 k t121 t122 t126 true)) else (laws_FnField.j0 k t121 t122 t126 true)) else (laws_FnField.j0 k t121 t122 t126 true)) else (laws_FnField.j0 k t121 t122 t126 true)) else (laws_FnField.j0 k t121 t122 t126 true)) else (laws_FnField.j0 k t121 t122 t126 true)) else (laws_FnField.j0 k t121 t122 t126 true)) else (laws_FnField.j0 k t121 t122 t126 true)) else (laws_FnField.j0 k t121 t122 t126 true)) else (laws_FnField.j0 k t121 t122 t126 true)) else (laws_FnField.j0 k t121 t122 t126 true)))))) = some r := H
    have A11 := Aside0.mk A110
    clear A110
    replace H := Option.bind_eq_some_iff.mp H
    obtain ⟨⟨t136, t137⟩, A120, H⟩ := H
    replace H : ((impl_GfMul.f k t121 t123).bind fun bt138 => ((impl_GfAdd.f bt138.1 t132).bind fun bt140 => ((impl_GfMul.f k t121 1).bind fun bt142 => (if t125 = 0 then (if t127 = 0 then (if t129 = 0 then (if t131 = 0 then (if t133 = 0 then (if t135 = 0 then (if t137 = 0 then (if bt138.2 = 0 then (if bt140.2 = 0 then (if bt142.2 = 0 then (if t126 = t128 then (if t130 = t134 then (if t136 = bt140.1 then (if bt142.1 = t121 then (if t124 = (Go.bits .xor .i64 t121 t122) then (if t126 < 0 then (laws_FnField.j0 k t121 t122 t126 true) else (laws_FnField.j0 k t121 t122 t126 (decide (t126 > 255)))) else (laws_FnField.j0 k t121 t122 t126 true)) else (laws_FnField.j0 k t121 t122 t126 true)) else (laws_FnField.j0 k t121 t122 t126 true)) else (laws_FnField.j0 k t121 t122 t126 true)) else (laws_FnField.j0 k t121 t122 t126 true)) else (laws_FnField.j0 k t121 t122 t126 true)) else (laws_FnField.j0 k t121 t122 t126 true)) else (laws_FnField.j0 k t121 t122 t126 true)) else (laws_FnField.j0 k t121 t122 t126 true)) else (laws_FnField.j0 k t121 t122 t126 true)) else (laws_FnField.j0 k t121 t122 t126 true)) else (laws_FnField.j0 k t121 t122 t126 true)) else (laws_FnField.j0 k t121 t122 t126 true)) else (laws_FnField.j0 k t121 t122 t126 true)) else (laws_FnField.j0 k t121 t122 t126 true))))) = some r := H
    have A12 := Aside0.mk A120
    clear A120
    replace H := Option.bind_eq_some_iff.mp H
    obtain ⟨⟨t138, t139⟩, A130, H⟩ := H
    replace H : ((impl_GfAdd.f t138 t132).bind fun bt140 => ((impl_GfMul.f k t121 1).bind fun bt142 => (if t125 = 0 then (if t127 = 0 then (if t129 = 0 then (if t131 = 0 then (if t133 = 0 then (if t135 = 0 then (if t137 = 0 then (if t139 = 0 then (if bt140.2 = 0 then (if bt142.2 = 0 then (if t126 = t128 then (if t130 = t134 then (if t136 = bt140.1 then (if bt142.1 = t121 then (if t124 = (Go.bits .xor .i64 t121 t122) then (if t126 < 0 then (laws_FnField.j0 k t121 t122 t126 true) else (laws_FnField.j0 k t121 t122 t126 (decide (t126 > 255)))) else (laws_FnField.j0 k t121 t122 t126 true)) else (laws_FnField.j0 k t121 t122 t126 true)) else (laws_FnField.j0 k t121 t122 t126 true)) else (laws_FnField.j0 k t121 t122 t126 true)) else (laws_FnField.j0 k t121 t122 t126 true)) else (laws_FnField.j0 k t121 t122 t126 true)) else (laws_FnField.j0 k t121 t122 t126 true)) else (laws_FnField.j0 k t121 t122 t126 true)) else (laws_FnField.j0 k t121 t122 t126 true)) else (laws_FnField.j0 k t121 t122 t126 true)) else (laws_FnField.j0 k t121 t122 t126 true)) else (laws_FnField.j0 k t121 t122 t126 true)) else (laws_FnField.j0 k t121 t122 t126 true)) else (laws_FnField.j0 k t121 t122 t126 true)) else (laws_FnField.j0 k t121 t122 t126 true)))) = some r := H
    have A13 := Aside0.mk A130
    clear A130
    replace H := Option.bind_eq_some_iff.mp H
    obtain ⟨⟨t140, t141⟩, A140, H⟩ := H
    replace H : ((impl_GfMul.f k t121 1).bind fun bt142 => (if t125 = 0 then (if t127 = 0 then (if t129 = 0 then (if t131 = 0 then (if t133 = 0 then (if t135 = 0 then (if t137 = 0 then (if t139 = 0 then (if t141 = 0 then (if bt142.2 = 0 then (if t126 = t128 then (if t130 = t134 then (if t136 = t140 then (if bt142.1 = t121 then (if t124 = (Go.bits .xor .i64 t121 t122) then (if t126 < 0 then (laws_FnField.j0 k t121 t122 t126 true) else (laws_FnField.j0 k t121 t122 t126 (decide (t126 > 255)))) else (laws_FnField.j0 k t121 t122 t126 true)) else (laws_FnField.j0 k t121 t122 t126 true)) else (laws_FnField.j0 k t121 t122 t126 true)) else (laws_FnField.j0 k t121 t122 t126 true)) else (laws_FnField.j0 k t121 t122 t126 true)) else (laws_FnField.j0 k t121 t122 t126 true)) else (laws_FnField.j0 k t121 t122 t126 true)) else (laws_FnField.j0 k t121 t122 t126 true)) else (laws_FnField.j0 k t121 t122 t126 true)) else (laws_FnField.j0 k t121 t122 t126 true)) else (laws_FnField.j0 k t121 t122 t126 true)) else (laws_FnField.j0 k t121 t122 t126 true)) else (laws_FnField.j0 k t121 t122 t126 true)) else (laws_FnField.j0 k t121 t122 t126 true)) else (laws_FnField.j0 k t121 t122 t126 true))) = some r := H
    have A14 := Aside0.mk A140
    clear A140
    replace H := Option.bind_eq_some_iff.mp H
    obtain ⟨⟨t142, t143⟩, A150, H⟩ := H
    replace H : (if t125 = 0 then (if t127 = 0 then (if t129 = 0 then (if t131 = 0 then (if t133 = 0 then (if t135 = 0 then (if t137 = 0 then (if t139 = 0 then (if t141 = 0 then (if t143 = 0 then (if t126 = t128 then (if t130 = t134 then (if t136 = t140 then (if t142 = t121 then (if t124 = (Go.bits .xor .i64 t121 t122) then (if t126 < 0 then (laws_FnField.j0 k t121 t122 t126 true) else (laws_FnField.j0 k t121 t122 t126 (decide (t126 > 255)))) else (laws_FnField.j0 k t121 t122 t126 true)) else (laws_FnField.j0 k t121 t122 t126 true)) else (laws_FnField.j0 k t121 t122 t126 true)) else (laws_FnField.j0 k t121 t122 t126 true)) else (laws_FnField.j0 k t121 t122 t126 true)) else (laws_FnField.j0 k t121 t122 t126 true)) else (laws_FnField.j0 k t121 t122 t126 true)) else (laws_FnField.j0 k t121 t122 t126 true)) else (laws_FnField.j0 k t121 t122 t126 true)) else (laws_FnField.j0 k t121 t122 t126 true)) else (laws_FnField.j0 k t121 t122 t126 true)) else (laws_FnField.j0 k t121 t122 t126 true)) else (laws_FnField.j0 k t121 t122 t126 true)) else (laws_FnField.j0 k t121 t122 t126 true)) else (laws_FnField.j0 k t121 t122 t126 true)) = some r := H
    have A15 := Aside0.mk A150
    clear A150
    have PX := Aside0.mk (PP _ _ _ _ _ _ _ _ _ _ _ _ _ _ _ _ _ _ _ _ _ _ _ A3.out A4.out A5.out A6.out A7.out A8.out A9.out A10.out A11.out A12.out A13.out A14.out A15.out)
    clear PP
    have HC16 := Aside0.mk H
    clear H
    go_enter Try.func4, Try.ntmps4
    go_upto_region 16 with (first | ((with_reducible refine gate_callee (f := 16) rfl ?_); refine goesL_ (some 38) rfl rfl Try.func16 (by kernel_rfl) rfl #[.slice A0 l0.length c0, .int .i64 0, .int .i64 256] rfl (by (try simp only [List.map_toArray, List.map_cons, List.map_nil]); first | done | rfl | (simp only [List.length_drop, List.length_take]; rfl)) ?_; (with_reducible refine (laws_a8At.calls _ _ l0 0 256 t121 _ ?side1 ?side2 A3.out).mono ?_); (case side1 => repeat (first | exact HR0.out | (with_reducible refine Kd.C_alloc ?_ _) | (with_reducible refine Kd.C_drewN ?_ _) | (with_reducible refine Kd.C_drew ?_))); (case side2 => exact HC0.out); rintro e w' ⟨rfl, ⟨nd, rfl⟩⟩; refine ⟨_, rfl, ?_⟩) | ((with_reducible refine gate_callee (f := 16) rfl ?_); refine goesL_ (some 40) rfl rfl Try.func16 (by kernel_rfl) rfl #[.slice A0 l0.length c0, .int .i64 1, .int .i64 256] rfl (by (try simp only [List.map_toArray, List.map_cons, List.map_nil]); first | done | rfl | (simp only [List.length_drop, List.length_take]; rfl)) ?_; (with_reducible refine (laws_a8At.calls _ _ l0 1 256 t122 _ ?side1 ?side2 A4.out).mono ?_); (case side1 => repeat (first | exact HR0.out | (with_reducible refine Kd.C_alloc ?_ _) | (with_reducible refine Kd.C_drewN ?_ _) | (with_reducible refine Kd.C_drew ?_))); (case side2 => exact HC0.out); rintro e w' ⟨rfl, ⟨nd, rfl⟩⟩; refine ⟨_, rfl, ?_⟩) | ((with_reducible refine gate_callee (f := 16) rfl ?_); refine goesL_ (some 42) rfl rfl Try.func16 (by kernel_rfl) rfl #[.slice A0 l0.length c0, .int .i64 2, .int .i64 256] rfl (by (try simp only [List.map_toArray, List.map_cons, List.map_nil]); first | done | rfl | (simp only [List.length_drop, List.length_take]; rfl)) ?_; (with_reducible refine (laws_a8At.calls _ _ l0 2 256 t123 _ ?side1 ?side2 A5.out).mono ?_); (case side1 => repeat (first | exact HR0.out | (with_reducible refine Kd.C_alloc ?_ _) | (with_reducible refine Kd.C_drewN ?_ _) | (with_reducible refine Kd.C_drew ?_))); (case side2 => exact HC0.out); rintro e w' ⟨rfl, ⟨nd, rfl⟩⟩; refine ⟨_, rfl, ?_⟩) | ((with_reducible refine gate_callee (f := 17) rfl ?_); refine goesL_ (some 46) rfl rfl Try.func17 (by kernel_rfl) rfl #[.int .i64 t121, .int .i64 t122] rfl (by (try simp only [List.map_toArray, List.map_cons, List.map_nil]); first | done | rfl | (simp only [List.length_drop, List.length_take]; rfl)) ?_; (with_reducible refine (impl_GfAdd.calls t121 t122 t124 t125 _ A6.out).mono ?_); rintro e w' ⟨rfl, ⟨nd, rfl⟩⟩; refine ⟨_, rfl, ?_⟩) | ((with_reducible refine gate_callee (f := 18) rfl ?_); refine goesL_ (some 52) rfl rfl Try.func18 (by kernel_rfl) rfl #[.int .i64 t121, .int .i64 t122] rfl (by (try simp only [List.map_toArray, List.map_cons, List.map_nil]); first | done | rfl | (simp only [List.length_drop, List.length_take]; rfl)) ?_; (with_reducible refine (impl_GfMul.calls k t121 t122 t126 t127 _ A7.out).mono ?_); rintro e w' ⟨rfl, ⟨nd, rfl⟩⟩; refine ⟨_, rfl, ?_⟩) | ((with_reducible refine gate_callee (f := 18) rfl ?_); refine goesL_ (some 58) rfl rfl Try.func18 (by kernel_rfl) rfl #[.int .i64 t122, .int .i64 t121] rfl (by (try simp only [List.map_toArray, List.map_cons, List.map_nil]); first | done | rfl | (simp only [List.length_drop, List.length_take]; rfl)) ?_; (with_reducible refine (impl_GfMul.calls k t122 t121 t128 t129 _ A8.out).mono ?_); rintro e w' ⟨rfl, ⟨nd, rfl⟩⟩; refine ⟨_, rfl, ?_⟩) | ((with_reducible refine gate_callee (f := 18) rfl ?_); refine goesL_ (some 64) rfl rfl Try.func18 (by kernel_rfl) rfl #[.int .i64 t126, .int .i64 t123] rfl (by (try simp only [List.map_toArray, List.map_cons, List.map_nil]); first | done | rfl | (simp only [List.length_drop, List.length_take]; rfl)) ?_; (with_reducible refine (impl_GfMul.calls k t126 t123 t130 t131 _ A9.out).mono ?_); rintro e w' ⟨rfl, ⟨nd, rfl⟩⟩; refine ⟨_, rfl, ?_⟩) | ((with_reducible refine gate_callee (f := 18) rfl ?_); refine goesL_ (some 70) rfl rfl Try.func18 (by kernel_rfl) rfl #[.int .i64 t122, .int .i64 t123] rfl (by (try simp only [List.map_toArray, List.map_cons, List.map_nil]); first | done | rfl | (simp only [List.length_drop, List.length_take]; rfl)) ?_; (with_reducible refine (impl_GfMul.calls k t122 t123 t132 t133 _ A10.out).mono ?_); rintro e w' ⟨rfl, ⟨nd, rfl⟩⟩; refine ⟨_, rfl, ?_⟩) | ((with_reducible refine gate_callee (f := 18) rfl ?_); refine goesL_ (some 76) rfl rfl Try.func18 (by kernel_rfl) rfl #[.int .i64 t121, .int .i64 t132] rfl (by (try simp only [List.map_toArray, List.map_cons, List.map_nil]); first | done | rfl | (simp only [List.length_drop, List.length_take]; rfl)) ?_; (with_reducible refine (impl_GfMul.calls k t121 t132 t134 t135 _ A11.out).mono ?_); rintro e w' ⟨rfl, ⟨nd, rfl⟩⟩; refine ⟨_, rfl, ?_⟩) | ((with_reducible refine gate_callee (f := 18) rfl ?_); refine goesL_ (some 82) rfl rfl Try.func18 (by kernel_rfl) rfl #[.int .i64 t124, .int .i64 t123] rfl (by (try simp only [List.map_toArray, List.map_cons, List.map_nil]); first | done | rfl | (simp only [List.length_drop, List.length_take]; rfl)) ?_; (with_reducible refine (impl_GfMul.calls k t124 t123 t136 t137 _ A12.out).mono ?_); rintro e w' ⟨rfl, ⟨nd, rfl⟩⟩; refine ⟨_, rfl, ?_⟩) | ((with_reducible refine gate_callee (f := 18) rfl ?_); refine goesL_ (some 88) rfl rfl Try.func18 (by kernel_rfl) rfl #[.int .i64 t121, .int .i64 t123] rfl (by (try simp only [List.map_toArray, List.map_cons, List.map_nil]); first | done | rfl | (simp only [List.length_drop, List.length_take]; rfl)) ?_; (with_reducible refine (impl_GfMul.calls k t121 t123 t138 t139 _ A13.out).mono ?_); rintro e w' ⟨rfl, ⟨nd, rfl⟩⟩; refine ⟨_, rfl, ?_⟩) | ((with_reducible refine gate_callee (f := 17) rfl ?_); refine goesL_ (some 94) rfl rfl Try.func17 (by kernel_rfl) rfl #[.int .i64 t138, .int .i64 t132] rfl (by (try simp only [List.map_toArray, List.map_cons, List.map_nil]); first | done | rfl | (simp only [List.length_drop, List.length_take]; rfl)) ?_; (with_reducible refine (impl_GfAdd.calls t138 t132 t140 t141 _ A14.out).mono ?_); rintro e w' ⟨rfl, ⟨nd, rfl⟩⟩; refine ⟨_, rfl, ?_⟩) | ((with_reducible refine gate_callee (f := 18) rfl ?_); refine goesL_ (some 99) rfl rfl Try.func18 (by kernel_rfl) rfl #[.int .i64 t121, .int .i64 1] rfl (by (try simp only [List.map_toArray, List.map_cons, List.map_nil]); first | done | rfl | (simp only [List.length_drop, List.length_take]; rfl)) ?_; (with_reducible refine (impl_GfMul.calls k t121 1 t142 t143 _ A15.out).mono ?_); rintro e w' ⟨rfl, ⟨nd, rfl⟩⟩; refine ⟨_, rfl, ?_⟩))
    (try simp only [Act.put, List.setIfInBounds_toArray, List.set_cons_zero, List.set_cons_succ])
    go_cut [174] (fun v174 wc => ∃ (kq : Nat) (x174_15 : Bool), v174 = .bool x174_15 ∧ Aside0 (laws_FnField.j0 kq t121 t122 t126 x174_15 = some r) ∧ Aside0 (kq ≤ k) ∧ Drawn0 w wc)
    case first =>
      have H := HC16.out
      clear HC16
      by_cases c17 : t125 = 0
      · rw [if_pos c17] at H
        have c17b0 : (t125 == 0) = true := beq_iff_eq.mpr c17
        have c17b1 : (t125 != 0) = false := bne_eq_false_iff_eq.mpr c17
        clear c17
        (first | rw [c17b0] | (simp only [i64_w, i32_w]; rw [c17b0]) | skip)
        by_cases c18 : t127 = 0
        · rw [if_pos c18] at H
          have c18b0 : (t127 == 0) = true := beq_iff_eq.mpr c18
          have c18b1 : (t127 != 0) = false := bne_eq_false_iff_eq.mpr c18
          clear c18
          by_cases c19 : t129 = 0
          · rw [if_pos c19] at H
            have c19b0 : (t129 == 0) = true := beq_iff_eq.mpr c19
            have c19b1 : (t129 != 0) = false := bne_eq_false_iff_eq.mpr c19
            clear c19
            by_cases c20 : t131 = 0
            · rw [if_pos c20] at H
              have c20b0 : (t131 == 0) = true := beq_iff_eq.mpr c20
              have c20b1 : (t131 != 0) = false := bne_eq_false_iff_eq.mpr c20
              clear c20
              by_cases c21 : t133 = 0
              · rw [if_pos c21] at H
                have c21b0 : (t133 == 0) = true := beq_iff_eq.mpr c21
                have c21b1 : (t133 != 0) = false := bne_eq_false_iff_eq.mpr c21
                clear c21
                by_cases c22 : t135 = 0
                · rw [if_pos c22] at H
                  have c22b0 : (t135 == 0) = true := beq_iff_eq.mpr c22
                  have c22b1 : (t135 != 0) = false := bne_eq_false_iff_eq.mpr c22
                  clear c22
                  by_cases c23 : t137 = 0
                  · rw [if_pos c23] at H
                    have c23b0 : (t137 == 0) = true := beq_iff_eq.mpr c23
                    have c23b1 : (t137 != 0) = false := bne_eq_false_iff_eq.mpr c23
                    clear c23
                    by_cases c24 : t139 = 0
                    · rw [if_pos c24] at H
                      have c24b0 : (t139 == 0) = true := beq_iff_eq.mpr c24
                      have c24b1 : (t139 != 0) = false := bne_eq_false_iff_eq.mpr c24
                      clear c24
                      by_cases c25 : t141 = 0
                      · rw [if_pos c25] at H
                        have c25b0 : (t141 == 0) = true := beq_iff_eq.mpr c25
                        have c25b1 : (t141 != 0) = false := bne_eq_false_iff_eq.mpr c25
                        clear c25
                        by_cases c26 : t143 = 0
                        · rw [if_pos c26] at H
                          have c26b0 : (t143 == 0) = true := beq_iff_eq.mpr c26
                          have c26b1 : (t143 != 0) = false := bne_eq_false_iff_eq.mpr c26
                          clear c26
                          by_cases c27 : t126 = t128
                          · rw [if_pos c27] at H
                            have c27b0 : (t126 == t128) = true := beq_iff_eq.mpr c27
                            have c27b1 : (t126 != t128) = false := bne_eq_false_iff_eq.mpr c27
                            clear c27
                            by_cases c28 : t130 = t134
                            · rw [if_pos c28] at H
                              have c28b0 : (t130 == t134) = true := beq_iff_eq.mpr c28
                              have c28b1 : (t130 != t134) = false := bne_eq_false_iff_eq.mpr c28
                              clear c28
                              by_cases c29 : t136 = t140
                              · rw [if_pos c29] at H
                                have c29b0 : (t136 == t140) = true := beq_iff_eq.mpr c29
                                have c29b1 : (t136 != t140) = false := bne_eq_false_iff_eq.mpr c29
                                clear c29
                                by_cases c30 : t142 = t121
                                · rw [if_pos c30] at H
                                  have c30b0 : (t142 == t121) = true := beq_iff_eq.mpr c30
                                  have c30b1 : (t142 != t121) = false := bne_eq_false_iff_eq.mpr c30
                                  clear c30
                                  by_cases c31 : t124 = (Go.bits .xor .i64 t121 t122)
                                  · rw [if_pos c31] at H
                                    have c31b0 : (t124 == (Go.bits .xor .i64 t121 t122)) = true := beq_iff_eq.mpr c31
                                    have c31b1 : (t124 != (Go.bits .xor .i64 t121 t122)) = false := bne_eq_false_iff_eq.mpr c31
                                    clear c31
                                    by_cases c32 : t126 < 0
                                    · exact absurd c32 (PX.out.2.2.2.2.2.2.2.2.2.2.2.2.2.2.2)
                                    · rw [if_neg c32] at H
                                      have c32b0 : decide (t126 < 0) = false := decide_eq_false c32
                                      clear c32
                                      have H' := Aside0.mk H
                                      clear H
                                      go_wp2
                                      go_meet
                                      case rel => exact ⟨_, (decide (t126 > 255)), (by first | rfl | (simp; done) | (simp [*]; done)), H', ⟨by first | omega | exact Nat.le_refl _⟩, by repeat (first | exact Drawn0.refl _ | apply Drawn0.step)⟩
                                  · exact absurd PX.out.2.2.2.2.2.2.2.2.2.2.2.2.2.2.1 c31
                                · exact absurd PX.out.2.2.2.2.2.2.2.2.2.2.2.2.2.1 c30
                              · exact absurd PX.out.2.2.2.2.2.2.2.2.2.2.2.2.1 c29
                            · exact absurd PX.out.2.2.2.2.2.2.2.2.2.2.2.1 c28
                          · exact absurd PX.out.2.2.2.2.2.2.2.2.2.2.1 c27
                        · exact absurd PX.out.2.2.2.2.2.2.2.2.2.1 c26
                      · exact absurd PX.out.2.2.2.2.2.2.2.2.1 c25
                    · exact absurd PX.out.2.2.2.2.2.2.2.1 c24
                  · exact absurd PX.out.2.2.2.2.2.2.1 c23
                · exact absurd PX.out.2.2.2.2.2.1 c22
              · exact absurd PX.out.2.2.2.2.1 c21
            · exact absurd PX.out.2.2.2.1 c20
          · exact absurd PX.out.2.2.1 c19
        · exact absurd PX.out.2.1 c18
      · exact absurd PX.out.1 c17
    case rest =>
      clear HC16
      try clear c1
      try clear c2
      try clear c2b0
      try clear c2b1
      try clear p2
      try clear c3
      try clear c4
      try clear c16
      try clear c17
      try clear c17b0
      try clear c17b1
      try clear c18
      try clear c18b0
      try clear c18b1
      try clear c19
      try clear c19b0
      try clear c19b1
      try clear c20
      try clear c20b0
      try clear c20b1
      try clear c21
      try clear c21b0
      try clear c21b1
      try clear c22
      try clear c22b0
      try clear c22b1
      try clear c23
      try clear c23b0
      try clear c23b1
      try clear c24
      try clear c24b0
      try clear c24b1
      try clear c25
      try clear c25b0
      try clear c25b1
      try clear c26
      try clear c26b0
      try clear c26b1
      try clear c27
      try clear c27b0
      try clear c27b1
      try clear c28
      try clear c28b0
      try clear c28b1
      try clear c29
      try clear c29b0
      try clear c29b1
      try clear c30
      try clear c30b0
      try clear c30b1
      try clear c31
      try clear c31b0
      try clear c31b1
      try clear c32
      try clear c32b0
      obtain ⟨kq, x174_15, rfl, HA, HJ15, ⟨mc15, rfl⟩⟩ := hcut
      cases kq with
      | zero => exact absurd HA.out (by simp [laws_FnField.j0])
      | succ kj15 =>
        have H := HA.out
        clear HA
        simp only [laws_FnField.j0] at H
        by_cases c33 : x174_15 = true
        · subst c33
          have H1 : (some false) = some r := by rw [if_pos rfl] at H; exact H
          clear H
          have H := H1
          clear H1
          obtain rfl := Option.some.inj H
          go_wp2
          go_ret
          exact ⟨by first | rfl | (simp; done) | (simp [*]; done), by repeat (first | exact Drawn0.refl _ | apply Drawn0.step)⟩
        · replace c33 := Bool.eq_false_iff.mpr c33
          subst c33
          have H1 : (if t122 = 0 then ((impl_GfDiv.f kj15 t126 t122).bind fun bt144 => (if bt144.2 = 3 then (some (t126 == 0)) else (some false))) else ((impl_GfDiv.f kj15 t126 t122).bind fun bt146 => ((impl_GfInv.f kj15 t122).bind fun bt148 => ((impl_GfMul.f kj15 t122 bt148.1).bind fun bt150 => (if bt146.2 = 0 then (if bt146.1 = t121 then (if bt148.2 = 0 then (if bt150.2 = 0 then (some (bt150.1 == 1)) else (some false)) else (some false)) else (some false)) else (some false)))))) = some r := by rw [if_neg (show ¬ (false = true) by decide)] at H; exact H
          clear H
          have H := H1
          clear H1
          by_cases c34 : t122 = 0
          · rw [if_pos c34] at H
            have c34b0 : (t122 == 0) = true := beq_iff_eq.mpr c34
            have c34b1 : (t122 != 0) = false := bne_eq_false_iff_eq.mpr c34
            clear c34
            replace H := Option.bind_eq_some_iff.mp H
            obtain ⟨⟨t144, t145⟩, A350, H⟩ := H
            replace H : (if t145 = 3 then (some (t126 == 0)) else (some false)) = some r := H
            have A35 := Aside0.mk A350
            clear A350
            by_cases c36 : t145 = 3
            · rw [if_pos c36] at H
              have c36b0 : (t145 == 3) = true := beq_iff_eq.mpr c36
              have c36b1 : (t145 != 3) = false := bne_eq_false_iff_eq.mpr c36
              clear c36
              obtain rfl := Option.some.inj H
              go_wp2_with (first | ((with_reducible refine gate_callee (f := 19) rfl ?_); refine goesL_ (some 180) rfl rfl Try.func19 (by kernel_rfl) rfl #[.int .i64 t126, .int .i64 t122] rfl (by (try simp only [List.map_toArray, List.map_cons, List.map_nil]); first | done | rfl | (simp only [List.length_drop, List.length_take]; rfl)) ?_; (with_reducible refine (impl_GfDiv.calls kj15 t126 t122 t144 t145 _ A35.out).mono ?_); rintro e w' ⟨rfl, ⟨nd, rfl⟩⟩; refine ⟨_, rfl, ?_⟩))
              go_ret
              exact ⟨by first | rfl | (simp; done) | (simp [*]; done), by repeat (first | exact Drawn0.refl _ | apply Drawn0.step)⟩
            · rw [if_neg c36] at H
              have c36b0 : (t145 == 3) = false := beq_eq_false_iff_ne.mpr c36
              have c36b1 : (t145 != 3) = true := bne_iff_ne.mpr c36
              obtain rfl := Option.some.inj H
              go_wp2_with (first | ((with_reducible refine gate_callee (f := 19) rfl ?_); refine goesL_ (some 180) rfl rfl Try.func19 (by kernel_rfl) rfl #[.int .i64 t126, .int .i64 t122] rfl (by (try simp only [List.map_toArray, List.map_cons, List.map_nil]); first | done | rfl | (simp only [List.length_drop, List.length_take]; rfl)) ?_; (with_reducible refine (impl_GfDiv.calls kj15 t126 t122 t144 t145 _ A35.out).mono ?_); rintro e w' ⟨rfl, ⟨nd, rfl⟩⟩; refine ⟨_, rfl, ?_⟩))
              go_ret
              exact ⟨by first | rfl | (simp; done) | (simp [*]; done), by repeat (first | exact Drawn0.refl _ | apply Drawn0.step)⟩
          · rw [if_neg c34] at H
            have c34b0 : (t122 == 0) = false := beq_eq_false_iff_ne.mpr c34
            have c34b1 : (t122 != 0) = true := bne_iff_ne.mpr c34
            replace H := Option.bind_eq_some_iff.mp H
            obtain ⟨⟨t146, t147⟩, A370, H⟩ := H
            replace H : ((impl_GfInv.f kj15 t122).bind fun bt148 => ((impl_GfMul.f kj15 t122 bt148.1).bind fun bt150 => (if t147 = 0 then (if t146 = t121 then (if bt148.2 = 0 then (if bt150.2 = 0 then (some (bt150.1 == 1)) else (some false)) else (some false)) else (some false)) else (some false)))) = some r := H
            have A37 := Aside0.mk A370
            clear A370
            replace H := Option.bind_eq_some_iff.mp H
            obtain ⟨⟨t148, t149⟩, A380, H⟩ := H
            replace H : ((impl_GfMul.f kj15 t122 t148).bind fun bt150 => (if t147 = 0 then (if t146 = t121 then (if t149 = 0 then (if bt150.2 = 0 then (some (bt150.1 == 1)) else (some false)) else (some false)) else (some false)) else (some false))) = some r := H
            have A38 := Aside0.mk A380
            clear A380
            replace H := Option.bind_eq_some_iff.mp H
            obtain ⟨⟨t150, t151⟩, A390, H⟩ := H
            replace H : (if t147 = 0 then (if t146 = t121 then (if t149 = 0 then (if t151 = 0 then (some (t150 == 1)) else (some false)) else (some false)) else (some false)) else (some false)) = some r := H
            have A39 := Aside0.mk A390
            clear A390
            by_cases c40 : t147 = 0
            · rw [if_pos c40] at H
              have c40b0 : (t147 == 0) = true := beq_iff_eq.mpr c40
              have c40b1 : (t147 != 0) = false := bne_eq_false_iff_eq.mpr c40
              clear c40
              by_cases c41 : t146 = t121
              · rw [if_pos c41] at H
                have c41b0 : (t146 == t121) = true := beq_iff_eq.mpr c41
                have c41b1 : (t146 != t121) = false := bne_eq_false_iff_eq.mpr c41
                clear c41
                by_cases c42 : t149 = 0
                · rw [if_pos c42] at H
                  have c42b0 : (t149 == 0) = true := beq_iff_eq.mpr c42
                  have c42b1 : (t149 != 0) = false := bne_eq_false_iff_eq.mpr c42
                  clear c42
                  by_cases c43 : t151 = 0
                  · rw [if_pos c43] at H
                    have c43b0 : (t151 == 0) = true := beq_iff_eq.mpr c43
                    have c43b1 : (t151 != 0) = false := bne_eq_false_iff_eq.mpr c43
                    clear c43
                    obtain rfl := Option.some.inj H
                    go_wp2_with (first | ((with_reducible refine gate_callee (f := 19) rfl ?_); refine goesL_ (some 192) rfl rfl Try.func19 (by kernel_rfl) rfl #[.int .i64 t126, .int .i64 t122] rfl (by (try simp only [List.map_toArray, List.map_cons, List.map_nil]); first | done | rfl | (simp only [List.length_drop, List.length_take]; rfl)) ?_; (with_reducible refine (impl_GfDiv.calls kj15 t126 t122 t146 t147 _ A37.out).mono ?_); rintro e w' ⟨rfl, ⟨nd, rfl⟩⟩; refine ⟨_, rfl, ?_⟩) | ((with_reducible refine gate_callee (f := 20) rfl ?_); refine goesL_ (some 197) rfl rfl Try.func20 (by kernel_rfl) rfl #[.int .i64 t122] rfl (by (try simp only [List.map_toArray, List.map_cons, List.map_nil]); first | done | rfl | (simp only [List.length_drop, List.length_take]; rfl)) ?_; (with_reducible refine (impl_GfInv.calls kj15 t122 t148 t149 _ A38.out).mono ?_); rintro e w' ⟨rfl, ⟨nd, rfl⟩⟩; refine ⟨_, rfl, ?_⟩) | ((with_reducible refine gate_callee (f := 18) rfl ?_); refine goesL_ (some 203) rfl rfl Try.func18 (by kernel_rfl) rfl #[.int .i64 t122, .int .i64 t148] rfl (by (try simp only [List.map_toArray, List.map_cons, List.map_nil]); first | done | rfl | (simp only [List.length_drop, List.length_take]; rfl)) ?_; (with_reducible refine (impl_GfMul.calls kj15 t122 t148 t150 t151 _ A39.out).mono ?_); rintro e w' ⟨rfl, ⟨nd, rfl⟩⟩; refine ⟨_, rfl, ?_⟩))
                    go_ret
                    exact ⟨by first | rfl | (simp; done) | (simp [*]; done), by repeat (first | exact Drawn0.refl _ | apply Drawn0.step)⟩
                  · rw [if_neg c43] at H
                    have c43b0 : (t151 == 0) = false := beq_eq_false_iff_ne.mpr c43
                    have c43b1 : (t151 != 0) = true := bne_iff_ne.mpr c43
                    obtain rfl := Option.some.inj H
                    go_wp2_with (first | ((with_reducible refine gate_callee (f := 19) rfl ?_); refine goesL_ (some 192) rfl rfl Try.func19 (by kernel_rfl) rfl #[.int .i64 t126, .int .i64 t122] rfl (by (try simp only [List.map_toArray, List.map_cons, List.map_nil]); first | done | rfl | (simp only [List.length_drop, List.length_take]; rfl)) ?_; (with_reducible refine (impl_GfDiv.calls kj15 t126 t122 t146 t147 _ A37.out).mono ?_); rintro e w' ⟨rfl, ⟨nd, rfl⟩⟩; refine ⟨_, rfl, ?_⟩) | ((with_reducible refine gate_callee (f := 20) rfl ?_); refine goesL_ (some 197) rfl rfl Try.func20 (by kernel_rfl) rfl #[.int .i64 t122] rfl (by (try simp only [List.map_toArray, List.map_cons, List.map_nil]); first | done | rfl | (simp only [List.length_drop, List.length_take]; rfl)) ?_; (with_reducible refine (impl_GfInv.calls kj15 t122 t148 t149 _ A38.out).mono ?_); rintro e w' ⟨rfl, ⟨nd, rfl⟩⟩; refine ⟨_, rfl, ?_⟩) | ((with_reducible refine gate_callee (f := 18) rfl ?_); refine goesL_ (some 203) rfl rfl Try.func18 (by kernel_rfl) rfl #[.int .i64 t122, .int .i64 t148] rfl (by (try simp only [List.map_toArray, List.map_cons, List.map_nil]); first | done | rfl | (simp only [List.length_drop, List.length_take]; rfl)) ?_; (with_reducible refine (impl_GfMul.calls kj15 t122 t148 t150 t151 _ A39.out).mono ?_); rintro e w' ⟨rfl, ⟨nd, rfl⟩⟩; refine ⟨_, rfl, ?_⟩))
                    go_ret
                    exact ⟨by first | rfl | (simp; done) | (simp [*]; done), by repeat (first | exact Drawn0.refl _ | apply Drawn0.step)⟩
                · rw [if_neg c42] at H
                  have c42b0 : (t149 == 0) = false := beq_eq_false_iff_ne.mpr c42
                  have c42b1 : (t149 != 0) = true := bne_iff_ne.mpr c42
                  obtain rfl := Option.some.inj H
                  go_wp2_with (first | ((with_reducible refine gate_callee (f := 19) rfl ?_); refine goesL_ (some 192) rfl rfl Try.func19 (by kernel_rfl) rfl #[.int .i64 t126, .int .i64 t122] rfl (by (try simp only [List.map_toArray, List.map_cons, List.map_nil]); first | done | rfl | (simp only [List.length_drop, List.length_take]; rfl)) ?_; (with_reducible refine (impl_GfDiv.calls kj15 t126 t122 t146 t147 _ A37.out).mono ?_); rintro e w' ⟨rfl, ⟨nd, rfl⟩⟩; refine ⟨_, rfl, ?_⟩) | ((with_reducible refine gate_callee (f := 20) rfl ?_); refine goesL_ (some 197) rfl rfl Try.func20 (by kernel_rfl) rfl #[.int .i64 t122] rfl (by (try simp only [List.map_toArray, List.map_cons, List.map_nil]); first | done | rfl | (simp only [List.length_drop, List.length_take]; rfl)) ?_; (with_reducible refine (impl_GfInv.calls kj15 t122 t148 t149 _ A38.out).mono ?_); rintro e w' ⟨rfl, ⟨nd, rfl⟩⟩; refine ⟨_, rfl, ?_⟩) | ((with_reducible refine gate_callee (f := 18) rfl ?_); refine goesL_ (some 203) rfl rfl Try.func18 (by kernel_rfl) rfl #[.int .i64 t122, .int .i64 t148] rfl (by (try simp only [List.map_toArray, List.map_cons, List.map_nil]); first | done | rfl | (simp only [List.length_drop, List.length_take]; rfl)) ?_; (with_reducible refine (impl_GfMul.calls kj15 t122 t148 t150 t151 _ A39.out).mono ?_); rintro e w' ⟨rfl, ⟨nd, rfl⟩⟩; refine ⟨_, rfl, ?_⟩))
                  go_ret
                  exact ⟨by first | rfl | (simp; done) | (simp [*]; done), by repeat (first | exact Drawn0.refl _ | apply Drawn0.step)⟩
              · rw [if_neg c41] at H
                have c41b0 : (t146 == t121) = false := beq_eq_false_iff_ne.mpr c41
                have c41b1 : (t146 != t121) = true := bne_iff_ne.mpr c41
                obtain rfl := Option.some.inj H
                go_wp2_with (first | ((with_reducible refine gate_callee (f := 19) rfl ?_); refine goesL_ (some 192) rfl rfl Try.func19 (by kernel_rfl) rfl #[.int .i64 t126, .int .i64 t122] rfl (by (try simp only [List.map_toArray, List.map_cons, List.map_nil]); first | done | rfl | (simp only [List.length_drop, List.length_take]; rfl)) ?_; (with_reducible refine (impl_GfDiv.calls kj15 t126 t122 t146 t147 _ A37.out).mono ?_); rintro e w' ⟨rfl, ⟨nd, rfl⟩⟩; refine ⟨_, rfl, ?_⟩) | ((with_reducible refine gate_callee (f := 20) rfl ?_); refine goesL_ (some 197) rfl rfl Try.func20 (by kernel_rfl) rfl #[.int .i64 t122] rfl (by (try simp only [List.map_toArray, List.map_cons, List.map_nil]); first | done | rfl | (simp only [List.length_drop, List.length_take]; rfl)) ?_; (with_reducible refine (impl_GfInv.calls kj15 t122 t148 t149 _ A38.out).mono ?_); rintro e w' ⟨rfl, ⟨nd, rfl⟩⟩; refine ⟨_, rfl, ?_⟩) | ((with_reducible refine gate_callee (f := 18) rfl ?_); refine goesL_ (some 203) rfl rfl Try.func18 (by kernel_rfl) rfl #[.int .i64 t122, .int .i64 t148] rfl (by (try simp only [List.map_toArray, List.map_cons, List.map_nil]); first | done | rfl | (simp only [List.length_drop, List.length_take]; rfl)) ?_; (with_reducible refine (impl_GfMul.calls kj15 t122 t148 t150 t151 _ A39.out).mono ?_); rintro e w' ⟨rfl, ⟨nd, rfl⟩⟩; refine ⟨_, rfl, ?_⟩))
                go_ret
                exact ⟨by first | rfl | (simp; done) | (simp [*]; done), by repeat (first | exact Drawn0.refl _ | apply Drawn0.step)⟩
            · rw [if_neg c40] at H
              have c40b0 : (t147 == 0) = false := beq_eq_false_iff_ne.mpr c40
              have c40b1 : (t147 != 0) = true := bne_iff_ne.mpr c40
              obtain rfl := Option.some.inj H
              go_wp2_with (first | ((with_reducible refine gate_callee (f := 19) rfl ?_); refine goesL_ (some 192) rfl rfl Try.func19 (by kernel_rfl) rfl #[.int .i64 t126, .int .i64 t122] rfl (by (try simp only [List.map_toArray, List.map_cons, List.map_nil]); first | done | rfl | (simp only [List.length_drop, List.length_take]; rfl)) ?_; (with_reducible refine (impl_GfDiv.calls kj15 t126 t122 t146 t147 _ A37.out).mono ?_); rintro e w' ⟨rfl, ⟨nd, rfl⟩⟩; refine ⟨_, rfl, ?_⟩) | ((with_reducible refine gate_callee (f := 20) rfl ?_); refine goesL_ (some 197) rfl rfl Try.func20 (by kernel_rfl) rfl #[.int .i64 t122] rfl (by (try simp only [List.map_toArray, List.map_cons, List.map_nil]); first | done | rfl | (simp only [List.length_drop, List.length_take]; rfl)) ?_; (with_reducible refine (impl_GfInv.calls kj15 t122 t148 t149 _ A38.out).mono ?_); rintro e w' ⟨rfl, ⟨nd, rfl⟩⟩; refine ⟨_, rfl, ?_⟩) | ((with_reducible refine gate_callee (f := 18) rfl ?_); refine goesL_ (some 203) rfl rfl Try.func18 (by kernel_rfl) rfl #[.int .i64 t122, .int .i64 t148] rfl (by (try simp only [List.map_toArray, List.map_cons, List.map_nil]); first | done | rfl | (simp only [List.length_drop, List.length_take]; rfl)) ?_; (with_reducible refine (impl_GfMul.calls kj15 t122 t148 t150 t151 _ A39.out).mono ?_); rintro e w' ⟨rfl, ⟨nd, rfl⟩⟩; refine ⟨_, rfl, ?_⟩))
              go_ret
              exact ⟨by first | rfl | (simp; done) | (simp [*]; done), by repeat (first | exact Drawn0.refl _ | apply Drawn0.step)⟩

end Go.Proofs.Ytgdlpdkkncjbbaa.MFnField
