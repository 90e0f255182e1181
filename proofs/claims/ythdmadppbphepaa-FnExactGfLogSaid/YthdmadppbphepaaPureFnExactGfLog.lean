/- The program's GfLog answers as the reference's does, for all arguments. -/
import Derived.Test.YthdmadppbphepaaPFnExactGfLogx1
import Derived.Test.YthdmadppbphepaaGf
namespace Go.Proofs.Ythdmadppbphepaa.Pure
open Go Go.RowKit Go.Proofs.Ythdmadppbphepaa Go.Proofs.Ythdmadppbphepaa.PFnExactGfLog Go.Proofs.YthdmadppbphepaaW.PrintWords Go.Proofs.YthdmadppbphepaaW.PrintLast
set_option linter.unusedVariables false
namespace FnExactGfLogAid
theorem el_cases (a : Int) : (∃ n : Nat, n < 256 ∧ a = (n : Int)) ∨ ¬ (0 ≤ a ∧ a ≤ 255) := by
  by_cases h : 0 ≤ a ∧ a ≤ 255
  · exact .inl ⟨a.toNat, by omega, by omega⟩
  · exact .inr h
theorem w2 (a : Nat) (h : a < 256) : wrap64 ((a : Int) * 2) = ((2 * a : Nat) : Int) := by unfold wrap64; omega
theorem xor285 (a : Nat) (h : a < 256) : bits .xor .i64 ((2 * a : Nat) : Int) 285 = (((2 * a) ^^^ 285 : Nat) : Int) := Gf.xor_nat (2 * a) 285 (by omega) (by decide)
theorem spec_el_yes (a : Nat) (h : a < 256) : spec_l02Byte.f (a : Int) = some true := by
  unfold spec_l02Byte.f spec_l00In.f
  rw [if_pos (by omega)]; simp; omega
theorem spec_el_no (a : Int) (h : ¬ (0 ≤ a ∧ a ≤ 255)) : spec_l02Byte.f a = some false := by
  unfold spec_l02Byte.f spec_l00In.f
  by_cases h0 : a ≥ 0
  · rw [if_pos h0]; simp; omega
  · rw [if_neg h0]; rfl
theorem impl_el_yes (a : Nat) (h : a < 256) : impl_isElement.f (a : Int) = some true := by
  unfold impl_isElement.f impl_between.f
  rw [if_pos (by omega)]; simp; omega
theorem impl_el_no (a : Int) (h : ¬ (0 ≤ a ∧ a ≤ 255)) : impl_isElement.f a = some false := by
  unfold impl_isElement.f impl_between.f
  by_cases h0 : a ≥ 0
  · rw [if_pos h0]; simp; omega
  · rw [if_neg h0]; rfl
theorem spec_times_l : ∀ (j k a b c : Nat), a < 256 → b < 256 → c < 256 → j ≤ 8 → j < k →
    spec_l02Times.l0 k (a : Int) (b : Int) (c : Int) ((8 - j : Nat) : Int) = some ((Gf.mulN j a b c : Nat) : Int)
  | 0, k, a, b, c, ha, hb, hc, hj, hk => by
    obtain ⟨k, rfl⟩ : ∃ m, k = m + 1 := ⟨k - 1, by omega⟩
    simp only [spec_l02Times.l0]
    rw [if_neg (by omega)]
    rfl
  | j + 1, k, a, b, c, ha, hb, hc, hj, hk => by
    obtain ⟨k, rfl⟩ : ∃ m, k = m + 1 := ⟨k - 1, by omega⟩
    simp only [spec_l02Times.l0]
    have hi : wrap64 (((8 - (j + 1) : Nat) : Int) + 1) = ((8 - j : Nat) : Int) := by unfold wrap64; omega
    have hb2 : (b : Int) / 2 = ((b / 2 : Nat) : Int) := by omega
    have hx : bits .xor .i64 (c : Int) (a : Int) = ((c ^^^ a : Nat) : Int) := Gf.xor_nat c a (by omega) (by omega)
    have hd := Gf.dbl_lt a ha
    rw [if_pos (by omega), Gf.and_one b (by omega), w2 a ha, hi, hb2, hx, xor285 a ha]
    unfold Gf.mulN
    by_cases h1 : b % 2 = 1
    · rw [if_neg (by omega), if_pos h1]
      by_cases h2 : 255 < 2 * a
      · have e : (2 * a) ^^^ 285 = Gf.dbl a := (if_pos h2).symm
        rw [if_pos (by omega), e]
        exact spec_times_l j k _ _ _ hd (by omega) (Gf.xor_lt hc ha) (by omega) (by omega)
      · have e : 2 * a = Gf.dbl a := (if_neg h2).symm
        rw [if_neg (by omega), e]
        exact spec_times_l j k _ _ _ hd (by omega) (Gf.xor_lt hc ha) (by omega) (by omega)
    · rw [if_pos (by omega), if_neg h1]
      by_cases h2 : 255 < 2 * a
      · have e : (2 * a) ^^^ 285 = Gf.dbl a := (if_pos h2).symm
        rw [if_pos (by omega), e]
        exact spec_times_l j k _ _ _ hd (by omega) hc (by omega) (by omega)
      · have e : 2 * a = Gf.dbl a := (if_neg h2).symm
        rw [if_neg (by omega), e]
        exact spec_times_l j k _ _ _ hd (by omega) hc (by omega) (by omega)
theorem spec_times (k a b : Nat) (ha : a < 256) (hb : b < 256) (hk : 8 < k) : spec_l02Times.f k (a : Int) (b : Int) = some ((Gf.mul a b : Nat) : Int) :=
  spec_times_l 8 k a b 0 ha hb (by decide) (by decide) hk
theorem impl_double_is (a : Nat) (ha : a < 256) : impl_double.f (a : Int) = some ((Gf.dbl a : Nat) : Int) := by
  unfold impl_double.f Gf.dbl
  rw [w2 a ha, xor285 a ha]
  by_cases h2 : 255 < 2 * a
  · rw [if_pos (by omega), if_pos h2]
  · rw [if_neg (by omega), if_neg h2]
theorem dbl_ne : ∀ x, x < 256 → x ≠ 0 → Gf.dbl x ≠ 0 := by decide +kernel
theorem log_l : ∀ (j : Nat) (a x i k : Nat), a < 256 → x < 256 → Gf.dblN j x = a → i + j < 255 → j + 20 < k →
    ∃ n : Int, spec_GfLog.l0 k (a : Int) (x : Int) (i : Int) = some (n, 0) ∧ impl_GfLog.l0 k (a : Int) (i : Int) (x : Int) = some (n, 0)
  | 0, a, x, i, k, ha, hx, he, hi, hk => by
    obtain ⟨k, rfl⟩ : ∃ m, k = m + 1 := ⟨k - 1, by omega⟩
    have hxa : x = a := he
    subst hxa
    refine ⟨(i : Int), ?_, ?_⟩
    · simp only [spec_GfLog.l0]; rw [if_pos (by omega), if_pos trivial]
    · simp only [impl_GfLog.l0]; rw [if_pos trivial]
  | j + 1, a, x, i, k, ha, hx, he, hi, hk => by
    obtain ⟨k, rfl⟩ : ∃ m, k = m + 1 := ⟨k - 1, by omega⟩
    by_cases hxa : x = a
    · subst hxa
      refine ⟨(i : Int), ?_, ?_⟩
      · simp only [spec_GfLog.l0]; rw [if_pos (by omega), if_pos trivial]
      · simp only [impl_GfLog.l0]; rw [if_pos trivial]
    · obtain ⟨n, h1, h2⟩ := log_l j a (Gf.dbl x) (i + 1) k ha (Gf.dbl_lt x hx) he (by omega) (by omega)
      have hw : wrap64 ((i : Int) + 1) = ((i + 1 : Nat) : Int) := by unfold wrap64; omega
      have ht : spec_l02Times.f k (x : Int) 2 = some ((Gf.dbl x : Nat) : Int) := by
        have := spec_times k x 2 hx (by decide) (by omega)
        rw [Gf.mul_two x hx] at this
        exact this
      refine ⟨n, ?_, ?_⟩
      · simp only [spec_GfLog.l0]; rw [if_pos (by omega), if_neg (by omega), ht]; simp only [Option.bind_some]; rw [hw]; exact h1
      · simp only [impl_GfLog.l0]; rw [if_neg (by omega), impl_double_is x hx]; simp only [Option.bind_some]; rw [hw]; exact h2
/-- No power of 2 is 0: the loop of the reference ends with nothing. -/
theorem log_none : ∀ (j : Nat) (x i k : Nat), x < 256 → x ≠ 0 → i + j = 255 → j + 20 < k → spec_GfLog.l0 k 0 (x : Int) (i : Int) = some (0, 3)
  | 0, x, i, k, hx, h0, hi, hk => by
    obtain ⟨k, rfl⟩ : ∃ m, k = m + 1 := ⟨k - 1, by omega⟩
    simp only [spec_GfLog.l0]; rw [if_neg (by omega)]
  | j + 1, x, i, k, hx, h0, hi, hk => by
    obtain ⟨k, rfl⟩ : ∃ m, k = m + 1 := ⟨k - 1, by omega⟩
    have hw : wrap64 ((i : Int) + 1) = ((i + 1 : Nat) : Int) := by unfold wrap64; omega
    have ht : spec_l02Times.f k (x : Int) 2 = some ((Gf.dbl x : Nat) : Int) := by
      have := spec_times k x 2 hx (by decide) (by omega)
      rw [Gf.mul_two x hx] at this
      exact this
    have hd : Gf.dbl x ≠ 0 := dbl_ne x hx h0
    simp only [spec_GfLog.l0]; rw [if_pos (by omega), if_neg (by omega), ht]; simp only [Option.bind_some]; rw [hw]
    exact log_none j _ _ k (Gf.dbl_lt x hx) hd (by omega) (by omega)
end FnExactGfLogAid
open FnExactGfLogAid
theorem FnExactGfLog : laws_FnExactGfLog.Pure := by
  intro a _
  refine ⟨300, ?_⟩
  unfold laws_FnExactGfLog.f spec_GfLog.f impl_GfLog.f
  rcases el_cases a with ⟨a, ha, rfl⟩ | ha
  · rw [spec_el_yes a ha, impl_el_yes a ha]
    simp only [Option.bind_some, if_true]
    by_cases h0 : a = 0
    · subst h0
      have := log_none 255 1 0 300 (by decide) (by decide) (by decide) (by decide)
      rw [if_pos (by omega)]
      rw [show ((0 : Nat) : Int) = 0 from rfl] at this ⊢
      rw [show ((1 : Nat) : Int) = 1 from rfl] at this
      rw [this]; simp
    · obtain ⟨i, hi, he⟩ := Gf.log_some ha h0
      obtain ⟨n, h1, h2⟩ := log_l i a 1 0 300 ha (by decide) he (by omega) (by omega)
      rw [if_neg (by omega)]
      rw [show ((1 : Nat) : Int) = 1 from rfl, show ((0 : Nat) : Int) = 0 from rfl] at h1 h2
      rw [h1, h2]; simp
  · rw [spec_el_no a ha, impl_el_no a ha]
    simp
end Go.Proofs.Ythdmadppbphepaa.Pure
