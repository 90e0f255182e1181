/- The program's GfMul answers as the reference's does, for all arguments. -/
import Derived.Test.YthdmadppbphepaaPFnExactGfMulx1
import Derived.Test.YthdmadppbphepaaGf
namespace Go.Proofs.Ythdmadppbphepaa.Pure
open Go Go.RowKit Go.Proofs.Ythdmadppbphepaa Go.Proofs.Ythdmadppbphepaa.PFnExactGfMul Go.Proofs.YthdmadppbphepaaW.PrintWords Go.Proofs.YthdmadppbphepaaW.PrintLast
set_option linter.unusedVariables false
namespace FnExactGfMulAid
theorem el_cases (a : Int) : (∃ n : Nat, n < 256 ∧ a = (n : Int)) ∨ ¬ (0 ≤ a ∧ a ≤ 255) := by
  by_cases h : 0 ≤ a ∧ a ≤ 255
  · exact .inl ⟨a.toNat, by omega, by omega⟩
  · exact .inr h
theorem w2 (a : Nat) (h : a < 256) : wrap64 ((a : Int) * 2) = ((2 * a : Nat) : Int) := by unfold wrap64; omega
theorem xor285 (a : Nat) (h : a < 256) : bits .xor .i64 ((2 * a : Nat) : Int) 285 = (((2 * a) ^^^ 285 : Nat) : Int) := Gf.xor_nat (2 * a) 285 (by omega) (by decide)
theorem spec_el_yes (a : Nat) (h : a < 256) : spec_l02Byte.f (a : Int) = some true := by
  unfold spec_l02Byte.f spec_l00In.f
  rw [if_pos (by omega)]; simp; omega
theorem spec_el_no (a : Int) (h : ¬ (0 ≤ a ∧ a ≤ 255)) : spec_l02Byte.f a = some false := by
  unfold spec_l02Byte.f spec_l00In.f
  by_cases h0 : a ≥ 0
  · rw [if_pos h0]; simp; omega
  · rw [if_neg h0]; rfl
theorem impl_el_yes (a : Nat) (h : a < 256) : impl_isElement.f (a : Int) = some true := by
  unfold impl_isElement.f impl_between.f
  rw [if_pos (by omega)]; simp; omega
theorem impl_el_no (a : Int) (h : ¬ (0 ≤ a ∧ a ≤ 255)) : impl_isElement.f a = some false := by
  unfold impl_isElement.f impl_between.f
  by_cases h0 : a ≥ 0
  · rw [if_pos h0]; simp; omega
  · rw [if_neg h0]; rfl
theorem spec_times_l : ∀ (j k a b c : Nat), a < 256 → b < 256 → c < 256 → j ≤ 8 → j < k →
    spec_l02Times.l0 k (a : Int) (b : Int) (c : Int) ((8 - j : Nat) : Int) = some ((Gf.mulN j a b c : Nat) : Int)
  | 0, k, a, b, c, ha, hb, hc, hj, hk => by
    obtain ⟨k, rfl⟩ : ∃ m, k = m + 1 := ⟨k - 1, by omega⟩
    simp only [spec_l02Times.l0]
    rw [if_neg (by omega)]
    rfl
  | j + 1, k, a, b, c, ha, hb, hc, hj, hk => by
    obtain ⟨k, rfl⟩ : ∃ m, k = m + 1 := ⟨k - 1, by omega⟩
    simp only [spec_l02Times.l0]
    have hi : wrap64 (((8 - (j + 1) : Nat) : Int) + 1) = ((8 - j : Nat) : Int) := by unfold wrap64; omega
    have hb2 : (b : Int) / 2 = ((b / 2 : Nat) : Int) := by omega
    have hx : bits .xor .i64 (c : Int) (a : Int) = ((c ^^^ a : Nat) : Int) := Gf.xor_nat c a (by omega) (by omega)
    have hd := Gf.dbl_lt a ha
    rw [if_pos (by omega), Gf.and_one b (by omega), w2 a ha, hi, hb2, hx, xor285 a ha]
    unfold Gf.mulN
    by_cases h1 : b % 2 = 1
    · rw [if_neg (by omega), if_pos h1]
      by_cases h2 : 255 < 2 * a
      · have e : (2 * a) ^^^ 285 = Gf.dbl a := (if_pos h2).symm
        rw [if_pos (by omega), e]
        exact spec_times_l j k _ _ _ hd (by omega) (Gf.xor_lt hc ha) (by omega) (by omega)
      · have e : 2 * a = Gf.dbl a := (if_neg h2).symm
        rw [if_neg (by omega), e]
        exact spec_times_l j k _ _ _ hd (by omega) (Gf.xor_lt hc ha) (by omega) (by omega)
    · rw [if_pos (by omega), if_neg h1]
      by_cases h2 : 255 < 2 * a
      · have e : (2 * a) ^^^ 285 = Gf.dbl a := (if_pos h2).symm
        rw [if_pos (by omega), e]
        exact spec_times_l j k _ _ _ hd (by omega) hc (by omega) (by omega)
      · have e : 2 * a = Gf.dbl a := (if_neg h2).symm
        rw [if_neg (by omega), e]
        exact spec_times_l j k _ _ _ hd (by omega) hc (by omega) (by omega)
theorem spec_times (k a b : Nat) (ha : a < 256) (hb : b < 256) (hk : 8 < k) : spec_l02Times.f k (a : Int) (b : Int) = some ((Gf.mul a b : Nat) : Int) :=
  spec_times_l 8 k a b 0 ha hb (by decide) (by decide) hk
theorem impl_double_is (a : Nat) (ha : a < 256) : impl_double.f (a : Int) = some ((Gf.dbl a : Nat) : Int) := by
  unfold impl_double.f Gf.dbl
  rw [w2 a ha, xor285 a ha]
  by_cases h2 : 255 < 2 * a
  · rw [if_pos (by omega), if_pos h2]
  · rw [if_neg (by omega), if_neg h2]
theorem impl_times_l : ∀ (j k a b c : Nat), a < 256 → b < 2 ^ j → b < 256 → c < 256 → j < k →
    impl_times.l0 k (a : Int) (b : Int) (c : Int) = some ((Gf.mulN j a b c : Nat) : Int)
  | 0, k, a, b, c, ha, hb, hb', hc, hk => by
    obtain ⟨k, rfl⟩ : ∃ m, k = m + 1 := ⟨k - 1, by omega⟩
    have h0 : b = 0 := by simpa using hb
    subst h0
    simp only [impl_times.l0]
    rw [if_neg (by omega)]
    rfl
  | j + 1, k, a, b, c, ha, hb, hb', hc, hk => by
    obtain ⟨k, rfl⟩ : ∃ m, k = m + 1 := ⟨k - 1, by omega⟩
    by_cases h0 : b = 0
    · subst h0
      rw [Gf.mulN_zero]
      simp only [impl_times.l0]
      rw [if_neg (by omega)]
    · simp only [impl_times.l0]
      have hq : wrap64 (Int.tdiv (b : Int) 2) = ((b / 2 : Nat) : Int) := by
        rw [Int.tdiv_eq_ediv_of_nonneg (by omega)]; unfold wrap64; omega
      have hm : Int.tmod (b : Int) 2 = ((b % 2 : Nat) : Int) := by rw [Int.tmod_eq_emod_of_nonneg (by omega)]; omega
      have hx : bits .xor .i64 (c : Int) (a : Int) = ((c ^^^ a : Nat) : Int) := Gf.xor_nat c a (by omega) (by omega)
      have hb2 : b / 2 < 2 ^ j := by rw [Nat.pow_succ] at hb; omega
      rw [if_pos (by omega), hq, hm, hx, impl_double_is a ha]
      simp only [Option.bind_some]
      unfold Gf.mulN
      by_cases h1 : b % 2 = 1
      · rw [if_pos (by omega), if_pos h1]
        exact impl_times_l j k _ _ _ (Gf.dbl_lt a ha) hb2 (by omega) (Gf.xor_lt hc ha) (by omega)
      · rw [if_neg (by omega), if_neg h1]
        exact impl_times_l j k _ _ _ (Gf.dbl_lt a ha) hb2 (by omega) hc (by omega)
theorem impl_times_is (k a b : Nat) (ha : a < 256) (hb : b < 256) (hk : 8 < k) : impl_times.f k (a : Int) (b : Int) = some ((Gf.mul a b : Nat) : Int) :=
  impl_times_l 8 k a b 0 ha (by simpa using hb) hb (by decide) hk

end FnExactGfMulAid
open FnExactGfMulAid
theorem FnExactGfMul : laws_FnExactGfMul.Pure := by
  intro a b _ _
  refine ⟨9, ?_⟩
  unfold laws_FnExactGfMul.f spec_GfMul.f impl_GfMul.f
  rcases el_cases a with ⟨a, ha, rfl⟩ | ha
  · rw [spec_el_yes a ha, impl_el_yes a ha]
    rcases el_cases b with ⟨b, hb, rfl⟩ | hb
    · rw [spec_el_yes b hb, impl_el_yes b hb, spec_times 9 a b ha hb (by decide), impl_times_is 9 a b ha hb (by decide)]
      simp
    · rw [spec_el_no b hb, impl_el_no b hb]
      simp
  · rw [spec_el_no a ha, impl_el_no a ha]
    simp
end Go.Proofs.Ythdmadppbphepaa.Pure
