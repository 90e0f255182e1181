/- The program's GfDiv answers as the reference's does, for all arguments. -/
import Derived.Test.YtgdlpdkkncjbbaaPFnExactGfDivx2
import Derived.Test.YtgdlpdkkncjbbaaGf
namespace Go.Proofs.Ytgdlpdkkncjbbaa.Pure
open Go Go.RowKit Go.Proofs.Ytgdlpdkkncjbbaa Go.Proofs.Ytgdlpdkkncjbbaa.PFnExactGfDiv Go.Proofs.YtgdlpdkkncjbbaaW.PrintWords Go.Proofs.YtgdlpdkkncjbbaaW.PrintLast
set_option linter.unusedVariables false
namespace FnExactGfDivAid
theorem el_cases (a : Int) : (∃ n : Nat, n < 256 ∧ a = (n : Int)) ∨ ¬ (0 ≤ a ∧ a ≤ 255) := by
  by_cases h : 0 ≤ a ∧ a ≤ 255
  · exact .inl ⟨a.toNat, by omega, by omega⟩
  · exact .inr h
theorem w2 (a : Nat) (h : a < 256) : wrap64 ((a : Int) * 2) = ((2 * a : Nat) : Int) := by unfold wrap64; omega
theorem xor285 (a : Nat) (h : a < 256) : bits .xor .i64 ((2 * a : Nat) : Int) 285 = (((2 * a) ^^^ 285 : Nat) : Int) := Gf.xor_nat (2 * a) 285 (by omega) (by decide)
theorem spec_el_yes (a : Nat) (h : a < 256) : spec_l02Byte.f (a : Int) = some true := by
  unfold spec_l02Byte.f spec_l00In.f
  rw [if_pos (by omega)]; simp; omega
theorem spec_el_no (a : Int) (h : ¬ (0 ≤ a ∧ a ≤ 255)) : spec_l02Byte.f a = some false := by
  unfold spec_l02Byte.f spec_l00In.f
  by_cases h0 : a ≥ 0
  · rw [if_pos h0]; simp; omega
  · rw [if_neg h0]; rfl
theorem impl_el_yes (a : Nat) (h : a < 256) : impl_isElement.f (a : Int) = some true := by
  unfold impl_isElement.f impl_between.f
  rw [if_pos (by omega)]; simp; omega
theorem impl_el_no (a : Int) (h : ¬ (0 ≤ a ∧ a ≤ 255)) : impl_isElement.f a = some false := by
  unfold impl_isElement.f impl_between.f
  by_cases h0 : a ≥ 0
  · rw [if_pos h0]; simp; omega
  · rw [if_neg h0]; rfl
theorem spec_times_l : ∀ (j k a b c : Nat), a < 256 → b < 256 → c < 256 → j ≤ 8 → j < k →
    spec_l02Times.l0 k (a : Int) (b : Int) (c : Int) ((8 - j : Nat) : Int) = some ((Gf.mulN j a b c : Nat) : Int)
  | 0, k, a, b, c, ha, hb, hc, hj, hk => by
    obtain ⟨k, rfl⟩ : ∃ m, k = m + 1 := ⟨k - 1, by omega⟩
    simp only [spec_l02Times.l0]
    rw [if_neg (by omega)]
    rfl
  | j + 1, k, a, b, c, ha, hb, hc, hj, hk => by
    obtain ⟨k, rfl⟩ : ∃ m, k = m + 1 := ⟨k - 1, by omega⟩
    simp only [spec_l02Times.l0]
    have hi : wrap64 (((8 - (j + 1) : Nat) : Int) + 1) = ((8 - j : Nat) : Int) := by unfold wrap64; omega
    have hb2 : (b : Int) / 2 = ((b / 2 : Nat) : Int) := by omega
    have hx : bits .xor .i64 (c : Int) (a : Int) = ((c ^^^ a : Nat) : Int) := Gf.xor_nat c a (by omega) (by omega)
    have hd := Gf.dbl_lt a ha
    rw [if_pos (by omega), Gf.and_one b (by omega), w2 a ha, hi, hb2, hx, xor285 a ha]
    unfold Gf.mulN
    by_cases h1 : b % 2 = 1
    · rw [if_neg (by omega), if_pos h1]
      by_cases h2 : 255 < 2 * a
      · have e : (2 * a) ^^^ 285 = Gf.dbl a := (if_pos h2).symm
        rw [if_pos (by omega), e]
        exact spec_times_l j k _ _ _ hd (by omega) (Gf.xor_lt hc ha) (by omega) (by omega)
      · have e : 2 * a = Gf.dbl a := (if_neg h2).symm
        rw [if_neg (by omega), e]
        exact spec_times_l j k _ _ _ hd (by omega) (Gf.xor_lt hc ha) (by omega) (by omega)
    · rw [if_pos (by omega), if_neg h1]
      by_cases h2 : 255 < 2 * a
      · have e : (2 * a) ^^^ 285 = Gf.dbl a := (if_pos h2).symm
        rw [if_pos (by omega), e]
        exact spec_times_l j k _ _ _ hd (by omega) hc (by omega) (by omega)
      · have e : 2 * a = Gf.dbl a := (if_neg h2).symm
        rw [if_neg (by omega), e]
        exact spec_times_l j k _ _ _ hd (by omega) hc (by omega) (by omega)
theorem spec_times (k a b : Nat) (ha : a < 256) (hb : b < 256) (hk : 8 < k) : spec_l02Times.f k (a : Int) (b : Int) = some ((Gf.mul a b : Nat) : Int) :=
  spec_times_l 8 k a b 0 ha hb (by decide) (by decide) hk
theorem impl_double_is (a : Nat) (ha : a < 256) : impl_double.f (a : Int) = some ((Gf.dbl a : Nat) : Int) := by
  unfold impl_double.f Gf.dbl
  rw [w2 a ha, xor285 a ha]
  by_cases h2 : 255 < 2 * a
  · rw [if_pos (by omega), if_pos h2]
  · rw [if_neg (by omega), if_neg h2]
theorem impl_times_l : ∀ (j k a b c : Nat), a < 256 → b < 2 ^ j → b < 256 → c < 256 → j < k →
    impl_times.l0 k (a : Int) (b : Int) (c : Int) = some ((Gf.mulN j a b c : Nat) : Int)
  | 0, k, a, b, c, ha, hb, hb', hc, hk => by
    obtain ⟨k, rfl⟩ : ∃ m, k = m + 1 := ⟨k - 1, by omega⟩
    have h0 : b = 0 := by simpa using hb
    subst h0
    simp only [impl_times.l0]
    rw [if_neg (by omega)]
    rfl
  | j + 1, k, a, b, c, ha, hb, hb', hc, hk => by
    obtain ⟨k, rfl⟩ : ∃ m, k = m + 1 := ⟨k - 1, by omega⟩
    by_cases h0 : b = 0
    · subst h0
      rw [Gf.mulN_zero]
      simp only [impl_times.l0]
      rw [if_neg (by omega)]
    · simp only [impl_times.l0]
      have hq : wrap64 (Int.tdiv (b : Int) 2) = ((b / 2 : Nat) : Int) := by
        rw [Int.tdiv_eq_ediv_of_nonneg (by omega)]; unfold wrap64; omega
      have hm : Int.tmod (b : Int) 2 = ((b % 2 : Nat) : Int) := by rw [Int.tmod_eq_emod_of_nonneg (by omega)]; omega
      have hx : bits .xor .i64 (c : Int) (a : Int) = ((c ^^^ a : Nat) : Int) := Gf.xor_nat c a (by omega) (by omega)
      have hb2 : b / 2 < 2 ^ j := by rw [Nat.pow_succ] at hb; omega
      rw [if_pos (by omega), hq, hm, hx, impl_double_is a ha]
      simp only [Option.bind_some]
      unfold Gf.mulN
      by_cases h1 : b % 2 = 1
      · rw [if_pos (by omega), if_pos h1]
        exact impl_times_l j k _ _ _ (Gf.dbl_lt a ha) hb2 (by omega) (Gf.xor_lt hc ha) (by omega)
      · rw [if_neg (by omega), if_neg h1]
        exact impl_times_l j k _ _ _ (Gf.dbl_lt a ha) hb2 (by omega) hc (by omega)
theorem impl_times_is (k a b : Nat) (ha : a < 256) (hb : b < 256) (hk : 8 < k) : impl_times.f k (a : Int) (b : Int) = some ((Gf.mul a b : Nat) : Int) :=
  impl_times_l 8 k a b 0 ha (by simpa using hb) hb (by decide) hk
theorem pow_zero : ∀ j a c, Gf.powN j a 0 c = c
  | 0, _, _ => rfl
  | j + 1, a, c => by
    show Gf.powN j _ (0 / 2) (if 0 % 2 = 1 then _ else c) = c
    rw [if_neg (by decide)]
    exact pow_zero j _ c
theorem impl_power_l : ∀ (j k a n c : Nat), a < 256 → c < 256 → n < 2 ^ j → n < 9223372036854775808 → j + 9 < k →
    impl_power.l0 k (a : Int) (n : Int) (c : Int) = some ((Gf.powN j a n c : Nat) : Int)
  | 0, k, a, n, c, ha, hc, hn, hm, hk => by
    obtain ⟨k, rfl⟩ : ∃ m, k = m + 1 := ⟨k - 1, by omega⟩
    have h0 : n = 0 := by simpa using hn
    subst h0
    simp only [impl_power.l0]
    rw [if_neg (by omega)]
    rfl
  | j + 1, k, a, n, c, ha, hc, hn, hm, hk => by
    obtain ⟨k, rfl⟩ : ∃ m, k = m + 1 := ⟨k - 1, by omega⟩
    have hn2 : n / 2 < 2 ^ j := by rw [Nat.pow_succ] at hn; omega
    by_cases h0 : n = 0
    · subst h0
      have e : Gf.powN (j + 1) a 0 c = c := pow_zero (j + 1) a c
      rw [e]
      simp only [impl_power.l0]
      rw [if_neg (by omega)]
    · simp only [impl_power.l0]
      have hq : wrap64 (Int.tdiv (n : Int) 2) = ((n / 2 : Nat) : Int) := by
        rw [Int.tdiv_eq_ediv_of_nonneg (by omega)]; unfold wrap64; omega
      have hmod : Int.tmod (n : Int) 2 = ((n % 2 : Nat) : Int) := by rw [Int.tmod_eq_emod_of_nonneg (by omega)]; omega
      rw [if_pos (by omega), hq, hmod, impl_times_is k a a ha ha (by omega), impl_times_is k c a hc ha (by omega)]
      simp only [Option.bind_some]
      unfold Gf.powN
      by_cases h1 : n % 2 = 1
      · rw [if_pos (by omega), if_pos h1]
        exact impl_power_l j k _ _ _ (Gf.mul_lt ha) (Gf.mul_lt hc) hn2 (by omega) (by omega)
      · rw [if_neg (by omega), if_neg h1]
        exact impl_power_l j k _ _ _ (Gf.mul_lt ha) hc hn2 (by omega) (by omega)
theorem spec_power_l : ∀ (j k a n c : Nat), a < 256 → c < 256 → n < 2 ^ j → n < 9223372036854775808 → j + 9 < k →
    spec_l02Pow.l0 k (a : Int) (n : Int) (c : Int) = some ((Gf.powN j a n c : Nat) : Int)
  | 0, k, a, n, c, ha, hc, hn, hm, hk => by
    obtain ⟨k, rfl⟩ : ∃ m, k = m + 1 := ⟨k - 1, by omega⟩
    have h0 : n = 0 := by simpa using hn
    subst h0
    simp only [spec_l02Pow.l0]
    rw [if_neg (by omega)]
    rfl
  | j + 1, k, a, n, c, ha, hc, hn, hm, hk => by
    obtain ⟨k, rfl⟩ : ∃ m, k = m + 1 := ⟨k - 1, by omega⟩
    have hn2 : n / 2 < 2 ^ j := by rw [Nat.pow_succ] at hn; omega
    by_cases h0 : n = 0
    · subst h0
      have e : Gf.powN (j + 1) a 0 c = c := pow_zero (j + 1) a c
      rw [e]
      simp only [spec_l02Pow.l0]
      rw [if_neg (by omega)]
    · simp only [spec_l02Pow.l0]
      have hq : wrap64 (Int.tdiv (n : Int) 2) = ((n / 2 : Nat) : Int) := by
        rw [Int.tdiv_eq_ediv_of_nonneg (by omega)]; unfold wrap64; omega
      have hmod : Int.tmod (n : Int) 2 = ((n % 2 : Nat) : Int) := by rw [Int.tmod_eq_emod_of_nonneg (by omega)]; omega
      rw [if_pos (by omega), hq, hmod, spec_times k a a ha ha (by omega), spec_times k c a hc ha (by omega)]
      simp only [Option.bind_some]
      unfold Gf.powN
      by_cases h1 : n % 2 = 1
      · rw [if_pos (by omega), if_pos h1]
        exact spec_power_l j k _ _ _ (Gf.mul_lt ha) (Gf.mul_lt hc) hn2 (by omega) (by omega)
      · rw [if_neg (by omega), if_neg h1]
        exact spec_power_l j k _ _ _ (Gf.mul_lt ha) hc hn2 (by omega) (by omega)
theorem impl_inverse_is (k a : Nat) (ha : a < 256) (hk : 40 < k) : impl_inverse.f k (a : Int) = some ((Gf.pow a 254 : Nat) : Int) := by
  unfold impl_inverse.f impl_power.f
  have := impl_power_l 8 k a 254 1 ha (by decide) (by decide) (by decide) (by omega)
  rw [Gf.powN_is 8 a 254 1 ha (by decide) (by decide), Gf.one_mul (Gf.pow_lt ha 254)] at this
  rw [show ((1 : Nat) : Int) = 1 from rfl, show ((254 : Nat) : Int) = 254 from rfl] at this
  rw [this]; rfl
theorem spec_inverse_is (k a : Nat) (ha : a < 256) (hk : 40 < k) : spec_l02Inv.f k (a : Int) = some ((Gf.pow a 254 : Nat) : Int) := by
  unfold spec_l02Inv.f spec_l02Pow.f
  have := spec_power_l 8 k a 254 1 ha (by decide) (by decide) (by decide) (by omega)
  rw [Gf.powN_is 8 a 254 1 ha (by decide) (by decide), Gf.one_mul (Gf.pow_lt ha 254)] at this
  rw [show ((1 : Nat) : Int) = 1 from rfl, show ((254 : Nat) : Int) = 254 from rfl] at this
  rw [this]; rfl
theorem impl_div_no (k : Nat) (a b : Int) : impl_GfDiv.j0 (k + 1) a b true = some (0, 2) := by simp [impl_GfDiv.j0]
theorem impl_div_yes (k a b : Nat) (ha : a < 256) (hb : b < 256) (hk : 40 < k) : impl_GfDiv.j0 (k + 1) (a : Int) (b : Int) false = if b = 0 then some (0, 3) else some (((Gf.mul a (Gf.pow b 254) : Nat) : Int), 0) := by
  simp only [impl_GfDiv.j0]
  rw [if_neg (by decide), impl_inverse_is k b hb hk, Option.bind_some, impl_times_is k a _ ha (Gf.pow_lt hb 254) (by omega), Option.bind_some]
  by_cases h : b = 0
  · rw [if_pos (by omega), if_pos h]
  · rw [if_neg (by omega), if_neg h]
theorem spec_div_no (k : Nat) (a b : Int) : spec_GfDiv.j0 (k + 1) a b true = some (0, 2) := by simp [spec_GfDiv.j0]
theorem spec_div_yes (k a b : Nat) (ha : a < 256) (hb : b < 256) (hk : 40 < k) : spec_GfDiv.j0 (k + 1) (a : Int) (b : Int) false = if b = 0 then some (0, 3) else some (((Gf.mul a (Gf.pow b 254) : Nat) : Int), 0) := by
  simp only [spec_GfDiv.j0]
  rw [if_neg (by decide), spec_inverse_is k b hb hk, Option.bind_some, spec_times k a _ ha (Gf.pow_lt hb 254) (by omega), Option.bind_some]
  by_cases h : b = 0
  · rw [if_pos (by omega), if_pos h]
  · rw [if_neg (by omega), if_neg h]
theorem div_k (k : Nat) (hk : 80 < k) (a b : Int) : laws_FnExactGfDiv.f (k + 1) a b = some true := by
  unfold laws_FnExactGfDiv.f spec_GfDiv.f impl_GfDiv.f
  rcases el_cases a with ⟨a, ha, rfl⟩ | ha
  · rw [spec_el_yes a ha, impl_el_yes a ha, Option.bind_some, Option.bind_some, if_pos rfl, if_pos rfl]
    rcases el_cases b with ⟨b, hb, rfl⟩ | hb
    · rw [spec_el_yes b hb, impl_el_yes b hb, Option.bind_some, Option.bind_some, show (!true) = false from rfl, spec_div_yes k a b ha hb (by omega), impl_div_yes k a b ha hb (by omega)]
      generalize Gf.mul a (Gf.pow b 254) = r
      by_cases h : b = 0
      · rw [if_pos h]; simp
      · rw [if_neg h]; simp
    · rw [spec_el_no b hb, impl_el_no b hb, Option.bind_some, Option.bind_some, show (!false) = true from rfl, spec_div_no, impl_div_no]
      simp
  · rw [spec_el_no a ha, impl_el_no a ha, Option.bind_some, Option.bind_some, if_neg (by decide), if_neg (by decide), spec_div_no, impl_div_no]
    simp
end FnExactGfDivAid
open FnExactGfDivAid
theorem FnExactGfDiv : laws_FnExactGfDiv.Pure := fun a b _ _ => ⟨101, div_k 100 (by decide) a b⟩
end Go.Proofs.Ytgdlpdkkncjbbaa.Pure
