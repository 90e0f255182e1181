/- Every nonzero field element is a power of 2 with an exponent below 255, and its own power 255 is 1. -/
import Derived.Test.YthdmadppbphepaaPFnPowersx1
import Derived.Test.YthdmadppbphepaaGf
import Derived.Test.YthdmadppbphepaaStmFnPowers
namespace Go.Proofs.Ythdmadppbphepaa.Pure
open Go Go.RowKit Go.Proofs.Ythdmadppbphepaa Go.Proofs.Ythdmadppbphepaa.PFnPowers Go.Proofs.YthdmadppbphepaaW.PrintWords Go.Proofs.YthdmadppbphepaaW.PrintLast
set_option linter.unusedVariables false
namespace FnPowersAid
theorem w2 (a : Nat) (h : a < 256) : wrap64 ((a : Int) * 2) = ((2 * a : Nat) : Int) := by unfold wrap64; omega
theorem xor285 (a : Nat) (h : a < 256) : bits .xor .i64 ((2 * a : Nat) : Int) 285 = (((2 * a) ^^^ 285 : Nat) : Int) := Gf.xor_nat (2 * a) 285 (by omega) (by decide)
theorem impl_el_yes (a : Nat) (h : a < 256) : impl_isElement.f (a : Int) = some true := by
  unfold impl_isElement.f impl_between.f
  rw [if_pos (by omega)]; simp; omega
theorem impl_el_no (a : Int) (h : ¬ (0 ≤ a ∧ a ≤ 255)) : impl_isElement.f a = some false := by
  unfold impl_isElement.f impl_between.f
  by_cases h0 : a ≥ 0
  · rw [if_pos h0]; simp; omega
  · rw [if_neg h0]; rfl
theorem impl_double_is (a : Nat) (ha : a < 256) : impl_double.f (a : Int) = some ((Gf.dbl a : Nat) : Int) := by
  unfold impl_double.f Gf.dbl
  rw [w2 a ha, xor285 a ha]
  by_cases h2 : 255 < 2 * a
  · rw [if_pos (by omega), if_pos h2]
  · rw [if_neg (by omega), if_neg h2]
theorem impl_times_l : ∀ (j k a b c : Nat), a < 256 → b < 2 ^ j → b < 256 → c < 256 → j < k →
    impl_times.l0 k (a : Int) (b : Int) (c : Int) = some ((Gf.mulN j a b c : Nat) : Int)
  | 0, k, a, b, c, ha, hb, hb', hc, hk => by
    obtain ⟨k, rfl⟩ : ∃ m, k = m + 1 := ⟨k - 1, by omega⟩
    have h0 : b = 0 := by simpa using hb
    subst h0
    simp only [impl_times.l0]
    rw [if_neg (by omega)]
    rfl
  | j + 1, k, a, b, c, ha, hb, hb', hc, hk => by
    obtain ⟨k, rfl⟩ : ∃ m, k = m + 1 := ⟨k - 1, by omega⟩
    by_cases h0 : b = 0
    · subst h0
      rw [Gf.mulN_zero]
      simp only [impl_times.l0]
      rw [if_neg (by omega)]
    · simp only [impl_times.l0]
      have hq : wrap64 (Int.tdiv (b : Int) 2) = ((b / 2 : Nat) : Int) := by
        rw [Int.tdiv_eq_ediv_of_nonneg (by omega)]; unfold wrap64; omega
      have hm : Int.tmod (b : Int) 2 = ((b % 2 : Nat) : Int) := by rw [Int.tmod_eq_emod_of_nonneg (by omega)]; omega
      have hx : bits .xor .i64 (c : Int) (a : Int) = ((c ^^^ a : Nat) : Int) := Gf.xor_nat c a (by omega) (by omega)
      have hb2 : b / 2 < 2 ^ j := by rw [Nat.pow_succ] at hb; omega
      rw [if_pos (by omega), hq, hm, hx, impl_double_is a ha]
      simp only [Option.bind_some]
      unfold Gf.mulN
      by_cases h1 : b % 2 = 1
      · rw [if_pos (by omega), if_pos h1]
        exact impl_times_l j k _ _ _ (Gf.dbl_lt a ha) hb2 (by omega) (Gf.xor_lt hc ha) (by omega)
      · rw [if_neg (by omega), if_neg h1]
        exact impl_times_l j k _ _ _ (Gf.dbl_lt a ha) hb2 (by omega) hc (by omega)
theorem impl_times_is (k a b : Nat) (ha : a < 256) (hb : b < 256) (hk : 8 < k) : impl_times.f k (a : Int) (b : Int) = some ((Gf.mul a b : Nat) : Int) :=
  impl_times_l 8 k a b 0 ha (by simpa using hb) hb (by decide) hk
theorem pow_zero : ∀ j a c, Gf.powN j a 0 c = c
  | 0, _, _ => rfl
  | j + 1, a, c => by
    show Gf.powN j _ (0 / 2) (if 0 % 2 = 1 then _ else c) = c
    rw [if_neg (by decide)]
    exact pow_zero j _ c
theorem impl_power_l : ∀ (j k a n c : Nat), a < 256 → c < 256 → n < 2 ^ j → n < 4611686018427387904 → j + 9 < k →
    impl_power.l0 k (a : Int) (n : Int) (c : Int) = some ((Gf.powN j a n c : Nat) : Int)
  | 0, k, a, n, c, ha, hc, hn, hm, hk => by
    obtain ⟨k, rfl⟩ : ∃ m, k = m + 1 := ⟨k - 1, by omega⟩
    have h0 : n = 0 := by simpa using hn
    subst h0
    simp only [impl_power.l0]
    rw [if_neg (by omega)]
    rfl
  | j + 1, k, a, n, c, ha, hc, hn, hm, hk => by
    obtain ⟨k, rfl⟩ : ∃ m, k = m + 1 := ⟨k - 1, by omega⟩
    have hn2 : n / 2 < 2 ^ j := by rw [Nat.pow_succ] at hn; omega
    by_cases h0 : n = 0
    · subst h0
      have e : Gf.powN (j + 1) a 0 c = c := pow_zero (j + 1) a c
      rw [e]
      simp only [impl_power.l0]
      rw [if_neg (by omega)]
    · simp only [impl_power.l0]
      have hq : wrap64 (Int.tdiv (n : Int) 2) = ((n / 2 : Nat) : Int) := by
        rw [Int.tdiv_eq_ediv_of_nonneg (by omega)]; unfold wrap64; omega
      have hmod : Int.tmod (n : Int) 2 = ((n % 2 : Nat) : Int) := by rw [Int.tmod_eq_emod_of_nonneg (by omega)]; omega
      rw [if_pos (by omega), hq, hmod, impl_times_is k a a ha ha (by omega), impl_times_is k c a hc ha (by omega)]
      simp only [Option.bind_some]
      unfold Gf.powN
      by_cases h1 : n % 2 = 1
      · rw [if_pos (by omega), if_pos h1]
        exact impl_power_l j k _ _ _ (Gf.mul_lt ha) (Gf.mul_lt hc) hn2 (by omega) (by omega)
      · rw [if_neg (by omega), if_neg h1]
        exact impl_power_l j k _ _ _ (Gf.mul_lt ha) hc hn2 (by omega) (by omega)
theorem wf_u8 {x : Int} (h : (Lit.int .u8 x).wf = true) : 0 ≤ x ∧ x ≤ 255 := by
  simp [Lit.wf, IntKind.min, IntKind.max, IntKind.signed, IntKind.bits] at h
  omega
theorem rd_u8 {l : List Int} (hl : ∀ x ∈ l, (Lit.int .u8 x).wf = true) (i : Int) : 0 ≤ rd l i ∧ rd l i ≤ 255 := by
  unfold rd
  by_cases h : i.toNat < l.length
  · rw [List.getD_eq_getElem?_getD, List.getElem?_eq_getElem h]
    exact wf_u8 (hl _ (List.getElem_mem h))
  · rw [List.getD_eq_getElem?_getD, List.getElem?_eq_none (by omega)]
    simp
/-- A number drawn from bytes lies below the bound. -/
theorem a8At_some {l : List Int} (hl : ∀ x ∈ l, (Lit.int .u8 x).wf = true) (i n : Int) (hi : 0 ≤ i) (hi2 : i < 1000000) (hn : 1 < n) (hn2 : n < 1000000) (hlen : l.length < 10000000) :
    ∃ r : Int, laws_a8At.f l i n = some r ∧ 0 ≤ r ∧ r < n := by
  unfold laws_a8At.f
  rw [if_neg (by omega)]
  by_cases h0 : (l.length : Int) = 0
  · rw [if_pos h0, if_neg (by omega)]
    have e : wrap64 (i * 7) = i * 7 := by unfold wrap64; omega
    rw [e, Int.tmod_eq_emod_of_nonneg (by omega)]
    exact ⟨_, rfl, Int.emod_nonneg _ (by omega), Int.emod_lt_of_pos _ (by omega)⟩
  · have h1 : wrap64 (i + 1) = i + 1 := by unfold wrap64; omega
    have m1 := Int.emod_nonneg i (show (l.length : Int) ≠ 0 from h0)
    have m2 := Int.emod_lt_of_pos i (show 0 < (l.length : Int) by omega)
    have m3 := Int.emod_nonneg (i + 1) (show (l.length : Int) ≠ 0 from h0)
    have m4 := Int.emod_lt_of_pos (i + 1) (show 0 < (l.length : Int) by omega)
    have d0 : 0 ≤ Int.tdiv i (l.length : Int) := by rw [Int.tdiv_eq_ediv_of_nonneg hi]; exact Int.ediv_nonneg hi (by omega)
    have d1 : Int.tdiv i (l.length : Int) ≤ i := by rw [Int.tdiv_eq_ediv_of_nonneg hi]; exact Int.ediv_le_self _ hi
    rw [h1, Int.tmod_eq_emod_of_nonneg hi, Int.tmod_eq_emod_of_nonneg (show 0 ≤ i + 1 by omega), if_neg h0, if_pos m1, if_pos m2, if_pos m3, if_pos m4, if_neg (by omega)]
    have r1 := rd_u8 hl (i % (l.length : Int))
    have r2 := rd_u8 hl ((i + 1) % (l.length : Int))
    generalize rd l (i % (l.length : Int)) = x at r1 ⊢
    generalize rd l ((i + 1) % (l.length : Int)) = y at r2 ⊢
    generalize Int.tdiv i (l.length : Int) = z at d0 d1 ⊢
    have e : wrap64 (wrap64 (wrap64 (wrap64 x * 31) + wrap64 y) + wrap64 z) = x * 31 + y + z := by unfold wrap64; omega
    rw [e, Int.tmod_eq_emod_of_nonneg (by omega)]
    exact ⟨_, rfl, Int.emod_nonneg _ (by omega), Int.emod_lt_of_pos _ (by omega)⟩
theorem ilog_l : ∀ (j : Nat) (a x i k : Nat), a < 256 → x < 256 → Gf.dblN j x = a → i + j < 255 → j < k →
    ∃ m : Nat, m ≤ j ∧ Gf.dblN m x = a ∧ impl_GfLog.l0 k (a : Int) (i : Int) (x : Int) = some (((i + m : Nat) : Int), 0)
  | 0, a, x, i, k, ha, hx, he, hi, hk => by
    obtain ⟨k, rfl⟩ : ∃ m, k = m + 1 := ⟨k - 1, by omega⟩
    have hxa : x = a := he
    subst hxa
    exact ⟨0, by omega, rfl, by simp only [impl_GfLog.l0]; rw [if_pos trivial]; rfl⟩
  | j + 1, a, x, i, k, ha, hx, he, hi, hk => by
    obtain ⟨k, rfl⟩ : ∃ m, k = m + 1 := ⟨k - 1, by omega⟩
    by_cases hxa : x = a
    · subst hxa
      exact ⟨0, by omega, rfl, by simp only [impl_GfLog.l0]; rw [if_pos trivial]; rfl⟩
    · obtain ⟨m, h0, h1, h2⟩ := ilog_l j a (Gf.dbl x) (i + 1) k ha (Gf.dbl_lt x hx) he (by omega) (by omega)
      have hw : wrap64 ((i : Int) + 1) = ((i + 1 : Nat) : Int) := by unfold wrap64; omega
      refine ⟨m + 1, by omega, h1, ?_⟩
      simp only [impl_GfLog.l0]; rw [if_neg (by omega), impl_double_is x hx]; simp only [Option.bind_some]; rw [hw, h2]
      rw [show i + 1 + m = i + (m + 1) from by omega]
theorem gfpow_is (k a n : Nat) (ha : a < 256) (hn : n < 2 ^ 20) (hk : 40 < k) : impl_GfPow.f k (a : Int) (n : Int) = some (((Gf.pow a n : Nat) : Int), 0) := by
  unfold impl_GfPow.f impl_power.f
  rw [impl_el_yes a ha]
  have := impl_power_l 20 k a n 1 ha (by decide) hn (by omega) (by omega)
  rw [Gf.powN_is 20 a n 1 ha (by decide) hn, Gf.one_mul (Gf.pow_lt ha n)] at this
  simp only [Option.bind_some, if_true]
  rw [if_neg (by omega)]
  rw [show ((1 : Nat) : Int) = 1 from rfl] at this
  rw [this]
  rfl
theorem sum_is (n m : Nat) (hn : n < 255) (hm : m < 1000) : wrap64 ((n : Int) + wrap64 (255 * (m : Int))) = ((n + 255 * m : Nat) : Int) := by unfold wrap64; omega
theorem gfpow_eq (k a n r : Nat) (ha : a < 256) (hn : n < 2 ^ 20) (hk : 40 < k) (hr : Gf.pow a n = r) : impl_GfPow.f k (a : Int) (n : Int) = some ((r : Int), 0) := by
  rw [← hr]; exact gfpow_is k a n ha hn hk
theorem powers_k (k : Nat) (hk : 400 ≤ k) (l : List Int) (hl : ∀ x ∈ l, (Lit.int .u8 x).wf = true) : laws_FnPowers.f k l = some true := by
  have hk40 : 40 < k := by omega
  unfold laws_FnPowers.f
  by_cases hlen : (l.length : Int) > 1048576
  · rw [if_pos hlen]
  · rw [if_neg hlen]
    obtain ⟨t, ht, t0, t1⟩ := a8At_some hl 0 255 (by omega) (by omega) (by omega) (by omega) (by omega)
    obtain ⟨m, hm, m0, m1⟩ := a8At_some hl 1 1000 (by omega) (by omega) (by omega) (by omega) (by omega)
    obtain ⟨t, rfl⟩ := Int.eq_ofNat_of_zero_le t0
    obtain ⟨m, rfl⟩ := Int.eq_ofNat_of_zero_le m0
    have ha : 1 + t < 256 := by omega
    have hw : wrap64 (1 + (t : Int)) = ((1 + t : Nat) : Int) := by unfold wrap64; omega
    obtain ⟨i, hi, he⟩ := Gf.log_some ha (by omega)
    obtain ⟨n, hn, hd, hlog⟩ := ilog_l i (1 + t) 1 0 k ha (by decide) he (by omega) (by omega)
    rw [show 0 + n = n from by omega, show ((1 : Nat) : Int) = 1 from rfl, show ((0 : Nat) : Int) = 0 from rfl] at hlog
    have hlogf : impl_GfLog.f k ((1 + t : Nat) : Int) = some ((n : Int), 0) := by
      unfold impl_GfLog.f
      rw [impl_el_yes _ ha]
      simp only [Option.bind_some, if_true]
      rw [if_neg (by omega)]
      exact hlog
    have hpow : Gf.pow 2 n = 1 + t := by
      rw [Gf.dblN_pow n 1 (by decide), Gf.one_mul (Gf.pow_lt (by decide) n)] at hd
      exact hd
    have hn255 : n < 255 := Nat.lt_of_le_of_lt hn hi
    have hn20 : n < 2 ^ 20 := Nat.lt_trans hn255 (by decide)
    have hsum := sum_is n m hn255 (by clear he hd hlog hlogf hpow; omega)
    have hnm : n + 255 * m < 2 ^ 20 := by clear he hd hlog hlogf hpow hsum ht hm hn20; omega
    have p1 : impl_GfPow.f k 2 (n : Int) = some (((1 + t : Nat) : Int), 0) := gfpow_eq k 2 n (1 + t) (by decide) hn20 hk40 hpow
    have p2 : impl_GfPow.f k ((1 + t : Nat) : Int) 255 = some (1, 0) := gfpow_eq k (1 + t) 255 1 ha (by decide) hk40 (Gf.pow255 ha (Nat.succ_ne_zero t ∘ (Nat.add_comm 1 t).symm.trans))
    have p3 : impl_GfPow.f k 2 ((n + 255 * m : Nat) : Int) = some (((1 + t : Nat) : Int), 0) :=
      gfpow_eq k 2 (n + 255 * m) (1 + t) (by decide) hnm hk40 ((Gf.pow_period (by decide) (Gf.pow255 (by decide) (by decide)) n m).trans hpow)
    clear hpow hd he hlog
    rw [ht, Option.bind_some, hw, hlogf, Option.bind_some]
    dsimp only
    rw [p1, Option.bind_some, p2, Option.bind_some, hm, Option.bind_some, hsum, p3, Option.bind_some]
    dsimp only
    rw [if_pos rfl, if_pos (by omega), if_pos (by omega), if_pos rfl, if_pos rfl, if_pos rfl, if_pos rfl, if_pos rfl]
    rw [beq_self_eq_true]
end FnPowersAid
open FnPowersAid
theorem FnPowers : FnPowersStm := fun l h => ⟨400, powers_k 400 (Nat.le_refl _) l h.2⟩
end Go.Proofs.Ythdmadppbphepaa.Pure
