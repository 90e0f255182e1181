/- Field addition and multiplication are associative and commutative, multiplication distributes over addition, and division inverts multiplication. -/
import Derived.Test.YtgdlpdkkncjbbaaMFnFieldx2
import Derived.Test.YtgdlpdkkncjbbaaGf
import Derived.Test.YtgdlpdkkncjbbaaStmFnField
namespace Go.Proofs.Ytgdlpdkkncjbbaa.Pure
open Go Go.RowKit Go.Proofs.Ytgdlpdkkncjbbaa Go.Proofs.Ytgdlpdkkncjbbaa.MFnField Go.Proofs.YtgdlpdkkncjbbaaW.PrintWords Go.Proofs.YtgdlpdkkncjbbaaW.PrintLast
set_option linter.unusedVariables false
namespace FnFieldAid
theorem w2 (a : Nat) (h : a < 256) : wrap64 ((a : Int) * 2) = ((2 * a : Nat) : Int) := by unfold wrap64; omega
theorem xor285 (a : Nat) (h : a < 256) : bits .xor .i64 ((2 * a : Nat) : Int) 285 = (((2 * a) ^^^ 285 : Nat) : Int) := Gf.xor_nat (2 * a) 285 (by omega) (by decide)
theorem impl_el_yes (a : Nat) (h : a < 256) : impl_isElement.f (a : Int) = some true := by
  unfold impl_isElement.f impl_between.f
  rw [if_pos (by omega)]; simp; omega
theorem impl_el_no (a : Int) (h : ¬ (0 ≤ a ∧ a ≤ 255)) : impl_isElement.f a = some false := by
  unfold impl_isElement.f impl_between.f
  by_cases h0 : a ≥ 0
  · rw [if_pos h0]; simp; omega
  · rw [if_neg h0]; rfl
theorem impl_double_is (a : Nat) (ha : a < 256) : impl_double.f (a : Int) = some ((Gf.dbl a : Nat) : Int) := by
  unfold impl_double.f Gf.dbl
  rw [w2 a ha, xor285 a ha]
  by_cases h2 : 255 < 2 * a
  · rw [if_pos (by omega), if_pos h2]
  · rw [if_neg (by omega), if_neg h2]
theorem impl_times_l : ∀ (j k a b c : Nat), a < 256 → b < 2 ^ j → b < 256 → c < 256 → j < k →
    impl_times.l0 k (a : Int) (b : Int) (c : Int) = some ((Gf.mulN j a b c : Nat) : Int)
  | 0, k, a, b, c, ha, hb, hb', hc, hk => by
    obtain ⟨k, rfl⟩ : ∃ m, k = m + 1 := ⟨k - 1, by omega⟩
    have h0 : b = 0 := by simpa using hb
    subst h0
    simp only [impl_times.l0]
    rw [if_neg (by omega)]
    rfl
  | j + 1, k, a, b, c, ha, hb, hb', hc, hk => by
    obtain ⟨k, rfl⟩ : ∃ m, k = m + 1 := ⟨k - 1, by omega⟩
    by_cases h0 : b = 0
    · subst h0
      rw [Gf.mulN_zero]
      simp only [impl_times.l0]
      rw [if_neg (by omega)]
    · simp only [impl_times.l0]
      have hq : wrap64 (Int.tdiv (b : Int) 2) = ((b / 2 : Nat) : Int) := by
        rw [Int.tdiv_eq_ediv_of_nonneg (by omega)]; unfold wrap64; omega
      have hm : Int.tmod (b : Int) 2 = ((b % 2 : Nat) : Int) := by rw [Int.tmod_eq_emod_of_nonneg (by omega)]; omega
      have hx : bits .xor .i64 (c : Int) (a : Int) = ((c ^^^ a : Nat) : Int) := Gf.xor_nat c a (by omega) (by omega)
      have hb2 : b / 2 < 2 ^ j := by rw [Nat.pow_succ] at hb; omega
      rw [if_pos (by omega), hq, hm, hx, impl_double_is a ha]
      simp only [Option.bind_some]
      unfold Gf.mulN
      by_cases h1 : b % 2 = 1
      · rw [if_pos (by omega), if_pos h1]
        exact impl_times_l j k _ _ _ (Gf.dbl_lt a ha) hb2 (by omega) (Gf.xor_lt hc ha) (by omega)
      · rw [if_neg (by omega), if_neg h1]
        exact impl_times_l j k _ _ _ (Gf.dbl_lt a ha) hb2 (by omega) hc (by omega)
theorem impl_times_is (k a b : Nat) (ha : a < 256) (hb : b < 256) (hk : 8 < k) : impl_times.f k (a : Int) (b : Int) = some ((Gf.mul a b : Nat) : Int) :=
  impl_times_l 8 k a b 0 ha (by simpa using hb) hb (by decide) hk
theorem pow_zero : ∀ j a c, Gf.powN j a 0 c = c
  | 0, _, _ => rfl
  | j + 1, a, c => by
    show Gf.powN j _ (0 / 2) (if 0 % 2 = 1 then _ else c) = c
    rw [if_neg (by decide)]
    exact pow_zero j _ c
theorem impl_power_l : ∀ (j k a n c : Nat), a < 256 → c < 256 → n < 2 ^ j → n < 9223372036854775808 → j + 9 < k →
    impl_power.l0 k (a : Int) (n : Int) (c : Int) = some ((Gf.powN j a n c : Nat) : Int)
  | 0, k, a, n, c, ha, hc, hn, hm, hk => by
    obtain ⟨k, rfl⟩ : ∃ m, k = m + 1 := ⟨k - 1, by omega⟩
    have h0 : n = 0 := by simpa using hn
    subst h0
    simp only [impl_power.l0]
    rw [if_neg (by omega)]
    rfl
  | j + 1, k, a, n, c, ha, hc, hn, hm, hk => by
    obtain ⟨k, rfl⟩ : ∃ m, k = m + 1 := ⟨k - 1, by omega⟩
    have hn2 : n / 2 < 2 ^ j := by rw [Nat.pow_succ] at hn; omega
    by_cases h0 : n = 0
    · subst h0
      have e : Gf.powN (j + 1) a 0 c = c := pow_zero (j + 1) a c
      rw [e]
      simp only [impl_power.l0]
      rw [if_neg (by omega)]
    · simp only [impl_power.l0]
      have hq : wrap64 (Int.tdiv (n : Int) 2) = ((n / 2 : Nat) : Int) := by
        rw [Int.tdiv_eq_ediv_of_nonneg (by omega)]; unfold wrap64; omega
      have hmod : Int.tmod (n : Int) 2 = ((n % 2 : Nat) : Int) := by rw [Int.tmod_eq_emod_of_nonneg (by omega)]; omega
      rw [if_pos (by omega), hq, hmod, impl_times_is k a a ha ha (by omega), impl_times_is k c a hc ha (by omega)]
      simp only [Option.bind_some]
      unfold Gf.powN
      by_cases h1 : n % 2 = 1
      · rw [if_pos (by omega), if_pos h1]
        exact impl_power_l j k _ _ _ (Gf.mul_lt ha) (Gf.mul_lt hc) hn2 (by omega) (by omega)
      · rw [if_neg (by omega), if_neg h1]
        exact impl_power_l j k _ _ _ (Gf.mul_lt ha) hc hn2 (by omega) (by omega)
theorem impl_inverse_is (k a : Nat) (ha : a < 256) (hk : 40 < k) : impl_inverse.f k (a : Int) = some ((Gf.pow a 254 : Nat) : Int) := by
  unfold impl_inverse.f impl_power.f
  have := impl_power_l 8 k a 254 1 ha (by decide) (by decide) (by decide) (by omega)
  rw [Gf.powN_is 8 a 254 1 ha (by decide) (by decide), Gf.one_mul (Gf.pow_lt ha 254)] at this
  rw [show ((1 : Nat) : Int) = 1 from rfl, show ((254 : Nat) : Int) = 254 from rfl] at this
  rw [this]; rfl
theorem impl_div_no (k : Nat) (a b : Int) : impl_GfDiv.j0 (k + 1) a b true = some (0, 2) := by simp [impl_GfDiv.j0]
theorem impl_div_yes (k a b : Nat) (ha : a < 256) (hb : b < 256) (hk : 40 < k) : impl_GfDiv.j0 (k + 1) (a : Int) (b : Int) false = if b = 0 then some (0, 3) else some (((Gf.mul a (Gf.pow b 254) : Nat) : Int), 0) := by
  simp only [impl_GfDiv.j0]
  rw [if_neg (by decide), impl_inverse_is k b hb hk, Option.bind_some, impl_times_is k a _ ha (Gf.pow_lt hb 254) (by omega), Option.bind_some]
  by_cases h : b = 0
  · rw [if_pos (by omega), if_pos h]
  · rw [if_neg (by omega), if_neg h]
theorem wf_u8 {x : Int} (h : (Lit.int .u8 x).wf = true) : 0 ≤ x ∧ x ≤ 255 := by
  simp [Lit.wf, IntKind.min, IntKind.max, IntKind.signed, IntKind.bits] at h
  omega
theorem rd_u8 {l : List Int} (hl : ∀ x ∈ l, (Lit.int .u8 x).wf = true) (i : Int) : 0 ≤ rd l i ∧ rd l i ≤ 255 := by
  unfold rd
  by_cases h : i.toNat < l.length
  · rw [List.getD_eq_getElem?_getD, List.getElem?_eq_getElem h]
    exact wf_u8 (hl _ (List.getElem_mem h))
  · rw [List.getD_eq_getElem?_getD, List.getElem?_eq_none (by omega)]
    simp
/-- A number drawn from bytes lies below the bound. -/
theorem a8At_some {l : List Int} (hl : ∀ x ∈ l, (Lit.int .u8 x).wf = true) (i n : Int) (hi : 0 ≤ i) (hi2 : i < 1000000) (hn : 1 < n) (hn2 : n < 1000000) :
    ∃ r : Int, laws_a8At.f l i n = some r ∧ 0 ≤ r ∧ r < n := by
  unfold laws_a8At.f
  rw [if_neg (by omega)]
  by_cases h0 : (l.length : Int) = 0
  · rw [if_pos h0, if_neg (by omega)]
    have e : wrap64 (i * 7) = i * 7 := by unfold wrap64; omega
    rw [e, Int.tmod_eq_emod_of_nonneg (by omega)]
    exact ⟨_, rfl, Int.emod_nonneg _ (by omega), Int.emod_lt_of_pos _ (by omega)⟩
  · have h1 : wrap64 (i + 1) = i + 1 := by unfold wrap64; omega
    have m1 := Int.emod_nonneg i (show (l.length : Int) ≠ 0 from h0)
    have m2 := Int.emod_lt_of_pos i (show 0 < (l.length : Int) by omega)
    have m3 := Int.emod_nonneg (i + 1) (show (l.length : Int) ≠ 0 from h0)
    have m4 := Int.emod_lt_of_pos (i + 1) (show 0 < (l.length : Int) by omega)
    have d0 : 0 ≤ Int.tdiv i (l.length : Int) := by rw [Int.tdiv_eq_ediv_of_nonneg hi]; exact Int.ediv_nonneg hi (by omega)
    have d1 : Int.tdiv i (l.length : Int) ≤ i := by rw [Int.tdiv_eq_ediv_of_nonneg hi]; exact Int.ediv_le_self _ hi
    rw [h1, Int.tmod_eq_emod_of_nonneg hi, Int.tmod_eq_emod_of_nonneg (show 0 ≤ i + 1 by omega), if_neg h0, if_pos m1, if_pos m2, if_pos m3, if_pos m4, if_neg (by omega)]
    have r1 := rd_u8 hl (i % (l.length : Int))
    have r2 := rd_u8 hl ((i + 1) % (l.length : Int))
    generalize rd l (i % (l.length : Int)) = x at r1 ⊢
    generalize rd l ((i + 1) % (l.length : Int)) = y at r2 ⊢
    generalize Int.tdiv i (l.length : Int) = z at d0 d1 ⊢
    have e : wrap64 (wrap64 (wrap64 (wrap64 x * 31) + wrap64 y) + wrap64 z) = x * 31 + y + z := by unfold wrap64; omega
    rw [e, Int.tmod_eq_emod_of_nonneg (by omega)]
    exact ⟨_, rfl, Int.emod_nonneg _ (by omega), Int.emod_lt_of_pos _ (by omega)⟩
theorem gfmul_is (k a b : Nat) (ha : a < 256) (hb : b < 256) (hk : 8 < k) : impl_GfMul.f k (a : Int) (b : Int) = some (((Gf.mul a b : Nat) : Int), 0) := by
  unfold impl_GfMul.f
  rw [impl_el_yes a ha, impl_el_yes b hb, Option.bind_some, if_pos rfl, Option.bind_some, if_pos rfl, impl_times_is k a b ha hb hk, Option.bind_some]
theorem gfadd_is (a b : Nat) (ha : a < 256) (hb : b < 256) : impl_GfAdd.f (a : Int) (b : Int) = some (((a ^^^ b : Nat) : Int), 0) := by
  unfold impl_GfAdd.f
  rw [impl_el_yes a ha, impl_el_yes b hb, Option.bind_some, if_pos rfl, Option.bind_some, if_pos rfl, Gf.xor_nat a b (by omega) (by omega)]
theorem gfinv_is (k b : Nat) (hb : b < 256) (h0 : b ≠ 0) (hk : 40 < k) : impl_GfInv.f k (b : Int) = some (((Gf.pow b 254 : Nat) : Int), 0) := by
  unfold impl_GfInv.f
  rw [impl_el_yes b hb, Option.bind_some, if_pos rfl, if_neg (by omega), impl_inverse_is k b hb hk, Option.bind_some]
theorem gfdiv_is (k a b : Nat) (ha : a < 256) (hb : b < 256) (hk : 40 < k) : impl_GfDiv.f (k + 1) (a : Int) (b : Int) = if b = 0 then some (0, 3) else some (((Gf.mul a (Gf.pow b 254) : Nat) : Int), 0) := by
  unfold impl_GfDiv.f
  rw [impl_el_yes a ha, impl_el_yes b hb, Option.bind_some, if_pos rfl, Option.bind_some, show (!true) = false from rfl, impl_div_yes k a b ha hb hk]
theorem div_back {a b : Nat} (ha : a < 256) (hb : b < 256) (h0 : b ≠ 0) : Gf.mul (Gf.mul a b) (Gf.pow b 254) = a := by
  rw [Gf.mul_assoc ha hb (Gf.pow_lt hb 254), Gf.inv_mul hb h0, Gf.mul_one a ha]
theorem last_is (k a b : Nat) (hk : 60 < k) (ha : a < 256) (hb : b < 256) : laws_FnField.j0 (k + 2) (a : Int) (b : Int) ((Gf.mul a b : Nat) : Int) false = some true := by
  have hm : Gf.mul a b < 256 := Gf.mul_lt ha
  have hp : Gf.pow b 254 < 256 := Gf.pow_lt hb 254
  simp only [laws_FnField.j0]
  rw [if_neg (by decide), gfdiv_is k _ b hm hb (by omega)]
  by_cases h0 : b = 0
  · subst h0
    rw [if_pos rfl, if_pos (show ((0 : Nat) : Int) = 0 from rfl), Option.bind_some, Gf.mul_zero]
    rfl
  · have e1 : Gf.mul (Gf.mul a b) (Gf.pow b 254) = a := div_back ha hb h0
    have e2 : Gf.mul b (Gf.pow b 254) = 1 := Gf.inv_mul hb h0
    have i1 := gfinv_is (k + 1) b hb h0 (by omega)
    generalize Gf.pow b 254 = p at hp e1 e2 i1 ⊢
    rw [if_neg (by omega), if_neg h0, Option.bind_some, i1, Option.bind_some]
    dsimp only
    rw [gfmul_is (k + 1) b p hb hp (by omega), Option.bind_some, e1, e2]
    dsimp only
    rw [if_pos rfl, if_pos rfl, if_pos rfl, if_pos rfl]
    rfl
theorem field_k (k : Nat) (hk : 60 < k) (l : List Int) (hl : ∀ x ∈ l, (Lit.int .u8 x).wf = true) : laws_FnField.f (k + 2) l = some true := by
  unfold laws_FnField.f
  by_cases hlen : (l.length : Int) > 1048576
  · rw [if_pos hlen]
  · rw [if_neg hlen]
    obtain ⟨a, ha, a0, a1⟩ := a8At_some hl 0 256 (by omega) (by omega) (by omega) (by omega)
    obtain ⟨b, hb, b0, b1⟩ := a8At_some hl 1 256 (by omega) (by omega) (by omega) (by omega)
    obtain ⟨c, hc, c0, c1⟩ := a8At_some hl 2 256 (by omega) (by omega) (by omega) (by omega)
    obtain ⟨a, rfl⟩ := Int.eq_ofNat_of_zero_le a0
    obtain ⟨b, rfl⟩ := Int.eq_ofNat_of_zero_le b0
    obtain ⟨c, rfl⟩ := Int.eq_ofNat_of_zero_le c0
    have a1 : a < 256 := by omega
    have b1 : b < 256 := by omega
    have c1 : c < 256 := by omega
    have m1 := gfmul_is (k + 2) a b a1 b1 (by omega)
    have m2 := gfmul_is (k + 2) b a b1 a1 (by omega)
    have m3 := gfmul_is (k + 2) (Gf.mul a b) c (Gf.mul_lt a1) c1 (by omega)
    have m4 := gfmul_is (k + 2) b c b1 c1 (by omega)
    have m5 := gfmul_is (k + 2) a (Gf.mul b c) a1 (Gf.mul_lt b1) (by omega)
    have m6 := gfmul_is (k + 2) (a ^^^ b) c (Gf.xor_lt a1 b1) c1 (by omega)
    have m7 := gfmul_is (k + 2) a c a1 c1 (by omega)
    have m8 := gfadd_is (Gf.mul a c) (Gf.mul b c) (Gf.mul_lt a1) (Gf.mul_lt b1)
    have m9 := gfmul_is (k + 2) a 1 a1 (by decide) (by omega)
    have m0 := gfadd_is a b a1 b1
    have hx := Gf.xor_nat a b (by omega) (by omega)
    have ml : Gf.mul a b < 256 := Gf.mul_lt a1
    have last := last_is k a b hk a1 b1
    rw [show ((1 : Nat) : Int) = 1 from rfl, Gf.mul_one a a1] at m9
    rw [Gf.mul_comm b1 a1] at m2
    rw [Gf.mul_assoc a1 b1 c1] at m3
    rw [Gf.mul_left c a1 b1] at m6
    generalize Gf.mul a b = p at ml last m1 m2 m3 ⊢
    generalize Gf.mul b c = q at m3 m4 m5 m6 m8 ⊢
    generalize Gf.mul a c = r at m6 m7 m8 ⊢
    generalize Gf.mul a q = s at m3 m5 ⊢
    rw [ha, Option.bind_some, hb, Option.bind_some, hc, Option.bind_some, m0, Option.bind_some, m1, Option.bind_some, m2, Option.bind_some]
    dsimp only
    rw [m3, Option.bind_some, m4, Option.bind_some]
    dsimp only
    rw [m5, Option.bind_some, m6, Option.bind_some, m7, Option.bind_some]
    dsimp only
    rw [m8, Option.bind_some, m9, Option.bind_some]
    dsimp only
    rw [if_pos rfl, if_pos rfl, if_pos rfl, if_pos rfl, if_pos rfl, if_pos rfl, if_pos rfl, if_pos rfl, if_pos rfl, if_pos rfl, if_pos rfl, if_pos rfl, if_pos rfl, if_pos rfl, if_pos hx.symm, if_neg (by omega),
      show decide ((p : Int) > 255) = false from decide_eq_false (by omega)]
    exact last
theorem mul_only {k a b : Nat} {x y : Int} (ha : a < 256) (hb : b < 256) (h : impl_GfMul.f k (a : Int) (b : Int) = some (x, y)) : x = ((Gf.mul a b : Nat) : Int) ∧ y = 0 := by
  have up : ∀ n, impl_GfMul.f (k + n) (a : Int) (b : Int) = some (x, y) := fun n => by
    induction n with
    | zero => exact h
    | succ n ih => exact impl_GfMul.mono _ _ _ _ ih
  have e := up 9
  rw [gfmul_is (k + 9) a b ha hb (by omega)] at e
  have e := Option.some.inj e
  exact ⟨(congrArg Prod.fst e).symm, (congrArg Prod.snd e).symm⟩
theorem add_only {a b : Nat} {x y : Int} (ha : a < 256) (hb : b < 256) (h : impl_GfAdd.f (a : Int) (b : Int) = some (x, y)) : x = ((a ^^^ b : Nat) : Int) ∧ y = 0 := by
  rw [gfadd_is a b ha hb] at h
  have e := Option.some.inj h
  exact ⟨(congrArg Prod.fst e).symm, (congrArg Prod.snd e).symm⟩
theorem field_path (k : Nat) (l : List Int) (hl : ∀ x ∈ l, (Lit.int .u8 x).wf = true) : FieldPath k l := by
  intro t121 t122 t123 t124 t125 t126 t127 t128 t129 t130 t131 t132 t133 t134 t135 t136 t137 t138 t139 t140 t141 t142 t143 A1 A2 A3 A4 A5 A6 A7 A8 A9 A10 A11 A12 A13
  obtain ⟨a, ha, a0, a1⟩ := a8At_some hl 0 256 (by omega) (by omega) (by omega) (by omega)
  obtain ⟨b, hb, b0, b1⟩ := a8At_some hl 1 256 (by omega) (by omega) (by omega) (by omega)
  obtain ⟨c, hc, c0, c1⟩ := a8At_some hl 2 256 (by omega) (by omega) (by omega) (by omega)
  obtain rfl := Option.some.inj (ha.symm.trans A1)
  obtain rfl := Option.some.inj (hb.symm.trans A2)
  obtain rfl := Option.some.inj (hc.symm.trans A3)
  clear A1 A2 A3 ha hb hc
  obtain ⟨a, rfl⟩ := Int.eq_ofNat_of_zero_le a0
  obtain ⟨b, rfl⟩ := Int.eq_ofNat_of_zero_le b0
  obtain ⟨c, rfl⟩ := Int.eq_ofNat_of_zero_le c0
  have a1 : a < 256 := by omega
  have b1 : b < 256 := by omega
  have c1 : c < 256 := by omega
  obtain ⟨rfl, rfl⟩ := add_only a1 b1 A4
  obtain ⟨rfl, rfl⟩ := mul_only a1 b1 A5
  obtain ⟨rfl, rfl⟩ := mul_only b1 a1 A6
  obtain ⟨rfl, rfl⟩ := mul_only (Gf.mul_lt a1) c1 A7
  obtain ⟨rfl, rfl⟩ := mul_only b1 c1 A8
  obtain ⟨rfl, rfl⟩ := mul_only a1 (Gf.mul_lt b1) A9
  obtain ⟨rfl, rfl⟩ := mul_only (Gf.xor_lt a1 b1) c1 A10
  obtain ⟨rfl, rfl⟩ := mul_only a1 c1 A11
  obtain ⟨rfl, rfl⟩ := add_only (Gf.mul_lt a1) (Gf.mul_lt b1) A12
  obtain ⟨rfl, rfl⟩ := mul_only (b := 1) a1 (by decide) A13
  clear A4 A5 A6 A7 A8 A9 A10 A11 A12 A13
  rw [Gf.mul_comm b1 a1, Gf.mul_assoc a1 b1 c1, Gf.mul_left c a1 b1, Gf.mul_one a a1, Gf.xor_nat a b (by omega) (by omega)]
  exact ⟨rfl, rfl, rfl, rfl, rfl, rfl, rfl, rfl, rfl, rfl, rfl, rfl, rfl, rfl, rfl, by omega⟩
end FnFieldAid
open FnFieldAid
theorem FnField : FnFieldStm := fun l h => ⟨102, field_path 102 l h.2, field_k 100 (by decide) l h.2⟩
end Go.Proofs.Ytgdlpdkkncjbbaa.Pure
