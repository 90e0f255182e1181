/- The program's GfScale answers as the reference's does, for all arguments. -/
import Derived.Test.YthdmadppbphepaaMFnExactGfScalex1
import Derived.Test.YthdmadppbphepaaGf
import Derived.Test.YthdmadppbphepaaPlain2
import Derived.Test.YthdmadppbphepaaStmFnExactGfScale
namespace Go.Proofs.Ythdmadppbphepaa.Pure
open Go Go.RowKit Go.Proofs.Ythdmadppbphepaa Go.Proofs.Ythdmadppbphepaa.MFnExactGfScale Go.Proofs.YthdmadppbphepaaW.PrintWords Go.Proofs.YthdmadppbphepaaW.PrintLast
set_option linter.unusedVariables false
namespace FnExactGfScaleAid
theorem el_cases (a : Int) : (∃ n : Nat, n < 256 ∧ a = (n : Int)) ∨ ¬ (0 ≤ a ∧ a ≤ 255) := by
  by_cases h : 0 ≤ a ∧ a ≤ 255
  · exact .inl ⟨a.toNat, by omega, by omega⟩
  · exact .inr h
theorem w2 (a : Nat) (h : a < 256) : wrap64 ((a : Int) * 2) = ((2 * a : Nat) : Int) := by unfold wrap64; omega
theorem xor285 (a : Nat) (h : a < 256) : bits .xor .i64 ((2 * a : Nat) : Int) 285 = (((2 * a) ^^^ 285 : Nat) : Int) := Gf.xor_nat (2 * a) 285 (by omega) (by decide)
theorem spec_el_yes (a : Nat) (h : a < 256) : spec_l02Byte.f (a : Int) = some true := by
  unfold spec_l02Byte.f spec_l00In.f
  rw [if_pos (by omega)]; simp; omega
theorem spec_el_no (a : Int) (h : ¬ (0 ≤ a ∧ a ≤ 255)) : spec_l02Byte.f a = some false := by
  unfold spec_l02Byte.f spec_l00In.f
  by_cases h0 : a ≥ 0
  · rw [if_pos h0]; simp; omega
  · rw [if_neg h0]; rfl
theorem impl_el_yes (a : Nat) (h : a < 256) : impl_isElement.f (a : Int) = some true := by
  unfold impl_isElement.f impl_between.f
  rw [if_pos (by omega)]; simp; omega
theorem impl_el_no (a : Int) (h : ¬ (0 ≤ a ∧ a ≤ 255)) : impl_isElement.f a = some false := by
  unfold impl_isElement.f impl_between.f
  by_cases h0 : a ≥ 0
  · rw [if_pos h0]; simp; omega
  · rw [if_neg h0]; rfl
theorem spec_times_l : ∀ (j k a b c : Nat), a < 256 → b < 256 → c < 256 → j ≤ 8 → j < k →
    spec_l02Times.l0 k (a : Int) (b : Int) (c : Int) ((8 - j : Nat) : Int) = some ((Gf.mulN j a b c : Nat) : Int)
  | 0, k, a, b, c, ha, hb, hc, hj, hk => by
    obtain ⟨k, rfl⟩ : ∃ m, k = m + 1 := ⟨k - 1, by omega⟩
    simp only [spec_l02Times.l0]
    rw [if_neg (by omega)]
    rfl
  | j + 1, k, a, b, c, ha, hb, hc, hj, hk => by
    obtain ⟨k, rfl⟩ : ∃ m, k = m + 1 := ⟨k - 1, by omega⟩
    simp only [spec_l02Times.l0]
    have hi : wrap64 (((8 - (j + 1) : Nat) : Int) + 1) = ((8 - j : Nat) : Int) := by unfold wrap64; omega
    have hb2 : (b : Int) / 2 = ((b / 2 : Nat) : Int) := by omega
    have hx : bits .xor .i64 (c : Int) (a : Int) = ((c ^^^ a : Nat) : Int) := Gf.xor_nat c a (by omega) (by omega)
    have hd := Gf.dbl_lt a ha
    rw [if_pos (by omega), Gf.and_one b (by omega), w2 a ha, hi, hb2, hx, xor285 a ha]
    unfold Gf.mulN
    by_cases h1 : b % 2 = 1
    · rw [if_neg (by omega), if_pos h1]
      by_cases h2 : 255 < 2 * a
      · have e : (2 * a) ^^^ 285 = Gf.dbl a := (if_pos h2).symm
        rw [if_pos (by omega), e]
        exact spec_times_l j k _ _ _ hd (by omega) (Gf.xor_lt hc ha) (by omega) (by omega)
      · have e : 2 * a = Gf.dbl a := (if_neg h2).symm
        rw [if_neg (by omega), e]
        exact spec_times_l j k _ _ _ hd (by omega) (Gf.xor_lt hc ha) (by omega) (by omega)
    · rw [if_pos (by omega), if_neg h1]
      by_cases h2 : 255 < 2 * a
      · have e : (2 * a) ^^^ 285 = Gf.dbl a := (if_pos h2).symm
        rw [if_pos (by omega), e]
        exact spec_times_l j k _ _ _ hd (by omega) hc (by omega) (by omega)
      · have e : 2 * a = Gf.dbl a := (if_neg h2).symm
        rw [if_neg (by omega), e]
        exact spec_times_l j k _ _ _ hd (by omega) hc (by omega) (by omega)
theorem spec_times (k a b : Nat) (ha : a < 256) (hb : b < 256) (hk : 8 < k) : spec_l02Times.f k (a : Int) (b : Int) = some ((Gf.mul a b : Nat) : Int) :=
  spec_times_l 8 k a b 0 ha hb (by decide) (by decide) hk
theorem impl_double_is (a : Nat) (ha : a < 256) : impl_double.f (a : Int) = some ((Gf.dbl a : Nat) : Int) := by
  unfold impl_double.f Gf.dbl
  rw [w2 a ha, xor285 a ha]
  by_cases h2 : 255 < 2 * a
  · rw [if_pos (by omega), if_pos h2]
  · rw [if_neg (by omega), if_neg h2]
theorem impl_times_l : ∀ (j k a b c : Nat), a < 256 → b < 2 ^ j → b < 256 → c < 256 → j < k →
    impl_times.l0 k (a : Int) (b : Int) (c : Int) = some ((Gf.mulN j a b c : Nat) : Int)
  | 0, k, a, b, c, ha, hb, hb', hc, hk => by
    obtain ⟨k, rfl⟩ : ∃ m, k = m + 1 := ⟨k - 1, by omega⟩
    have h0 : b = 0 := by simpa using hb
    subst h0
    simp only [impl_times.l0]
    rw [if_neg (by omega)]
    rfl
  | j + 1, k, a, b, c, ha, hb, hb', hc, hk => by
    obtain ⟨k, rfl⟩ : ∃ m, k = m + 1 := ⟨k - 1, by omega⟩
    by_cases h0 : b = 0
    · subst h0
      rw [Gf.mulN_zero]
      simp only [impl_times.l0]
      rw [if_neg (by omega)]
    · simp only [impl_times.l0]
      have hq : wrap64 (Int.tdiv (b : Int) 2) = ((b / 2 : Nat) : Int) := by
        rw [Int.tdiv_eq_ediv_of_nonneg (by omega)]; unfold wrap64; omega
      have hm : Int.tmod (b : Int) 2 = ((b % 2 : Nat) : Int) := by rw [Int.tmod_eq_emod_of_nonneg (by omega)]; omega
      have hx : bits .xor .i64 (c : Int) (a : Int) = ((c ^^^ a : Nat) : Int) := Gf.xor_nat c a (by omega) (by omega)
      have hb2 : b / 2 < 2 ^ j := by rw [Nat.pow_succ] at hb; omega
      rw [if_pos (by omega), hq, hm, hx, impl_double_is a ha]
      simp only [Option.bind_some]
      unfold Gf.mulN
      by_cases h1 : b % 2 = 1
      · rw [if_pos (by omega), if_pos h1]
        exact impl_times_l j k _ _ _ (Gf.dbl_lt a ha) hb2 (by omega) (Gf.xor_lt hc ha) (by omega)
      · rw [if_neg (by omega), if_neg h1]
        exact impl_times_l j k _ _ _ (Gf.dbl_lt a ha) hb2 (by omega) hc (by omega)
theorem impl_times_is (k a b : Nat) (ha : a < 256) (hb : b < 256) (hk : 8 < k) : impl_times.f k (a : Int) (b : Int) = some ((Gf.mul a b : Nat) : Int) :=
  impl_times_l 8 k a b 0 ha (by simpa using hb) hb (by decide) hk
theorem bt_lt (s : ByteArray) (i : Int) : ∃ n : Nat, n < 256 ∧ bt s i = (n : Int) := ⟨(bt s i).toNat, by have := bt_range s i; omega, by have := bt_range s i; omega⟩
theorem wrap_bt (n : Nat) (h : n < 256) : wrap64 (n : Int) = (n : Int) := by unfold wrap64; omega
theorem mod_bt (n : Nat) (h : n < 256) : ((n : Int)) % 256 = (n : Int) := by omega
/-- The products of the bytes from a place on. -/
def scaled (a : Nat) (s : ByteArray) : Nat → Nat → List Int
  | 0, _ => []
  | d + 1, i => ((Gf.mul a (bt s (i : Int)).toNat : Nat) : Int) :: scaled a s d (i + 1)
theorem scaled_length (a : Nat) (s : ByteArray) : ∀ d i, (scaled a s d i).length = d
  | 0, _ => rfl
  | d + 1, i => by simp [scaled, scaled_length a s d]
theorem spec_scale_l (a : Nat) (ha : a < 256) (s : ByteArray) (hs : s.size ≤ 1048576) : ∀ (d i k : Nat) (out : List Int), i + d = s.size → out.length = i → d + 20 < k →
    spec_l02Scale.l0 k (a : Int) s out (i : Int) = some (strOfNums (out ++ scaled a s d i))
  | 0, i, k, out, hi, ho, hk => by
    obtain ⟨k, rfl⟩ : ∃ m, k = m + 1 := ⟨k - 1, by omega⟩
    simp only [spec_l02Scale.l0]
    rw [if_neg (by omega)]
    simp [scaled]
  | d + 1, i, k, out, hi, ho, hk => by
    obtain ⟨k, rfl⟩ : ∃ m, k = m + 1 := ⟨k - 1, by omega⟩
    obtain ⟨n, hn, he⟩ := bt_lt s (i : Int)
    have hm : Gf.mul a n < 256 := Gf.mul_lt ha
    simp only [spec_l02Scale.l0]
    rw [if_pos (by omega), if_pos (by omega), he, wrap_bt n hn, spec_times k a n ha hn (by omega), Option.bind_some, mod_bt _ hm, if_pos (by omega), Plain.wrap_step (n := s.size) (by omega) (by omega), spec_scale_l a ha s hs d (i + 1) k _ (by omega) (by simp [ho]) (by omega)]
    rw [show scaled a s (d + 1) i = ((Gf.mul a (bt s (i : Int)).toNat : Nat) : Int) :: scaled a s d (i + 1) from rfl, he]
    simp
theorem impl_scale_l (a : Nat) (ha : a < 256) (s : ByteArray) (hs : s.size ≤ 1048576) : ∀ (d i k : Nat) (out : List Int), i + d = s.size → out.length = s.size → d + 20 < k →
    impl_scaled.l0 k (a : Int) s out (s.size : Int) (i : Int) = some (strOfNums (out.take i ++ scaled a s d i))
  | 0, i, k, out, hi, ho, hk => by
    obtain ⟨k, rfl⟩ : ∃ m, k = m + 1 := ⟨k - 1, by omega⟩
    simp only [impl_scaled.l0]
    rw [if_neg (by omega), List.take_of_length_le (by omega)]
    simp [scaled]
  | d + 1, i, k, out, hi, ho, hk => by
    obtain ⟨k, rfl⟩ : ∃ m, k = m + 1 := ⟨k - 1, by omega⟩
    obtain ⟨n, hn, he⟩ := bt_lt s (i : Int)
    have hm : Gf.mul a n < 256 := Gf.mul_lt ha
    simp only [impl_scaled.l0]
    rw [if_pos (by omega), if_pos (by omega), if_pos (by omega), he, wrap_bt n hn, impl_times_is k a n ha hn (by omega), Option.bind_some, if_pos (by omega), mod_bt _ hm, Plain.wrap_step (n := s.size) (by omega) (by omega), impl_scale_l a ha s hs d (i + 1) k _ (by omega) (by rw [List.length_set]; exact ho) (by omega)]
    rw [show scaled a s (d + 1) i = ((Gf.mul a (bt s (i : Int)).toNat : Nat) : Int) :: scaled a s d (i + 1) from rfl, he]
    rw [show (i : Int).toNat = i from rfl, show (n : Int).toNat = n from rfl, List.take_succ_eq_append_getElem (by rw [List.length_set]; omega), List.getElem_set_self, List.take_set_of_le (Nat.le_refl i)]
    simp
theorem scale_k (a : Int) (s : ByteArray) (hs : s.size ≤ 1048576) (k : Nat) (hk : s.size + 30 < k) : ∃ r, spec_GfScale.f k a s = some r ∧ impl_GfScale.f k a s = some r := by
  unfold spec_GfScale.f impl_GfScale.f
  rcases el_cases a with ⟨a, ha, rfl⟩ | ha
  · rw [spec_el_yes a ha, impl_el_yes a ha, Option.bind_some, Option.bind_some, if_pos rfl, if_pos rfl]
    unfold spec_l02Scale.f impl_scaled.f
    have h1 := spec_scale_l a ha s hs s.size 0 k [] (by omega) rfl (by omega)
    have h2 := impl_scale_l a ha s hs s.size 0 k (List.replicate ((s.size : Int) : Int).toNat 0) (by omega) (by simp) (by omega)
    rw [show ((0 : Nat) : Int) = 0 from rfl] at h1 h2
    rw [h1, if_pos (by omega), if_pos (by omega), Option.bind_some, Option.bind_some]
    have el : (((List.replicate ((s.size : Int) : Int).toNat (0 : Int)).length : Nat) : Int) = (s.size : Int) := by simp
    rw [el, h2]
    exact ⟨_, rfl, by simp⟩
  · rw [spec_el_no a ha, impl_el_no a ha]
    exact ⟨_, rfl, rfl⟩
end FnExactGfScaleAid
open FnExactGfScaleAid
theorem FnExactGfScale : FnExactGfScaleStm := by
  intro a _ s _
  refine ⟨s.size + 31, ?_⟩
  unfold laws_FnExactGfScale.f
  by_cases h : (s.size : Int) > 1048576
  · rw [if_pos h]
  · obtain ⟨r, h1, h2⟩ := scale_k a s (by omega) (s.size + 31) (by omega)
    rw [if_neg h, h1, h2]
    simp
end Go.Proofs.Ythdmadppbphepaa.Pure
