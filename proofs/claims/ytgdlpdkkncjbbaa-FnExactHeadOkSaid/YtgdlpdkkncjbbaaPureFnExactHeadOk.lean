/- The program's HeadOk answers as the reference's does, for all arguments. -/
import Derived.Test.YtgdlpdkkncjbbaaPFnExactHeadOkx3
import Derived.Test.YtgdlpdkkncjbbaaPlain
import Derived.Test.YtgdlpdkkncjbbaaStmFnExactHeadOk
namespace Go.Proofs.Ytgdlpdkkncjbbaa.Pure
open Go Go.RowKit Go.Proofs.Ytgdlpdkkncjbbaa Go.Proofs.Ytgdlpdkkncjbbaa.PFnExactHeadOk Go.Proofs.YtgdlpdkkncjbbaaW.PrintWords Go.Proofs.YtgdlpdkkncjbbaaW.PrintLast
set_option linter.unusedVariables false
namespace FnExactHeadOkAid
theorem spec_in (a b c : Int) : spec_l00In.f a b c = some (Plain.btw a b c) := Plain.in_ifs a b c
theorem impl_in (a b c : Int) : impl_between.f a b c = some (Plain.btw a b c) := Plain.in_ifs a b c
theorem spec_name_l (s : ByteArray) (hs : s.size ≤ 9223372036854775807) : ∀ (n i k : Nat), i + n = s.size → n < k → spec_l09Name.l0 k s (i : Int) = some (Plain.nameAll s n i)
  | 0, i, k, hi, hk => by
    obtain ⟨k, rfl⟩ : ∃ m, k = m + 1 := ⟨k - 1, by omega⟩
    unfold spec_l09Name.l0
    rw [if_neg (by omega)]
    rfl
  | n + 1, i, k, hi, hk => by
    obtain ⟨k, rfl⟩ : ∃ m, k = m + 1 := ⟨k - 1, by omega⟩
    unfold spec_l09Name.l0
    rw [if_pos (by omega), if_pos (by omega), Plain.ch_ifs, Plain.wrap_step (n := s.size) (by omega) hs]
    unfold Plain.nameAll
    cases h : Plain.chOk (bt s (i : Int)) with
    | true => rw [if_pos rfl, spec_name_l s hs n (i + 1) k (by omega) (by omega)]; rfl
    | false => rw [if_neg (by decide)]; rfl
theorem spec_name_yes (s : ByteArray) (k : Nat) : spec_l09Name.j0 (k + 1) s true = some false := by simp [spec_l09Name.j0]
theorem spec_name_no (s : ByteArray) (k : Nat) : spec_l09Name.j0 (k + 1) s false = spec_l09Name.l0 k s 0 := by simp [spec_l09Name.j0]
theorem spec_name (s : ByteArray) (hs : s.size ≤ 9223372036854775807) (k : Nat) (hk : s.size + 1 < k) : spec_l09Name.f k s = some (Plain.nameB s) := by
  obtain ⟨k, rfl⟩ : ∃ m, k = m + 1 := ⟨k - 1, by omega⟩
  unfold spec_l09Name.f Plain.nameB
  by_cases h1 : (s.size : Int) < 1
  · rw [if_pos h1, spec_name_yes, show decide (1 ≤ s.size) = false from decide_eq_false (by omega)]
    simp
  · rw [if_neg h1]
    by_cases h2 : (s.size : Int) > 8
    · rw [show decide ((s.size : Int) > 8) = true from decide_eq_true h2, spec_name_yes, show decide (s.size ≤ 8) = false from decide_eq_false (by omega)]
      simp
    · have hl := spec_name_l s hs s.size 0 k (by omega) (by omega)
      rw [show ((0 : Nat) : Int) = 0 from rfl] at hl
      rw [show decide ((s.size : Int) > 8) = false from decide_eq_false h2, spec_name_no, hl, show decide (1 ≤ s.size) = true from decide_eq_true (by omega), show decide (s.size ≤ 8) = true from decide_eq_true (by omega)]
      simp
theorem between_is (a b c : Int) : impl_between.f a b c = some (decide (b ≤ a) && decide (a ≤ c)) := by
  unfold impl_between.f
  by_cases h : a ≥ b
  · rw [if_pos h, show decide (b ≤ a) = true from decide_eq_true h]; simp
  · rw [if_neg h, show decide (b ≤ a) = false from decide_eq_false h]; simp
theorem impl_name_l (s : ByteArray) (hs : s.size ≤ 9223372036854775807) : ∀ (n i k : Nat), i + n = s.size → n < k →
    impl_NameOk.l0 k s (s.size : Int) (i : Int) = some (Plain.nameAll s n i && (decide (1 ≤ s.size) && decide (s.size ≤ 8)))
  | 0, i, k, hi, hk => by
    obtain ⟨k, rfl⟩ : ∃ m, k = m + 1 := ⟨k - 1, by omega⟩
    unfold impl_NameOk.l0
    rw [if_neg (by omega), between_is]
    have e1 : decide (1 ≤ (s.size : Int)) = decide (1 ≤ s.size) := by rw [decide_eq_decide]; omega
    have e2 : decide ((s.size : Int) ≤ 8) = decide (s.size ≤ 8) := by rw [decide_eq_decide]; omega
    rw [e1, e2]
    simp [Plain.nameAll]
  | n + 1, i, k, hi, hk => by
    obtain ⟨k, rfl⟩ : ∃ m, k = m + 1 := ⟨k - 1, by omega⟩
    unfold impl_NameOk.l0
    rw [if_pos (by omega), if_pos (by omega), if_pos (by omega), Plain.ch_ifs, Plain.wrap_step (n := s.size) (by omega) hs]
    unfold Plain.nameAll
    cases h : Plain.chOk (bt s (i : Int)) with
    | true => rw [if_pos rfl, impl_name_l s hs n (i + 1) k (by omega) (by omega)]; rfl
    | false => rw [if_neg (by decide)]; rfl
theorem impl_name (s : ByteArray) (hs : s.size ≤ 9223372036854775807) (k : Nat) (hk : s.size < k) : impl_NameOk.f k s = some (Plain.nameB s) := by
  have h := impl_name_l s hs s.size 0 k (by omega) (by omega)
  unfold impl_NameOk.f Plain.nameB
  exact h
theorem spec_zero (e s : Int) : spec_l17Zero.f e s = some (Plain.zeroB e s) := rfl
theorem spec_ver (e s : Int) : spec_l17Ver.f e s = some (Plain.verB e s) := by
  unfold spec_l17Ver.f Plain.verB
  rw [spec_zero, Option.bind_some, spec_in, Option.bind_some, spec_in, Option.bind_some, Plain.andS, Plain.orS]
theorem spec_full (e s : Int) : spec_l17Full.f e s = some (Plain.fullB e s) := by
  unfold spec_l17Full.f Plain.fullB
  rw [spec_ver, Option.bind_some, spec_zero, Option.bind_some, Plain.andS]
theorem spec_sum (n : Int) : spec_l17Sum.f n = some (Plain.sumB n) := by
  unfold spec_l17Sum.f
  rw [spec_in]; rfl
theorem impl_ver (e s : Int) : impl_verOk.f e s = some (Plain.verB e s) := by
  unfold impl_verOk.f Plain.verB
  rw [impl_in, Option.bind_some, impl_in, Option.bind_some, Plain.andS, Plain.orS]
  rfl
theorem spec_head (s : ByteArray) (hs : s.size ≤ 9223372036854775807) (k : Nat) (hk : s.size + 1 < k) (e q z c : Int) :
    spec_HeadOk.f k s e q z c = some (Plain.nameB s && (Plain.fullB e q && (Plain.btw z 0 64 && Plain.sumB c))) := by
  unfold spec_HeadOk.f spec_l23Head.f
  rw [spec_name s hs k hk, Option.bind_some, spec_full, Option.bind_some, spec_in, Option.bind_some, spec_sum, Option.bind_some, Plain.andS, Plain.andS, Plain.andS]
  rfl
theorem impl_real (e s : Int) : impl_realVer.f e s = some (Plain.fullB e s) := by
  unfold impl_realVer.f Plain.fullB Plain.zeroB
  rw [impl_ver, Option.bind_some, Plain.andS]
  cases e == 0 <;> rfl
theorem impl_size (z c : Int) : impl_sizeOk.f z c = some (Plain.btw z 0 64 && Plain.sumB c) := by
  unfold impl_sizeOk.f Plain.sumB
  rw [impl_in, Option.bind_some, impl_in, Option.bind_some, Plain.andS]
theorem impl_head (s : ByteArray) (hs : s.size ≤ 9223372036854775807) (k : Nat) (hk : s.size < k) (e q z c : Int) :
    impl_HeadOk.f k s e q z c = some (Plain.nameB s && (Plain.fullB e q && (Plain.btw z 0 64 && Plain.sumB c))) := by
  unfold impl_HeadOk.f
  rw [impl_name s hs k hk, Option.bind_some, impl_real, Option.bind_some, impl_size, Option.bind_some, Plain.andS, Plain.andS]
end FnExactHeadOkAid
open FnExactHeadOkAid
theorem FnExactHeadOk : FnExactHeadOkStm := by
  rintro ⟨s, ⟨e, q⟩, z, c⟩ ⟨hs, _⟩
  simp only at hs ⊢
  unfold maxLen at hs
  refine ⟨s.size + 2, ?_⟩
  unfold laws_FnExactHeadOk.f laws_szHead.f laws_toHead.f laws_toVer.f
  by_cases h : wrap64 (1048576 - (s.size : Int)) < 0
  · rw [if_pos h, Option.bind_some, if_pos (by decide)]
  · rw [if_neg h, Option.bind_some, if_neg h, Option.bind_some, Option.bind_some]
    dsimp only
    rw [spec_head s hs _ (by omega), Option.bind_some, Option.bind_some]
    dsimp only
    rw [impl_head s hs _ (by omega), Option.bind_some]
    generalize (Plain.nameB s && (Plain.fullB e q && (Plain.btw z 0 64 && Plain.sumB c))) = b
    cases b <;> rfl
end Go.Proofs.Ytgdlpdkkncjbbaa.Pure
