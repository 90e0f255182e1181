/- The program's HaveOk answers as the reference's does, for all arguments. -/
import Derived.Test.YtgdlpdkkncjbbaaPFnExactHaveOkx5
import Derived.Test.YtgdlpdkkncjbbaaPlain2
import Derived.Test.YtgdlpdkkncjbbaaStmFnExactHaveOk
namespace Go.Proofs.Ytgdlpdkkncjbbaa.Pure
open Go Go.RowKit Go.Proofs.Ytgdlpdkkncjbbaa Go.Proofs.Ytgdlpdkkncjbbaa.PFnExactHaveOk Go.Proofs.YtgdlpdkkncjbbaaW.PrintWords Go.Proofs.YtgdlpdkkncjbbaaW.PrintLast
set_option linter.unusedVariables false
namespace FnExactHaveOkAid
theorem spec_in (a b c : Int) : spec_l00In.f a b c = some (Plain.btw a b c) := Plain.in_ifs a b c
theorem impl_in (a b c : Int) : impl_between.f a b c = some (Plain.btw a b c) := Plain.in_ifs a b c
theorem sz_l : ∀ (d i k : Nat) (l : List S99) (x : Int), i + d = l.length → l.length ≤ 1048576 → d < k → ∃ t, laws_szShardS.l0 k l x (i : Int) = some t
  | 0, i, k, l, x, hi, hl, hk => by
    obtain ⟨k, rfl⟩ : ∃ m, k = m + 1 := ⟨k - 1, by omega⟩
    simp only [laws_szShardS.l0]
    rw [if_neg (by omega)]; exact ⟨_, rfl⟩
  | d + 1, i, k, l, x, hi, hl, hk => by
    obtain ⟨k, rfl⟩ : ∃ m, k = m + 1 := ⟨k - 1, by omega⟩
    simp only [laws_szShardS.l0]
    rw [if_pos (by omega), if_pos (by omega), Plain.wrap_step (n := l.length) (by omega) (by omega)]
    unfold laws_szShard.f
    have ih := fun x => sz_l d (i + 1) k l x (by omega) hl (by omega)
    split <;> rw [Option.bind_some]
    · rw [if_pos (by decide)]; exact ⟨_, rfl⟩
    · split
      · exact ⟨_, rfl⟩
      · exact ih _
theorem sz_is (l : List S99) (hl : l.length ≤ 9223372036854775807) (k : Nat) (hk : l.length < k) : ∃ t, laws_szShardS.f k l 1048576 = some t ∧ (¬ t < 0 → l.length ≤ 1048576) := by
  unfold laws_szShardS.f
  have e : wrap64 (1048576 - (l.length : Int)) = 1048576 - (l.length : Int) := by unfold wrap64; omega
  rw [e]
  by_cases h : 1048576 - (l.length : Int) < 0
  · rw [if_pos h]; exact ⟨_, rfl, fun h => absurd (by decide) h⟩
  · rw [if_neg h]
    obtain ⟨t, ht⟩ := sz_l l.length 0 k l (1048576 - (l.length : Int)) (by omega) (by omega) hk
    exact ⟨t, ht, fun _ => by omega⟩
def conv (x : S99) : S100 := ⟨x.f0, x.f1⟩
theorem to_l : ∀ (d i k : Nat) (l : List S99) (out : List S100), i + d = l.length → out.length = l.length → l.length ≤ 1048576 → d < k → laws_toShardS.l0 k l out (i : Int) = some (out.take i ++ (l.drop i).map conv)
  | 0, i, k, l, out, hi, ho, hl, hk => by
    obtain ⟨k, rfl⟩ : ∃ m, k = m + 1 := ⟨k - 1, by omega⟩
    simp only [laws_toShardS.l0]
    rw [if_neg (by omega), List.take_of_length_le (by omega), List.drop_eq_nil_of_le (by omega)]
    simp
  | d + 1, i, k, l, out, hi, ho, hl, hk => by
    obtain ⟨k, rfl⟩ : ∃ m, k = m + 1 := ⟨k - 1, by omega⟩
    simp only [laws_toShardS.l0]
    unfold laws_toShard.f
    rw [if_pos (by omega), if_pos (by omega), Option.bind_some, if_pos (by omega), Plain.wrap_step (n := l.length) (by omega) (by omega), to_l d (i + 1) k l _ (by omega) (by rw [List.length_set]; omega) hl (by omega)]
    rw [← Plain.fill_step conv l out i z99 ho (by omega)]
    rfl
theorem to_is (l : List S99) (hl : l.length ≤ 1048576) (k : Nat) (hk : l.length < k) : laws_toShardS.f k l = some (l.map conv) := by
  unfold laws_toShardS.f
  rw [if_pos (by omega), if_pos (by omega)]
  have h := to_l l.length 0 k l (List.replicate ((l.length : Int) : Int).toNat z100) (by omega) (by simp) hl hk
  rw [show ((0 : Nat) : Int) = 0 from rfl] at h
  rw [h]
  simp
theorem eq_self_l : ∀ (d i k : Nat) (l : List S100), i + d = l.length → l.length ≤ 1048576 → d < k → laws_eqShardS.l0 k l l (i : Int) = some true
  | 0, i, k, l, hi, hl, hk => by
    obtain ⟨k, rfl⟩ : ∃ m, k = m + 1 := ⟨k - 1, by omega⟩
    simp only [laws_eqShardS.l0]
    rw [if_neg (by omega)]
  | d + 1, i, k, l, hi, hl, hk => by
    obtain ⟨k, rfl⟩ : ∃ m, k = m + 1 := ⟨k - 1, by omega⟩
    simp only [laws_eqShardS.l0]
    unfold laws_eqShard.f
    rw [if_pos (by omega), if_pos (by omega), if_pos (by omega), if_pos rfl, if_pos rfl, Option.bind_some, if_pos rfl, Plain.wrap_step (n := l.length) (by omega) (by omega)]
    exact eq_self_l d (i + 1) k l (by omega) hl (by omega)
theorem eq_self (l : List S100) (hl : l.length ≤ 1048576) (k : Nat) (hk : l.length < k) : laws_eqShardS.f k l l = some true := by
  unfold laws_eqShardS.f
  rw [if_pos rfl]
  exact eq_self_l l.length 0 k l (by omega) hl hk
theorem spec_code (K M : Int) : spec_l04Code.f K M = some (Plain.codeB K M) := by
  unfold spec_l04Code.f Plain.codeB
  rw [spec_in, Option.bind_some, spec_in, Option.bind_some, Plain.andS]
theorem impl_code (K M : Int) : impl_CodeOk.f K M = some (Plain.codeB K M) := by
  unfold impl_CodeOk.f Plain.codeB
  rw [impl_in, Option.bind_some, impl_in, Option.bind_some, Plain.andS]
theorem impl_pos (K M p : Int) : impl_Code_isPos.f K M p = some (Plain.btw p 0 (wrap64 (wrap64 (K + M) - 1))) := by
  unfold impl_Code_isPos.f impl_Code_size.f
  rw [Option.bind_some, impl_in]; rfl
theorem size_is (K M n : Int) (hK : K ≠ 0) : ∃ q, spec_l04Size.f K M n = some q ∧ impl_Code_piece.f K M n = some q := by
  unfold spec_l04Size.f impl_Code_piece.f
  rw [if_neg hK]; exact ⟨_, rfl, rfl⟩
theorem have_l (K M n : Int) (hK : K ≠ 0) (l : List S100) (hl : l.length ≤ 1048576) : ∀ (d i k : Nat), i + d = l.length → d < k →
    ∃ b, spec_l04Have.l0 k n l (i : Int) K M = some b ∧ impl_HaveOk.l0 k n l l (l.length : Int) (i : Int) K M = some b
  | 0, i, k, hi, hk => by
    obtain ⟨k, rfl⟩ : ∃ m, k = m + 1 := ⟨k - 1, by omega⟩
    simp only [spec_l04Have.l0, impl_HaveOk.l0]
    rw [if_neg (by omega), if_neg (by omega)]; exact ⟨_, rfl, rfl⟩
  | d + 1, i, k, hi, hk => by
    obtain ⟨k, rfl⟩ : ∃ m, k = m + 1 := ⟨k - 1, by omega⟩
    obtain ⟨b, h1, h2⟩ := have_l K M n hK l hl d (i + 1) k (by omega) (by omega)
    obtain ⟨q, q1, q2⟩ := size_is K M n hK
    simp only [spec_l04Have.l0, impl_HaveOk.l0]
    have c1 : (i : Int) < (l.length : Int) := by omega
    have c2 : 0 ≤ (i : Int) := by omega
    simp only [if_pos c1, if_pos c2, spec_in, impl_pos, Option.bind_some, Plain.wrap_step (n := l.length) (show i < l.length by omega) (by omega), q1, q2, h1, h2]
    by_cases h0 : (i : Int) > 0
    · have e : wrap64 ((i : Int) - 1) = (i : Int) - 1 := by unfold wrap64; omega
      simp only [e, if_pos h0, if_pos (show 0 ≤ (i : Int) - 1 by omega), if_pos (show (i : Int) - 1 < (l.length : Int) by omega)]
      refine Plain.both ?_
      repeat' (first | exact ⟨_, rfl⟩ | split)
    · simp only [if_neg h0]
      refine Plain.both ?_
      repeat' (first | exact ⟨_, rfl⟩ | split)
theorem have_same (K M n : Int) (l : List S100) (hl : l.length ≤ 1048576) (k : Nat) (hk : l.length < k) :
    ∃ b, spec_HaveOk.f (k + 1) K M n l = some b ∧ impl_HaveOk.f (k + 1) K M n l = some b := by
  unfold spec_HaveOk.f spec_l04Have.f impl_HaveOk.f
  rw [spec_code, impl_code, Option.bind_some, Option.bind_some, spec_in, impl_in, Option.bind_some, Option.bind_some]
  cases hc : Plain.codeB K M with
  | false => exact ⟨false, by rw [if_neg (by decide)]; simp [spec_l04Have.j0], by rw [if_neg (by decide)]; simp [impl_HaveOk.j0]⟩
  | true =>
    have hK : K ≠ 0 := by
      unfold Plain.codeB Plain.btw at hc
      simp at hc
      omega
    cases hb : Plain.btw n 0 64 with
    | false => exact ⟨false, by simp [spec_l04Have.j0], by simp [impl_HaveOk.j0]⟩
    | true =>
      obtain ⟨b, h1, h2⟩ := have_l K M n hK l hl l.length 0 k (by omega) hk
      rw [show ((0 : Nat) : Int) = 0 from rfl] at h1 h2
      exact ⟨b, by simp [spec_l04Have.j0, h1], by simp [impl_HaveOk.j0, h2]⟩
end FnExactHaveOkAid
open FnExactHaveOkAid
theorem FnExactHaveOk : FnExactHaveOkStm := by
  rintro ⟨K, M⟩ _ n _ l ⟨hl, _⟩
  unfold maxLen at hl
  show ∃ k, laws_FnExactHaveOk.f k K M n l = some true
  refine ⟨l.length + 1 + 1, ?_⟩
  unfold laws_FnExactHaveOk.f
  obtain ⟨t, ht, hs⟩ := sz_is l (by omega) (l.length + 1 + 1) (by omega)
  rw [ht, Option.bind_some]
  by_cases h : t < 0
  · rw [if_pos h]
  · have hl2 := hs h
    obtain ⟨b, h1, h2⟩ := have_same K M n (l.map conv) (by rw [List.length_map]; exact hl2) (l.length + 1) (by rw [List.length_map]; omega)
    unfold laws_toCode.f
    rw [if_neg h, to_is l hl2 _ (by omega), Option.bind_some, Option.bind_some]
    dsimp only
    rw [h1, Option.bind_some, Option.bind_some, Option.bind_some]
    dsimp only
    rw [h2, Option.bind_some, if_neg (show ¬ ((b != b) = true) by cases b <;> decide), Option.bind_some, eq_self _ (by rw [List.length_map]; exact hl2) _ (by rw [List.length_map]; omega), Option.bind_some, if_pos rfl]
end Go.Proofs.Ytgdlpdkkncjbbaa.Pure
