/- The program's ActOk answers as the reference's does, for all arguments. -/
import Derived.Test.YtgdlpdkkncjbbaaPFnExactActOkx5
import Derived.Test.YtgdlpdkkncjbbaaPlain
import Derived.Test.YtgdlpdkkncjbbaaStmFnExactActOk
namespace Go.Proofs.Ytgdlpdkkncjbbaa.Pure
open Go Go.RowKit Go.Proofs.Ytgdlpdkkncjbbaa Go.Proofs.Ytgdlpdkkncjbbaa.PFnExactActOk Go.Proofs.YtgdlpdkkncjbbaaW.PrintWords Go.Proofs.YtgdlpdkkncjbbaaW.PrintLast
set_option linter.unusedVariables false
namespace FnExactActOkAid
theorem spec_in (a b c : Int) : spec_l00In.f a b c = some (Plain.btw a b c) := Plain.in_ifs a b c
theorem impl_in (a b c : Int) : impl_between.f a b c = some (Plain.btw a b c) := Plain.in_ifs a b c
theorem spec_name_l (s : ByteArray) (hs : s.size ≤ 9223372036854775807) : ∀ (n i k : Nat), i + n = s.size → n < k → spec_l09Name.l0 k s (i : Int) = some (Plain.nameAll s n i)
  | 0, i, k, hi, hk => by
    obtain ⟨k, rfl⟩ : ∃ m, k = m + 1 := ⟨k - 1, by omega⟩
    unfold spec_l09Name.l0
    rw [if_neg (by omega)]
    rfl
  | n + 1, i, k, hi, hk => by
    obtain ⟨k, rfl⟩ : ∃ m, k = m + 1 := ⟨k - 1, by omega⟩
    unfold spec_l09Name.l0
    rw [if_pos (by omega), if_pos (by omega), Plain.ch_ifs, Plain.wrap_step (n := s.size) (by omega) hs]
    unfold Plain.nameAll
    cases h : Plain.chOk (bt s (i : Int)) with
    | true => rw [if_pos rfl, spec_name_l s hs n (i + 1) k (by omega) (by omega)]; rfl
    | false => rw [if_neg (by decide)]; rfl
theorem spec_name_yes (s : ByteArray) (k : Nat) : spec_l09Name.j0 (k + 1) s true = some false := by simp [spec_l09Name.j0]
theorem spec_name_no (s : ByteArray) (k : Nat) : spec_l09Name.j0 (k + 1) s false = spec_l09Name.l0 k s 0 := by simp [spec_l09Name.j0]
theorem spec_name (s : ByteArray) (hs : s.size ≤ 9223372036854775807) (k : Nat) (hk : s.size + 1 < k) : spec_l09Name.f k s = some (Plain.nameB s) := by
  obtain ⟨k, rfl⟩ : ∃ m, k = m + 1 := ⟨k - 1, by omega⟩
  unfold spec_l09Name.f Plain.nameB
  by_cases h1 : (s.size : Int) < 1
  · rw [if_pos h1, spec_name_yes, show decide (1 ≤ s.size) = false from decide_eq_false (by omega)]
    simp
  · rw [if_neg h1]
    by_cases h2 : (s.size : Int) > 8
    · rw [show decide ((s.size : Int) > 8) = true from decide_eq_true h2, spec_name_yes, show decide (s.size ≤ 8) = false from decide_eq_false (by omega)]
      simp
    · have hl := spec_name_l s hs s.size 0 k (by omega) (by omega)
      rw [show ((0 : Nat) : Int) = 0 from rfl] at hl
      rw [show decide ((s.size : Int) > 8) = false from decide_eq_false h2, spec_name_no, hl, show decide (1 ≤ s.size) = true from decide_eq_true (by omega), show decide (s.size ≤ 8) = true from decide_eq_true (by omega)]
      simp
theorem between_is (a b c : Int) : impl_between.f a b c = some (decide (b ≤ a) && decide (a ≤ c)) := by
  unfold impl_between.f
  by_cases h : a ≥ b
  · rw [if_pos h, show decide (b ≤ a) = true from decide_eq_true h]; simp
  · rw [if_neg h, show decide (b ≤ a) = false from decide_eq_false h]; simp
theorem impl_name_l (s : ByteArray) (hs : s.size ≤ 9223372036854775807) : ∀ (n i k : Nat), i + n = s.size → n < k →
    impl_NameOk.l0 k s (s.size : Int) (i : Int) = some (Plain.nameAll s n i && (decide (1 ≤ s.size) && decide (s.size ≤ 8)))
  | 0, i, k, hi, hk => by
    obtain ⟨k, rfl⟩ : ∃ m, k = m + 1 := ⟨k - 1, by omega⟩
    unfold impl_NameOk.l0
    rw [if_neg (by omega), between_is]
    have e1 : decide (1 ≤ (s.size : Int)) = decide (1 ≤ s.size) := by rw [decide_eq_decide]; omega
    have e2 : decide ((s.size : Int) ≤ 8) = decide (s.size ≤ 8) := by rw [decide_eq_decide]; omega
    rw [e1, e2]
    simp [Plain.nameAll]
  | n + 1, i, k, hi, hk => by
    obtain ⟨k, rfl⟩ : ∃ m, k = m + 1 := ⟨k - 1, by omega⟩
    unfold impl_NameOk.l0
    rw [if_pos (by omega), if_pos (by omega), if_pos (by omega), Plain.ch_ifs, Plain.wrap_step (n := s.size) (by omega) hs]
    unfold Plain.nameAll
    cases h : Plain.chOk (bt s (i : Int)) with
    | true => rw [if_pos rfl, impl_name_l s hs n (i + 1) k (by omega) (by omega)]; rfl
    | false => rw [if_neg (by decide)]; rfl
theorem impl_name (s : ByteArray) (hs : s.size ≤ 9223372036854775807) (k : Nat) (hk : s.size < k) : impl_NameOk.f k s = some (Plain.nameB s) := by
  have h := impl_name_l s hs s.size 0 k (by omega) (by omega)
  unfold impl_NameOk.f Plain.nameB
  exact h
theorem spec_code (K M : Int) : spec_CodeOk.f K M = some (Plain.codeB K M) := by
  unfold spec_CodeOk.f spec_l04Code.f Plain.codeB
  rw [spec_in, Option.bind_some, spec_in, Option.bind_some, Plain.andS, Option.bind_some]
theorem spec_op_j (k : Nat) (b1 b2 b3 : Bool) (kind K M a1 at_ : Int) (s : ByteArray) : spec_OpOk.j0 (k + 1) b1 b2 kind b3 K M a1 at_ s =
    some (if b3 = true then (at_ == 0) && Plain.emp s else if kind = 2 then (at_ == 0) && b1 else if kind = 3 then (K == 1) && (b2 && b1) else if kind = 4 then (K == 1) && ((at_ == 0) && b1) else if kind = 5 then (K == 1) && (b2 && Plain.emp s) else false) := by
  simp only [spec_OpOk.j0]
  unfold Plain.emp
  generalize (s.toList == ([] : List UInt8)) = e
  by_cases h3 : b3 = true
  · rw [if_pos h3, if_pos h3, Plain.andP]; rfl
  · rw [if_neg h3, if_neg h3]
    by_cases h2 : kind = 2
    · rw [if_pos h2, if_pos h2, Plain.andP]; rfl
    · rw [if_neg h2, if_neg h2]
      by_cases h4 : kind = 3
      · rw [if_pos h4, if_pos h4, Plain.andS, Plain.andP]; rfl
      · rw [if_neg h4, if_neg h4]
        by_cases h5 : kind = 4
        · rw [if_pos h5, if_pos h5, Plain.andP, Plain.andP]; rfl
        · rw [if_neg h5, if_neg h5]
          by_cases h6 : kind = 5
          · rw [if_pos h6, if_pos h6, Plain.andS, Plain.andP]; rfl
          · rw [if_neg h6, if_neg h6]
theorem spec_op (k : Nat) (K M kind at_ : Int) (s : ByteArray) : spec_OpOk.f (k + 1) K M kind at_ s = some (Plain.opB K M kind at_ s) := by
  unfold spec_OpOk.f Plain.opB
  rw [spec_code, Option.bind_some, spec_in, Option.bind_some, spec_op_j, spec_op_j]
  show _ = some (_ && (if _ then (at_ == 0) && Plain.emp s else if kind = 2 then (at_ == 0) && Plain.small s else _))
  unfold Plain.small
  cases Plain.codeB K M with
  | false => rfl
  | true =>
    rw [if_pos rfl]
    by_cases h1 : kind = 1
    · rw [if_pos h1, if_pos (show (kind == 1) = true by rw [h1]; rfl), if_pos (show kind = 1 ∨ kind = 6 from .inl h1)]; rfl
    · rw [if_neg h1]
      by_cases h6 : kind = 6
      · rw [if_pos (show (kind == 6) = true by rw [h6]; rfl), if_pos (show kind = 1 ∨ kind = 6 from .inr h6)]; rfl
      · rw [if_neg (show ¬ (kind = 1 ∨ kind = 6) by omega), if_neg (show ¬ ((kind == 6) = true) by simpa using h6)]; rfl
theorem impl_code (K M : Int) : impl_CodeOk.f K M = some (Plain.codeB K M) := by
  unfold impl_CodeOk.f Plain.codeB
  rw [impl_in, Option.bind_some, impl_in, Option.bind_some, Plain.andS]
theorem impl_op_j (k : Nat) (b3 : Bool) (kind K M a1 at_ : Int) (s : ByteArray) : impl_OpOk.j0 (k + 1) kind b3 K M a1 at_ s =
    some (if b3 = true then (at_ == 0) && Plain.emp s else if kind = 2 then (at_ == 0) && Plain.small s else if kind = 3 then (K == 1) && (Plain.btw at_ 0 64 && Plain.small s) else if kind = 4 then (K == 1) && ((at_ == 0) && Plain.small s) else if kind = 5 then (K == 1) && (Plain.btw at_ 0 64 && Plain.emp s) else false) := by
  simp only [impl_OpOk.j0]
  unfold Plain.emp Plain.small
  generalize (s.toList == ([] : List UInt8)) = e
  rw [impl_in, Option.bind_some, Option.bind_some]
  by_cases h3 : b3 = true
  · rw [if_pos h3, if_pos h3, Plain.andP]; rfl
  · rw [if_neg h3, if_neg h3]
    by_cases h2 : kind = 2
    · rw [if_pos h2, if_pos h2, Plain.andP]; rfl
    · rw [if_neg h2, if_neg h2]
      by_cases h4 : kind = 3
      · rw [if_pos h4, if_pos h4, Plain.andS, Plain.andP]; rfl
      · rw [if_neg h4, if_neg h4]
        by_cases h5 : kind = 4
        · rw [if_pos h5, if_pos h5, Plain.andP, Plain.andP]; rfl
        · rw [if_neg h5, if_neg h5]
          by_cases h6 : kind = 5
          · rw [if_pos h6, if_pos h6, Plain.andS, Plain.andP]; rfl
          · rw [if_neg h6, if_neg h6]
theorem impl_op (k : Nat) (K M kind at_ : Int) (s : ByteArray) : impl_OpOk.f (k + 1) K M kind at_ s = some (Plain.opB K M kind at_ s) := by
  unfold impl_OpOk.f Plain.opB
  rw [impl_code, Option.bind_some, impl_op_j, impl_op_j]
  cases Plain.codeB K M with
  | false => rfl
  | true =>
    rw [if_pos rfl]
    by_cases h1 : kind = 1
    · rw [if_pos h1, if_pos (show (kind == 1) = true by rw [h1]; rfl), if_pos (show kind = 1 ∨ kind = 6 from .inl h1)]; rfl
    · rw [if_neg h1]
      by_cases h6 : kind = 6
      · rw [if_pos (show (kind == 6) = true by rw [h6]; rfl), if_pos (show kind = 1 ∨ kind = 6 from .inr h6)]; rfl
      · rw [if_neg (show ¬ (kind = 1 ∨ kind = 6) by omega), if_neg (show ¬ ((kind == 6) = true) by simpa using h6)]; rfl
theorem spec_act_j (k : Nat) (b : Bool) (kind a c : Int) (s : ByteArray) (ok oa : Int) (ob : ByteArray) (hs : s.size ≤ 9223372036854775807) (hk : s.size + 1 < k) :
    spec_ActOk.j0 (k + 2) b kind a c s ok oa ob = some (!b && (if kind = 14 then Plain.nameB s && Plain.opB 1 0 ok oa ob else Plain.emp s && ((ok == 0) && ((oa == 0) && Plain.emp ob)))) := by
  simp only [spec_ActOk.j0]
  unfold spec_NameOk.f spec_l31Op.f
  rw [spec_name s hs (k + 1) (by omega), Option.bind_some, Option.bind_some, spec_op k 1 0, Option.bind_some, Option.bind_some, Plain.andS]
  cases b with
  | true => rfl
  | false =>
    rw [if_neg (by decide)]
    by_cases h : kind = 14
    · rw [if_pos h, if_pos h]; rfl
    · rw [if_neg h, if_neg h, Plain.andP]
      unfold Plain.emp
      rw [show decide (s.toList = ([] : List UInt8)) = (s.toList == ([] : List UInt8)) from by rw [Bool.eq_iff_iff]; simp]
      rfl
theorem impl_act_j (k : Nat) (b : Bool) (kind a c : Int) (s : ByteArray) (ok oa : Int) (ob : ByteArray) (hs : s.size ≤ 9223372036854775807) (hk : s.size + 1 < k) :
    impl_ActOk.j0 (k + 2) b kind a c s ok oa ob = some (!b && (if kind = 14 then Plain.nameB s && Plain.opB 1 0 ok oa ob else Plain.emp s && ((ok == 0) && ((oa == 0) && Plain.emp ob)))) := by
  simp only [impl_ActOk.j0]
  unfold impl_plainCode.f
  rw [impl_name s hs (k + 1) (by omega), Option.bind_some, Option.bind_some, impl_op k 1 0, Option.bind_some, Plain.andS]
  cases b with
  | true => rfl
  | false =>
    rw [if_neg (by decide)]
    by_cases h : kind = 14
    · rw [if_pos h, if_pos h]; rfl
    · rw [if_neg h, if_neg h, Plain.andP]
      unfold Plain.emp
      rw [show decide (s.toList = ([] : List UInt8)) = (s.toList == ([] : List UInt8)) from by rw [Bool.eq_iff_iff]; simp]
      rfl
theorem sz_some (kind a c : Int) (s : ByteArray) (ok oa : Int) (ob : ByteArray) (n : Int) : ∃ t, laws_szAct.f kind a c s ok oa ob n = some t := by
  unfold laws_szAct.f laws_szOp.f
  repeat' (first | exact ⟨_, rfl⟩ | (split <;> (try simp only [Option.bind_some])))
theorem acts_same (k : Nat) (kind a c : Int) (s : ByteArray) (ok oa : Int) (ob : ByteArray) (hs : s.size ≤ 9223372036854775807) (hk : s.size + 1 < k) :
    ∃ b, spec_ActOk.f (k + 2) kind a c s ok oa ob = some b ∧ impl_ActOk.f (k + 2) kind a c s ok oa ob = some b := by
  unfold spec_ActOk.f impl_ActOk.f
  rw [spec_in, spec_in, spec_in, impl_in, impl_in, impl_in]
  simp only [Option.bind_some, spec_act_j k _ kind a c s ok oa ob hs hk, impl_act_j k _ kind a c s ok oa ob hs hk]
  repeat' (first | exact ⟨_, rfl, rfl⟩ | split)
end FnExactActOkAid
open FnExactActOkAid
theorem FnExactActOk : FnExactActOkStm := by
  rintro ⟨kind, a, c, s, ok, oa, ob⟩ ⟨_, _, _, hs, _⟩
  simp only at hs ⊢
  unfold maxLen at hs
  refine ⟨s.size + 2 + 2, ?_⟩
  unfold laws_FnExactActOk.f
  obtain ⟨t, ht⟩ := sz_some kind a c s ok oa ob 1048576
  obtain ⟨b, h1, h2⟩ := acts_same (s.size + 2) kind a c s ok oa ob hs (by omega)
  rw [ht, Option.bind_some]
  by_cases h : t < 0
  · rw [if_pos h]
  · rw [if_neg h]
    unfold laws_toAct.f laws_toOp.f
    rw [Option.bind_some, Option.bind_some]
    dsimp only
    rw [h1, Option.bind_some, Option.bind_some]
    dsimp only
    rw [h2, Option.bind_some]
    cases b <;> rfl
end Go.Proofs.Ytgdlpdkkncjbbaa.Pure
