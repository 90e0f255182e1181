/- The program's Counts answers as the reference's does, for all arguments. -/
import Derived.Test.YtgdlpdkkncjbbaaPFnExactCountsx8
import Derived.Test.YtgdlpdkkncjbbaaPlain
import Derived.Test.YtgdlpdkkncjbbaaStmFnExactCounts
namespace Go.Proofs.Ytgdlpdkkncjbbaa.Pure
open Go Go.RowKit Go.Proofs.Ytgdlpdkkncjbbaa Go.Proofs.Ytgdlpdkkncjbbaa.PFnExactCounts Go.Proofs.YtgdlpdkkncjbbaaW.PrintWords Go.Proofs.YtgdlpdkkncjbbaaW.PrintLast
set_option linter.unusedVariables false
namespace FnExactCountsAid
theorem spec_in (a b c : Int) : spec_l00In.f a b c = some (Plain.btw a b c) := Plain.in_ifs a b c
theorem impl_in (a b c : Int) : impl_between.f a b c = some (Plain.btw a b c) := Plain.in_ifs a b c
theorem spec_name_l (s : ByteArray) (hs : s.size ≤ 9223372036854775807) : ∀ (n i k : Nat), i + n = s.size → n < k → spec_l09Name.l0 k s (i : Int) = some (Plain.nameAll s n i)
  | 0, i, k, hi, hk => by
    obtain ⟨k, rfl⟩ : ∃ m, k = m + 1 := ⟨k - 1, by omega⟩
    unfold spec_l09Name.l0
    rw [if_neg (by omega)]
    rfl
  | n + 1, i, k, hi, hk => by
    obtain ⟨k, rfl⟩ : ∃ m, k = m + 1 := ⟨k - 1, by omega⟩
    unfold spec_l09Name.l0
    rw [if_pos (by omega), if_pos (by omega), Plain.ch_ifs, Plain.wrap_step (n := s.size) (by omega) hs]
    unfold Plain.nameAll
    cases h : Plain.chOk (bt s (i : Int)) with
    | true => rw [if_pos rfl, spec_name_l s hs n (i + 1) k (by omega) (by omega)]; rfl
    | false => rw [if_neg (by decide)]; rfl
theorem spec_name_yes (s : ByteArray) (k : Nat) : spec_l09Name.j0 (k + 1) s true = some false := by simp [spec_l09Name.j0]
theorem spec_name_no (s : ByteArray) (k : Nat) : spec_l09Name.j0 (k + 1) s false = spec_l09Name.l0 k s 0 := by simp [spec_l09Name.j0]
theorem spec_name (s : ByteArray) (hs : s.size ≤ 9223372036854775807) (k : Nat) (hk : s.size + 1 < k) : spec_l09Name.f k s = some (Plain.nameB s) := by
  obtain ⟨k, rfl⟩ : ∃ m, k = m + 1 := ⟨k - 1, by omega⟩
  unfold spec_l09Name.f Plain.nameB
  by_cases h1 : (s.size : Int) < 1
  · rw [if_pos h1, spec_name_yes, show decide (1 ≤ s.size) = false from decide_eq_false (by omega)]
    simp
  · rw [if_neg h1]
    by_cases h2 : (s.size : Int) > 8
    · rw [show decide ((s.size : Int) > 8) = true from decide_eq_true h2, spec_name_yes, show decide (s.size ≤ 8) = false from decide_eq_false (by omega)]
      simp
    · have hl := spec_name_l s hs s.size 0 k (by omega) (by omega)
      rw [show ((0 : Nat) : Int) = 0 from rfl] at hl
      rw [show decide ((s.size : Int) > 8) = false from decide_eq_false h2, spec_name_no, hl, show decide (1 ≤ s.size) = true from decide_eq_true (by omega), show decide (s.size ≤ 8) = true from decide_eq_true (by omega)]
      simp
theorem between_is (a b c : Int) : impl_between.f a b c = some (decide (b ≤ a) && decide (a ≤ c)) := by
  unfold impl_between.f
  by_cases h : a ≥ b
  · rw [if_pos h, show decide (b ≤ a) = true from decide_eq_true h]; simp
  · rw [if_neg h, show decide (b ≤ a) = false from decide_eq_false h]; simp
theorem impl_name_l (s : ByteArray) (hs : s.size ≤ 9223372036854775807) : ∀ (n i k : Nat), i + n = s.size → n < k →
    impl_NameOk.l0 k s (s.size : Int) (i : Int) = some (Plain.nameAll s n i && (decide (1 ≤ s.size) && decide (s.size ≤ 8)))
  | 0, i, k, hi, hk => by
    obtain ⟨k, rfl⟩ : ∃ m, k = m + 1 := ⟨k - 1, by omega⟩
    unfold impl_NameOk.l0
    rw [if_neg (by omega), between_is]
    have e1 : decide (1 ≤ (s.size : Int)) = decide (1 ≤ s.size) := by rw [decide_eq_decide]; omega
    have e2 : decide ((s.size : Int) ≤ 8) = decide (s.size ≤ 8) := by rw [decide_eq_decide]; omega
    rw [e1, e2]
    simp [Plain.nameAll]
  | n + 1, i, k, hi, hk => by
    obtain ⟨k, rfl⟩ : ∃ m, k = m + 1 := ⟨k - 1, by omega⟩
    unfold impl_NameOk.l0
    rw [if_pos (by omega), if_pos (by omega), if_pos (by omega), Plain.ch_ifs, Plain.wrap_step (n := s.size) (by omega) hs]
    unfold Plain.nameAll
    cases h : Plain.chOk (bt s (i : Int)) with
    | true => rw [if_pos rfl, impl_name_l s hs n (i + 1) k (by omega) (by omega)]; rfl
    | false => rw [if_neg (by decide)]; rfl
theorem impl_name (s : ByteArray) (hs : s.size ≤ 9223372036854775807) (k : Nat) (hk : s.size < k) : impl_NameOk.f k s = some (Plain.nameB s) := by
  have h := impl_name_l s hs s.size 0 k (by omega) (by omega)
  unfold impl_NameOk.f Plain.nameB
  exact h
theorem spec_zero (e s : Int) : spec_l17Zero.f e s = some (Plain.zeroB e s) := rfl
theorem spec_ver (e s : Int) : spec_l17Ver.f e s = some (Plain.verB e s) := by
  unfold spec_l17Ver.f Plain.verB
  rw [spec_zero, Option.bind_some, spec_in, Option.bind_some, spec_in, Option.bind_some, Plain.andS, Plain.orS]
theorem impl_ver (e s : Int) : impl_verOk.f e s = some (Plain.verB e s) := by
  unfold impl_verOk.f Plain.verB
  rw [impl_in, Option.bind_some, impl_in, Option.bind_some, Plain.andS, Plain.orS]
  rfl
theorem spec_code (K M : Int) : spec_CodeOk.f K M = some (Plain.codeB K M) := by
  unfold spec_CodeOk.f spec_l04Code.f Plain.codeB
  rw [spec_in, Option.bind_some, spec_in, Option.bind_some, Plain.andS, Option.bind_some]
theorem spec_op_j (k : Nat) (b1 b2 b3 : Bool) (kind K M a1 at_ : Int) (s : ByteArray) : spec_OpOk.j0 (k + 1) b1 b2 kind b3 K M a1 at_ s =
    some (if b3 = true then (at_ == 0) && Plain.emp s else if kind = 2 then (at_ == 0) && b1 else if kind = 3 then (K == 1) && (b2 && b1) else if kind = 4 then (K == 1) && ((at_ == 0) && b1) else if kind = 5 then (K == 1) && (b2 && Plain.emp s) else false) := by
  simp only [spec_OpOk.j0]
  unfold Plain.emp
  generalize (s.toList == ([] : List UInt8)) = e
  by_cases h3 : b3 = true
  · rw [if_pos h3, if_pos h3, Plain.andP]; rfl
  · rw [if_neg h3, if_neg h3]
    by_cases h2 : kind = 2
    · rw [if_pos h2, if_pos h2, Plain.andP]; rfl
    · rw [if_neg h2, if_neg h2]
      by_cases h4 : kind = 3
      · rw [if_pos h4, if_pos h4, Plain.andS, Plain.andP]; rfl
      · rw [if_neg h4, if_neg h4]
        by_cases h5 : kind = 4
        · rw [if_pos h5, if_pos h5, Plain.andP, Plain.andP]; rfl
        · rw [if_neg h5, if_neg h5]
          by_cases h6 : kind = 5
          · rw [if_pos h6, if_pos h6, Plain.andS, Plain.andP]; rfl
          · rw [if_neg h6, if_neg h6]
theorem spec_op (k : Nat) (K M kind at_ : Int) (s : ByteArray) : spec_OpOk.f (k + 1) K M kind at_ s = some (Plain.opB K M kind at_ s) := by
  unfold spec_OpOk.f Plain.opB
  rw [spec_code, Option.bind_some, spec_in, Option.bind_some, spec_op_j, spec_op_j]
  show _ = some (_ && (if _ then (at_ == 0) && Plain.emp s else if kind = 2 then (at_ == 0) && Plain.small s else _))
  unfold Plain.small
  cases Plain.codeB K M with
  | false => rfl
  | true =>
    rw [if_pos rfl]
    by_cases h1 : kind = 1
    · rw [if_pos h1, if_pos (show (kind == 1) = true by rw [h1]; rfl), if_pos (show kind = 1 ∨ kind = 6 from .inl h1)]; rfl
    · rw [if_neg h1]
      by_cases h6 : kind = 6
      · rw [if_pos (show (kind == 6) = true by rw [h6]; rfl), if_pos (show kind = 1 ∨ kind = 6 from .inr h6)]; rfl
      · rw [if_neg (show ¬ (kind = 1 ∨ kind = 6) by omega), if_neg (show ¬ ((kind == 6) = true) by simpa using h6)]; rfl
theorem impl_code (K M : Int) : impl_CodeOk.f K M = some (Plain.codeB K M) := by
  unfold impl_CodeOk.f Plain.codeB
  rw [impl_in, Option.bind_some, impl_in, Option.bind_some, Plain.andS]
theorem impl_op_j (k : Nat) (b3 : Bool) (kind K M a1 at_ : Int) (s : ByteArray) : impl_OpOk.j0 (k + 1) kind b3 K M a1 at_ s =
    some (if b3 = true then (at_ == 0) && Plain.emp s else if kind = 2 then (at_ == 0) && Plain.small s else if kind = 3 then (K == 1) && (Plain.btw at_ 0 64 && Plain.small s) else if kind = 4 then (K == 1) && ((at_ == 0) && Plain.small s) else if kind = 5 then (K == 1) && (Plain.btw at_ 0 64 && Plain.emp s) else false) := by
  simp only [impl_OpOk.j0]
  unfold Plain.emp Plain.small
  generalize (s.toList == ([] : List UInt8)) = e
  rw [impl_in, Option.bind_some, Option.bind_some]
  by_cases h3 : b3 = true
  · rw [if_pos h3, if_pos h3, Plain.andP]; rfl
  · rw [if_neg h3, if_neg h3]
    by_cases h2 : kind = 2
    · rw [if_pos h2, if_pos h2, Plain.andP]; rfl
    · rw [if_neg h2, if_neg h2]
      by_cases h4 : kind = 3
      · rw [if_pos h4, if_pos h4, Plain.andS, Plain.andP]; rfl
      · rw [if_neg h4, if_neg h4]
        by_cases h5 : kind = 4
        · rw [if_pos h5, if_pos h5, Plain.andP, Plain.andP]; rfl
        · rw [if_neg h5, if_neg h5]
          by_cases h6 : kind = 5
          · rw [if_pos h6, if_pos h6, Plain.andS, Plain.andP]; rfl
          · rw [if_neg h6, if_neg h6]
theorem impl_op (k : Nat) (K M kind at_ : Int) (s : ByteArray) : impl_OpOk.f (k + 1) K M kind at_ s = some (Plain.opB K M kind at_ s) := by
  unfold impl_OpOk.f Plain.opB
  rw [impl_code, Option.bind_some, impl_op_j, impl_op_j]
  cases Plain.codeB K M with
  | false => rfl
  | true =>
    rw [if_pos rfl]
    by_cases h1 : kind = 1
    · rw [if_pos h1, if_pos (show (kind == 1) = true by rw [h1]; rfl), if_pos (show kind = 1 ∨ kind = 6 from .inl h1)]; rfl
    · rw [if_neg h1]
      by_cases h6 : kind = 6
      · rw [if_pos (show (kind == 6) = true by rw [h6]; rfl), if_pos (show kind = 1 ∨ kind = 6 from .inr h6)]; rfl
      · rw [if_neg (show ¬ (kind = 1 ∨ kind = 6) by omega), if_neg (show ¬ ((kind == 6) = true) by simpa using h6)]; rfl
theorem empD (s : ByteArray) : decide (s.toList = ([] : List UInt8)) = Plain.emp s := by
  unfold Plain.emp; rw [Bool.eq_iff_iff]; simp
theorem spec_call_j (k : Nat) (b : Bool) (c no gp gn : Int) (name : ByteArray) (ok oa : Int) (ob : ByteArray) (bg en cd ve vs : Int) (body : ByteArray) :
    spec_l28Call.j0 (k + 1) b c no gp gn name ok oa ob bg en cd ve vs body = some (!b && Plain.restB bg en cd ve vs body) := by
  simp only [spec_l28Call.j0]
  unfold Plain.restB Plain.small
  rw [spec_zero, Option.bind_some, spec_in, Option.bind_some, spec_ver, Option.bind_some]
  show _ = some (!b && if en = 0 then (cd == 0) && (Plain.zeroB ve vs && (body.toList == ([] : List UInt8))) else decide (en > bg) && (Plain.btw cd 0 99 && (Plain.verB ve vs && (decide ((body.size : Int) ≤ 64) && ((cd == 0) || (body.toList == ([] : List UInt8)))))))
  generalize (body.toList == ([] : List UInt8)) = e
  generalize Plain.zeroB ve vs = z
  generalize Plain.verB ve vs = v
  generalize Plain.btw cd 0 99 = q
  cases b with
  | true => rfl
  | false =>
    rw [if_neg (by decide), Plain.andS]
    by_cases h1 : en = 0
    · rw [if_pos h1, if_pos h1, Plain.andP]; rfl
    · rw [if_neg h1, if_neg h1]
      have e3 : (if cd = 0 then some true else some e) = some ((cd == 0) || e) := by by_cases h : cd = 0 <;> simp [h]
      rw [e3, Plain.andP, Plain.andS, Plain.andS, Plain.andP]; rfl
theorem spec_client (c : Int) : spec_l17Client.f c = some (Plain.clientB c) := by
  unfold spec_l17Client.f; rw [spec_in]; rfl
theorem spec_pg (p n : Int) : spec_l17Pg.f p n = some (Plain.pgB p n) := by
  unfold spec_l17Pg.f; rw [spec_in, Option.bind_some, spec_in, Option.bind_some, Plain.andS]; rfl
theorem spec_call (k : Nat) (c no gp gn : Int) (name : ByteArray) (ok oa : Int) (ob : ByteArray) (bg en cd ve vs : Int) (body : ByteArray) (hs : name.size ≤ 9223372036854775807) (hk : name.size < k) :
    spec_CallOk.f (k + 1) c no gp gn name ok oa ob bg en cd ve vs body = some (Plain.callB c no gp gn name ok oa ob bg en cd ve vs body) := by
  unfold spec_CallOk.f spec_l28Call.f spec_NameOk.f spec_l16Plain.f Plain.callB
  rw [spec_client, Option.bind_some, spec_in, Option.bind_some, spec_pg, Option.bind_some, spec_name name hs (k + 1) (by omega), Option.bind_some, Option.bind_some, Option.bind_some]
  dsimp only
  rw [spec_op k 1 0, Option.bind_some]
  simp only [spec_call_j]
  generalize Plain.restB bg en cd ve vs body = r
  generalize Plain.opB 1 0 ok oa ob = o
  generalize Plain.nameB name = n
  generalize Plain.pgB gp gn = p
  generalize Plain.btw no 1 1000 = q
  generalize Plain.clientB c = t
  generalize decide (bg < 1) = z
  cases t <;> cases q <;> cases p <;> cases n <;> cases o <;> rfl
theorem impl_call_j (k : Nat) (b : Bool) (c no gp gn : Int) (name : ByteArray) (ok oa : Int) (ob : ByteArray) (bg en cd ve vs : Int) (body : ByteArray) :
    impl_CallOk.j0 (k + 1) b c no gp gn name ok oa ob bg en cd ve vs body = some (!b && Plain.restB bg en cd ve vs body) := by
  simp only [impl_CallOk.j0]
  unfold Plain.restB Plain.small
  rw [impl_in, Option.bind_some, impl_ver, Option.bind_some]
  show _ = some (!b && if en = 0 then (cd == 0) && ((ve == 0 && (vs == 0)) && (body.toList == ([] : List UInt8))) else decide (en > bg) && (Plain.btw cd 0 99 && (Plain.verB ve vs && (decide ((body.size : Int) ≤ 64) && ((cd == 0) || (body.toList == ([] : List UInt8)))))))
  generalize (body.toList == ([] : List UInt8)) = e
  generalize (ve == 0 && (vs == 0)) = z
  generalize Plain.verB ve vs = v
  generalize Plain.btw cd 0 99 = q
  cases b with
  | true => rfl
  | false =>
    rw [if_neg (by decide), Plain.andS]
    by_cases h1 : en = 0
    · rw [if_pos h1, if_pos h1, Plain.andP]; rfl
    · rw [if_neg h1, if_neg h1]
      have e3 : (if cd = 0 then some true else some e) = some ((cd == 0) || e) := by by_cases h : cd = 0 <;> simp [h]
      rw [e3, Plain.andP, Plain.andS, Plain.andS, Plain.andP]; rfl
theorem impl_client (c : Int) : impl_isClient.f c = some (Plain.clientB c) := by
  unfold impl_isClient.f; rw [impl_in]; rfl
theorem impl_pg (p n : Int) : impl_pgOk.f p n = some (Plain.pgB p n) := by
  unfold impl_pgOk.f; rw [impl_in, Option.bind_some, impl_in, Option.bind_some, Plain.andS]; rfl
theorem impl_call (k : Nat) (c no gp gn : Int) (name : ByteArray) (ok oa : Int) (ob : ByteArray) (bg en cd ve vs : Int) (body : ByteArray) (hs : name.size ≤ 9223372036854775807) (hk : name.size < k) :
    impl_CallOk.f (k + 1) c no gp gn name ok oa ob bg en cd ve vs body = some (Plain.callB c no gp gn name ok oa ob bg en cd ve vs body) := by
  unfold impl_CallOk.f impl_plainCode.f Plain.callB
  rw [impl_client, Option.bind_some, impl_in, Option.bind_some, impl_pg, Option.bind_some, impl_name name hs (k + 1) (by omega), Option.bind_some, Option.bind_some]
  dsimp only
  rw [impl_op k 1 0, Option.bind_some]
  simp only [impl_call_j]
  generalize Plain.restB bg en cd ve vs body = r
  generalize Plain.opB 1 0 ok oa ob = o
  generalize Plain.nameB name = n
  generalize Plain.pgB gp gn = p
  generalize Plain.btw no 1 1000 = q
  generalize Plain.clientB c = t
  generalize decide (bg < 1) = z
  cases t <;> cases q <;> cases p <;> cases n <;> cases o <;> rfl
theorem szcall_some (c no gp gn : Int) (name : ByteArray) (ok oa : Int) (ob : ByteArray) (bg en cd ve vs : Int) (body : ByteArray) (m : Int) : ∃ t, laws_szCall.f c no gp gn name ok oa ob bg en cd ve vs body m = some t := by
  unfold laws_szCall.f laws_szOp.f
  repeat' (first | exact ⟨_, rfl⟩ | (split <;> (try simp only [Option.bind_some])))
theorem counts_same (k : Nat) (c no gp gn : Int) (name : ByteArray) (ok oa : Int) (ob : ByteArray) (bg en cd ve vs : Int) (body : ByteArray) (hs : name.size ≤ 9223372036854775807) (hk : name.size < k) :
    ∃ b, spec_Counts.f (k + 1) c no gp gn name ok oa ob bg en cd ve vs body = some b ∧ impl_Counts.f (k + 1) c no gp gn name ok oa ob bg en cd ve vs body = some b := by
  unfold spec_Counts.f impl_Counts.f spec_l29Counts.f impl_Call_counts.f spec_Reads.f impl_Reads.f
  rw [spec_call k c no gp gn name ok oa ob bg en cd ve vs body hs hk, impl_call k c no gp gn name ok oa ob bg en cd ve vs body hs hk]
  cases hb : Plain.callB c no gp gn name ok oa ob bg en cd ve vs body with
  | false => exact ⟨false, rfl, rfl⟩
  | true =>
    have hen : en = 0 ∨ 0 < en := by
      unfold Plain.callB Plain.restB at hb
      simp only [Bool.and_eq_true, Bool.not_eq_true', decide_eq_false_iff_not] at hb
      obtain ⟨_, _, _, _, _, hbg, hr⟩ := hb
      by_cases h0 : en = 0
      · exact .inl h0
      · rw [if_neg h0] at hr
        simp at hr
        omega
    simp only [Option.bind_some, if_true]
    rcases hen with h | h
    · subst h
      exact ⟨false, rfl, rfl⟩
    · rw [if_pos h, if_neg (show ¬ en = 0 by omega)]
      by_cases h1 : cd = 0
      · rw [if_pos h1, if_pos h1]; exact ⟨true, rfl, rfl⟩
      · rw [if_neg h1, if_neg h1]
        by_cases h2 : cd = 3
        · rw [if_pos h2]; subst h2
          exact ⟨ok == 1, by cases (ok == 1) <;> rfl, rfl⟩
        · rw [if_neg h2, show (cd == 3) = false from by simpa using h2]
          exact ⟨false, by cases (ok == 1) <;> rfl, rfl⟩
end FnExactCountsAid
open FnExactCountsAid
theorem FnExactCounts : FnExactCountsStm := by
  rintro ⟨c, no, ⟨gp, gn⟩, name, ⟨ok, oa, ob⟩, bg, en, cd, ⟨ve, vs⟩, body⟩ ⟨_, _, _, hs, _⟩
  simp only at hs ⊢
  unfold maxLen at hs
  refine ⟨name.size + 1 + 1, ?_⟩
  unfold laws_FnExactCounts.f
  obtain ⟨t, ht⟩ := szcall_some c no gp gn name ok oa ob bg en cd ve vs body 1048576
  obtain ⟨b, h1, h2⟩ := counts_same (name.size + 1) c no gp gn name ok oa ob bg en cd ve vs body hs (by omega)
  rw [ht, Option.bind_some]
  by_cases h : t < 0
  · rw [if_pos h]
  · rw [if_neg h]
    unfold laws_toCall.f laws_toOp.f laws_toPg.f laws_toVer.f
    rw [Option.bind_some, Option.bind_some, Option.bind_some, Option.bind_some]
    dsimp only
    rw [h1, Option.bind_some, Option.bind_some]
    dsimp only
    rw [h2, Option.bind_some]
    cases b <;> rfl
end Go.Proofs.Ytgdlpdkkncjbbaa.Pure
