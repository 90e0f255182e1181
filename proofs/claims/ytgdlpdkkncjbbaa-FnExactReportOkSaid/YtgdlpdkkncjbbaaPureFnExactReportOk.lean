/- The program's ReportOk answers as the reference's does, for all arguments. -/
import Derived.Test.YtgdlpdkkncjbbaaMFnExactReportOkx8
import Derived.Test.YtgdlpdkkncjbbaaPlain2
import Derived.Test.YtgdlpdkkncjbbaaStmFnExactReportOk
namespace Go.Proofs.Ytgdlpdkkncjbbaa.Pure
open Go Go.RowKit Go.Proofs.Ytgdlpdkkncjbbaa Go.Proofs.Ytgdlpdkkncjbbaa.MFnExactReportOk Go.Proofs.YtgdlpdkkncjbbaaW.PrintWords Go.Proofs.YtgdlpdkkncjbbaaW.PrintLast
set_option linter.unusedVariables false
namespace FnExactReportOkAid
theorem spec_in (a b c : Int) : spec_l00In.f a b c = some (Plain.btw a b c) := Plain.in_ifs a b c
theorem impl_in (a b c : Int) : impl_between.f a b c = some (Plain.btw a b c) := Plain.in_ifs a b c
theorem spec_name_l (s : ByteArray) (hs : s.size ≤ 9223372036854775807) : ∀ (n i k : Nat), i + n = s.size → n < k → spec_l09Name.l0 k s (i : Int) = some (Plain.nameAll s n i)
  | 0, i, k, hi, hk => by
    obtain ⟨k, rfl⟩ : ∃ m, k = m + 1 := ⟨k - 1, by omega⟩
    unfold spec_l09Name.l0
    rw [if_neg (by omega)]
    rfl
  | n + 1, i, k, hi, hk => by
    obtain ⟨k, rfl⟩ : ∃ m, k = m + 1 := ⟨k - 1, by omega⟩
    unfold spec_l09Name.l0
    rw [if_pos (by omega), if_pos (by omega), Plain.ch_ifs, Plain.wrap_step (n := s.size) (by omega) hs]
    unfold Plain.nameAll
    cases h : Plain.chOk (bt s (i : Int)) with
    | true => rw [if_pos rfl, spec_name_l s hs n (i + 1) k (by omega) (by omega)]; rfl
    | false => rw [if_neg (by decide)]; rfl
theorem spec_name_yes (s : ByteArray) (k : Nat) : spec_l09Name.j0 (k + 1) s true = some false := by simp [spec_l09Name.j0]
theorem spec_name_no (s : ByteArray) (k : Nat) : spec_l09Name.j0 (k + 1) s false = spec_l09Name.l0 k s 0 := by simp [spec_l09Name.j0]
theorem spec_name (s : ByteArray) (hs : s.size ≤ 9223372036854775807) (k : Nat) (hk : s.size + 1 < k) : spec_l09Name.f k s = some (Plain.nameB s) := by
  obtain ⟨k, rfl⟩ : ∃ m, k = m + 1 := ⟨k - 1, by omega⟩
  unfold spec_l09Name.f Plain.nameB
  by_cases h1 : (s.size : Int) < 1
  · rw [if_pos h1, spec_name_yes, show decide (1 ≤ s.size) = false from decide_eq_false (by omega)]
    simp
  · rw [if_neg h1]
    by_cases h2 : (s.size : Int) > 8
    · rw [show decide ((s.size : Int) > 8) = true from decide_eq_true h2, spec_name_yes, show decide (s.size ≤ 8) = false from decide_eq_false (by omega)]
      simp
    · have hl := spec_name_l s hs s.size 0 k (by omega) (by omega)
      rw [show ((0 : Nat) : Int) = 0 from rfl] at hl
      rw [show decide ((s.size : Int) > 8) = false from decide_eq_false h2, spec_name_no, hl, show decide (1 ≤ s.size) = true from decide_eq_true (by omega), show decide (s.size ≤ 8) = true from decide_eq_true (by omega)]
      simp
theorem between_is (a b c : Int) : impl_between.f a b c = some (decide (b ≤ a) && decide (a ≤ c)) := by
  unfold impl_between.f
  by_cases h : a ≥ b
  · rw [if_pos h, show decide (b ≤ a) = true from decide_eq_true h]; simp
  · rw [if_neg h, show decide (b ≤ a) = false from decide_eq_false h]; simp
theorem impl_name_l (s : ByteArray) (hs : s.size ≤ 9223372036854775807) : ∀ (n i k : Nat), i + n = s.size → n < k →
    impl_NameOk.l0 k s (s.size : Int) (i : Int) = some (Plain.nameAll s n i && (decide (1 ≤ s.size) && decide (s.size ≤ 8)))
  | 0, i, k, hi, hk => by
    obtain ⟨k, rfl⟩ : ∃ m, k = m + 1 := ⟨k - 1, by omega⟩
    unfold impl_NameOk.l0
    rw [if_neg (by omega), between_is]
    have e1 : decide (1 ≤ (s.size : Int)) = decide (1 ≤ s.size) := by rw [decide_eq_decide]; omega
    have e2 : decide ((s.size : Int) ≤ 8) = decide (s.size ≤ 8) := by rw [decide_eq_decide]; omega
    rw [e1, e2]
    simp [Plain.nameAll]
  | n + 1, i, k, hi, hk => by
    obtain ⟨k, rfl⟩ : ∃ m, k = m + 1 := ⟨k - 1, by omega⟩
    unfold impl_NameOk.l0
    rw [if_pos (by omega), if_pos (by omega), if_pos (by omega), Plain.ch_ifs, Plain.wrap_step (n := s.size) (by omega) hs]
    unfold Plain.nameAll
    cases h : Plain.chOk (bt s (i : Int)) with
    | true => rw [if_pos rfl, impl_name_l s hs n (i + 1) k (by omega) (by omega)]; rfl
    | false => rw [if_neg (by decide)]; rfl
theorem impl_name (s : ByteArray) (hs : s.size ≤ 9223372036854775807) (k : Nat) (hk : s.size < k) : impl_NameOk.f k s = some (Plain.nameB s) := by
  have h := impl_name_l s hs s.size 0 k (by omega) (by omega)
  unfold impl_NameOk.f Plain.nameB
  exact h
theorem spec_zero (e s : Int) : spec_l17Zero.f e s = some (Plain.zeroB e s) := rfl
theorem spec_ver (e s : Int) : spec_l17Ver.f e s = some (Plain.verB e s) := by
  unfold spec_l17Ver.f Plain.verB
  rw [spec_zero, Option.bind_some, spec_in, Option.bind_some, spec_in, Option.bind_some, Plain.andS, Plain.orS]
theorem spec_full (e s : Int) : spec_l17Full.f e s = some (Plain.fullB e s) := by
  unfold spec_l17Full.f Plain.fullB
  rw [spec_ver, Option.bind_some, spec_zero, Option.bind_some, Plain.andS]
theorem spec_sum (n : Int) : spec_l17Sum.f n = some (Plain.sumB n) := by
  unfold spec_l17Sum.f
  rw [spec_in]; rfl
theorem impl_ver (e s : Int) : impl_verOk.f e s = some (Plain.verB e s) := by
  unfold impl_verOk.f Plain.verB
  rw [impl_in, Option.bind_some, impl_in, Option.bind_some, Plain.andS, Plain.orS]
  rfl
theorem szProof_l : ∀ (d i k : Nat) (l : List S124) (x : Int), i + d = l.length → l.length ≤ 1048576 → d < k → ∃ t, laws_szProofS.l0 k l x (i : Int) = some t
  | 0, i, k, l, x, hi, hl, hk => by
    obtain ⟨k, rfl⟩ : ∃ m, k = m + 1 := ⟨k - 1, by omega⟩
    simp only [laws_szProofS.l0]
    rw [if_neg (by omega)]; exact ⟨_, rfl⟩
  | d + 1, i, k, l, x, hi, hl, hk => by
    obtain ⟨k, rfl⟩ : ∃ m, k = m + 1 := ⟨k - 1, by omega⟩
    simp only [laws_szProofS.l0]
    rw [if_pos (by omega), if_pos (by omega), Plain.wrap_step (n := l.length) (by omega) (by omega)]
    have ih := fun x => szProof_l d (i + 1) k l x (by omega) hl (by omega)
    have el : ∀ y, ∃ t, laws_szProof.f (rd_T124 l (i : Int)).f0 (rd_T124 l (i : Int)).f1.f0 (rd_T124 l (i : Int)).f1.f1 (rd_T124 l (i : Int)).f2 (rd_T124 l (i : Int)).f3 (rd_T124 l (i : Int)).f4 y = some t := by
      intro y
      unfold laws_szProof.f 
      repeat' (first | exact ⟨_, rfl⟩ | (split <;> (try simp only [Option.bind_some])))
    obtain ⟨t, ht⟩ := el x
    rw [ht, Option.bind_some]
    split
    · exact ⟨_, rfl⟩
    · exact ih _
theorem szProof_is (l : List S124) (hl : l.length ≤ 9223372036854775807) (n : Int) (hn : -9000000000000000000 ≤ n ∧ n ≤ 1048576) (hl2 : l.length ≤ 1048576 ∨ n = 1048576 ∨ 0 ≤ n) (k : Nat) (hk : l.length < k) : ∃ t, laws_szProofS.f k l n = some t ∧ (¬ t < 0 → l.length ≤ 1048576) := by
  unfold laws_szProofS.f
  by_cases h : wrap64 (n - (l.length : Int)) < 0
  · rw [if_pos h]; exact ⟨_, rfl, fun h => absurd (by decide) h⟩
  · rw [if_neg h]
    have hl3 : l.length ≤ 1048576 := by
      rcases hl2 with h2 | h2 | h2
      · exact h2
      · subst h2; unfold wrap64 at h; omega
      · unfold wrap64 at h; omega
    obtain ⟨t, ht⟩ := szProof_l l.length 0 k l (wrap64 (n - (l.length : Int))) (by omega) hl3 hk
    exact ⟨t, ht, fun _ => hl3⟩
def convProof (x : S124) : S116 := ⟨x.f0, ⟨x.f1.f0, x.f1.f1⟩, x.f2, x.f3, x.f4⟩
theorem toProof_l : ∀ (d i k : Nat) (l : List S124) (out : List S116), i + d = l.length → out.length = l.length → l.length ≤ 1048576 → d < k → laws_toProofS.l0 k l out (i : Int) = some (out.take i ++ (l.drop i).map convProof)
  | 0, i, k, l, out, hi, ho, hl, hk => by
    obtain ⟨k, rfl⟩ : ∃ m, k = m + 1 := ⟨k - 1, by omega⟩
    simp only [laws_toProofS.l0]
    rw [if_neg (by omega), List.take_of_length_le (by omega), List.drop_eq_nil_of_le (by omega)]
    simp
  | d + 1, i, k, l, out, hi, ho, hl, hk => by
    obtain ⟨k, rfl⟩ : ∃ m, k = m + 1 := ⟨k - 1, by omega⟩
    simp only [laws_toProofS.l0]
    unfold laws_toProof.f laws_toVer.f
    simp only [Option.bind_some]
    rw [if_pos (by omega), if_pos (by omega), if_pos (by omega), Plain.wrap_step (n := l.length) (by omega) (by omega), toProof_l d (i + 1) k l _ (by omega) (by rw [List.length_set]; omega) hl (by omega)]
    rw [← Plain.fill_step convProof l out i z124 ho (by omega)]
    rfl
theorem toProof_is (l : List S124) (hl : l.length ≤ 1048576) (k : Nat) (hk : l.length < k) : laws_toProofS.f k l = some (l.map convProof) := by
  unfold laws_toProofS.f
  rw [if_pos (by omega), if_pos (by omega)]
  have h := toProof_l l.length 0 k l (List.replicate ((l.length : Int) : Int).toNat z116) (by omega) (by simp) hl hk
  rw [show ((0 : Nat) : Int) = 0 from rfl] at h
  rw [h]
  simp
theorem eqProof_self_l : ∀ (d i k : Nat) (l : List S116), i + d = l.length → l.length ≤ 1048576 → d < k → laws_eqProofS.l0 k l l (i : Int) = some true
  | 0, i, k, l, hi, hl, hk => by
    obtain ⟨k, rfl⟩ : ∃ m, k = m + 1 := ⟨k - 1, by omega⟩
    simp only [laws_eqProofS.l0]
    rw [if_neg (by omega)]
  | d + 1, i, k, l, hi, hl, hk => by
    obtain ⟨k, rfl⟩ : ∃ m, k = m + 1 := ⟨k - 1, by omega⟩
    have e : laws_eqProof.f (rd_T116 l (i : Int)).f0 (rd_T116 l (i : Int)).f1.f0 (rd_T116 l (i : Int)).f1.f1 (rd_T116 l (i : Int)).f2 (rd_T116 l (i : Int)).f3 (rd_T116 l (i : Int)).f4 (rd_T116 l (i : Int)).f0 (rd_T116 l (i : Int)).f1.f0 (rd_T116 l (i : Int)).f1.f1 (rd_T116 l (i : Int)).f2 (rd_T116 l (i : Int)).f3 (rd_T116 l (i : Int)).f4 = some true := by
      unfold laws_eqProof.f laws_eqVer.f
      simp
    simp only [laws_eqProofS.l0]
    rw [if_pos (by omega), if_pos (by omega), if_pos (by omega), e, Option.bind_some, if_pos rfl, Plain.wrap_step (n := l.length) (by omega) (by omega)]
    exact eqProof_self_l d (i + 1) k l (by omega) hl (by omega)
theorem eqProof_self (l : List S116) (hl : l.length ≤ 1048576) (k : Nat) (hk : l.length < k) : laws_eqProofS.f k l l = some true := by
  unfold laws_eqProofS.f
  rw [if_pos rfl]
  exact eqProof_self_l l.length 0 k l (by omega) hl hk
theorem cmp_lt : ∀ (a b : List UInt8), Lib.compareBytes a b < 0 ↔ Op.bytesLess a b = true
  | [], [] => by simp [Lib.compareBytes, Op.bytesLess]
  | [], _ :: _ => by simp [Lib.compareBytes, Op.bytesLess]
  | _ :: _, [] => by simp [Lib.compareBytes, Op.bytesLess]
  | a :: xs, b :: ys => by
    have ih := cmp_lt xs ys
    unfold Lib.compareBytes Op.bytesLess
    by_cases h1 : a < b
    · rw [if_pos h1]; simp [h1]
    · rw [if_neg h1]
      by_cases h2 : b < a
      · rw [if_pos h2]
        have : ¬ a = b := by rintro rfl; exact h1 h2
        simp [h1, this]
      · rw [if_neg h2, ih]
        have : a = b := by
          have g1 : ¬ a.toNat < b.toNat := fun h => h1 (UInt8.lt_iff_toNat_lt.2 h)
          have g2 : ¬ b.toNat < a.toNat := fun h => h2 (UInt8.lt_iff_toNat_lt.2 h)
          exact UInt8.toNat_inj.1 (by omega)
        simp [this]
theorem cmp_eq : ∀ (a b : List UInt8), Lib.compareBytes a b = 0 ↔ a = b
  | [], [] => by simp [Lib.compareBytes]
  | [], _ :: _ => by simp [Lib.compareBytes]
  | _ :: _, [] => by simp [Lib.compareBytes]
  | a :: xs, b :: ys => by
    have ih := cmp_eq xs ys
    unfold Lib.compareBytes
    by_cases h1 : a < b
    · rw [if_pos h1]
      have : ¬ a = b := by rintro rfl; exact absurd h1 (by simp)
      simp [this]
    · rw [if_neg h1]
      by_cases h2 : b < a
      · rw [if_pos h2]
        have : ¬ a = b := by rintro rfl; exact h1 h2
        simp [this]
      · rw [if_neg h2, ih]
        have : a = b := by
          have g1 : ¬ a.toNat < b.toNat := fun h => h1 (UInt8.lt_iff_toNat_lt.2 h)
          have g2 : ¬ b.toNat < a.toNat := fun h => h2 (UInt8.lt_iff_toNat_lt.2 h)
          exact UInt8.toNat_inj.1 (by omega)
        simp [this]
theorem or_l : ∀ (l : List Int) (d i k : Nat), i + d = l.length → l.length ≤ 100 → d < k → cmp_Or_int.l0 k 0 l (l.length : Int) (i : Int) = some (((l.drop i).find? (fun x => x != 0)).getD 0)
  | l, 0, i, k, hi, hl, hk => by
    obtain ⟨k, rfl⟩ : ∃ m, k = m + 1 := ⟨k - 1, by omega⟩
    simp only [cmp_Or_int.l0]
    rw [if_neg (by omega), List.drop_eq_nil_of_le (by omega)]
    rfl
  | l, d + 1, i, k, hi, hl, hk => by
    obtain ⟨k, rfl⟩ : ∃ m, k = m + 1 := ⟨k - 1, by omega⟩
    simp only [cmp_Or_int.l0]
    have e : rd l (i : Int) = l[i]'(by omega) := by
      unfold rd
      rw [List.getD_eq_getElem?_getD, List.getElem?_eq_getElem (by simpa using (by omega : i < l.length))]
      rfl
    rw [if_pos (by omega), if_pos (by omega), if_pos (by omega), Plain.wrap_step (n := l.length) (by omega) (by omega), List.drop_eq_getElem_cons (by omega), List.find?_cons, e]
    by_cases h : l[i]'(by omega) = 0
    · rw [if_pos h, or_l l d (i + 1) k (by omega) hl (by omega), show (l[i]'(by omega) != 0) = false by simpa using h]
    · rw [if_neg h, show (l[i]'(by omega) != 0) = true by simpa using h]
      rfl
theorem or_is (l : List Int) (hl : l.length ≤ 100) (k : Nat) (hk : l.length < k) : cmp_Or_int.f k l = some ((l.find? (fun x => x != 0)).getD 0) := by
  have := or_l l l.length 0 k (by omega) hl hk
  unfold cmp_Or_int.f
  rw [show ((0 : Nat) : Int) = 0 from rfl] at this
  rw [this, List.drop_zero]
def cmpI (a b : Int) : Int := if a < b then -1 else if a > b then 1 else 0
theorem cmpI_is (a b : Int) : cmp_Compare_int64.f a b = some (cmpI a b) := by
  unfold cmp_Compare_int64.f cmp_isNaN_int64.f cmpI
  rw [Option.bind_some, Option.bind_some, show (a != a) = false by simp, show (b != b) = false by simp, if_neg (by decide), if_neg (by decide)]
  split
  · rfl
  · split <;> rfl
def or2 (a b : Int) : Int := if a = 0 then b else a
theorem find2 (a b : Int) : (([a, b] : List Int).find? (fun x => x != 0)).getD 0 = or2 a b := by
  unfold or2
  by_cases h : a = 0
  · by_cases h2 : b = 0 <;> simp [h, h2]
  · simp [h]
theorem find3 (a b c : Int) : (([a, b, c] : List Int).find? (fun x => x != 0)).getD 0 = or2 a (or2 b c) := by
  unfold or2
  by_cases h : a = 0
  · by_cases h2 : b = 0
    · by_cases h3 : c = 0 <;> simp [h, h2, h3]
    · simp [h, h2]
  · simp [h]
def cmpV (a b c d : Int) : Int := or2 (cmpI a c) (cmpI b d)
theorem cmpV_is (k : Nat) (hk : 3 < k) (a b c d : Int) : impl_compareVers.f k a b c d = some (cmpV a b c d) := by
  unfold impl_compareVers.f cmpV
  rw [cmpI_is, cmpI_is, Option.bind_some, Option.bind_some, or_is _ (by simp) k (by simp; omega), Option.bind_some, find2]
theorem cmpV_neg (a b c d : Int) : cmpV a b c d < 0 ↔ a < c ∨ a = c ∧ b < d := by
  unfold cmpV or2 cmpI
  repeat' split
  all_goals omega
theorem cmpV_zero (a b c d : Int) : cmpV a b c d = 0 ↔ a = c ∧ b = d := by
  unfold cmpV or2 cmpI
  repeat' split
  all_goals omega
theorem cmpI_neg (a b : Int) : cmpI a b < 0 ↔ a < b := by
  unfold cmpI
  repeat' split
  all_goals omega
theorem proof_spec (s : ByteArray) (hs : s.size ≤ 9223372036854775807) (k : Nat) (hk : s.size + 1 < k) (e q p a b : Int) :
    spec_l26Proof.f k s e q p a b = some (Plain.nameB s && (Plain.fullB e q && (Plain.btw p 0 6 && (Plain.sumB a && Plain.sumB b)))) := by
  unfold spec_l26Proof.f spec_l24Pos.f
  rw [spec_name s hs k hk, Option.bind_some, spec_full, Option.bind_some, spec_in, Option.bind_some, Option.bind_some, spec_sum, Option.bind_some, spec_sum, Option.bind_some, Plain.andS, Plain.andS, Plain.andS, Plain.andS]
theorem impl_real (e s : Int) : impl_realVer.f e s = some (Plain.fullB e s) := by
  unfold impl_realVer.f Plain.fullB Plain.zeroB
  rw [impl_ver, Option.bind_some, Plain.andS]
  cases e == 0 <;> rfl
/-- Whether a proof stands ahead of another one. -/
def lessB (a b : S116) : Bool := if a.f0.toList = b.f0.toList then (if (!(a.f1.f0 == b.f1.f0) || (!(a.f1.f1 == b.f1.f1))) = true then (decide (a.f1.f0 < b.f1.f0) || (decide (a.f1.f0 = b.f1.f0) && decide (a.f1.f1 < b.f1.f1))) else decide (a.f2 < b.f2)) else Op.bytesLess a.f0.toList b.f0.toList
theorem less_spec (a b : S116) (x y : Int) (s t : ByteArray) : spec_l17ChunkLess.f a.f0 a.f1.f0 a.f1.f1 a.f2 x s b.f0 b.f1.f0 b.f1.f1 b.f2 y t = some (lessB a b) := by
  unfold spec_l17ChunkLess.f spec_VerLess.f lessB
  repeat' (first | rfl | split | (simp only [Option.bind_some]))
  all_goals simp_all
theorem toList_data (s : ByteArray) : s.toList = s.data.toList := ByteArray.toList_eq s
theorem less_impl (k : Nat) (hk : 4 < k) (a b : S116) : ∃ c, impl_compareProofs.f k a.f0 a.f1.f0 a.f1.f1 a.f2 a.f3 a.f4 b.f0 b.f1.f0 b.f1.f1 b.f2 b.f3 b.f4 = some c ∧ (c < 0 ↔ lessB a b = true) := by
  unfold impl_compareProofs.f strings_Compare.f
  rw [Option.bind_some, cmpV_is k (by omega), cmpI_is, Option.bind_some, Option.bind_some, or_is _ (by simp) k (by simp; omega), Option.bind_some, find3]
  refine ⟨_, rfl, ?_⟩
  have h1 := cmp_lt a.f0.data.toList b.f0.data.toList
  have h2 := cmp_eq a.f0.data.toList b.f0.data.toList
  have v1 := cmpV_neg a.f1.f0 a.f1.f1 b.f1.f0 b.f1.f1
  have v2 := cmpV_zero a.f1.f0 a.f1.f1 b.f1.f0 b.f1.f1
  have p1 := cmpI_neg a.f2 b.f2
  unfold lessB
  rw [toList_data, toList_data]
  generalize Lib.compareBytes a.f0.data.toList b.f0.data.toList = c1 at h1 h2 ⊢
  generalize cmpV a.f1.f0 a.f1.f1 b.f1.f0 b.f1.f1 = c2 at v1 v2 ⊢
  generalize cmpI a.f2 b.f2 = c3 at p1 ⊢
  unfold or2
  by_cases e1 : c1 = 0
  · rw [if_pos e1, if_pos (h2.1 e1)]
    by_cases e2 : c2 = 0
    · obtain ⟨q1, q2⟩ := v2.1 e2
      rw [if_pos e2, if_neg (by simp [q1, q2]), p1]; simp
    · rw [if_neg e2, if_pos (by
        simp only [Bool.or_eq_true, Bool.not_eq_true', beq_eq_false_iff_ne]
        by_cases z : a.f1.f0 = b.f1.f0
        · exact .inr (fun z2 => e2 (v2.2 ⟨z, z2⟩))
        · exact .inl z), v1]
      simp
  · rw [if_neg e1, if_neg (fun h => e1 (h2.2 h)), h1]
def okB (l : List S116) : Nat → Nat → Bool
  | 0, _ => true
  | d + 1, i => (Plain.nameB (rd_T116 l i).f0 && (Plain.fullB (rd_T116 l i).f1.f0 (rd_T116 l i).f1.f1 && (Plain.btw (rd_T116 l i).f2 0 6 && (Plain.sumB (rd_T116 l i).f3 && Plain.sumB (rd_T116 l i).f4)))) &&
      ((decide (i = 0) || lessB (rd_T116 l ((i : Int) - 1)) (rd_T116 l i)) && okB l d (i + 1))
theorem spec_l (l : List S116) (z : Int) (hl : l.length ≤ 1048576) (M : Nat) (hM : ∀ i : Int, (rd_T116 l i).f0.size ≤ M) (hM2 : M ≤ 9223372036854775807) : ∀ (d i k : Nat), i + d = l.length → d + M + 10 < k →
    spec_l26OK.l0 k (i : Int) z l = some (okB l d i)
  | 0, i, k, hi, hk => by
    obtain ⟨k, rfl⟩ : ∃ m, k = m + 1 := ⟨k - 1, by omega⟩
    simp only [spec_l26OK.l0]
    rw [if_neg (by omega)]; rfl
  | d + 1, i, k, hi, hk => by
    obtain ⟨k, rfl⟩ : ∃ m, k = m + 1 := ⟨k - 1, by omega⟩
    have ih := spec_l l z hl M hM hM2 d (i + 1) k (by omega) (by omega)
    have hs := hM (i : Int)
    simp only [spec_l26OK.l0]
    unfold okB spec_l26Key.f
    rw [if_pos (by omega), if_pos (by omega), proof_spec _ (by omega) k (by omega), Option.bind_some, Plain.wrap_step (n := l.length) (by omega) (by omega), ih]
    generalize (Plain.nameB (rd_T116 l i).f0 && (Plain.fullB (rd_T116 l i).f1.f0 (rd_T116 l i).f1.f1 && (Plain.btw (rd_T116 l i).f2 0 6 && (Plain.sumB (rd_T116 l i).f3 && Plain.sumB (rd_T116 l i).f4)))) = p
    by_cases h0 : i = 0
    · subst h0
      rw [if_neg (show ¬ ((0 : Nat) : Int) > 0 by decide)]
      cases p <;> simp
    · have e : wrap64 ((i : Int) - 1) = (i : Int) - 1 := by unfold wrap64; omega
      rw [e, if_pos (show (i : Int) > 0 by omega), if_pos (show 0 ≤ (i : Int) - 1 by omega), if_pos (show (i : Int) - 1 < (l.length : Int) by omega), Option.bind_some, Option.bind_some]
      dsimp only
      rw [less_spec, Option.bind_some]
      cases p <;> simp [h0] <;> cases lessB (rd_T116 l ((i : Int) - 1)) (rd_T116 l i) <;> simp
theorem impl_l (l : List S116) (z : Int) (hl : l.length ≤ 1048576) (M : Nat) (hM : ∀ i : Int, (rd_T116 l i).f0.size ≤ M) (hM2 : M ≤ 9223372036854775807) : ∀ (d i k : Nat), i + d = l.length → 2 * d + M + 10 < k →
    impl_ReportOk.l0 k l (l.length : Int) (i : Int) z l = some (okB l d i && (Plain.btw z 0 15 && decide ((l.length : Int) ≤ 160)))
  | 0, i, k, hi, hk => by
    obtain ⟨k, rfl⟩ : ∃ m, k = m + 1 := ⟨k - 1, by omega⟩
    simp only [impl_ReportOk.l0]
    unfold impl_isNode.f
    rw [if_neg (by omega), impl_in, Option.bind_some, Option.bind_some, Plain.andS]
    rfl
  | d + 1, i, k, hi, hk => by
    obtain ⟨k, rfl⟩ : ∃ m, k = m + 2 := ⟨k - 2, by omega⟩
    have ih := impl_l l z hl M hM hM2 d (i + 1) k (by omega) (by omega)
    have hs := hM (i : Int)
    have j_no : ∀ a b c e f g, impl_ReportOk.j1 (k + 1) (i : Int) l (l.length : Int) (i : Int) true z l a b c e f g = some false := fun _ _ _ _ _ _ => by simp only [impl_ReportOk.j1]; rfl
    have j_yes : impl_ReportOk.j1 (k + 1) (i : Int) l (l.length : Int) (i : Int) false z l (rd_T116 l i).f0 (rd_T116 l i).f1.f0 (rd_T116 l i).f1.f1 (rd_T116 l i).f2 (rd_T116 l i).f3 (rd_T116 l i).f4 =
        some ((decide (i = 0) || lessB (rd_T116 l ((i : Int) - 1)) (rd_T116 l i)) && (okB l d (i + 1) && (Plain.btw z 0 15 && decide ((l.length : Int) ≤ 160)))) := by
      simp only [impl_ReportOk.j1]
      rw [Plain.wrap_step (n := l.length) (by omega) (by omega), ih]
      by_cases h0 : i = 0
      · subst h0
        rw [if_neg (by decide), if_neg (by omega)]; simp
      · have e : wrap64 ((i : Int) - 1) = (i : Int) - 1 := by unfold wrap64; omega
        obtain ⟨c, hc, hc2⟩ := less_impl k (by omega) (rd_T116 l ((i : Int) - 1)) (rd_T116 l i)
        rw [e, if_neg (by decide), if_pos (show (i : Int) > 0 by omega), if_pos (show 0 ≤ (i : Int) - 1 by omega), if_pos (show (i : Int) - 1 < (l.length : Int) by omega), hc, Option.bind_some]
        cases hq : lessB (rd_T116 l ((i : Int) - 1)) (rd_T116 l i) with
        | true => rw [if_neg (by have := hc2.2 hq; omega)]; simp
        | false => rw [if_pos (by have : ¬ c < 0 := fun h => by rw [hc2.1 h] at hq; cases hq
                                  omega)]; simp [h0]
    rw [impl_ReportOk.l0]
    unfold okB impl_isPlace.f
    rw [if_pos (by omega), if_pos (by omega), if_pos (by omega), impl_name _ (by omega) (k + 1) (by omega), Option.bind_some, impl_real, Option.bind_some, impl_in, Option.bind_some, Option.bind_some, impl_in, Option.bind_some, impl_in, Option.bind_some]
    show _ = some (((Plain.nameB (rd_T116 l i).f0 && (Plain.fullB (rd_T116 l i).f1.f0 (rd_T116 l i).f1.f1 && (Plain.btw (rd_T116 l i).f2 0 6 && (Plain.btw (rd_T116 l i).f3 0 4294967295 && Plain.btw (rd_T116 l i).f4 0 4294967295)))) && _) && _)
    generalize Plain.nameB (rd_T116 l i).f0 = p1
    generalize Plain.fullB (rd_T116 l i).f1.f0 (rd_T116 l i).f1.f1 = p2
    generalize Plain.btw (rd_T116 l i).f2 0 6 = p3
    generalize Plain.btw (rd_T116 l i).f3 0 4294967295 = p4
    generalize Plain.btw (rd_T116 l i).f4 0 4294967295 = p5
    cases p1 <;> cases p2 <;> cases p3 <;> cases p4 <;> cases p5 <;> simp [j_no, j_yes, Bool.and_assoc]
theorem reports_same (l : List S116) (z : Int) (hl : l.length ≤ 1048576) (M : Nat) (hM : ∀ i : Int, (rd_T116 l i).f0.size ≤ M) (hM2 : M ≤ 9223372036854775807) (k : Nat) (hk : 2 * l.length + M + 20 < k) :
    ∃ b, spec_ReportOk.f k z l = some b ∧ impl_ReportOk.f k z l = some b := by
  obtain ⟨k, rfl⟩ : ∃ m, k = m + 1 := ⟨k - 1, by omega⟩
  unfold spec_ReportOk.f spec_l26OK.f impl_ReportOk.f
  have h1 := spec_l l z hl M hM hM2 l.length 0 k (by omega) (by omega)
  have h2 := impl_l l z hl M hM hM2 l.length 0 (k + 1) (by omega) (by omega)
  rw [show ((0 : Nat) : Int) = 0 from rfl] at h1 h2
  refine ⟨_, ?_, h2⟩
  rw [spec_in, Option.bind_some]
  have j_no : spec_l26OK.j0 (k + 1) true z l = some false := by simp [spec_l26OK.j0]
  have j_yes : spec_l26OK.j0 (k + 1) false z l = some (okB l l.length 0) := by simp [spec_l26OK.j0, h1]
  cases Plain.btw z 0 15 with
  | false => rw [if_neg (by decide), j_no]; simp
  | true =>
    rw [if_pos rfl]
    by_cases h3 : (l.length : Int) > 160
    · rw [show decide ((l.length : Int) > 160) = true from decide_eq_true h3, j_no, show decide ((l.length : Int) ≤ 160) = false from decide_eq_false (by omega)]; simp
    · rw [show decide ((l.length : Int) > 160) = false from decide_eq_false h3, j_yes, show decide ((l.length : Int) ≤ 160) = true from decide_eq_true (by omega)]; simp
theorem max_size (l : List S124) (h : ∀ y ∈ l, y.f0.size ≤ 9223372036854775807) : ∃ M, M ≤ 9223372036854775807 ∧ ∀ i : Int, (rd_T116 (l.map convProof) i).f0.size ≤ M := by
  refine ⟨9223372036854775807, Nat.le_refl _, fun i => ?_⟩
  unfold rd_T116
  rw [List.getD_eq_getElem?_getD, List.getElem?_map]
  cases hx : l[i.toNat]? with
  | none => exact Nat.zero_le _
  | some y =>
    simp only [Option.map_some, Option.getD_some]
    exact h y (List.mem_of_getElem? hx)
end FnExactReportOkAid
open FnExactReportOkAid
theorem FnExactReportOk : FnExactReportOkStm := by
  rintro ⟨z, l⟩ ⟨_, hl, hg⟩
  unfold maxLen at hl
  simp only at hl hg
  show ∃ k, laws_FnExactReportOk.f k z l = some true
  obtain ⟨M, hM, hM2⟩ := max_size l (fun y hy => by have := (hg y hy).1; unfold maxLen at this; omega)
  refine ⟨2 * l.length + M + 21, ?_⟩
  unfold laws_FnExactReportOk.f laws_szReport.f
  obtain ⟨t, ht, hs⟩ := szProof_is l (by omega) 1048576 (by omega) (.inr (.inl rfl)) (2 * l.length + M + 21) (by omega)
  rw [ht, Option.bind_some]
  by_cases h : t < 0
  · rw [if_pos h]; rfl
  · have hl2 := hs h
    have hl3 : (l.map convProof).length ≤ 1048576 := by rw [List.length_map]; exact hl2
    obtain ⟨b, h1, h2⟩ := reports_same (l.map convProof) z hl3 M hM2 hM (2 * l.length + M + 21) (by rw [List.length_map]; omega)
    unfold laws_toReport.f laws_eqReport.f
    rw [if_neg h, Option.bind_some, if_neg h, toProof_is l hl2 _ (by omega), Option.bind_some, Option.bind_some]
    dsimp only
    rw [h1, Option.bind_some, Option.bind_some]
    dsimp only
    rw [h2, Option.bind_some, if_neg (show ¬ ((b != b) = true) by cases b <;> decide), Option.bind_some]
    dsimp only
    rw [if_pos rfl, eqProof_self _ hl3 _ (by rw [List.length_map]; omega), Option.bind_some, if_pos rfl, Option.bind_some, if_pos rfl]
end Go.Proofs.Ytgdlpdkkncjbbaa.Pure
