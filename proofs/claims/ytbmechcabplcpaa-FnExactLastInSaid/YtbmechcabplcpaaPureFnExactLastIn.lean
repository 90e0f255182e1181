/- The program's LastIn returns what the reference's returns, for all arguments. -/
import Derived.Test.YtbmechcabplcpaaMFnExactLastInx4
import Derived.Test.YtbmechcabplcpaaPlain2
import Derived.Test.YtbmechcabplcpaaStmFnExactLastIn
namespace Go.Proofs.Ytbmechcabplcpaa.Pure
open Go Go.RowKit Go.Proofs.Ytbmechcabplcpaa Go.Proofs.Ytbmechcabplcpaa.MFnExactLastIn Go.Proofs.YtbmechcabplcpaaW.PrintWords Go.Proofs.YtbmechcabplcpaaW.PrintLast
set_option linter.unusedVariables false
namespace FnExactLastInAid
theorem szMade_l : ∀ (d i k : Nat) (l : List S111) (x : Int), i + d = l.length → l.length ≤ 1048576 → d < k → ∃ t, laws_szMadeS.l0 k l x (i : Int) = some t
  | 0, i, k, l, x, hi, hl, hk => by
    obtain ⟨k, rfl⟩ : ∃ m, k = m + 1 := ⟨k - 1, by omega⟩
    simp only [laws_szMadeS.l0]
    rw [if_neg (by omega)]; exact ⟨_, rfl⟩
  | d + 1, i, k, l, x, hi, hl, hk => by
    obtain ⟨k, rfl⟩ : ∃ m, k = m + 1 := ⟨k - 1, by omega⟩
    simp only [laws_szMadeS.l0]
    rw [if_pos (by omega), if_pos (by omega), Plain.wrap_step (n := l.length) (by omega) (by omega)]
    have ih := fun x => szMade_l d (i + 1) k l x (by omega) hl (by omega)
    have el : ∀ y, ∃ t, laws_szMade.f (rd_T111 l (i : Int)).f0.f0 (rd_T111 l (i : Int)).f0.f1 (rd_T111 l (i : Int)).f1.f0.f0 (rd_T111 l (i : Int)).f1.f0.f1 (rd_T111 l (i : Int)).f1.f1.f0 (rd_T111 l (i : Int)).f1.f1.f1 (rd_T111 l (i : Int)).f1.f2 (rd_T111 l (i : Int)).f1.f3 (rd_T111 l (i : Int)).f1.f4 (rd_T111 l (i : Int)).f1.f5 (rd_T111 l (i : Int)).f1.f6.f0 (rd_T111 l (i : Int)).f1.f6.f1 (rd_T111 l (i : Int)).f2 y = some t := by
      intro y
      unfold laws_szMade.f laws_szEntry.f
      repeat' (first | exact ⟨_, rfl⟩ | (split <;> (try simp only [Option.bind_some])))
    obtain ⟨t, ht⟩ := el x
    rw [ht, Option.bind_some]
    split
    · exact ⟨_, rfl⟩
    · exact ih _
theorem szMade_is (l : List S111) (hl : l.length ≤ 9223372036854775807) (n : Int) (hn : -9000000000000000000 ≤ n ∧ n ≤ 1048576) (hl2 : l.length ≤ 1048576 ∨ n = 1048576 ∨ 0 ≤ n) (k : Nat) (hk : l.length < k) : ∃ t, laws_szMadeS.f k l n = some t ∧ (¬ t < 0 → l.length ≤ 1048576) := by
  unfold laws_szMadeS.f
  by_cases h : wrap64 (n - (l.length : Int)) < 0
  · rw [if_pos h]; exact ⟨_, rfl, fun h => absurd (by decide) h⟩
  · rw [if_neg h]
    have hl3 : l.length ≤ 1048576 := by
      rcases hl2 with h2 | h2 | h2
      · exact h2
      · subst h2; unfold wrap64 at h; omega
      · unfold wrap64 at h; omega
    obtain ⟨t, ht⟩ := szMade_l l.length 0 k l (wrap64 (n - (l.length : Int))) (by omega) hl3 hk
    exact ⟨t, ht, fun _ => hl3⟩
def convMade (x : S111) : S33 := ⟨⟨x.f0.f0, x.f0.f1⟩, ⟨⟨x.f1.f0.f0, x.f1.f0.f1⟩, ⟨x.f1.f1.f0, x.f1.f1.f1⟩, x.f1.f2, x.f1.f3, x.f1.f4, x.f1.f5, ⟨x.f1.f6.f0, x.f1.f6.f1⟩⟩, x.f2⟩
theorem toMade_l : ∀ (d i k : Nat) (l : List S111) (out : List S33), i + d = l.length → out.length = l.length → l.length ≤ 1048576 → d < k → laws_toMadeS.l0 k l out (i : Int) = some (out.take i ++ (l.drop i).map convMade)
  | 0, i, k, l, out, hi, ho, hl, hk => by
    obtain ⟨k, rfl⟩ : ∃ m, k = m + 1 := ⟨k - 1, by omega⟩
    simp only [laws_toMadeS.l0]
    rw [if_neg (by omega), List.take_of_length_le (by omega), List.drop_eq_nil_of_le (by omega)]
    simp
  | d + 1, i, k, l, out, hi, ho, hl, hk => by
    obtain ⟨k, rfl⟩ : ∃ m, k = m + 1 := ⟨k - 1, by omega⟩
    simp only [laws_toMadeS.l0]
    unfold laws_toMade.f laws_toPg.f laws_toEntry.f laws_toVer.f laws_toReq.f
    simp only [Option.bind_some]
    rw [if_pos (by omega), if_pos (by omega), if_pos (by omega), Plain.wrap_step (n := l.length) (by omega) (by omega), toMade_l d (i + 1) k l _ (by omega) (by rw [List.length_set]; omega) hl (by omega)]
    rw [← Plain.fill_step convMade l out i z111 ho (by omega)]
    rfl
theorem toMade_is (l : List S111) (hl : l.length ≤ 1048576) (k : Nat) (hk : l.length < k) : laws_toMadeS.f k l = some (l.map convMade) := by
  unfold laws_toMadeS.f
  rw [if_pos (by omega), if_pos (by omega)]
  have h := toMade_l l.length 0 k l (List.replicate ((l.length : Int) : Int).toNat z33) (by omega) (by simp) hl hk
  rw [show ((0 : Nat) : Int) = 0 from rfl] at h
  rw [h]
  simp
theorem eqMade_self_l : ∀ (d i k : Nat) (l : List S33), i + d = l.length → l.length ≤ 1048576 → d < k → laws_eqMadeS.l0 k l l (i : Int) = some true
  | 0, i, k, l, hi, hl, hk => by
    obtain ⟨k, rfl⟩ : ∃ m, k = m + 1 := ⟨k - 1, by omega⟩
    simp only [laws_eqMadeS.l0]
    rw [if_neg (by omega)]
  | d + 1, i, k, l, hi, hl, hk => by
    obtain ⟨k, rfl⟩ : ∃ m, k = m + 1 := ⟨k - 1, by omega⟩
    have e : laws_eqMade.f (rd_T33 l (i : Int)).f0.f0 (rd_T33 l (i : Int)).f0.f1 (rd_T33 l (i : Int)).f1.f0.f0 (rd_T33 l (i : Int)).f1.f0.f1 (rd_T33 l (i : Int)).f1.f1.f0 (rd_T33 l (i : Int)).f1.f1.f1 (rd_T33 l (i : Int)).f1.f2 (rd_T33 l (i : Int)).f1.f3 (rd_T33 l (i : Int)).f1.f4 (rd_T33 l (i : Int)).f1.f5 (rd_T33 l (i : Int)).f1.f6.f0 (rd_T33 l (i : Int)).f1.f6.f1 (rd_T33 l (i : Int)).f2 (rd_T33 l (i : Int)).f0.f0 (rd_T33 l (i : Int)).f0.f1 (rd_T33 l (i : Int)).f1.f0.f0 (rd_T33 l (i : Int)).f1.f0.f1 (rd_T33 l (i : Int)).f1.f1.f0 (rd_T33 l (i : Int)).f1.f1.f1 (rd_T33 l (i : Int)).f1.f2 (rd_T33 l (i : Int)).f1.f3 (rd_T33 l (i : Int)).f1.f4 (rd_T33 l (i : Int)).f1.f5 (rd_T33 l (i : Int)).f1.f6.f0 (rd_T33 l (i : Int)).f1.f6.f1 (rd_T33 l (i : Int)).f2 = some true := by
      unfold laws_eqMade.f laws_eqPg.f laws_eqEntry.f laws_eqVer.f laws_eqReq.f
      simp
    simp only [laws_eqMadeS.l0]
    rw [if_pos (by omega), if_pos (by omega), if_pos (by omega), e, Option.bind_some, if_pos rfl, Plain.wrap_step (n := l.length) (by omega) (by omega)]
    exact eqMade_self_l d (i + 1) k l (by omega) hl (by omega)
theorem eqMade_self (l : List S33) (hl : l.length ≤ 1048576) (k : Nat) (hk : l.length < k) : laws_eqMadeS.f k l l = some true := by
  unfold laws_eqMadeS.f
  rw [if_pos rfl]
  exact eqMade_self_l l.length 0 k l (by omega) hl hk
abbrev flat (p : S33 × Bool) : Int × Int × Int × Int × Int × Int × ByteArray × Bool × Int × Int × Int × Int × ByteArray × Bool := (p.1.f0.f0, p.1.f0.f1, p.1.f1.f0.f0, p.1.f1.f0.f1, p.1.f1.f1.f0, p.1.f1.f1.f1, p.1.f1.f2, p.1.f1.f3, p.1.f1.f4, p.1.f1.f5, p.1.f1.f6.f0, p.1.f1.f6.f1, p.1.f2, p.2)
theorem last_l (l : List S33) (a : ByteArray) (hl : l.length ≤ 1048576) : ∀ (n k : Nat), n ≤ l.length → n < k → spec_l29Last.l0 k l a ((n : Int) - 1) = some (flat (lastM l a n))
  | 0, k, hn, hk => by
    obtain ⟨k, rfl⟩ : ∃ m, k = m + 1 := ⟨k - 1, by omega⟩
    simp only [spec_l29Last.l0]
    rw [if_neg (by omega)]
    rfl
  | n + 1, k, hn, hk => by
    obtain ⟨k, rfl⟩ : ∃ m, k = m + 1 := ⟨k - 1, by omega⟩
    have e : ((n + 1 : Nat) : Int) - 1 = (n : Int) := by omega
    have w : wrap64 ((n : Int) - 1) = (n : Int) - 1 := by unfold wrap64; omega
    rw [e]
    simp only [spec_l29Last.l0]
    rw [if_pos (by omega), if_pos (by omega), if_pos (by omega), w, last_l l a hl n k (by omega) (by omega), lastM]
    by_cases h : (rd_T33 l (n : Int)).f1.f2.toList = a.toList
    · rw [if_pos h, if_pos h]
    · rw [if_neg h, if_neg h]
theorem spec_is (k : Nat) (l : List S33) (a : ByteArray) (hl : l.length ≤ 1048576) (hk : l.length < k) : spec_LastIn.f k l a = some (flat (impl_LastIn.v l a)) := by
  unfold spec_LastIn.f impl_LastIn.v
  by_cases h : l.length > 80
  · rw [if_pos (by omega), if_pos h]
    rfl
  · have w : wrap64 ((l.length : Int) - 1) = (l.length : Int) - 1 := by unfold wrap64; omega
    have e := last_l l a hl l.length k (Nat.le_refl _) hk
    rw [if_neg (by omega), if_neg h]
    unfold spec_l29Last.f
    rw [w, e, Option.bind_some]
theorem impl_is (l : List S33) (a : ByteArray) : impl_LastIn.f l a = some (flat (impl_LastIn.v l a)) := rfl
theorem eq_one (x : S33) : laws_eqMade.f x.f0.f0 x.f0.f1 x.f1.f0.f0 x.f1.f0.f1 x.f1.f1.f0 x.f1.f1.f1 x.f1.f2 x.f1.f3 x.f1.f4 x.f1.f5 x.f1.f6.f0 x.f1.f6.f1 x.f2 x.f0.f0 x.f0.f1 x.f1.f0.f0 x.f1.f0.f1 x.f1.f1.f0 x.f1.f1.f1 x.f1.f2 x.f1.f3 x.f1.f4 x.f1.f5 x.f1.f6.f0 x.f1.f6.f1 x.f2 = some true := by
  unfold laws_eqMade.f laws_eqPg.f laws_eqEntry.f laws_eqVer.f laws_eqReq.f
  simp
end FnExactLastInAid
open FnExactLastInAid
theorem FnExactLastIn : FnExactLastInStm := fun l hl a ha => by
  refine ⟨1048580 + l.length + 1, ?_⟩
  generalize hk : 1048580 + l.length = k
  unfold laws_FnExactLastIn.f
  by_cases h : (a.size : Int) > 1048576
  · rw [if_pos h]
  · rw [if_neg h]
    obtain ⟨t, ht, h2⟩ := szMade_is l hl.1 1048576 (by omega) (.inr (.inl rfl)) (k + 1) (by omega)
    rw [ht, Option.bind_some]
    by_cases h3 : t < 0
    · rw [if_pos h3]
    · have hlen := h2 h3
      have hm : (l.map convMade).length = l.length := List.length_map _
      rw [if_neg h3, toMade_is l hlen (k + 1) (by omega), Option.bind_some, spec_is (k + 1) _ a (by omega) (by omega), Option.bind_some, Option.bind_some, impl_is, Option.bind_some]
      dsimp only
      rw [eq_one, Option.bind_some, if_pos rfl]
      simp only [laws_FnExactLastIn.j0]
      rw [toMade_is l hlen k (by omega), Option.bind_some, eqMade_self _ (by omega) k (by omega), Option.bind_some, if_pos rfl, if_neg (by simp)]
end Go.Proofs.Ytbmechcabplcpaa.Pure
