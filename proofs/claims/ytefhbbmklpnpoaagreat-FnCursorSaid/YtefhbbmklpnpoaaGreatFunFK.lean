/- The law's own small functions. -/
import Derived.Test.YtefhbbmklpnpoaaGreatPlC
import Derived.Test.YtefhbbmklpnpoaaGreatFunGA
namespace Go.Proofs.YtefhbbmklpnpoaaGreat.Hlp
open Go Go.RowKit Go.Proofs Go.Proofs.YtefhbbmklpnpoaaGreat.Lw
set_option linter.unusedVariables false
set_option linter.unusedSimpArgs false
set_option maxRecDepth 100000
set_option maxHeartbeats 4000000
theorem a8Same_a (M : Mem) (l : List GHead) (A B : Option Addr) (c d : Nat) (h : SlR M RHead 5 48 A c l) (h2 : SlR M RHead 5 48 B d l) : Ans Tryz.prog M 15 #[.slice A l.length c, .slice B l.length d] (.bool true) := by
  have hl := h.len
  refine ans_of T (l := [.slice A l.length c, .slice B l.length d]) mixed Tryz.func15 rfl (by kernel_rfl) (Nat.le_of_ble_eq_true rfl) ?_
  (conv => whnf)
  refine CondK.no' (bne_self_eq_false _) ?_
  (conv => whnf)
  refine LoopK.mk {k : Nat // k ≤ l.length} (fun ⟨k, _⟩ => [(0, .v (.slice A l.length c)), (1, .v (.slice B l.length d)), (5, .v (.int .i64 (k : Int)))]) (fun _ => []) (fun _ => M) (fun k => l.length - k.1) ⟨0, Nat.zero_le _⟩ ⟨⟨⟨rfl, rfl, rfl, trivial⟩, trivial, rfl, rfl⟩, rfl⟩ ?_
  rintro ⟨k, hk⟩
  by_cases hlt : k < l.length
  · have hx := List.getElem?_eq_getElem hlt
    obtain ⟨ad, rfl, bnx, x0, x1, x2, x3, x4⟩ := at_Head h hx
    obtain ⟨ad2, rfl, bny, y0, y1, y2, y3, y4⟩ := at_Head h2 hx
    (conv => whnf)
    refine CondK.yes' (decide_eq_true (by omega)) ?_
    repeat' ((conv => whnf); first | refine DrawN.q (by kernel_rfl) ?_ | refine IdxK.mk _ rfl (by omega) (by omega) ?_ | refine LdK.mk _ (by assumption) ?_ | refine CondK.no' (by simp; done) ?_ | fail)
    exact ⟨⟨k + 1, hlt⟩, ⟨⟨rfl, rfl, look_int (i64_succ (by omega)), trivial⟩, trivial, rfl, rfl⟩, rfl, by show l.length - (k + 1) < l.length - k; omega⟩
  · (conv => whnf)
    refine CondK.no' (decide_eq_false (by omega)) ?_
    (conv => whnf)
    exact rfl
theorem a8At_r (M : Mem) (A : Option Addr) (c : Nat) (l : List Int) (hs : SlR M RByte 1 1 A c l) (hl : l.length ≤ 1048576) : AnsR Tryz.prog M 13 #[.slice A l.length c, .int .i64 1, .int .i64 3] (fun _ v => ∃ x : Int, v = .int .i64 x ∧ 0 ≤ x ∧ x < 3) := by
  refine ansR_of T (l := [.slice A l.length c, .int .i64 1, .int .i64 3]) mixed Tryz.func13 rfl (by kernel_rfl) (Nat.le_of_ble_eq_true rfl) ?_
  by_cases h0 : l.length = 0
  · have hl0 : l = [] := List.eq_nil_of_length_eq_zero h0
    subst hl0
    (conv => whnf)
    refine DivK.mk (by decide) ?_
    (conv => whnf)
    refine RetK.mk fun g M' hl hg => ⟨_, rfl, ?_⟩
    show 0 ≤ (IntKind.i64.wrap ((1 : Int) * 7)).tmod 3 ∧ (IntKind.i64.wrap ((1 : Int) * 7)).tmod 3 < 3
    rw [i64_id (x := (1 : Int) * 7) (by omega) (by omega)]
    exact ⟨Int.tmod_nonneg _ (by decide), Int.tmod_lt_of_pos _ (by decide)⟩
  · have hm : 0 < (l.length : Int) := by omega
    have t1 := Int.tmod_nonneg (l.length : Int) (show (0 : Int) ≤ 1 by decide)
    have t2 := Int.tmod_lt_of_pos (1 : Int) hm
    have t3 := Int.tmod_nonneg (l.length : Int) (show (0 : Int) ≤ IntKind.i64.wrap (1 + 1) by decide)
    have t4 := Int.tmod_lt_of_pos (IntKind.i64.wrap (1 + 1)) hm
    obtain ⟨y, hy⟩ : ∃ y, l[((1 : Int).tmod (l.length : Int)).toNat]? = some y := ⟨_, List.getElem?_eq_getElem (by omega)⟩
    obtain ⟨A0, cs, rfl, ⟨rfl, hy0, hy1⟩, hcl, hel⟩ := hs.el _ y hy
    have hel0 := hel 0 _ rfl
    obtain ⟨z, hz⟩ : ∃ z, l[((IntKind.i64.wrap (1 + 1)).tmod (l.length : Int)).toNat]? = some z := ⟨_, List.getElem?_eq_getElem (by omega)⟩
    obtain ⟨A1, cs1, hA1, ⟨rfl, hz0, hz1⟩, hcl1, hel1⟩ := hs.el _ z hz
    cases hA1
    have hel10 := hel1 0 _ rfl
    have hq0 : 0 ≤ (1 : Int).tdiv (l.length : Int) := Int.tdiv_nonneg (by decide) (by omega)
    have hq1 : (1 : Int).tdiv (l.length : Int) ≤ 1 := by
      rcases Nat.lt_or_ge 1 l.length with h | h
      · rw [Int.tdiv_eq_zero_of_lt (by decide) (by omega)]; decide
      · rw [show (l.length : Int) = 1 by omega]; decide
    repeat' ((conv => whnf); first | refine CondK.no' (beq_eq_false_iff_ne.mpr (by omega)) ?_ | refine DrawN.q (by kernel_rfl) ?_ | refine DivK.mk (by omega) ?_ | refine IdxK.mk _ rfl (by assumption) (by assumption) ?_ | refine LdK.mk _ (by assumption) ?_ | fail)
    refine RetK.mk fun g M' hl hg => ⟨_, rfl, ?_⟩
    show 0 ≤ (IntKind.i64.wrap (IntKind.i64.wrap (IntKind.i64.wrap (IntKind.i64.wrap y * 31) + IntKind.i64.wrap z) + IntKind.i64.wrap ((1 : Int).tdiv (l.length : Int)))).tmod 3 ∧ _ < 3
    rw [i64_id (x := y) (by omega) (by omega), i64_id (x := z) (by omega) (by omega), i64_id (x := y * 31) (by omega) (by omega), i64_id (x := (1 : Int).tdiv _) (by omega) (by omega), i64_id (x := y * 31 + z) (by omega) (by omega), i64_id (by omega) (by omega)]
    exact ⟨Int.tmod_nonneg _ (by omega), Int.tmod_lt_of_pos _ (by omega)⟩
end Go.Proofs.YtefhbbmklpnpoaaGreat.Hlp
