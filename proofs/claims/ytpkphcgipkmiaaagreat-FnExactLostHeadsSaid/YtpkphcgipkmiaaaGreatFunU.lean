/- Pulls by the light walk. -/
import Derived.Test.YtpkphcgipkmiaaaGreatFunT
namespace Go.Proofs.YtpkphcgipkmiaaaGreat.Hlp
open Go Go.RowKit Go.Proofs Go.Proofs.YtpkphcgipkmiaaaGreat.Lw
set_option linter.unusedVariables false
set_option linter.unusedSimpArgs false
set_option maxRecDepth 100000
set_option maxHeartbeats 4000000
def ixS (l : List GSource) (pos : Int) : Int := match l.findIdx? (fun s => decide (s.Pos = pos)) with | some i => (i : Int) | none => -1
theorem ixS_at {pos : Int} {l : List GSource} {k : Nat} (hk : k < l.length) (h : decide (l[k].Pos = pos) = true) (ha : ∀ (j : Nat) (hj : j < l.length), j < k → decide ((l[j]'hj).Pos = pos) = false) : ixS l pos = (k : Int) := by
  unfold ixS
  rw [List.findIdx?_eq_some_iff_getElem.2 ⟨hk, h, fun j hj => by rw [ha j (by omega) hj]; decide⟩]
theorem ixS_none {pos : Int} {l : List GSource} (ha : ∀ (j : Nat) (hj : j < l.length), decide ((l[j]'hj).Pos = pos) = false) : ixS l pos = -1 := by
  unfold ixS
  rw [List.findIdx?_eq_none_iff.2 fun x hx => by obtain ⟨j, hj, rfl⟩ := List.getElem_of_mem hx; exact ha j hj]
theorem pulls1_a (M : Mem) (s : GSource) (pos : Int) (a : Addr) (ha : M (a.add 0) = some (.int .i64 pos)) : Ans Tryz.prog M 92 #[.agg #[.int .i64 s.Node, .int .i64 s.Pos], .pointer (some a)] (.bool (decide (s.Pos = pos))) := by
  refine ansC_of T (l := [.agg #[.int .i64 s.Node, .int .i64 s.Pos], .pointer (some a)]) mixed Tryz.func92 rfl (by kernel_rfl) (Nat.le_of_ble_eq_true rfl) ?_
  repeat' ((conv => whnf); first | refine LdK.mk _ (by assumption) ?_ | fail)
  exact rfl
theorem ixSource_a (M : Mem) (l : List GSource) (A : Option Addr) (c : Nat) (h : SlR M RSource 2 16 A c l) (pos : Int) (a : Addr) (ha : M (a.add 0) = some (.int .i64 pos)) : Ans Tryz.prog M 91 #[.slice A l.length c, .func (.func 92) #[] #[.pointer (some a)]] (.int .i64 (ixS l pos)) := by
  have hl := h.len
  refine ans_of T (l := [.slice A l.length c, .func (.func 92) #[] #[.pointer (some a)]]) mixed Tryz.func91 rfl (by kernel_rfl) (Nat.le_of_ble_eq_true rfl) ?_
  (conv => whnf)
  refine LoopK.mk {k : Nat // k ≤ l.length ∧ ∀ (j : Nat) (hj : j < l.length), j < k → decide ((l[j]'hj).Pos = pos) = false} (fun ⟨k, _⟩ => [(0, .v (.slice A l.length c)), (1, .v (.func (.func 92) #[] #[.pointer (some a)])), (7, .v (.int .i64 (l.length : Int))), (8, .v (.int .i64 (k : Int)))]) (fun _ => []) (fun _ => M) (fun k => l.length - k.1) ⟨0, Nat.zero_le _, fun j _ hj => absurd hj (by omega)⟩ ⟨⟨⟨rfl, rfl, rfl, rfl, trivial⟩, trivial, rfl, rfl⟩, rfl⟩ ?_
  rintro ⟨k, hk, hp⟩
  (conv => whnf)
  refine CondK.mk (fun h1 => ?_) (fun h1 => ?_)
  · have hlt : k < l.length := by simpa using h1
    obtain ⟨ad, rfl, _, x0, x1⟩ := at_Source h (List.getElem?_eq_getElem hlt)
    repeat' ((conv => whnf); first | with_reducible refine CondK.tt ?_ | with_reducible refine CondK.ff ?_ | refine IdxK.mk _ rfl (by omega) (by omega) ?_ | refine LdK.mk _ (by assumption) ?_ | refine CallK.mk _ (pulls1_a _ l[k] pos a ha) ?_ | refine CondK.mk (fun hc => ?_) (fun hc => ?_) | fail)
    all_goals first
      | (show _ = _
         rw [ixS_at hlt hc hp]
         rfl)
      | exact ⟨⟨k + 1, hlt, fun j hj hj' => by rcases Nat.lt_succ_iff_lt_or_eq.mp hj' with hj' | rfl; exact hp j hj hj'; exact hc⟩, ⟨⟨rfl, rfl, rfl, look_int (i64_succ (by omega)), trivial⟩, trivial, rfl, rfl⟩, rfl, by simp; omega⟩
  · have he : k = l.length := by have : ¬ k < l.length := by simpa using h1
                                 omega
    subst he
    rw [ixS_none fun j hj => hp j hj hj]
    exact rfl
theorem size_a (M : Mem) (c : GCode) (hk : 0 ≤ c.K ∧ c.K ≤ 100) (hm : 0 ≤ c.M ∧ c.M ≤ 100) : Ans Tryz.prog M 90 #[.agg #[.int .i64 c.K, .int .i64 c.M]] (.int .i64 (c.K + c.M)) := by
  refine ans_of T (l := [.agg #[.int .i64 c.K, .int .i64 c.M]]) mixed Tryz.func90 rfl (by kernel_rfl) (Nat.le_of_ble_eq_true rfl) ?_
  (conv => whnf)
  refine congrArg (Value.int .i64) (i64_in ?_ ?_) <;> omega
def headOkF (x : GHead) : Bool := nameOkF x.Name && fullF x.Ver && sizeOkF x.Size x.Sum
def pullTo (all : List GSource) (K : Int) : Nat → List GSource
  | 0 => []
  | n + 1 => pullTo all K n ++ (if ((pullTo all K n).length : Int) < K then (all.find? fun s => decide (s.Pos = (n : Int))).toList else [])
theorem pullTo_len (all : List GSource) (K : Int) : ∀ n, (pullTo all K n).length ≤ n
  | 0 => Nat.le_refl _
  | n + 1 => by
    have ih := pullTo_len all K n
    unfold pullTo
    rw [List.length_append]
    split
    · cases all.find? fun s => decide (s.Pos = (n : Int)) <;> simp <;> omega
    · simp; omega
theorem pullTo_stop {all : List GSource} {K : Int} {k : Nat} (h : ¬ ((pullTo all K k).length : Int) < K) : ∀ n, k ≤ n → pullTo all K n = pullTo all K k
  | 0, hn => by have : k = 0 := by omega
                rw [this]
  | n + 1, hn => by
    rcases Nat.lt_or_ge n k with h1 | h1
    · have : k = n + 1 := by omega
      rw [this]
    · have ih := pullTo_stop h n h1
      show pullTo all K n ++ _ = _
      rw [ih, if_neg h, List.append_nil]
theorem find_at {pos : Int} {l : List GSource} {k : Nat} (hk : k < l.length) (h : decide (l[k].Pos = pos) = true) (ha : ∀ (j : Nat) (hj : j < l.length), j < k → decide ((l[j]'hj).Pos = pos) = false) : (l.find? fun s => decide (s.Pos = pos)) = some l[k] := by
  rw [List.find?_eq_some_iff_getElem]
  exact ⟨h, k, hk, rfl, fun j hj => by rw [ha j (by omega) hj]; decide⟩
theorem find_none {pos : Int} {l : List GSource} (ha : ∀ (j : Nat) (hj : j < l.length), decide ((l[j]'hj).Pos = pos) = false) : (l.find? fun s => decide (s.Pos = pos)) = none := by
  rw [List.find?_eq_none]
  intro x hx
  obtain ⟨j, hj, rfl⟩ := List.getElem_of_mem hx
  rw [ha j hj]
  decide
def pullF (l : List GNotice) (x : GHead) (c : GCode) : List GSource := pullTo (srcTo l x l.length) c.K (c.K + c.M).toNat
theorem l23Pulls_a (M : Mem) (c : GCode) (hK : 0 ≤ c.K ∧ c.K ≤ 100) (hM : 0 ≤ c.M ∧ c.M ≤ 100) (l : List GNotice) (A : Option Addr) (ca : Nat) (h : SlR M RNotice 13 168 A ca l) (hn : l.length ≤ 16) (x : GHead) : AnsR Tryz.prog M 73 #[.agg #[.int .i64 c.K, .int .i64 c.M], .slice A l.length ca, .agg #[.string x.Name, .int .i64 x.Ver.Epoch, .int .i64 x.Ver.Seq, .int .i64 x.Size, .int .i64 x.Sum]] (fun M' v => ∃ A' c', v = .slice A' (pullF l x c).length c' ∧ SlR M' RSource 2 16 A' c' (pullF l x c)) := by
  refine ansR_of T (l := [.agg #[.int .i64 c.K, .int .i64 c.M], .slice A l.length ca, .agg #[.string x.Name, .int .i64 x.Ver.Epoch, .int .i64 x.Ver.Seq, .int .i64 x.Size, .int .i64 x.Sum]]) mixed Tryz.func73 rfl (by kernel_rfl) (Nat.le_of_ble_eq_true rfl) ?_
  (conv => whnf)
  refine CallK.mr _ (l23Sources_a M l A ca h hn x) (fun v M1 hl1 hv => ?_)
  obtain ⟨A1, c1, rfl, hs⟩ := hv
  unfold pullF
  generalize hall : srcTo l x l.length = all at hs ⊢
  have hw : IntKind.i64.wrap (c.K + c.M) = c.K + c.M := i64_in (by omega) (by omega)
  have hsl := hs.len
  obtain ⟨N, hN⟩ : ∃ N : Nat, (N : Int) = c.K + c.M := ⟨(c.K + c.M).toNat, by omega⟩
  have hN2 : (c.K + c.M).toNat = N := by omega
  rw [hN2]
  (conv => whnf)
  refine LoopK.sw 2 3 {q : Nat × Nat × List Value // q.1 ≤ N ∧ (pullTo all c.K q.1).length ≤ q.2.1 ∧ RowR M1 RSource 2 (pullTo all c.K q.1) q.2.2} (fun ⟨⟨k, cap, ds⟩, _⟩ => [(3, .p 0 0), (7, .v (.slice A1 all.length c1)), (8, .s 2 (pullTo all c.K k).length cap 2), (9, .v (.int .i64 (k : Int)))]) (fun ⟨⟨k, cap, ds⟩, _⟩ => [(2, ds), (0, [.int .i64 c.K, .int .i64 c.M])]) (fun _ => M1) (fun q => N - q.1.1) ⟨(0, 0, []), Nat.zero_le _, Nat.le_refl _, RowR.nil⟩ 2 ⟨⟨⟨rfl, rfl, rfl, rfl, trivial⟩, ⟨rfl, rfl, trivial⟩, rfl, rfl⟩, rfl⟩ ?_
  rintro ⟨⟨k, cap, ds⟩, hk, hcap, hr⟩
  replace hk : k ≤ N := hk
  replace hcap : (pullTo all c.K k).length ≤ cap := hcap
  replace hr : RowR M1 RSource 2 (pullTo all c.K k) ds := hr
  have hlen := pullTo_len all c.K k
  have fin : pullTo all c.K N = pullTo all c.K k → SlR M1 RSource 2 16 A1 c1 all → True := fun _ _ => trivial
  by_cases hgo : k < N ∧ ((pullTo all c.K k).length : Int) < c.K
  · obtain ⟨hlt, hlK⟩ := hgo
    have e0 : ∀ o, (all.find? fun s => decide (s.Pos = (k : Int))) = o → pullTo all c.K (k + 1) = pullTo all c.K k ++ o.toList := fun o ho => by
      show pullTo all c.K k ++ _ = _
      rw [if_pos hlK, ho]
    repeat' ((conv => whnf); first | with_reducible refine CondK.tt ?_ | with_reducible refine CondK.ff ?_ | refine CondK.yes' (show decide ((k : Int) < IntKind.i64.wrap (c.K + c.M)) = true from decide_eq_true (by rw [hw]; omega)) ?_ | refine CondK.yes' (show decide (((pullTo all c.K k).length : Int) < c.K) = true from decide_eq_true hlK) ?_ | fail)
    refine LoopK.mk {i : Nat // i ≤ all.length ∧ ∀ (j : Nat) (hj : j < all.length), j < i → decide ((all[j]'hj).Pos = (k : Int)) = false} (fun ⟨i, _⟩ => [(3, .p 0 0), (7, .v (.slice A1 all.length c1)), (8, .s 2 (pullTo all c.K k).length cap 2), (9, .v (.int .i64 (k : Int))), (10, .v (.int .i64 (i : Int)))]) (fun _ => [(2, ds), (0, [.int .i64 c.K, .int .i64 c.M])]) (fun _ => M1) (fun i => all.length - i.1) ⟨0, Nat.zero_le _, fun j _ hj => absurd hj (by omega)⟩ ⟨⟨⟨rfl, rfl, rfl, rfl, rfl, trivial⟩, ⟨rfl, rfl, trivial⟩, rfl, rfl⟩, rfl⟩ ?_
    rintro ⟨i, hi, hp⟩
    (conv => whnf)
    refine CondK.mk (fun h2 => ?_) (fun h2 => ?_)
    · have hlt2 : i < all.length := by simpa using h2
      obtain ⟨y, hyk⟩ : ∃ y, all[i] = y := ⟨_, rfl⟩
      have hy : all[i]? = some y := by rw [List.getElem?_eq_getElem hlt2, hyk]
      obtain ⟨ad, rfl, _, x0, x1⟩ := at_Source hs hy
      repeat' ((conv => whnf); first | with_reducible refine CondK.tt ?_ | with_reducible refine CondK.ff ?_ | refine IdxK.mk _ rfl (by omega) (by omega) ?_ | refine LdK.mk _ (by assumption) ?_ | refine AppK.mk (by show (2 * _ + 512) * 16 ≤ 281474976710656; omega) (by omega) (.inr rfl) (by first | exact hr.all | rfl) (fun cap3 hcap3 => ?_) | refine CondK.mk (fun hc => ?_) (fun hc => ?_) | fail)
      · have hc' : decide (all[i].Pos = (k : Int)) = true := by rw [hyk]; exact decide_eq_true (eq_of_beq hc)
        have e := e0 _ (find_at hlt2 hc' hp)
        rw [hyk] at e
        refine ⟨⟨(k + 1, cap3, ds ++ [.int .i64 y.Node, .int .i64 y.Pos]), hlt, ?_, ?_⟩, 4, ⟨⟨rfl, rfl, congrArg (fun t => some (PV.s 4 t cap3 2)) ?_, look_int (i64_succ (by omega)), trivial⟩, ⟨rfl, rfl, trivial⟩, rfl, rfl⟩, rfl, by simp; omega⟩
        · show (pullTo all c.K (k + 1)).length ≤ cap3
          rw [e, List.length_append]; exact hcap3
        · show RowR M1 RSource 2 (pullTo all c.K (k + 1)) _
          rw [e]
          exact hr.app (RowR.one (x := y) ⟨rfl, trivial⟩ rfl rfl)
        · rw [e]
          simp only [List.length_append, Option.toList_some, List.length_singleton]
      · have hc' : decide (all[i].Pos = (k : Int)) = false := by rw [hyk]; exact decide_eq_false fun q => by rw [q] at hc; exact absurd (beq_self_eq_true _) (by rw [hc]; decide)
        exact ⟨⟨i + 1, hlt2, fun j hj hj' => by rcases Nat.lt_succ_iff_lt_or_eq.mp hj' with hj' | rfl; exact hp j hj hj'; exact hc'⟩, ⟨⟨rfl, rfl, rfl, rfl, look_int (i64_succ (by omega)), trivial⟩, ⟨rfl, rfl, trivial⟩, rfl, rfl⟩, rfl, by simp; omega⟩
    · have he : i = all.length := by have : ¬ i < all.length := by simpa using h2
                                     omega
      subst he
      have e := e0 _ (find_none fun j hj => hp j hj hj)
      rw [Option.toList_none, List.append_nil] at e
      refine ⟨⟨(k + 1, cap, ds), hlt, by show (pullTo all c.K (k + 1)).length ≤ cap; rw [e]; exact hcap, by show RowR M1 RSource 2 (pullTo all c.K (k + 1)) _; rw [e]; exact hr⟩, 2, ⟨⟨rfl, rfl, congrArg (fun t => some (PV.s 2 t cap 2)) (by rw [e]), look_int (i64_succ (by omega)), trivial⟩, ⟨rfl, rfl, trivial⟩, rfl, rfl⟩, rfl, by simp; omega⟩
  · have e : pullTo all c.K N = pullTo all c.K k := by
      by_cases hq : k = N
      · rw [hq]
      · exact pullTo_stop (by omega) N hk
    by_cases hlt : k < N
    · repeat' ((conv => whnf); first | with_reducible refine CondK.tt ?_ | with_reducible refine CondK.ff ?_ | refine CondK.yes' (show decide ((k : Int) < IntKind.i64.wrap (c.K + c.M)) = true from decide_eq_true (by rw [hw]; omega)) ?_ | refine CondK.no' (show decide (((pullTo all c.K k).length : Int) < c.K) = false from decide_eq_false (by omega)) ?_ | fail)
      exact RetK.mk fun g M' hl hg => ⟨_, _, slice_eq (by rw [e]), row_out hr e (fun _ _ h => h) (hg 2 _ rfl) (by rw [e]; exact hcap) (by rw [e]; omega)⟩
    · repeat' ((conv => whnf); first | with_reducible refine CondK.tt ?_ | with_reducible refine CondK.ff ?_ | refine CondK.no' (show decide ((k : Int) < IntKind.i64.wrap (c.K + c.M)) = false from decide_eq_false (by rw [hw]; omega)) ?_ | fail)
      exact RetK.mk fun g M' hl hg => ⟨_, _, slice_eq (by rw [e]), row_out hr e (fun _ _ h => h) (hg 2 _ rfl) (by rw [e]; exact hcap) (by rw [e]; omega)⟩
end Go.Proofs.YtpkphcgipkmiaaaGreat.Hlp
