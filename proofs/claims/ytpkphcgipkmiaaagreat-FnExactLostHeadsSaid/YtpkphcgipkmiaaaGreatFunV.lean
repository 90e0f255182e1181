/- CanFill by the light walk. -/
import Derived.Test.YtpkphcgipkmiaaaGreatFunU
namespace Go.Proofs.YtpkphcgipkmiaaaGreat.Hlp
open Go Go.RowKit Go.Proofs Go.Proofs.YtpkphcgipkmiaaaGreat.Lw
set_option linter.unusedVariables false
set_option linter.unusedSimpArgs false
set_option maxRecDepth 100000
set_option maxHeartbeats 4000000
def canF (l : List GNotice) (x : GHead) (c : GCode) : Bool := decide (((pullF l x c).length : Int) = c.K)
theorem l23Can_a (M : Mem) (c : GCode) (hK : 0 ≤ c.K ∧ c.K ≤ 100) (hM : 0 ≤ c.M ∧ c.M ≤ 100) (l : List GNotice) (A : Option Addr) (ca : Nat) (h : SlR M RNotice 13 168 A ca l) (hn : l.length ≤ 16) (x : GHead) : AnsR Tryz.prog M 35 #[.agg #[.int .i64 c.K, .int .i64 c.M], .slice A l.length ca, .agg #[.string x.Name, .int .i64 x.Ver.Epoch, .int .i64 x.Ver.Seq, .int .i64 x.Size, .int .i64 x.Sum]] (fun M' v => v = .bool (canF l x c)) := by
  refine ansR_of T (l := [.agg #[.int .i64 c.K, .int .i64 c.M], .slice A l.length ca, .agg #[.string x.Name, .int .i64 x.Ver.Epoch, .int .i64 x.Ver.Seq, .int .i64 x.Size, .int .i64 x.Sum]]) mixed Tryz.func35 rfl (by kernel_rfl) (Nat.le_of_ble_eq_true rfl) ?_
  (conv => whnf)
  have hz := Le.refl M
  refine DrawN.h {N : Mem // Le M N} (fun _ => [(6, .v (.bool (canF l x c)))]) (fun _ => []) 9 (fun N => N.1) (by kernel_rfl) ?_ ?_
  · repeat' ((conv => whnf); first | refine AndK.mk ?_ ?_ | refine HeldK.mk (by kernel_rfl) ?_ | (refine CallK.mr _ (l23Pulls_a _ c hK hM l A ca (h.mono hz (RNotice.mono hz)) hn x) (fun v M3 hl3 hv => ?_); replace hz := hz.trans hl3; obtain ⟨A1, c1, rfl, r2⟩ := hv) | fail)
    all_goals exact ⟨⟨_, hz⟩, ⟨⟨rfl, trivial⟩, trivial, rfl, rfl⟩, rfl⟩
  rintro ⟨N, hN⟩
  (conv => whnf)
  exact RetK.mk fun _ _ _ _ => rfl
theorem ix_find (all : List GSource) (pos : Int) : (∃ (i : Nat) (hi : i < all.length), ixS all pos = (i : Int) ∧ (all.find? fun s => decide (s.Pos = pos)) = some all[i]) ∨ (ixS all pos = -1 ∧ (all.find? fun s => decide (s.Pos = pos)) = none) := by
  cases h : all.findIdx? fun s => decide (s.Pos = pos) with
  | none =>
    have h' := List.findIdx?_eq_none_iff.1 h
    have ha : ∀ (j : Nat) (hj : j < all.length), decide ((all[j]'hj).Pos = pos) = false := fun j hj => h' _ (List.getElem_mem hj)
    exact .inr ⟨ixS_none ha, find_none ha⟩
  | some i =>
    obtain ⟨hi, hp, hq⟩ := List.findIdx?_eq_some_iff_getElem.1 h
    have ha : ∀ (j : Nat) (hj : j < all.length), j < i → decide ((all[j]'hj).Pos = pos) = false := fun j hj hji => by simpa using hq j hji
    exact .inl ⟨i, hi, ixS_at hi hp ha, find_at hi hp ha⟩
def rowQ (L : List GSource) (o : Option (Nat × List Value)) : PV := match o with | none => .v (.slice none 0 0) | some q => .s 2 L.length q.1 2
def rowC (o : Option (Nat × List Value)) (b : Bx) : Bx := match o with | none => b | some q => (2, q.2) :: b
theorem pulls_f (M : Mem) (c : GCode) (hK : 0 ≤ c.K ∧ c.K ≤ 100) (hM : 0 ≤ c.M ∧ c.M ≤ 100) (l : List GNotice) (A : Option Addr) (ca : Nat) (h : SlR M RNotice 13 168 A ca l) (hn : l.length ≤ 16) (hok : ∀ y ∈ l, y.State.Chunks.length ≤ 1048576 ∧ SortedC y.State.Chunks) (x : GHead) : AnsR Tryz.prog M 49 #[.agg #[.int .i64 c.K, .int .i64 c.M], .slice A l.length ca, .agg #[.string x.Name, .int .i64 x.Ver.Epoch, .int .i64 x.Ver.Seq, .int .i64 x.Size, .int .i64 x.Sum]] (fun M' v => ∃ A' c', v = .tuple #[.slice A' (pullF l x c).length c', .bool (canF l x c)] ∧ SlR (sub M' M) RSource 2 16 A' c' (pullF l x c)) := by
  refine ansR_of T (l := [.agg #[.int .i64 c.K, .int .i64 c.M], .slice A l.length ca, .agg #[.string x.Name, .int .i64 x.Ver.Epoch, .int .i64 x.Ver.Seq, .int .i64 x.Size, .int .i64 x.Sum]]) mixed Tryz.func49 rfl (by kernel_rfl) (Nat.le_of_ble_eq_true rfl) ?_
  (conv => whnf)
  refine CallK.mr _ (sources_a M l A ca h hn hok x) (fun v M1 hl1 hv => ?_)
  obtain ⟨A1, c1, rfl, hs⟩ := hv
  unfold canF pullF
  generalize hall : srcTo l x l.length = all at hs ⊢
  have hsl := hs.len
  obtain ⟨N, hN⟩ : ∃ N : Nat, (N : Int) = c.K + c.M := ⟨(c.K + c.M).toNat, by omega⟩
  have hN2 : (c.K + c.M).toNat = N := by omega
  rw [hN2]
  (conv => whnf)
  refine CallK.mk (.int .i64 (N : Int)) (by rw [hN]; exact size_a _ c hK hM) ?_
  (conv => whnf)
  refine LoopK.sw 2 3 {q : (Nat × Option (Nat × List Value)) × Mem // q.1.1 ≤ N ∧ RowO M1 (pullTo all c.K q.1.1) q.1.2 ∧ Le M1 q.2} (fun ⟨⟨⟨k, o⟩, _⟩, _⟩ => [(3, .p 0 0), (8, .v (.slice A1 all.length c1)), (9, rowQ (pullTo all c.K k) o), (16, .v (.int .i64 (N : Int))), (17, .v (.int .i64 (k : Int)))]) (fun ⟨⟨⟨k, o⟩, _⟩, _⟩ => rowC o [(0, [.int .i64 c.K, .int .i64 c.M])]) (fun q => q.1.2) (fun q => N - q.1.1.1) ⟨((0, none), M1), Nat.zero_le _, rfl, Le.refl _⟩ 2 ⟨⟨⟨rfl, rfl, rfl, rfl, rfl, trivial⟩, ⟨rfl, trivial⟩, rfl, rfl⟩, rfl⟩ ?_
  rintro ⟨⟨⟨k, o⟩, M2⟩, hk, hr, hM2⟩
  replace hk : k ≤ N := hk
  replace hr : RowO M1 (pullTo all c.K k) o := hr
  replace hM2 : Le M1 M2 := hM2
  have hlen := pullTo_len all c.K k
  have hs2 := hs.mono hM2 (RSource.mono hM2)
  (conv => whnf)
  refine CondK.mk (fun h1 => ?_) (fun h1 => ?_)
  · have hlt : k < N := by simpa using h1
    have e0 : ((pullTo all c.K k).length : Int) < c.K → ∀ o, (all.find? fun s => decide (s.Pos = (k : Int))) = o → pullTo all c.K (k + 1) = pullTo all c.K k ++ o.toList := fun hlK o ho => by
      show pullTo all c.K k ++ _ = _
      rw [if_pos hlK, ho]
    have e1 : ¬ ((pullTo all c.K k).length : Int) < c.K → pullTo all c.K (k + 1) = pullTo all c.K k := fun hlK => by
      show pullTo all c.K k ++ _ = _
      rw [if_neg hlK, List.append_nil]
    (conv => whnf)
    refine PubK.mk fun a M3 hl3 hc3 => ?_
    have hs3 := hs2.mono hl3 (RSource.mono hl3)
    have hM3 := hM2.trans hl3
    have hix := ixSource_a M3 all A1 c1 hs3 (k : Int) a (hc3 0 _ rfl)
    (conv => whnf)
    rcases ix_find all (k : Int) with ⟨i, hi, hx, hf⟩ | ⟨hx, hf⟩
    · rw [hx] at hix
      obtain ⟨y, hyk⟩ : ∃ y, all[i] = y := ⟨_, rfl⟩
      have hy : all[i]? = some y := by rw [List.getElem?_eq_getElem hi, hyk]
      rw [hyk] at hf
      obtain ⟨ad, rfl, _, x0, x1⟩ := at_Source hs3 hy
      by_cases hlK : ((pullTo all c.K k).length : Int) < c.K
      · have e := e0 hlK _ hf
        rw [Option.toList_some] at e
        cases o with
        | none =>
          replace hr : pullTo all c.K k = [] := hr
          rw [hr] at hlK
          repeat' ((conv => whnf); first | refine CallK.mk _ hix ?_ | refine CondK.yes' (decide_eq_true (by omega)) ?_ | refine CondK.yes' (decide_eq_true hlK) ?_ | refine IdxK.mk _ rfl (by omega) (by omega) ?_ | refine LdK.mk _ (by assumption) ?_ | refine AppK.mk (by decide) (by decide) (.inl (by decide)) rfl (fun cap3 hcap3 => ?_) | fail)
          refine ⟨⟨((k + 1, some (cap3, [.int .i64 y.Node, .int .i64 y.Pos])), M3), hlt, ?_, hM3⟩, 5, ⟨⟨rfl, rfl, congrArg (fun t => some (PV.s 5 t cap3 2)) ?_, rfl, look_int (i64_succ (by omega)), trivial⟩, ⟨rfl, rfl, trivial⟩, rfl, rfl⟩, rfl, by simp; omega⟩
          · show RowO M1 (pullTo all c.K (k + 1)) _
            rw [e, hr]
            exact ⟨hcap3, RowR.one (x := y) ⟨rfl, trivial⟩ rfl rfl⟩
          · rw [e, hr]
            rfl
        | some q =>
          obtain ⟨cap, ds⟩ := q
          obtain ⟨hr1, hr2⟩ := hr
          repeat' ((conv => whnf); first | refine CallK.mk _ hix ?_ | refine CondK.yes' (decide_eq_true (by omega)) ?_ | refine CondK.yes' (decide_eq_true hlK) ?_ | refine IdxK.mk _ rfl (by omega) (by omega) ?_ | refine LdK.mk _ (by assumption) ?_ | refine AppK.mk (by show (2 * _ + 512) * 16 ≤ 281474976710656; omega) (by omega) (.inr rfl) (by first | exact hr2.all | rfl) (fun cap3 hcap3 => ?_) | fail)
          refine ⟨⟨((k + 1, some (cap3, ds ++ [.int .i64 y.Node, .int .i64 y.Pos])), M3), hlt, ?_, hM3⟩, 5, ⟨⟨rfl, rfl, congrArg (fun t => some (PV.s 5 t cap3 2)) ?_, rfl, look_int (i64_succ (by omega)), trivial⟩, ⟨rfl, rfl, trivial⟩, rfl, rfl⟩, rfl, by simp; omega⟩
          · show RowO M1 (pullTo all c.K (k + 1)) _
            rw [e]
            exact ⟨by rw [List.length_append]; exact hcap3, hr2.app (RowR.one (x := y) ⟨rfl, trivial⟩ rfl rfl)⟩
          · rw [e]
            simp only [List.length_append, List.length_singleton]
      · have e := e1 hlK
        cases o with
        | none =>
          have hr0 : pullTo all c.K k = [] := hr
          have hlK0 := hlK
          rw [hr0] at hlK0
          repeat' ((conv => whnf); first | refine CallK.mk _ hix ?_ | refine CondK.no' (decide_eq_false hlK0) ?_ | refine CondK.yes' (decide_eq_true (by omega)) ?_ | fail)
          exact ⟨⟨((k + 1, none), M3), hlt, by show _ = _; rw [e]; exact hr, hM3⟩, 2, ⟨⟨rfl, rfl, rfl, rfl, look_int (i64_succ (by omega)), trivial⟩, ⟨rfl, trivial⟩, rfl, rfl⟩, rfl, by simp; omega⟩
        | some q =>
          repeat' ((conv => whnf); first | refine CallK.mk _ hix ?_ | refine CondK.no' (decide_eq_false hlK) ?_ | refine CondK.yes' (decide_eq_true (by omega)) ?_ | fail)
          exact ⟨⟨((k + 1, some q), M3), hlt, by show RowO M1 _ _; rw [e]; exact hr, hM3⟩, 2, ⟨⟨rfl, rfl, congrArg (fun t => some (PV.s 2 t q.1 2)) (by rw [e]), rfl, look_int (i64_succ (by omega)), trivial⟩, ⟨rfl, rfl, trivial⟩, rfl, rfl⟩, rfl, by simp; omega⟩
    · rw [hx] at hix
      have e : pullTo all c.K (k + 1) = pullTo all c.K k := by
        by_cases hlK : ((pullTo all c.K k).length : Int) < c.K
        · rw [e0 hlK _ hf]; simp
        · exact e1 hlK
      cases o with
      | none =>
        repeat' ((conv => whnf); first | refine CallK.mk _ hix ?_ | with_reducible refine CondK.ff ?_ | fail)
        exact ⟨⟨((k + 1, none), M3), hlt, by show _ = _; rw [e]; exact hr, hM3⟩, 2, ⟨⟨rfl, rfl, rfl, rfl, look_int (i64_succ (by omega)), trivial⟩, ⟨rfl, trivial⟩, rfl, rfl⟩, rfl, by simp; omega⟩
      | some q =>
        repeat' ((conv => whnf); first | refine CallK.mk _ hix ?_ | with_reducible refine CondK.ff ?_ | fail)
        exact ⟨⟨((k + 1, some q), M3), hlt, by show RowO M1 _ _; rw [e]; exact hr, hM3⟩, 2, ⟨⟨rfl, rfl, congrArg (fun t => some (PV.s 2 t q.1 2)) (by rw [e]), rfl, look_int (i64_succ (by omega)), trivial⟩, ⟨rfl, rfl, trivial⟩, rfl, rfl⟩, rfl, by simp; omega⟩
  · have he : k = N := by have : ¬ k < N := by simpa using h1
                          omega
    subst he
    cases o with
    | none =>
      replace hr : pullTo all c.K k = [] := hr
      repeat' ((conv => whnf); first | refine DrawN.q (by kernel_rfl) ?_ | fail)
      exact RetK.mk fun g M' hl hg => ⟨none, 0, by rw [hr]; rfl, slR_eq SlR.nil hr.symm⟩
    | some q =>
      obtain ⟨cap, ds⟩ := q
      repeat' ((conv => whnf); first | refine DrawN.q (by kernel_rfl) ?_ | fail)
      exact RetK.fr fun g M' hl hg => ⟨_, _, rfl, rowO_new hr (by omega) (hl1.trans hM2) (hg 2 _ rfl)⟩
theorem pulls_a (M : Mem) (c : GCode) (hK : 0 ≤ c.K ∧ c.K ≤ 100) (hM : 0 ≤ c.M ∧ c.M ≤ 100) (l : List GNotice) (A : Option Addr) (ca : Nat) (h : SlR M RNotice 13 168 A ca l) (hn : l.length ≤ 16) (hok : ∀ y ∈ l, y.State.Chunks.length ≤ 1048576 ∧ SortedC y.State.Chunks) (x : GHead) : AnsR Tryz.prog M 49 #[.agg #[.int .i64 c.K, .int .i64 c.M], .slice A l.length ca, .agg #[.string x.Name, .int .i64 x.Ver.Epoch, .int .i64 x.Ver.Seq, .int .i64 x.Size, .int .i64 x.Sum]] (fun M' v => ∃ A' c', v = .tuple #[.slice A' (pullF l x c).length c', .bool (canF l x c)] ∧ SlR M' RSource 2 16 A' c' (pullF l x c)) :=
  (pulls_f M c hK hM l A ca h hn hok x).imp fun M' v _ ⟨A', c', h1, h2⟩ => ⟨A', c', h1, h2.mono (sub_le _ _) (fun _ _ h => h)⟩
end Go.Proofs.YtpkphcgipkmiaaaGreat.Hlp
