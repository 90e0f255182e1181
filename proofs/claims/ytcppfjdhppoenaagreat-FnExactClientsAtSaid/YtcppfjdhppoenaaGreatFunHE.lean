/- A state's heads behind a version: the doors of both. -/
import Derived.Test.YtcppfjdhppoenaaGreatFunHD
namespace Go.Proofs.YtcppfjdhppoenaaGreat.Hlp
open Go Go.RowKit Go.Proofs Go.Proofs.YtcppfjdhppoenaaGreat.Lw
set_option linter.unusedVariables false
set_option linter.unusedSimpArgs false
set_option maxRecDepth 100000
set_option maxHeartbeats 4000000
def bcF (s : GPgState) (v : GVer) : Int := if stateOkF s = true then (if verOkF v = true then (if cntF s v < 0 then 3 else 0) else 1) else 1
def byF (s : GPgState) (v : GVer) : List GHead := if bcF s v = 0 then (hdsTo s s.Log.length).filter (fun x => verLessF v x.Ver) else []
theorem bc_cases (s : GPgState) (v : GVer) : (stateOkF s = false ∧ bcF s v = 1 ∧ byF s v = []) ∨ (stateOkF s = true ∧ verOkF v = false ∧ bcF s v = 1 ∧ byF s v = []) ∨ (stateOkF s = true ∧ verOkF v = true ∧ cntF s v < 0 ∧ bcF s v = 3 ∧ byF s v = []) ∨ (stateOkF s = true ∧ verOkF v = true ∧ ¬ cntF s v < 0 ∧ bcF s v = 0 ∧ byF s v = (hdsTo s s.Log.length).filter (fun x => verLessF v x.Ver)) := by
  unfold byF bcF
  cases h : stateOkF s with
  | false => exact .inl ⟨rfl, by simp, by simp⟩
  | true =>
    cases h2 : verOkF v with
    | false => exact .inr (.inl ⟨rfl, rfl, by simp, by simp⟩)
    | true =>
      by_cases hc : cntF s v < 0
      · exact .inr (.inr (.inl ⟨rfl, rfl, hc, by simp [hc], by simp [hc]⟩))
      · exact .inr (.inr (.inr ⟨rfl, rfl, hc, by simp [hc], by simp [hc]⟩))
theorem byF_len (s : GPgState) (v : GVer) : (byF s v).length ≤ 16 := by
  rcases bc_cases s v with ⟨_, _, h⟩ | ⟨_, _, _, h⟩ | ⟨_, _, _, _, h⟩ | ⟨h1, _, _, _, h⟩
  · rw [h]; simp
  · rw [h]; simp
  · rw [h]; simp
  · rw [h]
    exact Nat.le_trans (List.length_filter_le _ _) (hds_len h1 (Nat.le_refl _))
theorem heads_n (M : Mem) (s : GPgState) (cs : List Value) (h : RPgState M s cs) (hok : stateOkF s = true) : AnsR Tryz.prog M 55 #[.agg cs.toArray] (fun M' v => ∃ A' cap' ds', v = .slice A' (hdsTo s s.Log.length).length cap' ∧ RowR M RHead 5 (hdsTo s s.Log.length) ds' ∧ RowN M M' 5 A' (hdsTo s s.Log.length).length cap' ds') := by
  have hh := headsTo_n M s cs h hok s.Log.length (Nat.le_refl _)
  obtain ⟨A0, c0, A1, c1, A2, c2, A3, c3, rfl, hb, s0, s1, s2, s3⟩ := h
  refine ansR_of T (l := [.agg (List.toArray _)]) mixed Tryz.func55 rfl (by kernel_rfl) (Nat.le_of_ble_eq_true rfl) ?_
  repeat' ((conv => whnf); first | (refine CallK.mr _ hh (fun u M1 hl1 hv => ?_); obtain ⟨Ag, cg, dg, rfl, hr, hn⟩ := hv) | fail)
  exact RetK.mk fun g M' hl hg => ⟨Ag, cg, dg, rfl, hr, hn.mono hl⟩
theorem l23All_a (M : Mem) (s : GPgState) (cs : List Value) (h : RPgState M s cs) (hok : stateOkF s = true) : AnsR Tryz.prog M 49 #[.agg cs.toArray] (fun M' v => ∃ A' cap', v = .slice A' (hdsTo s s.Log.length).length cap' ∧ SlR M' RHead 5 48 A' cap' (hdsTo s s.Log.length)) := by
  have hh := l17HeadsAt_a M s cs h hok s.Log.length (Nat.le_refl _)
  obtain ⟨A0, c0, A1, c1, A2, c2, A3, c3, rfl, hb, s0, s1, s2, s3⟩ := h
  refine ansR_of T (l := [.agg (List.toArray _)]) mixed Tryz.func49 rfl (by kernel_rfl) (Nat.le_of_ble_eq_true rfl) ?_
  repeat' ((conv => whnf); first | (refine CallK.mr _ hh (fun u M1 hl1 hv => ?_); obtain ⟨Ag, cg, rfl, hr⟩ := hv) | fail)
  exact RetK.mk fun g M' hl hg => ⟨Ag, cg, rfl, hr.mono hl (fun _ _ h => h)⟩
theorem byLog1_a (M : Mem) (x : GHead) (v : GVer) (a : Addr) (h0 : M (a.add 0) = some (.int .i64 v.Epoch)) (h1 : M (a.add 1) = some (.int .i64 v.Seq)) : Ans Tryz.prog M 56 #[.agg #[.string x.Name, .int .i64 x.Ver.Epoch, .int .i64 x.Ver.Seq, .int .i64 x.Size, .int .i64 x.Sum], .pointer (some a)] (.bool (!verLessF v x.Ver)) := by
  refine ansC_of T (l := [.agg #[.string x.Name, .int .i64 x.Ver.Epoch, .int .i64 x.Ver.Seq, .int .i64 x.Size, .int .i64 x.Sum], .pointer (some a)]) mixed Tryz.func56 rfl (by kernel_rfl) (Nat.le_of_ble_eq_true rfl) ?_
  repeat' ((conv => whnf); first | refine LdK.mk _ (by assumption) ?_ | refine CallK.mk _ (verLess_a _ v x.Ver) ?_ | refine CallQ.mk _ (verLess_a _ v x.Ver) ?_ | refine DrawN.q (by kernel_rfl) ?_ | fail)
  exact ret_bool rfl
theorem iByLog_f (M : Mem) (s : GPgState) (cs : List Value) (h : RPgState M s cs) (v : GVer) : AnsR Tryz.prog M 22 #[.agg cs.toArray, .agg #[.int .i64 v.Epoch, .int .i64 v.Seq]] (fun M' u => ∃ A' cap', u = .tuple #[.slice A' (byF s v).length cap', .int .i64 (bcF s v)] ∧ SlR (sub M' M) RHead 5 48 A' cap' (byF s v)) := by
  have hso := stateOk_a M s cs h
  have hct := countTo_a M s cs h v
  have hh := heads_n M s cs h
  obtain ⟨A0, c0, A1, c1, A2, c2, A3, c3, rfl, hb, s0, s1, s2, s3⟩ := h
  refine ansR_of (T.at M) (l := [.agg (List.toArray _), .agg #[.int .i64 v.Epoch, .int .i64 v.Seq]]) mixed Tryz.func22 rfl (by kernel_rfl) (Nat.le_of_ble_eq_true rfl) ?_ (fun _ ad u h1 h2 => by rw [show M ad = none from h1] at h2; cases h2)
  rcases bc_cases s v with ⟨h1, e1, e2⟩ | ⟨h1, h2, e1, e2⟩ | ⟨h1, h2, hc, e1, e2⟩ | ⟨h1, h2, hc, e1, e2⟩
  · rw [e1, e2]
    repeat' ((conv => whnf); first | with_reducible refine CondK.tt ?_ | with_reducible refine CondK.ff ?_ | refine CallK.mk (.bool false) (h1 ▸ hso) ?_ | refine GuardK.mk (fun h => ?_) (fun h => ?_) | fail)
    all_goals first | (exfalso; simp_all; done) | exact RetK.mk fun g M' hl hg => ⟨none, 0, rfl, SlR.nil⟩
  · rw [e1, e2]
    repeat' ((conv => whnf); first | with_reducible refine CondK.tt ?_ | with_reducible refine CondK.ff ?_ | refine CallK.mk (.bool true) (h1 ▸ hso) ?_ | refine CallK.mk (.bool false) (h2 ▸ verOk_a _ v) ?_ | refine GuardK.mk (fun h => ?_) (fun h => ?_) | fail)
    all_goals first | (exfalso; simp_all; done) | exact RetK.mk fun g M' hl hg => ⟨none, 0, rfl, SlR.nil⟩
  · have hct := hct (state_base h1).2.2.2
    rw [e1, e2]
    repeat' ((conv => whnf); first | with_reducible refine CondK.tt ?_ | with_reducible refine CondK.ff ?_ | refine CallK.mk (.bool true) (h1 ▸ hso) ?_ | refine CallK.mk (.bool true) (h2 ▸ verOk_a _ v) ?_ | refine CallK.mk _ hct ?_ | refine CondK.yes' (decide_eq_true hc) ?_ | refine GuardK.mk (fun h => ?_) (fun h => ?_) | fail)
    all_goals first | (exfalso; simp_all; done) | exact RetK.mk fun g M' hl hg => ⟨none, 0, rfl, SlR.nil⟩
  · have hct := hct (state_base h1).2.2.2
    have hh := hh h1
    have hlen := hds_len h1 (Nat.le_refl s.Log.length)
    rw [e1, e2]
    generalize hdsTo s s.Log.length = l at hh hlen
    repeat' ((conv => whnf); first | with_reducible refine CondK.tt ?_ | with_reducible refine CondK.ff ?_ | refine CallK.mk (.bool true) (h1 ▸ hso) ?_ | refine CallK.mk (.bool true) (h2 ▸ verOk_a _ v) ?_ | refine CallK.mk _ hct ?_ | refine CondK.no' (decide_eq_false hc) ?_ | (refine CallK.mr _ hh (fun u M1 hl1 hv => ?_); obtain ⟨Ag, cg, dg, rfl, hr, hn⟩ := hv) | refine GuardK.mk (fun h => ?_) (fun h => ?_) | fail)
    refine PubK.fr fun av N2 hl2 hc2 hroom hfresh hdom => ?_
    (conv => whnf)
    have hn2 := hn.mono hl2
    refine delFHead_k rfl hn2 hr (hl1.trans hl2) (by omega) _ av (fun x => !verLessF v x.Ver) [.int .i64 v.Epoch, .int .i64 v.Seq] hc2 (fun b u hu => hfresh b u (hl1 b u hu)) (fun ad had hpos => ?_) (fun M1 hM1 x => byLog1_a M1 x v av (hM1 0 _ rfl) (hM1 1 _ rfl)) (fun N' ds' hN' hrow' hr' hcp => ?_)
    · rcases hn with ⟨h3, h4, _⟩ | ⟨ad1, h3, hrc, _⟩
      · omega
      · rw [had] at h3
        cases h3
        obtain ⟨u, hu⟩ := hrc.room 0 (by have := hrc.le; omega)
        have := hfresh _ u hu
        rwa [add_block] at this
    (conv => whnf)
    have ef : l.filter (fun x => !(!verLessF v x.Ver)) = l.filter (fun x => verLessF v x.Ver) := by simp only [Bool.not_not]
    rw [ef] at hrow' hr'
    rw [ef]
    have hfl := List.length_filter_le (fun x : GHead => verLessF v x.Ver) l
    exact RetK.mk fun g M' hl hg => ⟨_, _, rfl, (hrow'.mono hl).slS hr' (fun _ _ h => h) (by omega)⟩
def byTo (v : GVer) (l : List GHead) (k : Nat) : List GHead := (l.take k).filter (fun x => verLessF v x.Ver)
theorem byTo_step {v : GVer} {l : List GHead} {k : Nat} (h : k < l.length) : byTo v l (k + 1) = byTo v l k ++ (if verLessF v l[k].Ver = true then [l[k]] else []) := by
  unfold byTo
  rw [List.take_succ_eq_append_getElem h, List.filter_append]
  congr 1
  cases hc : verLessF v l[k].Ver <;> simp [hc]
theorem byTo_len (v : GVer) (l : List GHead) (k : Nat) : (byTo v l k).length ≤ l.length := by
  unfold byTo
  refine Nat.le_trans (List.length_filter_le _ _) ?_
  rw [List.length_take]; omega
theorem sByLog_a (M : Mem) (s : GPgState) (cs : List Value) (h : RPgState M s cs) (v : GVer) : AnsR Tryz.prog M 21 #[.agg cs.toArray, .agg #[.int .i64 v.Epoch, .int .i64 v.Seq]] (fun M' u => ∃ A' cap', u = .tuple #[.slice A' (byF s v).length cap', .int .i64 (bcF s v)] ∧ SlR M' RHead 5 48 A' cap' (byF s v)) := by
  have hso := sStateOk_a M s cs h
  have hup := l17Upto_a M s cs h v
  have hh := l23All_a M s cs h
  obtain ⟨A0, c0, A1, c1, A2, c2, A3, c3, rfl, hb, s0, s1, s2, s3⟩ := h
  refine ansR_of T (l := [.agg (List.toArray _), .agg #[.int .i64 v.Epoch, .int .i64 v.Seq]]) mixed Tryz.func21 rfl (by kernel_rfl) (Nat.le_of_ble_eq_true rfl) ?_
  rcases bc_cases s v with ⟨h1, e1, e2⟩ | ⟨h1, h2, e1, e2⟩ | ⟨h1, h2, hc, e1, e2⟩ | ⟨h1, h2, hc, e1, e2⟩
  · rw [e1, e2]
    repeat' ((conv => whnf); first | with_reducible refine CondK.tt ?_ | with_reducible refine CondK.ff ?_ | refine CallK.mk (.bool false) (h1 ▸ hso) ?_ | refine GuardK.mk (fun h => ?_) (fun h => ?_) | refine DrawN.q (by kernel_rfl) ?_ | fail)
    all_goals first | (exfalso; simp_all; done) | exact RetK.mk fun g M' hl hg => ⟨_, _, rfl, SlR.nil⟩
  · rw [e1, e2]
    repeat' ((conv => whnf); first | with_reducible refine CondK.tt ?_ | with_reducible refine CondK.ff ?_ | refine CallK.mk (.bool true) (h1 ▸ hso) ?_ | refine CallK.mk (.bool false) (h2 ▸ l17Ver_a _ v) ?_ | refine GuardK.mk (fun h => ?_) (fun h => ?_) | refine DrawN.q (by kernel_rfl) ?_ | fail)
    all_goals first | (exfalso; simp_all; done) | exact RetK.mk fun g M' hl hg => ⟨_, _, rfl, SlR.nil⟩
  · have hup := hup (state_base h1).2.2.2
    rw [e1, e2]
    repeat' ((conv => whnf); first | with_reducible refine CondK.tt ?_ | with_reducible refine CondK.ff ?_ | refine CallK.mk (.bool true) (h1 ▸ hso) ?_ | refine CallK.mk (.bool true) (h2 ▸ l17Ver_a _ v) ?_ | refine CallK.mk _ hup ?_ | refine CondK.yes' (decide_eq_true hc) ?_ | refine GuardK.mk (fun h => ?_) (fun h => ?_) | refine DrawN.q (by kernel_rfl) ?_ | fail)
    all_goals first | (exfalso; simp_all; done) | exact RetK.mk fun g M' hl hg => ⟨_, _, rfl, SlR.nil⟩
  · have hup := hup (state_base h1).2.2.2
    have hh := hh h1
    have hlen := hds_len h1 (Nat.le_refl s.Log.length)
    rw [e1, e2]
    generalize hdsTo s s.Log.length = l at hh hlen
    repeat' ((conv => whnf); first | with_reducible refine CondK.tt ?_ | with_reducible refine CondK.ff ?_ | refine CallK.mk (.bool true) (h1 ▸ hso) ?_ | refine CallK.mk (.bool true) (h2 ▸ l17Ver_a _ v) ?_ | refine CallK.mk _ hup ?_ | refine CondK.no' (decide_eq_false hc) ?_ | (refine CallK.mr _ hh (fun u M1 hl1 hv => ?_); obtain ⟨Ag, cg, rfl, hr⟩ := hv) | refine GuardK.mk (fun h => ?_) (fun h => ?_) | refine DrawN.q (by kernel_rfl) ?_ | fail)
    refine LoopK.sw 2 3 {q : Nat × Nat × List Value // q.1 ≤ l.length ∧ (byTo v l q.1).length ≤ q.2.1 ∧ RowR M1 RHead 5 (byTo v l q.1) q.2.2} (fun ⟨⟨k, cap, ds⟩, _⟩ => [(3, .p 1 0), (6, .s 2 (byTo v l k).length cap 5), (7, .v (.slice Ag l.length cg)), (8, .v (.int .i64 (k : Int)))]) (fun ⟨⟨k, cap, ds⟩, _⟩ => [(2, ds), (1, [.int .i64 v.Epoch, .int .i64 v.Seq])]) (fun _ => M1) (fun q => l.length - q.1.1) ⟨(0, 0, []), Nat.zero_le _, Nat.le_refl _, RowR.nil⟩ 2 ⟨⟨⟨rfl, rfl, rfl, rfl, trivial⟩, ⟨rfl, rfl, trivial⟩, rfl, rfl⟩, rfl⟩ ?_
    rintro ⟨⟨k, cap, ds⟩, hk, hcap, hr2⟩
    replace hk : k ≤ l.length := hk
    replace hcap : (byTo v l k).length ≤ cap := hcap
    replace hr2 : RowR M1 RHead 5 (byTo v l k) ds := hr2
    have hsl := byTo_len v l k
    (conv => whnf)
    refine CondK.mk (fun h3 => ?_) (fun h3 => ?_)
    · have hlt : k < l.length := by simpa using h3
      obtain ⟨y, hyk⟩ : ∃ y, l[k] = y := ⟨_, rfl⟩
      have hy : l[k]? = some y := by rw [List.getElem?_eq_getElem hlt, hyk]
      obtain ⟨ad, rfl, bny, y0, y1, y2, y3, y4⟩ := at_Head hr hy
      have hst : byTo v l (k + 1) = byTo v l k ++ (if verLessF v y.Ver = true then [y] else []) := by rw [byTo_step hlt, hyk]
      repeat' ((conv => whnf); first | with_reducible refine CondK.tt ?_ | with_reducible refine CondK.ff ?_ | refine DrawN.q (by kernel_rfl) ?_ | refine IdxK.mk _ rfl (by omega) (by omega) ?_ | refine LdK.mk _ (by assumption) ?_ | refine CallQ.mk _ (sVerLess_a _ v y.Ver) ?_ | refine CallK.mk _ (sVerLess_a _ v y.Ver) ?_ | refine AppK.mk (by show (2 * _ + 512) * 48 ≤ 281474976710656; omega) (by omega) (.inr rfl) (by first | exact hr2.all | rfl) (fun cap3 hcap3 => ?_) | refine CondK.mk (fun hc => ?_) (fun hc => ?_) | fail)
      · rw [if_pos hc] at hst
        refine ⟨⟨(k + 1, cap3, ds ++ [.string y.Name, .int .i64 y.Ver.Epoch, .int .i64 y.Ver.Seq, .int .i64 y.Size, .int .i64 y.Sum]), hlt, ?_, ?_⟩, 4, ⟨⟨rfl, congrArg (fun t => some (PV.s 4 t cap3 5)) ?_, rfl, look_int (i64_succ (by omega)), trivial⟩, ⟨rfl, rfl, trivial⟩, rfl, rfl⟩, rfl, by simp; omega⟩
        · show (byTo v l (k + 1)).length ≤ cap3
          rw [hst, List.length_append]
          exact hcap3
        · show RowR M1 RHead 5 (byTo v l (k + 1)) _
          rw [hst]
          exact hr2.app (RowR.one (x := y) ⟨rfl, bny⟩ rfl rfl)
        · rw [hst]
          simp only [List.length_append, List.length_singleton]
      · rw [if_neg (by rw [hc]; decide), List.append_nil] at hst
        refine ⟨⟨(k + 1, cap, ds), hlt, ?_, ?_⟩, 2, ⟨⟨rfl, congrArg (fun t => some (PV.s 2 t cap 5)) ?_, rfl, look_int (i64_succ (by omega)), trivial⟩, ⟨rfl, rfl, trivial⟩, rfl, rfl⟩, rfl, by simp; omega⟩
        · show (byTo v l (k + 1)).length ≤ cap
          rw [hst]; exact hcap
        · show RowR M1 RHead 5 (byTo v l (k + 1)) _
          rw [hst]; exact hr2
        · rw [hst]
    · have he : k = l.length := by have : ¬ k < l.length := by simpa using h3
                                   omega
      subst he
      have ef : byTo v l l.length = l.filter (fun x => verLessF v x.Ver) := by unfold byTo; rw [List.take_length]
      exact RetK.mk fun g M' hl hg => ⟨_, _, congrArg (fun t : List GHead => Value.tuple #[.slice _ t.length _, .int .i64 0]) ef, row_out hr2 ef.symm (fun _ _ h => h) (hg 2 _ rfl) (by rw [← ef]; exact hcap) (by rw [← ef]; omega)⟩
end Go.Proofs.YtcppfjdhppoenaaGreat.Hlp
