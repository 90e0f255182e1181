/- SourcesOf and PullsOf, as the package's doors. -/
import Derived.Test.YtpncfmjikfmlbaaGreatFunW
namespace Go.Proofs.YtpncfmjikfmlbaaGreat.Hlp
open Go Go.RowKit Go.Proofs Go.Proofs.YtpncfmjikfmlbaaGreat.Lw
set_option linter.unusedVariables false
set_option linter.unusedSimpArgs false
set_option maxRecDepth 100000
set_option maxHeartbeats 4000000
def srcAllF (l : List GNotice) (x : GHead) : List GSource := if noticesOkF l = true ∧ headOkF x = true then srcTo l x l.length else []
theorem srcAll_no {l : List GNotice} {x : GHead} (h : ¬ (noticesOkF l = true ∧ headOkF x = true)) : srcAllF l x = [] := if_neg h
theorem srcAll_len (l : List GNotice) (x : GHead) : (srcAllF l x).length ≤ 1000 := by
  unfold srcAllF
  split
  · rename_i h
    have := srcTo_len l x l.length (Nat.le_refl _)
    have := notices_len h.1
    omega
  · simp
theorem sourcesOf_f (M : Mem) (l : List GNotice) (A : Option Addr) (ca : Nat) (h : SlR M RNotice 13 168 A ca l) (x : GHead) (hb : x.Name.size ≤ 9223372036854775807) : AnsR Tryz.prog M 10 #[.slice A l.length ca, .agg #[.string x.Name, .int .i64 x.Ver.Epoch, .int .i64 x.Ver.Seq, .int .i64 x.Size, .int .i64 x.Sum]] (fun M' v => ∃ A' c', v = .slice A' (srcAllF l x).length c' ∧ SlR (sub M' M) RSource 2 16 A' c' (srcAllF l x)) := by
  refine ansR_of T (l := [.slice A l.length ca, .agg #[.string x.Name, .int .i64 x.Ver.Epoch, .int .i64 x.Ver.Seq, .int .i64 x.Size, .int .i64 x.Sum]]) mixed Tryz.func10 rfl (by kernel_rfl) (Nat.le_of_ble_eq_true rfl) ?_
  cases h2 : noticesOkF l with
  | false =>
    have e := srcAll_no (l := l) (x := x) (by simp [h2])
    repeat' ((conv => whnf); first | with_reducible refine CondK.tt ?_ | with_reducible refine CondK.ff ?_ | refine CallK.mk (.bool false) (h2 ▸ noticesOk_a _ l A ca h) ?_ | fail)
    exact RetK.mk fun g M' hl hg => ⟨none, 0, slice_eq (by rw [e]; rfl), slR_eq SlR.nil e.symm⟩
  | true =>
  cases h3 : headOkF x with
  | false =>
    have e := srcAll_no (l := l) (x := x) (by simp [h3])
    repeat' ((conv => whnf); first | with_reducible refine CondK.tt ?_ | with_reducible refine CondK.ff ?_ | refine CallK.mk (.bool true) (h2 ▸ noticesOk_a _ l A ca h) ?_ | refine CallK.mk (.bool false) (h3 ▸ headOk_a _ x hb) ?_ | fail)
    exact RetK.mk fun g M' hl hg => ⟨none, 0, slice_eq (by rw [e]; rfl), slR_eq SlR.nil e.symm⟩
  | true =>
  have e : srcAllF l x = srcTo l x l.length := if_pos ⟨h2, h3⟩
  repeat' ((conv => whnf); first | with_reducible refine CondK.tt ?_ | with_reducible refine CondK.ff ?_ | refine CallK.mk (.bool true) (h2 ▸ noticesOk_a _ l A ca h) ?_ | refine CallK.mk (.bool true) (h3 ▸ headOk_a _ x hb) ?_ | (refine CallK.mr _ (sources_f _ l A ca h (notices_len h2) (notices_ok h2) x) (fun v M1 hl1 hv => ?_); obtain ⟨A1, c1, rfl, hs⟩ := hv) | fail)
  exact RetK.mk fun g M' hl hg => ⟨A1, c1, slice_eq (by rw [e]), slR_eq (hs.mono (sub_mono _ hl) (fun _ _ h => h)) e.symm⟩
theorem sSourcesOf_a (M : Mem) (l : List GNotice) (A : Option Addr) (ca : Nat) (h : SlR M RNotice 13 168 A ca l) (x : GHead) (hb : x.Name.size ≤ 9223372036854775807) : AnsR Tryz.prog M 7 #[.slice A l.length ca, .agg #[.string x.Name, .int .i64 x.Ver.Epoch, .int .i64 x.Ver.Seq, .int .i64 x.Size, .int .i64 x.Sum]] (fun M' v => ∃ A' c', v = .slice A' (srcAllF l x).length c' ∧ SlR M' RSource 2 16 A' c' (srcAllF l x)) := by
  refine ansR_of T (l := [.slice A l.length ca, .agg #[.string x.Name, .int .i64 x.Ver.Epoch, .int .i64 x.Ver.Seq, .int .i64 x.Size, .int .i64 x.Sum]]) mixed Tryz.func7 rfl (by kernel_rfl) (Nat.le_of_ble_eq_true rfl) ?_
  cases h2 : noticesOkF l with
  | false =>
    have e := srcAll_no (l := l) (x := x) (by simp [h2])
    repeat' ((conv => whnf); first | with_reducible refine CondK.tt ?_ | with_reducible refine CondK.ff ?_ | refine CallK.mk (.bool false) (h2 ▸ l22Ok_a _ l A ca h) ?_ | fail)
    exact RetK.mk fun g M' hl hg => ⟨_, _, slice_eq (by rw [e]; rfl), slR_eq SlR.nil e.symm⟩
  | true =>
  cases h3 : headOkF x with
  | false =>
    have e := srcAll_no (l := l) (x := x) (by simp [h3])
    repeat' ((conv => whnf); first | with_reducible refine CondK.tt ?_ | with_reducible refine CondK.ff ?_ | refine CallK.mk (.bool true) (h2 ▸ l22Ok_a _ l A ca h) ?_ | refine CallK.mk (.bool false) (h3 ▸ l23Head_a _ x hb) ?_ | fail)
    exact RetK.mk fun g M' hl hg => ⟨_, _, slice_eq (by rw [e]; rfl), slR_eq SlR.nil e.symm⟩
  | true =>
  have e : srcAllF l x = srcTo l x l.length := if_pos ⟨h2, h3⟩
  repeat' ((conv => whnf); first | with_reducible refine CondK.tt ?_ | with_reducible refine CondK.ff ?_ | refine CallK.mk (.bool true) (h2 ▸ l22Ok_a _ l A ca h) ?_ | refine CallK.mk (.bool true) (h3 ▸ l23Head_a _ x hb) ?_ | (refine CallK.mr _ (l23Sources_a _ l A ca h (notices_len h2) x) (fun v M1 hl1 hv => ?_); obtain ⟨A1, c1, rfl, hs⟩ := hv) | fail)
  exact RetK.mk fun g M' hl hg => ⟨A1, c1, slice_eq (by rw [e]), slR_eq (hs.mono hl (fun _ _ h => h)) e.symm⟩
def plAllF (c : GCode) (l : List GNotice) (x : GHead) : List GSource := if codeOkT c = true ∧ noticesOkF l = true ∧ headOkF x = true ∧ canF l x c = true then pullF l x c else []
theorem plAll_no {c : GCode} {l : List GNotice} {x : GHead} (h : ¬ (codeOkT c = true ∧ noticesOkF l = true ∧ headOkF x = true ∧ canF l x c = true)) : plAllF c l x = [] := if_neg h
theorem plAll_len (c : GCode) (l : List GNotice) (x : GHead) : (plAllF c l x).length ≤ 1000 := by
  unfold plAllF
  split
  · rename_i h
    unfold pullF
    have := codeT_in h.1
    have := pullTo_len (srcTo l x l.length) c.K (c.K + c.M).toNat
    omega
  · simp
theorem pullsOf_f (M : Mem) (c : GCode) (l : List GNotice) (A : Option Addr) (ca : Nat) (h : SlR M RNotice 13 168 A ca l) (x : GHead) (hb : x.Name.size ≤ 9223372036854775807) : AnsR Tryz.prog M 18 #[.agg #[.int .i64 c.K, .int .i64 c.M], .slice A l.length ca, .agg #[.string x.Name, .int .i64 x.Ver.Epoch, .int .i64 x.Ver.Seq, .int .i64 x.Size, .int .i64 x.Sum]] (fun M' v => ∃ A' c', v = .tuple #[.slice A' (plAllF c l x).length c', .int .i64 (pcF c l x)] ∧ SlR (sub M' M) RSource 2 16 A' c' (plAllF c l x)) := by
  refine ansR_of T (l := [.agg #[.int .i64 c.K, .int .i64 c.M], .slice A l.length ca, .agg #[.string x.Name, .int .i64 x.Ver.Epoch, .int .i64 x.Ver.Seq, .int .i64 x.Size, .int .i64 x.Sum]]) mixed Tryz.func18 rfl (by kernel_rfl) (Nat.le_of_ble_eq_true rfl) ?_
  cases h1 : codeOkT c with
  | false =>
    have e : pcF c l x = 1 := by unfold pcF; simp [h1]
    have e' := plAll_no (c := c) (l := l) (x := x) (by simp [h1])
    repeat' ((conv => whnf); first | with_reducible refine CondK.tt ?_ | with_reducible refine CondK.ff ?_ | refine CallK.mk (.bool false) (h1 ▸ codeOkT_a _ c) ?_ | fail)
    exact RetK.mk fun g M' hl hg => ⟨none, 0, by rw [e, e']; rfl, slR_eq SlR.nil e'.symm⟩
  | true =>
  cases h2 : noticesOkF l with
  | false =>
    have e : pcF c l x = 1 := by unfold pcF; simp [h2]
    have e' := plAll_no (c := c) (l := l) (x := x) (by simp [h2])
    repeat' ((conv => whnf); first | with_reducible refine CondK.tt ?_ | with_reducible refine CondK.ff ?_ | refine CallK.mk (.bool true) (h1 ▸ codeOkT_a _ c) ?_ | refine CallK.mk (.bool false) (h2 ▸ noticesOk_a _ l A ca h) ?_ | fail)
    exact RetK.mk fun g M' hl hg => ⟨none, 0, by rw [e, e']; rfl, slR_eq SlR.nil e'.symm⟩
  | true =>
  cases h3 : headOkF x with
  | false =>
    have e : pcF c l x = 1 := by unfold pcF; simp [h3]
    have e' := plAll_no (c := c) (l := l) (x := x) (by simp [h3])
    repeat' ((conv => whnf); first | with_reducible refine CondK.tt ?_ | with_reducible refine CondK.ff ?_ | refine CallK.mk (.bool true) (h1 ▸ codeOkT_a _ c) ?_ | refine CallK.mk (.bool true) (h2 ▸ noticesOk_a _ l A ca h) ?_ | refine CallK.mk (.bool false) (h3 ▸ headOk_a _ x hb) ?_ | fail)
    exact RetK.mk fun g M' hl hg => ⟨none, 0, by rw [e, e']; rfl, slR_eq SlR.nil e'.symm⟩
  | true =>
  have hk := codeT_in h1
  have hn := notices_len h2
  have hok := notices_ok h2
  have e : pcF c l x = if canF l x c = true then 0 else 8 := by unfold pcF; simp [h1, h2, h3]
  repeat' ((conv => whnf); first | with_reducible refine CondK.tt ?_ | with_reducible refine CondK.ff ?_ | refine CallK.mk (.bool true) (h1 ▸ codeOkT_a _ c) ?_ | refine CallK.mk (.bool true) (h2 ▸ noticesOk_a _ l A ca h) ?_ | refine CallK.mk (.bool true) (h3 ▸ headOk_a _ x hb) ?_ | (refine CallK.mr _ (pulls_f _ c hk.1 hk.2 l A ca h hn hok x) (fun v M1 hl1 hv => ?_); obtain ⟨A1, c1, rfl, hs⟩ := hv) | refine CondK.mk (fun hc => ?_) (fun hc => ?_) | fail)
  all_goals first
    | (have hd : canF l x c = false := by simpa using hc
       have e' := plAll_no (c := c) (l := l) (x := x) (by simp [hd])
       exact RetK.mk fun g M' hl hg => ⟨none, 0, by rw [e, hd, e']; rfl, slR_eq SlR.nil e'.symm⟩)
    | (have hd : canF l x c = true := by simpa using hc
       have e' : plAllF c l x = pullF l x c := if_pos ⟨h1, h2, h3, hd⟩
       exact RetK.mk fun g M' hl hg => ⟨A1, c1, by rw [e, hd, e']; rfl, slR_eq (hs.mono (sub_mono _ hl) (fun _ _ h => h)) e'.symm⟩)
theorem sPullsOf_a (M : Mem) (c : GCode) (l : List GNotice) (A : Option Addr) (ca : Nat) (h : SlR M RNotice 13 168 A ca l) (x : GHead) (hb : x.Name.size ≤ 9223372036854775807) : AnsR Tryz.prog M 16 #[.agg #[.int .i64 c.K, .int .i64 c.M], .slice A l.length ca, .agg #[.string x.Name, .int .i64 x.Ver.Epoch, .int .i64 x.Ver.Seq, .int .i64 x.Size, .int .i64 x.Sum]] (fun M' v => ∃ A' c', v = .tuple #[.slice A' (plAllF c l x).length c', .int .i64 (pcF c l x)] ∧ SlR M' RSource 2 16 A' c' (plAllF c l x)) := by
  refine ansR_of T (l := [.agg #[.int .i64 c.K, .int .i64 c.M], .slice A l.length ca, .agg #[.string x.Name, .int .i64 x.Ver.Epoch, .int .i64 x.Ver.Seq, .int .i64 x.Size, .int .i64 x.Sum]]) mixed Tryz.func16 rfl (by kernel_rfl) (Nat.le_of_ble_eq_true rfl) ?_
  cases h1 : codeOkT c with
  | false =>
    have e : pcF c l x = 1 := by unfold pcF; simp [h1]
    have e' := plAll_no (c := c) (l := l) (x := x) (by simp [h1])
    repeat' ((conv => whnf); first | with_reducible refine CondK.tt ?_ | with_reducible refine CondK.ff ?_ | refine CallK.mk (.bool false) (h1 ▸ l04CodeT_a _ c) ?_ | refine DrawN.q (by kernel_rfl) ?_ | fail)
    exact RetK.mk fun g M' hl hg => ⟨_, _, by rw [e, e']; rfl, slR_eq SlR.nil e'.symm⟩
  | true =>
  cases h2 : noticesOkF l with
  | false =>
    have e : pcF c l x = 1 := by unfold pcF; simp [h2]
    have e' := plAll_no (c := c) (l := l) (x := x) (by simp [h2])
    repeat' ((conv => whnf); first | with_reducible refine CondK.tt ?_ | with_reducible refine CondK.ff ?_ | refine CallK.mk (.bool true) (h1 ▸ l04CodeT_a _ c) ?_ | refine CallK.mk (.bool false) (h2 ▸ l22Ok_a _ l A ca h) ?_ | fail)
    exact RetK.mk fun g M' hl hg => ⟨_, _, by rw [e, e']; rfl, slR_eq SlR.nil e'.symm⟩
  | true =>
  cases h3 : headOkF x with
  | false =>
    have e : pcF c l x = 1 := by unfold pcF; simp [h3]
    have e' := plAll_no (c := c) (l := l) (x := x) (by simp [h3])
    repeat' ((conv => whnf); first | with_reducible refine CondK.tt ?_ | with_reducible refine CondK.ff ?_ | refine CallK.mk (.bool true) (h1 ▸ l04CodeT_a _ c) ?_ | refine CallK.mk (.bool true) (h2 ▸ l22Ok_a _ l A ca h) ?_ | refine CallK.mk (.bool false) (h3 ▸ l23Head_a _ x hb) ?_ | fail)
    exact RetK.mk fun g M' hl hg => ⟨_, _, by rw [e, e']; rfl, slR_eq SlR.nil e'.symm⟩
  | true =>
  have hk := codeT_in h1
  have hn := notices_len h2
  have e : pcF c l x = if canF l x c = true then 0 else 8 := by unfold pcF; simp [h1, h2, h3]
  repeat' ((conv => whnf); first | with_reducible refine CondK.tt ?_ | with_reducible refine CondK.ff ?_ | refine CallK.mk (.bool true) (h1 ▸ l04CodeT_a _ c) ?_ | refine CallK.mk (.bool true) (h2 ▸ l22Ok_a _ l A ca h) ?_ | refine CallK.mk (.bool true) (h3 ▸ l23Head_a _ x hb) ?_ | (refine CallK.mr _ (l23Can_a _ c hk.1 hk.2 l A ca h hn x) (fun v M1 hl1 hv => ?_); subst hv) | refine CondK.mk (fun hc => ?_) (fun hc => ?_) | (refine CallK.mr _ (l23Pulls_a _ c hk.1 hk.2 l A ca (h.mono hl1 (RNotice.mono hl1)) hn x) (fun v M2 hl2 hv => ?_); obtain ⟨A1, c1, rfl, hs⟩ := hv) | fail)
  all_goals first
    | (have hd : canF l x c = false := by simpa using hc
       have e' := plAll_no (c := c) (l := l) (x := x) (by simp [hd])
       exact RetK.mk fun g M' hl hg => ⟨_, _, by rw [e, hd, e']; rfl, slR_eq SlR.nil e'.symm⟩)
    | (have hd : canF l x c = true := by simpa using hc
       have e' : plAllF c l x = pullF l x c := if_pos ⟨h1, h2, h3, hd⟩
       exact RetK.mk fun g M' hl hg => ⟨A1, c1, by rw [e, hd, e']; rfl, slR_eq (hs.mono hl (fun _ _ h => h)) e'.symm⟩)
end Go.Proofs.YtpncfmjikfmlbaaGreat.Hlp
