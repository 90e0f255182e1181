/- CanFill by the light walk: the tests, the law. -/
import Derived.Test.YtpncfmjikfmlbaaGreatFunV
namespace Go.Proofs.YtpncfmjikfmlbaaGreat.Hlp
open Go Go.RowKit Go.Proofs Go.Proofs.YtpncfmjikfmlbaaGreat.Lw
set_option linter.unusedVariables false
set_option linter.unusedSimpArgs false
set_option maxRecDepth 100000
set_option maxHeartbeats 4000000
def codeOkT (c : GCode) : Bool := inR c.K 1 4 && inR c.M 0 3
theorem codeOkT_a (M : Mem) (c : GCode) : Ans Tryz.prog M 37 #[.agg #[.int .i64 c.K, .int .i64 c.M]] (.bool (codeOkT c)) := by
  refine ans_of T (l := [.agg #[.int .i64 c.K, .int .i64 c.M]]) mixed Tryz.func37 rfl (by kernel_rfl) (Nat.le_of_ble_eq_true rfl) ?_
  repeat' ((conv => whnf); first | with_reducible refine CondK.tt ?_ | with_reducible refine CondK.ff ?_ | refine CallK.mk _ (between_a _ _ _ _) ?_ | refine CondK.mk (fun h => ?_) (fun h => ?_) | fail)
  all_goals refine ret_bool ?_
  all_goals (unfold codeOkT; simp_all)
theorem l04CodeT_a (M : Mem) (c : GCode) : Ans Tryz.prog M 34 #[.agg #[.int .i64 c.K, .int .i64 c.M]] (.bool (codeOkT c)) := by
  refine ans_of T (l := [.agg #[.int .i64 c.K, .int .i64 c.M]]) mixed Tryz.func34 rfl (by kernel_rfl) (Nat.le_of_ble_eq_true rfl) ?_
  repeat' ((conv => whnf); first | with_reducible refine CondK.tt ?_ | with_reducible refine CondK.ff ?_ | refine CallK.mk _ (l00In_a _ _ _ _) ?_ | refine CondK.mk (fun h => ?_) (fun h => ?_) | fail)
  all_goals refine ret_bool ?_
  all_goals (unfold codeOkT; simp_all)
theorem codeT_in {c : GCode} (h : codeOkT c = true) : (0 ≤ c.K ∧ c.K ≤ 100) ∧ (0 ≤ c.M ∧ c.M ≤ 100) := by
  unfold codeOkT inR at h
  simp only [Bool.and_eq_true, decide_eq_true_eq] at h
  omega
theorem notices_ok {l : List GNotice} (h : noticesOkF l = true) : ∀ y ∈ l, y.State.Chunks.length ≤ 1048576 ∧ SortedC y.State.Chunks := fun y hy => by
  obtain ⟨j, hj, rfl⟩ := List.getElem_of_mem hy
  have h1 := allR_get h hj
  rw [noticeF_at (List.getElem?_eq_getElem hj) (y := l[j - 1]'(by omega)) (List.getElem?_eq_getElem (by omega)) (z := l[0]'(by omega)) (List.getElem?_eq_getElem (by omega))] at h1
  simp only [Bool.and_eq_true] at h1
  have := chunkIx_ok h1.1.2
  exact ⟨by omega, this.2⟩
def pcF (c : GCode) (l : List GNotice) (x : GHead) : Int := if codeOkT c = true ∧ noticesOkF l = true ∧ headOkF x = true then (if canF l x c = true then 0 else 8) else 1
theorem pullsOf_a (M : Mem) (c : GCode) (l : List GNotice) (A : Option Addr) (ca : Nat) (h : SlR M RNotice 13 168 A ca l) (x : GHead) (hb : x.Name.size ≤ 9223372036854775807) : AnsR Tryz.prog M 18 #[.agg #[.int .i64 c.K, .int .i64 c.M], .slice A l.length ca, .agg #[.string x.Name, .int .i64 x.Ver.Epoch, .int .i64 x.Ver.Seq, .int .i64 x.Size, .int .i64 x.Sum]] (fun _ v => ∃ w, v = .tuple #[w, .int .i64 (pcF c l x)]) := by
  refine ansR_of T (l := [.agg #[.int .i64 c.K, .int .i64 c.M], .slice A l.length ca, .agg #[.string x.Name, .int .i64 x.Ver.Epoch, .int .i64 x.Ver.Seq, .int .i64 x.Size, .int .i64 x.Sum]]) mixed Tryz.func18 rfl (by kernel_rfl) (Nat.le_of_ble_eq_true rfl) ?_
  cases h1 : codeOkT c with
  | false =>
    have e : pcF c l x = 1 := by unfold pcF; simp [h1]
    repeat' ((conv => whnf); first | with_reducible refine CondK.tt ?_ | with_reducible refine CondK.ff ?_ | refine CallK.mk (.bool false) (h1 ▸ codeOkT_a _ c) ?_ | fail)
    exact RetK.mk fun g M' hl hg => ⟨_, by rw [e]; rfl⟩
  | true =>
  cases h2 : noticesOkF l with
  | false =>
    have e : pcF c l x = 1 := by unfold pcF; simp [h2]
    repeat' ((conv => whnf); first | with_reducible refine CondK.tt ?_ | with_reducible refine CondK.ff ?_ | refine CallK.mk (.bool true) (h1 ▸ codeOkT_a _ c) ?_ | refine CallK.mk (.bool false) (h2 ▸ noticesOk_a _ l A ca h) ?_ | fail)
    exact RetK.mk fun g M' hl hg => ⟨_, by rw [e]; rfl⟩
  | true =>
  cases h3 : headOkF x with
  | false =>
    have e : pcF c l x = 1 := by unfold pcF; simp [h3]
    repeat' ((conv => whnf); first | with_reducible refine CondK.tt ?_ | with_reducible refine CondK.ff ?_ | refine CallK.mk (.bool true) (h1 ▸ codeOkT_a _ c) ?_ | refine CallK.mk (.bool true) (h2 ▸ noticesOk_a _ l A ca h) ?_ | refine CallK.mk (.bool false) (h3 ▸ headOk_a _ x hb) ?_ | fail)
    exact RetK.mk fun g M' hl hg => ⟨_, by rw [e]; rfl⟩
  | true =>
  have hk := codeT_in h1
  have hn := notices_len h2
  have hok := notices_ok h2
  have e : pcF c l x = if canF l x c = true then 0 else 8 := by unfold pcF; simp [h1, h2, h3]
  repeat' ((conv => whnf); first | with_reducible refine CondK.tt ?_ | with_reducible refine CondK.ff ?_ | refine CallK.mk (.bool true) (h1 ▸ codeOkT_a _ c) ?_ | refine CallK.mk (.bool true) (h2 ▸ noticesOk_a _ l A ca h) ?_ | refine CallK.mk (.bool true) (h3 ▸ headOk_a _ x hb) ?_ | (refine CallK.mr _ (pulls_a _ c hk.1 hk.2 l A ca h hn hok x) (fun v M1 hl1 hv => ?_); obtain ⟨A1, c1, rfl, hs⟩ := hv) | refine CondK.mk (fun hc => ?_) (fun hc => ?_) | fail)
  all_goals first
    | (have hd : canF l x c = false := by simpa using hc
       exact RetK.mk fun g M' hl hg => ⟨_, by rw [e, hd]; rfl⟩)
    | (have hd : canF l x c = true := by simpa using hc
       exact RetK.mk fun g M' hl hg => ⟨_, by rw [e, hd]; rfl⟩)
def canAllF (c : GCode) (l : List GNotice) (x : GHead) : Bool := codeOkT c && noticesOkF l && headOkF x && canF l x c
theorem pc_can (c : GCode) (l : List GNotice) (x : GHead) : (pcF c l x == 0) = canAllF c l x := by
  unfold pcF canAllF
  cases codeOkT c <;> cases noticesOkF l <;> cases headOkF x <;> cases canF l x c <;> rfl
end Go.Proofs.YtpncfmjikfmlbaaGreat.Hlp
