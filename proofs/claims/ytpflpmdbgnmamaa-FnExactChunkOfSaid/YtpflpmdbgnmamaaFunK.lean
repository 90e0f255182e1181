/- A state's last ver, and stores, by the light walk. -/
import Derived.Test.YtpflpmdbgnmamaaFunJ
namespace Go.Proofs.Ytpflpmdbgnmamaa.Hlp
open Go Go.RowKit Go.Proofs Go.Proofs.Ytpflpmdbgnmamaa.Lw
set_option linter.unusedVariables false
set_option linter.unusedSimpArgs false
set_option maxRecDepth 100000
set_option maxHeartbeats 4000000
def lastOfF (s : GPgState) : GVer := if stateOkF s = true then lastVerF s else ⟨0, 0⟩
theorem lastOf_a (M : Mem) (s : GPgState) (cs : List Value) (h : RPgState M s cs) : Ans Try.prog M 13 #[.agg cs.toArray] (.agg #[.int .i64 (lastOfF s).Epoch, .int .i64 (lastOfF s).Seq]) := by
  have h0 := h
  obtain ⟨A0, c0, A1, c1, A2, c2, A3, c3, rfl, _⟩ := h
  refine ans_of T (l := [.agg (List.toArray _)]) mixed Try.func13 rfl (by kernel_rfl) (Nat.le_of_ble_eq_true rfl) ?_
  cases hs : stateOkF s with
  | true =>
    have e : lastOfF s = lastVerF s := by unfold lastOfF; rw [hs]; rfl
    rw [e]
    repeat' ((conv => whnf); first | with_reducible refine CondK.tt ?_ | with_reducible refine CondK.ff ?_ | with_reducible refine CondK.not ?_ | refine CondK.no' (show (!stateOkF s) = false by rw [hs]; rfl) ?_ | refine DrawN.q (by kernel_rfl) ?_ | refine CallK.mk _ (stateOk_a _ _ _ h0) ?_ | refine CallK.mk _ (lastVer_a _ _ _ h0) ?_ | fail)
    exact rfl
  | false =>
    have e : lastOfF s = ⟨0, 0⟩ := by unfold lastOfF; rw [hs]; rfl
    rw [e]
    repeat' ((conv => whnf); first | with_reducible refine CondK.tt ?_ | with_reducible refine CondK.ff ?_ | with_reducible refine CondK.not ?_ | refine CondK.yes' (show (!stateOkF s) = true by rw [hs]; rfl) ?_ | refine DrawN.q (by kernel_rfl) ?_ | refine CallK.mk _ (stateOk_a _ _ _ h0) ?_ | fail)
    exact rfl
theorem sLastOf_a (M : Mem) (s : GPgState) (cs : List Value) (h : RPgState M s cs) : Ans Try.prog M 12 #[.agg cs.toArray] (.agg #[.int .i64 (lastOfF s).Epoch, .int .i64 (lastOfF s).Seq]) := by
  have h0 := h
  obtain ⟨A0, c0, A1, c1, A2, c2, A3, c3, rfl, _⟩ := h
  refine ans_of T (l := [.agg (List.toArray _)]) mixed Try.func12 rfl (by kernel_rfl) (Nat.le_of_ble_eq_true rfl) ?_
  cases hs : stateOkF s with
  | true =>
    have e : lastOfF s = lastVerF s := by unfold lastOfF; rw [hs]; rfl
    rw [e]
    repeat' ((conv => whnf); first | with_reducible refine CondK.tt ?_ | with_reducible refine CondK.ff ?_ | with_reducible refine CondK.not ?_ | refine CondK.no' (show (!stateOkF s) = false by rw [hs]; rfl) ?_ | refine DrawN.q (by kernel_rfl) ?_ | refine CallK.mk _ (sStateOk_a _ _ _ h0) ?_ | refine CallK.mk _ (l17LastOf_a _ _ _ h0) ?_ | fail)
    exact rfl
  | false =>
    have e : lastOfF s = ⟨0, 0⟩ := by unfold lastOfF; rw [hs]; rfl
    rw [e]
    repeat' ((conv => whnf); first | with_reducible refine CondK.tt ?_ | with_reducible refine CondK.ff ?_ | with_reducible refine CondK.not ?_ | refine CondK.yes' (show (!stateOkF s) = true by rw [hs]; rfl) ?_ | refine DrawN.q (by kernel_rfl) ?_ | refine CallK.mk _ (sStateOk_a _ _ _ h0) ?_ | fail)
    exact rfl
def cmpPg (a b : GPg) : Int := orF [cmpI a.Pool b.Pool, cmpI a.No b.No]
def pgLessF (a b : GPg) : Bool := decide (a.Pool < b.Pool) || decide (a.Pool = b.Pool) && decide (a.No < b.No)
theorem cmpPg_less (a b : GPg) : decide (cmpPg a b ≥ 0) = !pgLessF a b := by
  rw [Bool.eq_iff_iff]
  unfold cmpPg pgLessF orF orF orF cmpI
  simp only [decide_eq_true_eq, Bool.not_eq_true', Bool.or_eq_false_iff, Bool.and_eq_false_iff, decide_eq_false_iff_not]
  split <;> split <;> (try split) <;> (try split) <;> (try split) <;> omega
theorem comparePgs_a (M : Mem) (a b : GPg) : Ans Try.prog M 92 #[.agg #[.int .i64 a.Pool, .int .i64 a.No], .agg #[.int .i64 b.Pool, .int .i64 b.No]] (.int .i64 (cmpPg a b)) := by
  refine ans_of T (l := [.agg #[.int .i64 a.Pool, .int .i64 a.No], .agg #[.int .i64 b.Pool, .int .i64 b.No]]) mixed Try.func92 rfl (by kernel_rfl) (Nat.le_of_ble_eq_true rfl) ?_
  (conv => whnf)
  refine DrawN.t 10 (by kernel_rfl) ?_
  repeat' ((conv => whnf); first | refine CallQ.mk _ (cmpInt64_a _ _ _) ?_ | fail)
  refine PubK.mk fun ad M' hl hg => ?_
  (conv => whnf)
  refine CallK.mk _ (or_a M' [cmpI a.Pool b.Pool, cmpI a.No b.No] (some ad) 2 (slInts (M := M') (ad := ad) [cmpI a.Pool b.Pool, cmpI a.No b.No] hg (by simp))) ?_
  (conv => whnf)
  exact ret_int rfl
theorem l18Less_a (M : Mem) (a b : GPg) : Ans Try.prog M 91 #[.agg #[.int .i64 a.Pool, .int .i64 a.No], .agg #[.int .i64 b.Pool, .int .i64 b.No]] (.bool (pgLessF a b)) := by
  refine ans_of T (l := [.agg #[.int .i64 a.Pool, .int .i64 a.No], .agg #[.int .i64 b.Pool, .int .i64 b.No]]) mixed Try.func91 rfl (by kernel_rfl) (Nat.le_of_ble_eq_true rfl) ?_
  repeat' ((conv => whnf); first | with_reducible refine CondK.tt ?_ | with_reducible refine CondK.ff ?_ | with_reducible refine CondK.not ?_ | refine DrawN.q (by kernel_rfl) ?_ | refine CondK.mk (fun h => ?_) (fun h => ?_) | fail)
  all_goals refine ret_bool ?_
  all_goals (unfold pgLessF; simp_all)
def stF (l : List GPgState) (k : Nat) : Bool :=
  match l[k]? with
  | some x => stateOkF x && !(decide (0 < k) && match l[k - 1]? with | some y => !pgLessF y.Pg x.Pg | none => false)
  | none => true
theorem stF_at {l : List GPgState} {k : Nat} {x y : GPgState} (hx : l[k]? = some x) (hy : l[k - 1]? = some y) : stF l k = (stateOkF x && !(decide (0 < k) && !pgLessF y.Pg x.Pg)) := by
  unfold stF
  rw [hx, hy]
def statesOkF (l : List GPgState) : Bool := allR l.length (stF l) && decide ((l.length : Int) ≤ 8)
theorem statesOk_a (M : Mem) (l : List GPgState) (A : Option Addr) (c : Nat) (h : SlR M RPgState 12 160 A c l) : Ans Try.prog M 60 #[.slice A l.length c] (.bool (statesOkF l)) := by
  have hl := h.len
  refine ans_of T (l := [.slice A l.length c]) mixed Try.func60 rfl (by kernel_rfl) (Nat.le_of_ble_eq_true rfl) ?_
  (conv => whnf)
  refine LoopK.mk {k : Nat // k ≤ l.length ∧ ∀ j, j < k → stF l j = true} (fun ⟨k, _⟩ => [(0, .v (.slice A l.length c)), (5, .v (.slice A l.length c)), (6, .v (.int .i64 (l.length : Int))), (7, .v (.int .i64 (k : Int)))]) (fun _ => []) (fun _ => M) (fun k => l.length - k.1) ⟨0, Nat.zero_le _, fun j hj => absurd hj (by omega)⟩ ⟨⟨⟨rfl, rfl, rfl, rfl, trivial⟩, trivial, rfl, rfl⟩, rfl⟩ ?_
  rintro ⟨k, hk, ha⟩
  by_cases hlt : k < l.length
  · have hx := List.getElem?_eq_getElem hlt
    obtain ⟨ad, rfl, A0, c0, A1, c1, A2, c2, A3, c3, bnx, ⟨s0, s1, s2, s3⟩, x0, x1, x2, x3, x4, x5, x6, x7, x8, x9, x10, x11⟩ := at_PgState h hx
    obtain ⟨p, hp⟩ : ∃ p, p = k - 1 := ⟨_, rfl⟩
    have hpl : p < l.length := by omega
    have hy := List.getElem?_eq_getElem hpl
    obtain ⟨_, hae, _, _, _, _, _, _, _, _, _, _, y0, y1, _⟩ := at_PgState h hy
    cases hae
    have hf := stF_at hx (by rw [← hp]; exact hy)
    rw [← Bool.not_not (pgLessF _ _), ← cmpPg_less] at hf
    repeat' ((conv => whnf); first | with_reducible refine CondK.tt ?_ | with_reducible refine CondK.ff ?_ | with_reducible refine CondK.not ?_ | refine LdK.mk _ (by assumption) ?_ | refine IdxK.mk _ rfl (by omega) (by omega) ?_ | refine IdxK.at p _ (i64_pred hp (by simpa using h) (by omega)) rfl hpl ?_ | refine DrawN.q (by kernel_rfl) ?_ | refine CallQ.mk _ (stateOk_a _ l[k] _ ⟨_, _, _, _, _, _, _, _, rfl, trivial, s0, s1, s2, s3⟩) ?_ | refine CallQ.mk _ (comparePgs_a _ l[p].Pg l[k].Pg) ?_ | refine CondK.yes' (show decide ((k : Int) < (l.length : Int)) = true from decide_eq_true (by omega)) ?_ | refine CondK.mk (fun h => ?_) (fun h => ?_) | fail)
    all_goals first
      | (have hf : stF l k = true := by rw [hf]; clear hf ha; (simp_all <;> (try intro h2 h3) <;> (try simp_all) <;> omega)
         exact ⟨⟨k + 1, hlt, allR_step ha hf⟩, ⟨⟨rfl, rfl, rfl, look_int (i64_succ (by omega)), trivial⟩, trivial, rfl, rfl⟩, rfl, by simp; omega⟩)
      | (have hf : stF l k = false := by rw [hf]; clear hf ha; (simp_all <;> (try intro h2) <;> (try simp_all) <;> omega)
         refine ret_bool ?_
         rw [statesOkF, allR_no hlt hf]; rfl)
      | fail
  · have e0 : allR l.length (stF l) = true := allR_yes fun j hj => ha j (by omega)
    repeat' ((conv => whnf); first | with_reducible refine CondK.tt ?_ | with_reducible refine CondK.ff ?_ | refine LdK.mk _ (by assumption) ?_ | refine DrawN.q (by kernel_rfl) ?_ | refine CondK.no' (show decide ((k : Int) < (l.length : Int)) = false from decide_eq_false (by omega)) ?_ | fail)
    refine ret_bool ?_
    rw [statesOkF, e0]; rfl
theorem l18List_a (M : Mem) (l : List GPgState) (A : Option Addr) (c : Nat) (h : SlR M RPgState 12 160 A c l) : Ans Try.prog M 58 #[.slice A l.length c] (.bool (statesOkF l)) := by
  have hl := h.len
  refine ans_of T (l := [.slice A l.length c]) mixed Try.func58 rfl (by kernel_rfl) (Nat.le_of_ble_eq_true rfl) ?_
  (conv => whnf)
  refine LoopK.mk {k : Nat // k ≤ l.length ∧ k ≤ 9 ∧ ∀ j, j < k → stF l j = true} (fun ⟨k, _⟩ => [(0, .v (.slice A l.length c)), (3, .v (.int .i64 (k : Int)))]) (fun _ => []) (fun _ => M) (fun k => l.length - k.1) ⟨0, Nat.zero_le _, by omega, fun j hj => absurd hj (by omega)⟩ ⟨⟨⟨rfl, rfl, trivial⟩, trivial, rfl, rfl⟩, rfl⟩ ?_
  rintro ⟨k, hk, hk', ha⟩
  by_cases hlt : k < l.length
  · have hx := List.getElem?_eq_getElem hlt
    obtain ⟨ad, rfl, A0, c0, A1, c1, A2, c2, A3, c3, bnx, ⟨s0, s1, s2, s3⟩, x0, x1, x2, x3, x4, x5, x6, x7, x8, x9, x10, x11⟩ := at_PgState h hx
    obtain ⟨p, hp⟩ : ∃ p, p = k - 1 := ⟨_, rfl⟩
    have hpl : p < l.length := by omega
    have hy := List.getElem?_eq_getElem hpl
    obtain ⟨_, hae, _, _, _, _, _, _, _, _, _, _, y0, y1, _⟩ := at_PgState h hy
    cases hae
    have hf := stF_at hx (by rw [← hp]; exact hy)
    repeat' ((conv => whnf); first | with_reducible refine CondK.tt ?_ | with_reducible refine CondK.ff ?_ | with_reducible refine CondK.not ?_ | refine LdK.mk _ (by assumption) ?_ | refine IdxK.mk _ rfl (by omega) (by omega) ?_ | refine IdxK.at p _ (i64_pred hp (by simpa using h) (by omega)) rfl hpl ?_ | refine DrawN.q (by kernel_rfl) ?_ | refine CallQ.mk _ (sStateOk_a _ l[k] _ ⟨_, _, _, _, _, _, _, _, rfl, trivial, s0, s1, s2, s3⟩) ?_ | refine CallQ.mk _ (l18Less_a _ l[p].Pg l[k].Pg) ?_ | refine CondK.yes' (show decide ((k : Int) < (l.length : Int)) = true from decide_eq_true (by omega)) ?_ | refine CondK.mk (fun h => ?_) (fun h => ?_) | fail)
    all_goals first
      | (have hf : stF l k = true := by rw [hf]; clear hf ha; (simp_all <;> (try intro h2 h3) <;> (try simp_all) <;> omega)
         exact ⟨⟨k + 1, hlt, by have h16 : decide ((k : Int) ≤ 8) = true := (by assumption); simp at h16; omega, allR_step ha hf⟩, ⟨⟨rfl, look_int (i64_succ (by omega)), trivial⟩, trivial, rfl, rfl⟩, rfl, by simp; omega⟩)
      | (have hf : stF l k = false := by rw [hf]; clear hf ha; (simp_all <;> (try intro h2) <;> (try simp_all) <;> omega)
         refine ret_bool ?_
         rw [statesOkF, allR_no hlt hf]; rfl)
      | (refine ret_bool ?_
         have h16 : decide ((k : Int) ≤ 8) = false := (by assumption)
         have : decide ((l.length : Int) ≤ 8) = false := by simp at h16 ⊢; omega
         rw [statesOkF, this]; simp)
      | fail
  · have e0 : allR l.length (stF l) = true := allR_yes fun j hj => ha j (by omega)
    repeat' ((conv => whnf); first | with_reducible refine CondK.tt ?_ | with_reducible refine CondK.ff ?_ | with_reducible refine CondK.not ?_ | refine LdK.mk _ (by assumption) ?_ | refine DrawN.q (by kernel_rfl) ?_ | refine CondK.no' (show decide ((k : Int) < (l.length : Int)) = false from decide_eq_false (by omega)) ?_ | fail)
    refine ret_bool ?_
    rw [statesOkF, e0]; rfl
def storeOkF (s : GStore) : Bool := statesOkF s.Live && statesOkF s.Kept
theorem storeOk_a (M : Mem) (s : GStore) (cs : List Value) (h : RStore M s cs) : Ans Try.prog M 22 #[.agg cs.toArray] (.bool (storeOkF s)) := by
  obtain ⟨A0, c0, A1, c1, rfl, _, s0, s1⟩ := h
  refine ans_of T (l := [.agg (List.toArray _)]) mixed Try.func22 rfl (by kernel_rfl) (Nat.le_of_ble_eq_true rfl) ?_
  repeat' ((conv => whnf); first | with_reducible refine CondK.tt ?_ | with_reducible refine CondK.ff ?_ | refine DrawN.q (by kernel_rfl) ?_ | refine CallK.mk _ (statesOk_a _ _ _ _ s0) ?_ | refine CallK.mk _ (statesOk_a _ _ _ _ s1) ?_ | refine CondK.mk (fun h => ?_) (fun h => ?_) | fail)
  all_goals refine ret_bool ?_
  all_goals (unfold storeOkF; simp_all)
theorem sStoreOk_a (M : Mem) (s : GStore) (cs : List Value) (h : RStore M s cs) : Ans Try.prog M 20 #[.agg cs.toArray] (.bool (storeOkF s)) := by
  obtain ⟨A0, c0, A1, c1, rfl, _, s0, s1⟩ := h
  refine ans_of T (l := [.agg (List.toArray _)]) mixed Try.func20 rfl (by kernel_rfl) (Nat.le_of_ble_eq_true rfl) ?_
  repeat' ((conv => whnf); first | with_reducible refine CondK.tt ?_ | with_reducible refine CondK.ff ?_ | refine DrawN.q (by kernel_rfl) ?_ | refine CallK.mk _ (l18List_a _ _ _ _ s0) ?_ | refine CallK.mk _ (l18List_a _ _ _ _ s1) ?_ | refine CondK.mk (fun h => ?_) (fun h => ?_) | fail)
  all_goals refine ret_bool ?_
  all_goals (unfold storeOkF; simp_all)
end Go.Proofs.Ytpflpmdbgnmamaa.Hlp
