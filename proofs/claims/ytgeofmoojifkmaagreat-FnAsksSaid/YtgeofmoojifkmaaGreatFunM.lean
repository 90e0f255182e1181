/- Notices by the light walk. -/
import Derived.Test.YtgeofmoojifkmaaGreatFunK
import Derived.Test.YtgeofmoojifkmaaGreatHlpE
namespace Go.Proofs.YtgeofmoojifkmaaGreat.Hlp
open Go Go.RowKit Go.Proofs Go.Proofs.YtgeofmoojifkmaaGreat.Lw
set_option linter.unusedVariables false
set_option linter.unusedSimpArgs false
set_option maxRecDepth 100000
set_option maxHeartbeats 4000000
theorem isNode_a (M : Mem) (n : Int) : Ans Tryz.prog M 74 #[.int .i64 n] (.bool (inR n 0 15)) := by
  refine ans_of T (l := [.int .i64 n]) mixed Tryz.func74 rfl (by kernel_rfl) (Nat.le_of_ble_eq_true rfl) ?_
  repeat' ((conv => whnf); first | refine CallK.mk _ (between_a _ _ _ _) ?_ | fail)
  exact ret_bool rfl
def noticeF (l : List GNotice) (k : Nat) : Bool :=
  match l[k]? with
  | some x => inR x.From 0 15 && !(decide (0 < k) && match l[k - 1]? with | some y => decide (x.From ≤ y.From) | none => false) && stateOkF x.State && match l[0]? with | some z => decide (x.State.Pg = z.State.Pg) | none => false
  | none => true
theorem noticeF_at {l : List GNotice} {k : Nat} {x y z : GNotice} (hx : l[k]? = some x) (hy : l[k - 1]? = some y) (hz : l[0]? = some z) : noticeF l k = (inR x.From 0 15 && !(decide (0 < k) && decide (x.From ≤ y.From)) && stateOkF x.State && decide (x.State.Pg = z.State.Pg)) := by
  unfold noticeF
  rw [hx, hy, hz]
def noticesOkF (l : List GNotice) : Bool := allR l.length (noticeF l)
theorem notices_from {l : List GNotice} : ∀ (k : Nat), (∀ j, j ≤ k → noticeF l j = true) → ∀ (hk : k < l.length), (k : Int) ≤ l[k].From ∧ l[k].From ≤ 15
  | 0, h, hk => by
    have h1 := h 0 (Nat.le_refl _)
    rw [noticeF_at (List.getElem?_eq_getElem hk) (List.getElem?_eq_getElem hk) (List.getElem?_eq_getElem hk)] at h1
    simp only [Bool.and_eq_true, inR, decide_eq_true_eq] at h1
    exact ⟨h1.1.1.1.1, h1.1.1.1.2⟩
  | k + 1, h, hk => by
    have ih := notices_from k (fun j hj => h j (by omega)) (by omega)
    have h1 := h (k + 1) (Nat.le_refl _)
    rw [noticeF_at (List.getElem?_eq_getElem hk) (y := l[k]'(by omega)) (by rw [show k + 1 - 1 = k by omega]; exact List.getElem?_eq_getElem (by omega)) (z := l[0]'(by omega)) (List.getElem?_eq_getElem (by omega))] at h1
    simp only [Bool.and_eq_true, inR, decide_eq_true_eq, Bool.not_eq_true', Bool.and_eq_false_iff, decide_eq_false_iff_not] at h1
    have := h1.1.1.2
    exact ⟨by omega, h1.1.1.1.2⟩
theorem notices_len {l : List GNotice} (h : noticesOkF l = true) : l.length ≤ 16 := by
  rcases Nat.lt_or_ge 16 l.length with h1 | h1
  · have := notices_from (l := l) 16 (fun j hj => allR_get h (by omega)) h1
    omega
  · exact h1
theorem eqv_Pg2 (x y : GPg) : (x.Pool == y.Pool && (x.No == y.No && true)) = decide (x = y) := eqv_Pg x y
theorem noticesOk_a (M : Mem) (l : List GNotice) (A : Option Addr) (c : Nat) (h : SlR M RNotice 13 168 A c l) : Ans Tryz.prog M 41 #[.slice A l.length c] (.bool (noticesOkF l)) := by
  have hl := h.len
  refine ans_of T (l := [.slice A l.length c]) mixed Tryz.func41 rfl (by kernel_rfl) (Nat.le_of_ble_eq_true rfl) ?_
  (conv => whnf)
  refine LoopK.mk {k : Nat // k ≤ l.length ∧ ∀ j, j < k → noticeF l j = true} (fun ⟨k, _⟩ => [(0, .v (.slice A l.length c)), (5, .v (.slice A l.length c)), (6, .v (.int .i64 (l.length : Int))), (7, .v (.int .i64 (k : Int)))]) (fun _ => []) (fun _ => M) (fun k => l.length - k.1) ⟨0, Nat.zero_le _, fun j hj => absurd hj (by omega)⟩ ⟨⟨⟨rfl, rfl, rfl, rfl, trivial⟩, trivial, rfl, rfl⟩, rfl⟩ ?_
  rintro ⟨k, hk, ha⟩
  by_cases hlt : k < l.length
  · have hx := List.getElem?_eq_getElem hlt
    obtain ⟨ad, rfl, A0, c0, A1, c1, A2, c2, A3, c3, bnx, ⟨s0, s1, s2, s3⟩, x0, x1, x2, x3, x4, x5, x6, x7, x8, x9, x10, x11, x12⟩ := at_Notice h hx
    obtain ⟨p, hp⟩ : ∃ p, p = k - 1 := ⟨_, rfl⟩
    have hpl : p < l.length := by omega
    have hy := List.getElem?_eq_getElem hpl
    obtain ⟨_, hae, _, _, _, _, _, _, _, _, _, _, y0, _⟩ := at_Notice h hy
    cases hae
    have h0l : 0 < l.length := by omega
    have hz := List.getElem?_eq_getElem h0l
    obtain ⟨_, hae, _, _, _, _, _, _, _, _, _, _, _, z1, z2, _⟩ := at_Notice h hz
    cases hae
    have hf := noticeF_at hx (by rw [← hp]; exact hy) hz
    rw [← eqv_Pg] at hf
    repeat' ((conv => whnf); first | with_reducible refine CondK.tt ?_ | with_reducible refine CondK.ff ?_ | refine LdK.mk _ (by assumption) ?_ | refine IdxK.mk _ rfl (by omega) (by omega) ?_ | refine IdxK.at p _ (i64_pred hp (by simpa using h) (by omega)) rfl hpl ?_ | refine DrawN.q (by kernel_rfl) ?_ | refine CallQ.mk _ (isNode_a _ _) ?_ | refine CallQ.mk _ (stateOk_a _ l[k].State _ ⟨_, _, _, _, _, _, _, _, rfl, trivial, s0, s1, s2, s3⟩) ?_ | refine CondK.yes' (show decide ((k : Int) < (l.length : Int)) = true from decide_eq_true (by omega)) ?_ | refine CondK.mk (fun h => ?_) (fun h => ?_) | fail)
    all_goals first
      | (have hf : noticeF l k = true := by rw [hf]; clear hf ha; (simp_all <;> (try intro h2 h3) <;> (try simp_all) <;> omega)
         exact ⟨⟨k + 1, hlt, allR_step ha hf⟩, ⟨⟨rfl, rfl, rfl, look_int (i64_succ (by omega)), trivial⟩, trivial, rfl, rfl⟩, rfl, by simp; omega⟩)
      | (have hf : noticeF l k = false := by rw [hf]; clear hf ha; (simp_all <;> (try intro h2) <;> (try simp_all) <;> omega)
         refine ret_bool ?_
         rw [noticesOkF, allR_no hlt hf])
      | fail
  · have e0 : allR l.length (noticeF l) = true := allR_yes fun j hj => ha j (by omega)
    repeat' ((conv => whnf); first | with_reducible refine CondK.tt ?_ | with_reducible refine CondK.ff ?_ | refine DrawN.q (by kernel_rfl) ?_ | refine CondK.no' (show decide ((k : Int) < (l.length : Int)) = false from decide_eq_false (by omega)) ?_ | fail)
    refine ret_bool ?_
    rw [noticesOkF, e0]
theorem l22Ok_a (M : Mem) (l : List GNotice) (A : Option Addr) (c : Nat) (h : SlR M RNotice 13 168 A c l) : Ans Tryz.prog M 65 #[.slice A l.length c] (.bool (noticesOkF l)) := by
  have hl := h.len
  refine ans_of T (l := [.slice A l.length c]) mixed Tryz.func65 rfl (by kernel_rfl) (Nat.le_of_ble_eq_true rfl) ?_
  by_cases h16 : l.length > 16
  · have e : noticesOkF l = false := by
      cases hn : noticesOkF l with
      | false => rfl
      | true => have := notices_len hn; omega
    rw [e]
    repeat' ((conv => whnf); first | with_reducible refine CondK.tt ?_ | refine CondK.yes' (show decide ((l.length : Int) > 16) = true from decide_eq_true (by omega)) ?_ | fail)
    exact ret_bool rfl
  (conv => whnf)
  refine CondK.no' (show decide ((l.length : Int) > 16) = false from decide_eq_false (by omega)) ?_
  (conv => whnf)
  refine LoopK.mk {k : Nat // k ≤ l.length ∧ ∀ j, j < k → noticeF l j = true} (fun ⟨k, _⟩ => [(0, .v (.slice A l.length c)), (3, .v (.int .i64 (k : Int)))]) (fun _ => []) (fun _ => M) (fun k => l.length - k.1) ⟨0, Nat.zero_le _, fun j hj => absurd hj (by omega)⟩ ⟨⟨⟨rfl, rfl, trivial⟩, trivial, rfl, rfl⟩, rfl⟩ ?_
  rintro ⟨k, hk, ha⟩
  by_cases hlt : k < l.length
  · have hx := List.getElem?_eq_getElem hlt
    obtain ⟨ad, rfl, A0, c0, A1, c1, A2, c2, A3, c3, bnx, ⟨s0, s1, s2, s3⟩, x0, x1, x2, x3, x4, x5, x6, x7, x8, x9, x10, x11, x12⟩ := at_Notice h hx
    obtain ⟨p, hp⟩ : ∃ p, p = k - 1 := ⟨_, rfl⟩
    have hpl : p < l.length := by omega
    have hy := List.getElem?_eq_getElem hpl
    obtain ⟨_, hae, _, _, _, _, _, _, _, _, _, _, y0, _⟩ := at_Notice h hy
    cases hae
    have h0l : 0 < l.length := by omega
    have hz := List.getElem?_eq_getElem h0l
    obtain ⟨_, hae, _, _, _, _, _, _, _, _, _, _, _, z1, z2, _⟩ := at_Notice h hz
    cases hae
    have hf := noticeF_at hx (by rw [← hp]; exact hy) hz
    rw [← eqv_Pg] at hf
    repeat' ((conv => whnf); first | with_reducible refine CondK.tt ?_ | with_reducible refine CondK.ff ?_ | refine LdK.mk _ (by assumption) ?_ | refine IdxK.mk _ rfl (by omega) (by omega) ?_ | refine IdxK.at p _ (i64_pred hp (by simpa using h) (by omega)) rfl hpl ?_ | refine DrawN.q (by kernel_rfl) ?_ | refine CallQ.mk _ (l00In_a _ _ _ _) ?_ | refine CallQ.mk _ (sStateOk_a _ l[k].State _ ⟨_, _, _, _, _, _, _, _, rfl, trivial, s0, s1, s2, s3⟩) ?_ | refine CondK.yes' (show decide ((k : Int) < (l.length : Int)) = true from decide_eq_true (by omega)) ?_ | refine CondK.mk (fun h => ?_) (fun h => ?_) | fail)
    all_goals first
      | (have hf : noticeF l k = true := by rw [hf]; clear hf ha; (simp_all <;> (try intro h2 h3) <;> (try simp_all) <;> omega)
         exact ⟨⟨k + 1, hlt, allR_step ha hf⟩, ⟨⟨rfl, look_int (i64_succ (by omega)), trivial⟩, trivial, rfl, rfl⟩, rfl, by simp; omega⟩)
      | (have hf : noticeF l k = false := by rw [hf]; clear hf ha; (simp_all <;> (try intro h2) <;> (try simp_all) <;> omega)
         refine ret_bool ?_
         rw [noticesOkF, allR_no hlt hf])
      | fail
  · have e0 : allR l.length (noticeF l) = true := allR_yes fun j hj => ha j (by omega)
    repeat' ((conv => whnf); first | with_reducible refine CondK.tt ?_ | with_reducible refine CondK.ff ?_ | refine DrawN.q (by kernel_rfl) ?_ | refine CondK.no' (show decide ((k : Int) < (l.length : Int)) = false from decide_eq_false (by omega)) ?_ | fail)
    refine ret_bool ?_
    rw [noticesOkF, e0]
def startedF (l : List GNotice) : Int := l.foldl (fun m n => if n.State.Started > m then n.State.Started else m) 0
theorem startedF_step {l : List GNotice} {k : Nat} (h : k < l.length) : startedF (l.take (k + 1)) = if l[k].State.Started > startedF (l.take k) then l[k].State.Started else startedF (l.take k) := by
  unfold startedF
  rw [List.take_succ_eq_append_getElem h, List.foldl_append]
  rfl
theorem startedOf_a (M : Mem) (l : List GNotice) (A : Option Addr) (c : Nat) (h : SlR M RNotice 13 168 A c l) : Ans Tryz.prog M 44 #[.slice A l.length c] (.int .i64 (startedF l)) := by
  have hl := h.len
  refine ans_of T (l := [.slice A l.length c]) mixed Tryz.func44 rfl (by kernel_rfl) (Nat.le_of_ble_eq_true rfl) ?_
  (conv => whnf)
  refine LoopK.mk {k : Nat // k ≤ l.length} (fun ⟨k, _⟩ => [(3, .v (.int .i64 (startedF (l.take k)))), (6, .v (.slice A l.length c)), (7, .v (.int .i64 (l.length : Int))), (8, .v (.int .i64 (k : Int)))]) (fun _ => []) (fun _ => M) (fun k => l.length - k.1) ⟨0, Nat.zero_le _⟩ ⟨⟨⟨rfl, rfl, rfl, rfl, trivial⟩, trivial, rfl, rfl⟩, rfl⟩ ?_
  rintro ⟨k, hk⟩
  by_cases hlt : k < l.length
  · have hx := List.getElem?_eq_getElem hlt
    obtain ⟨ad, rfl, A0, c0, A1, c1, A2, c2, A3, c3, bnx, ⟨s0, s1, s2, s3⟩, x0, x1, x2, x3, x4, x5, x6, x7, x8, x9, x10, x11, x12⟩ := at_Notice h hx
    repeat' ((conv => whnf); first | with_reducible refine CondK.tt ?_ | with_reducible refine CondK.ff ?_ | refine LdK.mk _ (by assumption) ?_ | refine IdxK.mk _ rfl (by omega) (by omega) ?_ | refine DrawN.q (by kernel_rfl) ?_ | refine CondK.yes' (show decide ((k : Int) < (l.length : Int)) = true from decide_eq_true (by omega)) ?_ | fail)
    exact ⟨⟨k + 1, hlt⟩, ⟨⟨look_int (startedF_step hlt).symm, rfl, rfl, look_int (i64_succ (by omega)), trivial⟩, trivial, rfl, rfl⟩, rfl, by simp; omega⟩
  · have he : l.take k = l := List.take_of_length_le (by omega)
    repeat' ((conv => whnf); first | with_reducible refine CondK.tt ?_ | with_reducible refine CondK.ff ?_ | refine DrawN.q (by kernel_rfl) ?_ | refine CondK.no' (show decide ((k : Int) < (l.length : Int)) = false from decide_eq_false (by omega)) ?_ | fail)
    refine ret_int ?_
    rw [he]
theorem l00Max_a (M : Mem) (a b : Int) : Ans Tryz.prog M 48 #[.int .i64 a, .int .i64 b] (.int .i64 (if b > a then b else a)) := by
  refine ans_of T (l := [.int .i64 a, .int .i64 b]) mixed Tryz.func48 rfl (by kernel_rfl) (Nat.le_of_ble_eq_true rfl) ?_
  repeat' ((conv => whnf); first | with_reducible refine CondK.tt ?_ | with_reducible refine CondK.ff ?_ | refine CondK.mk (fun h => ?_) (fun h => ?_) | fail)
  all_goals refine ret_int ?_
  all_goals (simp at h; split <;> omega)
theorem l22Started_a (M : Mem) (l : List GNotice) (A : Option Addr) (c : Nat) (h : SlR M RNotice 13 168 A c l) : Ans Tryz.prog M 22 #[.slice A l.length c] (.int .i64 (startedF l)) := by
  have hl := h.len
  refine ans_of T (l := [.slice A l.length c]) mixed Tryz.func22 rfl (by kernel_rfl) (Nat.le_of_ble_eq_true rfl) ?_
  (conv => whnf)
  refine LoopK.mk {k : Nat // k ≤ l.length} (fun ⟨k, _⟩ => [(0, .v (.slice A l.length c)), (3, .v (.int .i64 (startedF (l.take k)))), (4, .v (.int .i64 (k : Int)))]) (fun _ => []) (fun _ => M) (fun k => l.length - k.1) ⟨0, Nat.zero_le _⟩ ⟨⟨⟨rfl, rfl, rfl, trivial⟩, trivial, rfl, rfl⟩, rfl⟩ ?_
  rintro ⟨k, hk⟩
  by_cases hlt : k < l.length
  · have hx := List.getElem?_eq_getElem hlt
    obtain ⟨ad, rfl, A0, c0, A1, c1, A2, c2, A3, c3, bnx, ⟨s0, s1, s2, s3⟩, x0, x1, x2, x3, x4, x5, x6, x7, x8, x9, x10, x11, x12⟩ := at_Notice h hx
    repeat' ((conv => whnf); first | with_reducible refine CondK.tt ?_ | with_reducible refine CondK.ff ?_ | refine LdK.mk _ (by assumption) ?_ | refine IdxK.mk _ rfl (by omega) (by omega) ?_ | refine CallK.mk _ (l00Max_a _ _ _) ?_ | refine DrawN.q (by kernel_rfl) ?_ | refine CondK.yes' (show decide ((k : Int) < (l.length : Int)) = true from decide_eq_true (by omega)) ?_ | fail)
    exact ⟨⟨k + 1, hlt⟩, ⟨⟨rfl, look_int (startedF_step hlt).symm, look_int (i64_succ (by omega)), trivial⟩, trivial, rfl, rfl⟩, rfl, by simp; omega⟩
  · have he : l.take k = l := List.take_of_length_le (by omega)
    repeat' ((conv => whnf); first | with_reducible refine CondK.tt ?_ | with_reducible refine CondK.ff ?_ | refine DrawN.q (by kernel_rfl) ?_ | refine CondK.no' (show decide ((k : Int) < (l.length : Int)) = false from decide_eq_false (by omega)) ?_ | fail)
    refine ret_int ?_
    rw [he]
def startedOfF (l : List GNotice) : Int := if noticesOkF l = true then startedF l else 0
end Go.Proofs.YtgeofmoojifkmaaGreat.Hlp
