/- Acting sets, intervals: both programs. -/
import Derived.Test.YtgeofmoojifkmaaGreatFunM
import Derived.Test.YtgeofmoojifkmaaGreatFunSA
import Derived.Test.YtgeofmoojifkmaaGreatHlpG
namespace Go.Proofs.YtgeofmoojifkmaaGreat.Hlp
open Go Go.RowKit Go.Proofs Go.Proofs.YtgeofmoojifkmaaGreat.Lw
set_option linter.unusedVariables false
set_option linter.unusedSimpArgs false
set_option maxRecDepth 100000
set_option maxHeartbeats 4000000
theorem SlR.takeT {α : Type} {M : Mem} {R : Mem → α → List Value → Prop} {z by_ cap : Nat} {A : Option Addr} {l : List α} (h : SlR M R z by_ A cap l) {k : Nat} (hk : k ≤ l.length) : SlR M R z by_ (if cap = 0 then A else A.map (·.add (0 * z))) (cap - 0) (l.take k) := by
  have := h.sub (lo := 0) (hi := k) (Nat.zero_le _) hk
  simpa using this
def actF (l : List Int) (k : Nat) : Bool := match l[k]? with | some n => inR n (-1) 15 && !(decide (0 ≤ n) && (l.take k).any (fun x => decide (n = x))) | none => true
def actingF (l : List Int) : Bool := allR l.length (actF l) && inR (l.length : Int) 1 7
theorem actF_at {l : List Int} {k : Nat} {n : Int} (h : l[k]? = some n) : actF l k = (inR n (-1) 15 && !(decide (0 ≤ n) && (l.take k).any (fun x => decide (n = x)))) := by unfold actF; rw [h]
theorem actingOk_a (M : Mem) (l : List Int) (A : Option Addr) (c : Nat) (h : SlR M RInt 1 8 A c l) : Ans Tryz.prog M 51 #[.slice A l.length c] (.bool (actingF l)) := by
  have hl := h.len
  have hcap := h.cap
  refine ans_of T (l := [.slice A l.length c]) mixed Tryz.func51 rfl (by kernel_rfl) (Nat.le_of_ble_eq_true rfl) ?_
  (conv => whnf)
  refine LoopK.mk {k : Nat // k ≤ l.length ∧ ∀ j, j < k → actF l j = true} (fun ⟨k, _⟩ => [(0, .v (.slice A l.length c)), (5, .v (.slice A l.length c)), (6, .v (.int .i64 (l.length : Int))), (7, .v (.int .i64 (k : Int)))]) (fun _ => []) (fun _ => M) (fun k => l.length - k.1) ⟨0, Nat.zero_le _, fun j hj => absurd hj (by omega)⟩ ⟨⟨⟨rfl, rfl, rfl, rfl, trivial⟩, trivial, rfl, rfl⟩, rfl⟩ ?_
  rintro ⟨k, hk, ha⟩
  (conv => whnf)
  refine CondK.mk (fun h1 => ?_) (fun h1 => ?_)
  · have hlt : k < l.length := by simpa using h1
    obtain ⟨y, hyk⟩ : ∃ y, l[k] = y := ⟨_, rfl⟩
    have hy : l[k]? = some y := by rw [List.getElem?_eq_getElem hlt, hyk]
    have hst := SlR.takeT h hk
    obtain ⟨ad, rfl, _, x0⟩ := at_Int h hy
    have hf := actF_at hy
    have hct := containsInt_a M (l.take k) _ _ hst y
    rw [List.length_take_of_le hk] at hct
    generalize (l.take k).any (fun x => decide (y = x)) = f at hf hct
    repeat' ((conv => whnf); first | with_reducible refine CondK.tt ?_ | with_reducible refine CondK.ff ?_ | refine IdxK.mk _ rfl (by omega) (by omega) ?_ | refine LdK.mk _ (by assumption) ?_ | refine CallK.mk _ (between_a _ y (-1) 15) ?_ | refine CallK.mk _ hct ?_ | refine SlK.mk 0 k rfl rfl (by omega) (by omega) ?_ | refine GuardK.mk (fun hc => ?_) (fun hc => ?_) | refine CondK.mk (fun hc => ?_) (fun hc => ?_) | fail)
    all_goals first
      | (have hf : actF l k = true := by rw [hf]; simp_all
         exact ⟨⟨k + 1, hlt, allR_step ha hf⟩, ⟨⟨rfl, rfl, rfl, look_int (i64_succ (by omega)), trivial⟩, trivial, rfl, rfl⟩, rfl, by simp; omega⟩)
      | (have hf : actF l k = false := by rw [hf]; simp_all
         exact ret_bool (by unfold actingF; rw [allR_no hlt hf]; rfl))
      | fail
  · have he : k = l.length := by have : ¬ k < l.length := by simpa using h1
                                 omega
    subst he
    repeat' ((conv => whnf); first | refine CallK.mk _ (between_a _ _ 1 7) ?_ | fail)
    exact ret_bool (by unfold actingF; rw [allR_yes ha]; rfl)
theorem l12Ok_a (M : Mem) (l : List Int) (A : Option Addr) (c : Nat) (h : SlR M RInt 1 8 A c l) : Ans Tryz.prog M 103 #[.slice A l.length c] (.bool (actingF l)) := by
  have hl := h.len
  have hcap := h.cap
  refine ans_of T (l := [.slice A l.length c]) mixed Tryz.func103 rfl (by kernel_rfl) (Nat.le_of_ble_eq_true rfl) ?_
  by_cases hn : inR (l.length : Int) 1 7 = true
  · have hn2 : 1 ≤ (l.length : Int) ∧ (l.length : Int) ≤ 7 := by unfold inR at hn; simpa using hn
    have hq1 : decide ((l.length : Int) < 1) = false := decide_eq_false (by omega)
    have hq2 : decide ((7 : Int) < (l.length : Int)) = false := decide_eq_false (by omega)
    (conv => whnf)
    rw [hq1]
    (conv => whnf)
    refine CondK.no' hq2 ?_
    (conv => whnf)
    refine LoopK.mk {k : Nat // k ≤ l.length ∧ ∀ j, j < k → actF l j = true} (fun ⟨k, _⟩ => [(0, .v (.slice A l.length c)), (3, .v (.int .i64 (k : Int)))]) (fun _ => []) (fun _ => M) (fun k => l.length - k.1) ⟨0, Nat.zero_le _, fun j hj => absurd hj (by omega)⟩ ⟨⟨⟨rfl, rfl, trivial⟩, trivial, rfl, rfl⟩, rfl⟩ ?_
    rintro ⟨k, hk, ha⟩
    (conv => whnf)
    refine CondK.mk (fun h1 => ?_) (fun h1 => ?_)
    · have hlt : k < l.length := by simpa using h1
      obtain ⟨y, hyk⟩ : ∃ y, l[k] = y := ⟨_, rfl⟩
      have hy : l[k]? = some y := by rw [List.getElem?_eq_getElem hlt, hyk]
      have hst := SlR.takeT h hk
      obtain ⟨ad, rfl, _, x0⟩ := at_Int h hy
      have hf := actF_at hy
      have hct := l00Has_a M (l.take k) _ _ hst y
      rw [List.length_take_of_le hk] at hct
      generalize (l.take k).any (fun x => decide (y = x)) = f at hf hct
      repeat' ((conv => whnf); first | with_reducible refine CondK.tt ?_ | with_reducible refine CondK.ff ?_ | refine IdxK.mk _ rfl (by omega) (by omega) ?_ | refine LdK.mk _ (by assumption) ?_ | refine DrawN.q (by kernel_rfl) ?_ | refine CallK.mk _ (l00In_a _ y (-1) 15) ?_ | refine CallQ.mk _ (l00In_a _ y (-1) 15) ?_ | refine CallK.mk _ hct ?_ | refine CallQ.mk _ hct ?_ | refine SlK.mk 0 k rfl rfl (by omega) (by omega) ?_ | refine GuardK.mk (fun hc => ?_) (fun hc => ?_) | refine CondK.mk (fun hc => ?_) (fun hc => ?_) | fail)
      all_goals first
        | (have hf : actF l k = true := by rw [hf]; simp_all
           exact ⟨⟨k + 1, hlt, allR_step ha hf⟩, ⟨⟨rfl, look_int (i64_succ (by omega)), trivial⟩, trivial, rfl, rfl⟩, rfl, by simp; omega⟩)
        | (have hf : actF l k = false := by rw [hf]; simp_all
           exact ret_bool (by unfold actingF; rw [allR_no hlt hf]; rfl))
        | fail
    · have he : k = l.length := by have : ¬ k < l.length := by simpa using h1
                                   omega
      subst he
      exact ret_bool (by unfold actingF; rw [allR_yes ha, hn]; rfl)
  · have e : actingF l = false := by unfold actingF; simp only [Bool.and_eq_false_iff]; exact .inr (by simpa using hn)
    have hn2 : ¬ (1 ≤ (l.length : Int) ∧ (l.length : Int) ≤ 7) := fun h => hn (by unfold inR; simpa using h)
    rw [e]
    (conv => whnf)
    by_cases h1 : (l.length : Int) < 1
    · rw [show decide ((l.length : Int) < 1) = true from decide_eq_true h1]
      (conv => whnf)
      exact ret_bool rfl
    · rw [show decide ((l.length : Int) < 1) = false from decide_eq_false h1]
      (conv => whnf)
      refine CondK.yes' (show decide ((7 : Int) < (l.length : Int)) = true from decide_eq_true (by omega)) ?_
      (conv => whnf)
      exact ret_bool rfl
def belF (l : List GNotice) (g : GPg) : Bool := noticesOkF l && match l[0]? with | some y => decide (y.State.Pg = g) | none => true
def ivNext (l : List GInterval) : Nat → Int
  | 0 => 1
  | k + 1 => match l[k]? with | some y => y.Last + 1 | none => 0
def ivF (l : List GInterval) (k : Nat) : Bool :=
  match l[k]? with
  | some y => decide (y.First = ivNext l k) && inR y.Last y.First 60 && actingF y.Acting && match l[0]? with | some z => decide (y.Acting.length = z.Acting.length) | none => false
  | none => true
theorem ivF_at {l : List GInterval} {k : Nat} {y z : GInterval} (h : l[k]? = some y) (h0 : l[0]? = some z) : ivF l k = (decide (y.First = ivNext l k) && inR y.Last y.First 60 && actingF y.Acting && decide (y.Acting.length = z.Acting.length)) := by unfold ivF; rw [h, h0]
def intervalsF (l : List GInterval) : Bool := allR l.length (ivF l) && decide (l.length ≤ 60)
theorem ivNext_at {l : List GInterval} {k : Nat} {y : GInterval} (h : l[k]? = some y) : ivNext l (k + 1) = y.Last + 1 := by show (match l[k]? with | some y => y.Last + 1 | none => 0) = _; rw [h]
theorem ivNext_pos {l : List GInterval} : ∀ (k : Nat), k ≤ l.length → (∀ j, j < k → ivF l j = true) → 1 ≤ ivNext l k ∧ ivNext l k ≤ 61
  | 0, _, _ => ⟨by show (1 : Int) ≤ 1; omega, by show (1 : Int) ≤ 61; omega⟩
  | k + 1, hk, h => by
    have hkl : k < l.length := by omega
    have h0l : 0 < l.length := by omega
    have ih := ivNext_pos k (by omega) fun j hj => h j (by omega)
    have h1 := h k (by omega)
    rw [ivF_at (List.getElem?_eq_getElem hkl) (List.getElem?_eq_getElem h0l)] at h1
    simp only [Bool.and_eq_true, inR, decide_eq_true_eq] at h1
    rw [ivNext_at (List.getElem?_eq_getElem hkl)]
    omega
theorem intervalsOk_a (M : Mem) (l : List GInterval) (A : Option Addr) (c : Nat) (h : SlR M RInterval 4 48 A c l) : Ans Tryz.prog M 27 #[.slice A l.length c] (.bool (intervalsF l)) := by
  have hl := h.len
  refine ans_of T (l := [.slice A l.length c]) mixed Tryz.func27 rfl (by kernel_rfl) (Nat.le_of_ble_eq_true rfl) ?_
  (conv => whnf)
  refine LoopK.mk {k : Nat // k ≤ l.length ∧ ∀ j, j < k → ivF l j = true} (fun ⟨k, _⟩ => [(0, .v (.slice A l.length c)), (3, .v (.int .i64 (ivNext l k))), (6, .v (.slice A l.length c)), (7, .v (.int .i64 (l.length : Int))), (8, .v (.int .i64 (k : Int)))]) (fun _ => []) (fun _ => M) (fun k => l.length - k.1) ⟨0, Nat.zero_le _, fun j hj => absurd hj (by omega)⟩ ⟨⟨⟨rfl, rfl, rfl, rfl, rfl, trivial⟩, trivial, rfl, rfl⟩, rfl⟩ ?_
  rintro ⟨k, hk, ha⟩
  (conv => whnf)
  refine CondK.mk (fun h1 => ?_) (fun h1 => ?_)
  · have hlt : k < l.length := by simpa using h1
    have h0l : 0 < l.length := by omega
    obtain ⟨y, hyk⟩ : ∃ y, l[k] = y := ⟨_, rfl⟩
    have hy : l[k]? = some y := by rw [List.getElem?_eq_getElem hlt, hyk]
    obtain ⟨z, hzk⟩ : ∃ z, l[0] = z := ⟨_, rfl⟩
    have hz : l[0]? = some z := by rw [List.getElem?_eq_getElem h0l, hzk]
    obtain ⟨ad, rfl, A0, c0, _, s0, x0, x1, x2, x3⟩ := at_Interval h hy
    obtain ⟨ad', hae, A1, c1, _, t0, y0, y1, y2, y3⟩ := at_Interval h hz
    cases hae
    have hf := ivF_at hy hz
    have hnp := ivNext_pos k hk ha
    have hnx := ivNext_at hy
    have g1 := between_a M y.Last y.First 60
    have g2 := actingOk_a M y.Acting A0 c0 s0
    cases q1 : decide (y.First = ivNext l k) with
    | false =>
      have q1n : (y.First != ivNext l k) = true := by rw [bne]; simp only [decide_eq_false_iff_not] at q1; simp [q1]
      have hf : ivF l k = false := by rw [hf]; simp only [q1, Bool.and_false, Bool.false_and, Bool.true_and]
      repeat' ((conv => whnf); first | refine DrawN.q (by kernel_rfl) ?_ | with_reducible refine CondK.tt ?_ | with_reducible refine CondK.ff ?_ | refine IdxK.mk _ rfl (by omega) (by omega) ?_ | refine LdK.mk _ (by assumption) ?_ | refine CallK.mk _ g1 ?_ | refine CallQ.mk _ g1 ?_ | refine CallK.mk _ g2 ?_ | refine CallQ.mk _ g2 ?_ | rw [q1n] |  fail)
      exact ret_bool (by unfold intervalsF; rw [allR_no hlt hf]; rfl)
    | true =>
      have q1n : (y.First != ivNext l k) = false := by rw [bne]; simp only [decide_eq_true_eq] at q1; simp [q1]
      cases q2 : inR y.Last y.First 60 with
      | false =>
        rw [q2] at g1
        have hf : ivF l k = false := by rw [hf]; simp only [q1, q2, Bool.and_false, Bool.false_and, Bool.true_and]
        repeat' ((conv => whnf); first | refine DrawN.q (by kernel_rfl) ?_ | with_reducible refine CondK.tt ?_ | with_reducible refine CondK.ff ?_ | refine IdxK.mk _ rfl (by omega) (by omega) ?_ | refine LdK.mk _ (by assumption) ?_ | refine CallK.mk _ g1 ?_ | refine CallQ.mk _ g1 ?_ | refine CallK.mk _ g2 ?_ | refine CallQ.mk _ g2 ?_ | rw [q1n] |  fail)
        exact ret_bool (by unfold intervalsF; rw [allR_no hlt hf]; rfl)
      | true =>
        rw [q2] at g1
        cases q3 : actingF y.Acting with
        | false =>
          rw [q3] at g2
          have hf : ivF l k = false := by rw [hf]; simp only [q1, q2, q3, Bool.and_false, Bool.false_and, Bool.true_and]
          repeat' ((conv => whnf); first | refine DrawN.q (by kernel_rfl) ?_ | with_reducible refine CondK.tt ?_ | with_reducible refine CondK.ff ?_ | refine IdxK.mk _ rfl (by omega) (by omega) ?_ | refine LdK.mk _ (by assumption) ?_ | refine CallK.mk _ g1 ?_ | refine CallQ.mk _ g1 ?_ | refine CallK.mk _ g2 ?_ | refine CallQ.mk _ g2 ?_ | rw [q1n] |  fail)
          exact ret_bool (by unfold intervalsF; rw [allR_no hlt hf]; rfl)
        | true =>
          rw [q3] at g2
          cases q4 : decide (y.Acting.length = z.Acting.length) with
          | false =>
            have q4n : ((y.Acting.length : Int) != (z.Acting.length : Int)) = true := by rw [bne]; simp only [decide_eq_false_iff_not] at q4; simp; omega
            have hf : ivF l k = false := by rw [hf]; simp only [q1, q2, q3, q4, Bool.and_false, Bool.false_and, Bool.true_and]
            repeat' ((conv => whnf); first | refine DrawN.q (by kernel_rfl) ?_ | with_reducible refine CondK.tt ?_ | with_reducible refine CondK.ff ?_ | refine IdxK.mk _ rfl (by omega) (by omega) ?_ | refine LdK.mk _ (by assumption) ?_ | refine CallK.mk _ g1 ?_ | refine CallQ.mk _ g1 ?_ | refine CallK.mk _ g2 ?_ | refine CallQ.mk _ g2 ?_ | rw [q1n] | rw [q4n] |  fail)
            exact ret_bool (by unfold intervalsF; rw [allR_no hlt hf]; rfl)
          | true =>
            have q4n : ((y.Acting.length : Int) != (z.Acting.length : Int)) = false := by rw [bne]; simp only [decide_eq_true_eq] at q4; simp [q4]
            have hf : ivF l k = true := by rw [hf]; simp only [q1, q2, q3, q4, Bool.and_self]
            simp only [inR, Bool.and_eq_true, decide_eq_true_eq] at q1 q2
            repeat' ((conv => whnf); first | refine DrawN.q (by kernel_rfl) ?_ | with_reducible refine CondK.tt ?_ | with_reducible refine CondK.ff ?_ | refine IdxK.mk _ rfl (by omega) (by omega) ?_ | refine LdK.mk _ (by assumption) ?_ | refine CallK.mk _ g1 ?_ | refine CallQ.mk _ g1 ?_ | refine CallK.mk _ g2 ?_ | refine CallQ.mk _ g2 ?_ | rw [q1n] | rw [q4n] |  fail)
            exact ⟨⟨k + 1, hlt, allR_step ha hf⟩, ⟨⟨rfl, look_int (by rw [hnx]; exact i64_in (by omega) (by omega)), rfl, rfl, look_int (i64_succ (by omega)), trivial⟩, trivial, rfl, rfl⟩, rfl, by simp only; omega⟩
  · have he : k = l.length := by have : ¬ k < l.length := by simpa using h1
                                 omega
    subst he
    (conv => whnf)
    exact ret_bool (by unfold intervalsF; rw [allR_yes ha, Bool.true_and, Bool.eq_iff_iff]; simp only [decide_eq_true_eq]; omega)
theorem l13Ok_a (M : Mem) (l : List GInterval) (A : Option Addr) (c : Nat) (h : SlR M RInterval 4 48 A c l) : Ans Tryz.prog M 63 #[.slice A l.length c] (.bool (intervalsF l)) := by
  have hl := h.len
  refine ans_of T (l := [.slice A l.length c]) mixed Tryz.func63 rfl (by kernel_rfl) (Nat.le_of_ble_eq_true rfl) ?_
  by_cases h60 : l.length > 60
  · have e : intervalsF l = false := by unfold intervalsF; rw [show decide (l.length ≤ 60) = false from decide_eq_false (by omega), Bool.and_false]
    (conv => whnf)
    refine CondK.yes' (decide_eq_true (by omega)) ?_
    (conv => whnf)
    exact ret_bool e.symm
  (conv => whnf)
  refine CondK.no' (decide_eq_false (by omega)) ?_
  (conv => whnf)
  refine LoopK.mk {k : Nat // k ≤ l.length ∧ ∀ j, j < k → ivF l j = true} (fun ⟨k, _⟩ => [(0, .v (.slice A l.length c)), (3, .v (.int .i64 (ivNext l k))), (4, .v (.int .i64 (k : Int)))]) (fun _ => []) (fun _ => M) (fun k => l.length - k.1) ⟨0, Nat.zero_le _, fun j hj => absurd hj (by omega)⟩ ⟨⟨⟨rfl, rfl, rfl, trivial⟩, trivial, rfl, rfl⟩, rfl⟩ ?_
  rintro ⟨k, hk, ha⟩
  (conv => whnf)
  refine CondK.mk (fun h1 => ?_) (fun h1 => ?_)
  · have hlt : k < l.length := by simpa using h1
    have h0l : 0 < l.length := by omega
    obtain ⟨y, hyk⟩ : ∃ y, l[k] = y := ⟨_, rfl⟩
    have hy : l[k]? = some y := by rw [List.getElem?_eq_getElem hlt, hyk]
    obtain ⟨z, hzk⟩ : ∃ z, l[0] = z := ⟨_, rfl⟩
    have hz : l[0]? = some z := by rw [List.getElem?_eq_getElem h0l, hzk]
    obtain ⟨ad, rfl, A0, c0, _, s0, x0, x1, x2, x3⟩ := at_Interval h hy
    obtain ⟨ad', hae, A1, c1, _, t0, y0, y1, y2, y3⟩ := at_Interval h hz
    cases hae
    have hf := ivF_at hy hz
    have hnp := ivNext_pos k hk ha
    have hnx := ivNext_at hy
    have g1 := l00In_a M y.Last y.First 60
    have g2 := l12Ok_a M y.Acting A0 c0 s0
    cases q1 : decide (y.First = ivNext l k) with
    | false =>
      have q1n : (y.First != ivNext l k) = true := by rw [bne]; simp only [decide_eq_false_iff_not] at q1; simp [q1]
      have hf : ivF l k = false := by rw [hf]; simp only [q1, Bool.and_false, Bool.false_and, Bool.true_and]
      repeat' ((conv => whnf); first | refine DrawN.q (by kernel_rfl) ?_ | with_reducible refine CondK.tt ?_ | with_reducible refine CondK.ff ?_ | refine IdxK.mk _ rfl (by omega) (by omega) ?_ | refine LdK.mk _ (by assumption) ?_ | refine CallK.mk _ g1 ?_ | refine CallQ.mk _ g1 ?_ | refine CallK.mk _ g2 ?_ | refine CallQ.mk _ g2 ?_ | rw [q1n] |  fail)
      exact ret_bool (by unfold intervalsF; rw [allR_no hlt hf]; rfl)
    | true =>
      have q1n : (y.First != ivNext l k) = false := by rw [bne]; simp only [decide_eq_true_eq] at q1; simp [q1]
      cases q2 : inR y.Last y.First 60 with
      | false =>
        rw [q2] at g1
        have hf : ivF l k = false := by rw [hf]; simp only [q1, q2, Bool.and_false, Bool.false_and, Bool.true_and]
        repeat' ((conv => whnf); first | refine DrawN.q (by kernel_rfl) ?_ | with_reducible refine CondK.tt ?_ | with_reducible refine CondK.ff ?_ | refine IdxK.mk _ rfl (by omega) (by omega) ?_ | refine LdK.mk _ (by assumption) ?_ | refine CallK.mk _ g1 ?_ | refine CallQ.mk _ g1 ?_ | refine CallK.mk _ g2 ?_ | refine CallQ.mk _ g2 ?_ | rw [q1n] |  fail)
        exact ret_bool (by unfold intervalsF; rw [allR_no hlt hf]; rfl)
      | true =>
        rw [q2] at g1
        cases q3 : actingF y.Acting with
        | false =>
          rw [q3] at g2
          have hf : ivF l k = false := by rw [hf]; simp only [q1, q2, q3, Bool.and_false, Bool.false_and, Bool.true_and]
          repeat' ((conv => whnf); first | refine DrawN.q (by kernel_rfl) ?_ | with_reducible refine CondK.tt ?_ | with_reducible refine CondK.ff ?_ | refine IdxK.mk _ rfl (by omega) (by omega) ?_ | refine LdK.mk _ (by assumption) ?_ | refine CallK.mk _ g1 ?_ | refine CallQ.mk _ g1 ?_ | refine CallK.mk _ g2 ?_ | refine CallQ.mk _ g2 ?_ | rw [q1n] |  fail)
          exact ret_bool (by unfold intervalsF; rw [allR_no hlt hf]; rfl)
        | true =>
          rw [q3] at g2
          cases q4 : decide (y.Acting.length = z.Acting.length) with
          | false =>
            have q4n : ((y.Acting.length : Int) != (z.Acting.length : Int)) = true := by rw [bne]; simp only [decide_eq_false_iff_not] at q4; simp; omega
            have hf : ivF l k = false := by rw [hf]; simp only [q1, q2, q3, q4, Bool.and_false, Bool.false_and, Bool.true_and]
            repeat' ((conv => whnf); first | refine DrawN.q (by kernel_rfl) ?_ | with_reducible refine CondK.tt ?_ | with_reducible refine CondK.ff ?_ | refine IdxK.mk _ rfl (by omega) (by omega) ?_ | refine LdK.mk _ (by assumption) ?_ | refine CallK.mk _ g1 ?_ | refine CallQ.mk _ g1 ?_ | refine CallK.mk _ g2 ?_ | refine CallQ.mk _ g2 ?_ | rw [q1n] | rw [q4n] |  fail)
            exact ret_bool (by unfold intervalsF; rw [allR_no hlt hf]; rfl)
          | true =>
            have q4n : ((y.Acting.length : Int) != (z.Acting.length : Int)) = false := by rw [bne]; simp only [decide_eq_true_eq] at q4; simp [q4]
            have hf : ivF l k = true := by rw [hf]; simp only [q1, q2, q3, q4, Bool.and_self]
            simp only [inR, Bool.and_eq_true, decide_eq_true_eq] at q1 q2
            repeat' ((conv => whnf); first | refine DrawN.q (by kernel_rfl) ?_ | with_reducible refine CondK.tt ?_ | with_reducible refine CondK.ff ?_ | refine IdxK.mk _ rfl (by omega) (by omega) ?_ | refine LdK.mk _ (by assumption) ?_ | refine CallK.mk _ g1 ?_ | refine CallQ.mk _ g1 ?_ | refine CallK.mk _ g2 ?_ | refine CallQ.mk _ g2 ?_ | rw [q1n] | rw [q4n] |  fail)
            exact ⟨⟨k + 1, hlt, allR_step ha hf⟩, ⟨⟨rfl, look_int (by rw [hnx]; exact i64_in (by omega) (by omega)), look_int (i64_succ (by omega)), trivial⟩, trivial, rfl, rfl⟩, rfl, by simp only; omega⟩
  · have he : k = l.length := by have : ¬ k < l.length := by simpa using h1
                                 omega
    subst he
    (conv => whnf)
    exact ret_bool (by unfold intervalsF; rw [allR_yes ha, Bool.true_and]; exact (decide_eq_true (by omega)).symm)
end Go.Proofs.YtgeofmoojifkmaaGreat.Hlp
