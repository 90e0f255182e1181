/- Whose notice it is, what notices belong to a group, which places are given: both programs. -/
import Derived.Test.YtpkphcgipkmiaaaGreatFunHE
import Derived.Test.YtpkphcgipkmiaaaGreatFunT
import Derived.Test.YtpkphcgipkmiaaaGreatFunSA
namespace Go.Proofs.YtpkphcgipkmiaaaGreat.Hlp
open Go Go.RowKit Go.Proofs Go.Proofs.YtpkphcgipkmiaaaGreat.Lw
set_option linter.unusedVariables false
set_option linter.unusedSimpArgs false
set_option maxRecDepth 100000
set_option maxHeartbeats 4000000
theorem SlR.takeT {α : Type} {M : Mem} {R : Mem → α → List Value → Prop} {z by_ cap : Nat} {A : Option Addr} {l : List α} (h : SlR M R z by_ A cap l) {k : Nat} (hk : k ≤ l.length) : SlR M R z by_ (if cap = 0 then A else A.map (·.add (0 * z))) (cap - 0) (l.take k) := by
  have := h.sub (lo := 0) (hi := k) (Nat.zero_le _) hk
  simpa using this
def actF (l : List Int) (k : Nat) : Bool := match l[k]? with | some n => inR n (-1) 15 && !(decide (0 ≤ n) && (l.take k).any (fun x => decide (n = x))) | none => true
def actingF (l : List Int) : Bool := allR l.length (actF l) && inR (l.length : Int) 1 7
theorem actF_at {l : List Int} {k : Nat} {n : Int} (h : l[k]? = some n) : actF l k = (inR n (-1) 15 && !(decide (0 ≤ n) && (l.take k).any (fun x => decide (n = x)))) := by unfold actF; rw [h]
theorem actingOk_a (M : Mem) (l : List Int) (A : Option Addr) (c : Nat) (h : SlR M RInt 1 8 A c l) : Ans Tryz.prog M 63 #[.slice A l.length c] (.bool (actingF l)) := by
  have hl := h.len
  have hcap := h.cap
  refine ans_of T (l := [.slice A l.length c]) mixed Tryz.func63 rfl (by kernel_rfl) (Nat.le_of_ble_eq_true rfl) ?_
  (conv => whnf)
  refine LoopK.mk {k : Nat // k ≤ l.length ∧ ∀ j, j < k → actF l j = true} (fun ⟨k, _⟩ => [(0, .v (.slice A l.length c)), (5, .v (.slice A l.length c)), (6, .v (.int .i64 (l.length : Int))), (7, .v (.int .i64 (k : Int)))]) (fun _ => []) (fun _ => M) (fun k => l.length - k.1) ⟨0, Nat.zero_le _, fun j hj => absurd hj (by omega)⟩ ⟨⟨⟨rfl, rfl, rfl, rfl, trivial⟩, trivial, rfl, rfl⟩, rfl⟩ ?_
  rintro ⟨k, hk, ha⟩
  (conv => whnf)
  refine CondK.mk (fun h1 => ?_) (fun h1 => ?_)
  · have hlt : k < l.length := by simpa using h1
    obtain ⟨y, hyk⟩ : ∃ y, l[k] = y := ⟨_, rfl⟩
    have hy : l[k]? = some y := by rw [List.getElem?_eq_getElem hlt, hyk]
    have hst := SlR.takeT h hk
    obtain ⟨ad, rfl, _, x0⟩ := at_Int h hy
    have hf := actF_at hy
    have hct := containsInt_a M (l.take k) _ _ hst y
    rw [List.length_take_of_le hk] at hct
    generalize (l.take k).any (fun x => decide (y = x)) = f at hf hct
    repeat' ((conv => whnf); first | with_reducible refine CondK.tt ?_ | with_reducible refine CondK.ff ?_ | refine IdxK.mk _ rfl (by omega) (by omega) ?_ | refine LdK.mk _ (by assumption) ?_ | refine CallK.mk _ (between_a _ y (-1) 15) ?_ | refine CallK.mk _ hct ?_ | refine SlK.mk 0 k rfl rfl (by omega) (by omega) ?_ | refine GuardK.mk (fun hc => ?_) (fun hc => ?_) | refine CondK.mk (fun hc => ?_) (fun hc => ?_) | fail)
    all_goals first
      | (have hf : actF l k = true := by rw [hf]; simp_all
         exact ⟨⟨k + 1, hlt, allR_step ha hf⟩, ⟨⟨rfl, rfl, rfl, look_int (i64_succ (by omega)), trivial⟩, trivial, rfl, rfl⟩, rfl, by simp; omega⟩)
      | (have hf : actF l k = false := by rw [hf]; simp_all
         exact ret_bool (by unfold actingF; rw [allR_no hlt hf]; rfl))
      | fail
  · have he : k = l.length := by have : ¬ k < l.length := by simpa using h1
                                 omega
    subst he
    repeat' ((conv => whnf); first | refine CallK.mk _ (between_a _ _ 1 7) ?_ | fail)
    exact ret_bool (by unfold actingF; rw [allR_yes ha]; rfl)
theorem l12Ok_a (M : Mem) (l : List Int) (A : Option Addr) (c : Nat) (h : SlR M RInt 1 8 A c l) : Ans Tryz.prog M 61 #[.slice A l.length c] (.bool (actingF l)) := by
  have hl := h.len
  have hcap := h.cap
  refine ans_of T (l := [.slice A l.length c]) mixed Tryz.func61 rfl (by kernel_rfl) (Nat.le_of_ble_eq_true rfl) ?_
  by_cases hn : inR (l.length : Int) 1 7 = true
  · have hn2 : 1 ≤ (l.length : Int) ∧ (l.length : Int) ≤ 7 := by unfold inR at hn; simpa using hn
    have hq1 : decide ((l.length : Int) < 1) = false := decide_eq_false (by omega)
    have hq2 : decide ((7 : Int) < (l.length : Int)) = false := decide_eq_false (by omega)
    (conv => whnf)
    rw [hq1]
    (conv => whnf)
    refine CondK.no' hq2 ?_
    (conv => whnf)
    refine LoopK.mk {k : Nat // k ≤ l.length ∧ ∀ j, j < k → actF l j = true} (fun ⟨k, _⟩ => [(0, .v (.slice A l.length c)), (3, .v (.int .i64 (k : Int)))]) (fun _ => []) (fun _ => M) (fun k => l.length - k.1) ⟨0, Nat.zero_le _, fun j hj => absurd hj (by omega)⟩ ⟨⟨⟨rfl, rfl, trivial⟩, trivial, rfl, rfl⟩, rfl⟩ ?_
    rintro ⟨k, hk, ha⟩
    (conv => whnf)
    refine CondK.mk (fun h1 => ?_) (fun h1 => ?_)
    · have hlt : k < l.length := by simpa using h1
      obtain ⟨y, hyk⟩ : ∃ y, l[k] = y := ⟨_, rfl⟩
      have hy : l[k]? = some y := by rw [List.getElem?_eq_getElem hlt, hyk]
      have hst := SlR.takeT h hk
      obtain ⟨ad, rfl, _, x0⟩ := at_Int h hy
      have hf := actF_at hy
      have hct := l00Has_a M (l.take k) _ _ hst y
      rw [List.length_take_of_le hk] at hct
      generalize (l.take k).any (fun x => decide (y = x)) = f at hf hct
      repeat' ((conv => whnf); first | with_reducible refine CondK.tt ?_ | with_reducible refine CondK.ff ?_ | refine IdxK.mk _ rfl (by omega) (by omega) ?_ | refine LdK.mk _ (by assumption) ?_ | refine DrawN.q (by kernel_rfl) ?_ | refine CallK.mk _ (l00In_a _ y (-1) 15) ?_ | refine CallQ.mk _ (l00In_a _ y (-1) 15) ?_ | refine CallK.mk _ hct ?_ | refine CallQ.mk _ hct ?_ | refine SlK.mk 0 k rfl rfl (by omega) (by omega) ?_ | refine GuardK.mk (fun hc => ?_) (fun hc => ?_) | refine CondK.mk (fun hc => ?_) (fun hc => ?_) | fail)
      all_goals first
        | (have hf : actF l k = true := by rw [hf]; simp_all
           exact ⟨⟨k + 1, hlt, allR_step ha hf⟩, ⟨⟨rfl, look_int (i64_succ (by omega)), trivial⟩, trivial, rfl, rfl⟩, rfl, by simp; omega⟩)
        | (have hf : actF l k = false := by rw [hf]; simp_all
           exact ret_bool (by unfold actingF; rw [allR_no hlt hf]; rfl))
        | fail
    · have he : k = l.length := by have : ¬ k < l.length := by simpa using h1
                                   omega
      subst he
      exact ret_bool (by unfold actingF; rw [allR_yes ha, hn]; rfl)
  · have e : actingF l = false := by unfold actingF; simp only [Bool.and_eq_false_iff]; exact .inr (by simpa using hn)
    have hn2 : ¬ (1 ≤ (l.length : Int) ∧ (l.length : Int) ≤ 7) := fun h => hn (by unfold inR; simpa using h)
    rw [e]
    (conv => whnf)
    by_cases h1 : (l.length : Int) < 1
    · rw [show decide ((l.length : Int) < 1) = true from decide_eq_true h1]
      (conv => whnf)
      exact ret_bool rfl
    · rw [show decide ((l.length : Int) < 1) = false from decide_eq_false h1]
      (conv => whnf)
      refine CondK.yes' (show decide ((7 : Int) < (l.length : Int)) = true from decide_eq_true (by omega)) ?_
      (conv => whnf)
      exact ret_bool rfl
def belF (l : List GNotice) (g : GPg) : Bool := noticesOkF l && match l[0]? with | some y => decide (y.State.Pg = g) | none => true
theorem belong_a (M : Mem) (l : List GNotice) (A : Option Addr) (c : Nat) (h : SlR M RNotice 13 168 A c l) (g : GPg) : Ans Tryz.prog M 45 #[.slice A l.length c, .agg #[.int .i64 g.Pool, .int .i64 g.No]] (.bool (belF l g)) := by
  have hno := noticesOk_a M l A c h
  refine ans_of T (l := [.slice A l.length c, .agg #[.int .i64 g.Pool, .int .i64 g.No]]) mixed Tryz.func45 rfl (by kernel_rfl) (Nat.le_of_ble_eq_true rfl) ?_
  unfold belF
  cases hn : noticesOkF l with
  | false =>
    rw [hn] at hno
    repeat' ((conv => whnf); first | with_reducible refine CondK.tt ?_ | with_reducible refine CondK.ff ?_ | refine DrawN.q (by kernel_rfl) ?_ | refine CallK.mk _ hno ?_ | refine CallQ.mk _ hno ?_ | fail)
    exact ret_bool rfl
  | true =>
  rw [hn] at hno
  cases l with
  | nil =>
    repeat' ((conv => whnf); first | with_reducible refine CondK.tt ?_ | with_reducible refine CondK.ff ?_ | refine DrawN.q (by kernel_rfl) ?_ | refine CallK.mk _ hno ?_ | refine CallQ.mk _ hno ?_ | fail)
    exact ret_bool rfl
  | cons y r =>
    obtain ⟨ad, rfl, A0, c0, A1, c1, A2, c2, A3, c3, bnx, ⟨s0, s1, s2, s3⟩, x0, x1, x2, x3, x4, x5, x6, x7, x8, x9, x10, x11, x12⟩ := at_Notice h (i := 0) (x := y) rfl
    have hz : (((y :: r).length : Int) == 0) = false := by rw [beq_eq_false_iff_ne]; simp only [List.length_cons]; push_cast; omega
    repeat' ((conv => whnf); first | with_reducible refine CondK.tt ?_ | with_reducible refine CondK.ff ?_ | refine DrawN.q (by kernel_rfl) ?_ | refine CallK.mk _ hno ?_ | refine CallQ.mk _ hno ?_ | refine IdxK.mk _ rfl (by omega) (by simp) ?_ | refine LdK.mk _ (by assumption) ?_ | refine GuardK.mk (fun hc => ?_) (fun hc => ?_) | fail)
    all_goals first | (exfalso; rw [hz] at hc; cases hc; done) | exact ret_bool (by rw [eqv_Pg]; rfl)
theorem l23Of_a (M : Mem) (s : GPgState) (cs : List Value) (hs : RPgState M s cs) (l : List GNotice) (A : Option Addr) (c : Nat) (h : SlR M RNotice 13 168 A c l) : Ans Tryz.prog M 33 #[.agg cs.toArray, .slice A l.length c] (.bool (stateOkF s && belF l s.Pg)) := by
  have hno := l22Ok_a M l A c h
  have hso := sStateOk_a M s cs hs
  obtain ⟨B0, d0, B1, d1, B2, d2, B3, d3, rfl, hbb, t0, t1, t2, t3⟩ := hs
  refine ans_of T (l := [.agg (List.toArray _), .slice A l.length c]) mixed Tryz.func33 rfl (by kernel_rfl) (Nat.le_of_ble_eq_true rfl) ?_
  unfold belF
  cases hk : stateOkF s with
  | false =>
    rw [hk] at hso
    repeat' ((conv => whnf); first | with_reducible refine CondK.tt ?_ | with_reducible refine CondK.ff ?_ | refine DrawN.q (by kernel_rfl) ?_ | refine CallK.mk _ hso ?_ | refine CallQ.mk _ hso ?_ | fail)
    exact ret_bool rfl
  | true =>
  rw [hk] at hso
  cases hn : noticesOkF l with
  | false =>
    rw [hn] at hno
    repeat' ((conv => whnf); first | with_reducible refine CondK.tt ?_ | with_reducible refine CondK.ff ?_ | refine DrawN.q (by kernel_rfl) ?_ | refine CallK.mk _ hso ?_ | refine CallQ.mk _ hso ?_ | refine CallK.mk _ hno ?_ | refine CallQ.mk _ hno ?_ | fail)
    exact ret_bool rfl
  | true =>
  rw [hn] at hno
  cases l with
  | nil =>
    repeat' ((conv => whnf); first | with_reducible refine CondK.tt ?_ | with_reducible refine CondK.ff ?_ | refine DrawN.q (by kernel_rfl) ?_ | refine CallK.mk _ hso ?_ | refine CallQ.mk _ hso ?_ | refine CallK.mk _ hno ?_ | refine CallQ.mk _ hno ?_ | fail)
    exact ret_bool rfl
  | cons y r =>
    obtain ⟨ad, rfl, A0, c0, A1, c1, A2, c2, A3, c3, bnx, ⟨s0, s1, s2, s3⟩, x0, x1, x2, x3, x4, x5, x6, x7, x8, x9, x10, x11, x12⟩ := at_Notice h (i := 0) (x := y) rfl
    have hz : (((y :: r).length : Int) == 0) = false := by rw [beq_eq_false_iff_ne]; simp only [List.length_cons]; push_cast; omega
    repeat' ((conv => whnf); first | with_reducible refine CondK.tt ?_ | with_reducible refine CondK.ff ?_ | refine DrawN.q (by kernel_rfl) ?_ | refine CallK.mk _ hso ?_ | refine CallQ.mk _ hso ?_ | refine CallK.mk _ hno ?_ | refine CallQ.mk _ hno ?_ | refine IdxK.mk _ rfl (by omega) (by simp) ?_ | refine LdK.mk _ (by assumption) ?_ | refine GuardK.mk (fun hc => ?_) (fun hc => ?_) | fail)
    all_goals first | (exfalso; rw [hz] at hc; cases hc; done) | exact ret_bool (by rw [eqv_Pg]; rfl)
def SortedN (l : List GNotice) : Prop := l.Pairwise fun a b => a.From < b.From
theorem notices_sorted {l : List GNotice} (h : noticesOkF l = true) : SortedN l := by
  have step : ∀ k, (hk : k + 1 < l.length) → (l[k]'(by omega)).From < (l[k + 1]).From := by
    intro k hk
    have h1 := allR_get h hk
    rw [noticeF_at (List.getElem?_eq_getElem hk) (y := l[k]'(by omega)) (by rw [show k + 1 - 1 = k by omega]; exact List.getElem?_eq_getElem (by omega)) (z := l[0]'(by omega)) (List.getElem?_eq_getElem (by omega))] at h1
    simp only [Bool.and_eq_true, inR, decide_eq_true_eq, Bool.not_eq_true', Bool.and_eq_false_iff, decide_eq_false_iff_not] at h1
    have := h1.1.1.2
    omega
  have far : ∀ d i, (hd : i + (d + 1) < l.length) → (l[i]'(by omega)).From < (l[i + (d + 1)]).From := by
    intro d
    induction d with
    | zero => intro i hd; exact step i hd
    | succ d ih => intro i hd; have h1 := ih i (by omega); have h2 := step (i + (d + 1)) hd; exact Int.lt_trans h1 h2
  refine List.pairwise_iff_getElem.mpr fun i j hi hj hij => ?_
  obtain ⟨d, rfl⟩ : ∃ d, j = i + (d + 1) := ⟨j - i - 1, by omega⟩
  exact far d i hj
theorem notices_chunks {l : List GNotice} (h : noticesOkF l = true) : ∀ y ∈ l, y.State.Chunks.length ≤ 1048576 ∧ SortedC y.State.Chunks := fun y hy => by
  obtain ⟨j, hj, rfl⟩ := List.getElem_of_mem hy
  have h1 := allR_get h hj
  rw [noticeF_at (List.getElem?_eq_getElem hj) (y := l[j - 1]'(by omega)) (List.getElem?_eq_getElem (by omega)) (z := l[0]'(by omega)) (List.getElem?_eq_getElem (by omega))] at h1
  simp only [Bool.and_eq_true] at h1
  have := chunkIx_ok h1.1.2
  exact ⟨by omega, this.2⟩
def ixN (l : List GNotice) (n : Int) : Nat := aheadN (fun y => decide (y.From < n)) l
def hasN (l : List GNotice) (k : Nat) (n : Int) : Bool :=
  match l[k]? with
  | some y => decide (y.From = n)
  | none => false
theorem cmpN_lt (a b : Int) : decide (cmpI a b < 0) = decide (a < b) := by
  unfold cmpI
  split
  · rename_i h; simp [h]
  · rename_i h
    rw [decide_eq_false h]
    split <;> rfl
theorem cmpN_eq (a b : Int) : decide (cmpI a b = 0) = decide (a = b) := by
  unfold cmpI
  split
  · rename_i h; rw [decide_eq_false (show ¬ a = b by omega)]; rfl
  · split
    · rename_i h; rw [decide_eq_false (show ¬ a = b by omega)]; rfl
    · rw [decide_eq_true (show a = b by omega)]; rfl
theorem noticeAt1_a (M : Mem) (y : GNotice) (A0 A1 A2 A3 : Option Addr) (c0 c1 c2 c3 : Nat) (n : Int) : Ans Tryz.prog M 131 #[.agg #[.int .i64 y.From, .int .i64 y.State.Pg.Pool, .int .i64 y.State.Pg.No, .int .i64 y.State.Seen, .int .i64 y.State.Started, .int .i64 y.State.Tail.Epoch, .int .i64 y.State.Tail.Seq, .slice A0 y.State.Base.length c0, .slice A1 y.State.Clients.length c1, .slice A2 y.State.Log.length c2, .int .i64 y.State.Firm.Epoch, .int .i64 y.State.Firm.Seq, .slice A3 y.State.Chunks.length c3], .int .i64 n] (.int .i64 (cmpI y.From n)) := by
  refine ans_of T (l := [.agg #[.int .i64 y.From, .int .i64 y.State.Pg.Pool, .int .i64 y.State.Pg.No, .int .i64 y.State.Seen, .int .i64 y.State.Started, .int .i64 y.State.Tail.Epoch, .int .i64 y.State.Tail.Seq, .slice A0 y.State.Base.length c0, .slice A1 y.State.Clients.length c1, .slice A2 y.State.Log.length c2, .int .i64 y.State.Firm.Epoch, .int .i64 y.State.Firm.Seq, .slice A3 y.State.Chunks.length c3], .int .i64 n]) mixed Tryz.func131 rfl (by kernel_rfl) (Nat.le_of_ble_eq_true rfl) ?_
  repeat' ((conv => whnf); first | refine CallK.mk _ (cmpInt64_a _ y.From n) ?_ | fail)
  exact ret_int rfl
theorem bsNotice_a (M : Mem) (l : List GNotice) (A : Option Addr) (c : Nat) (h : SlR M RNotice 13 168 A c l) (hn : l.length ≤ 1048576) (hs : SortedN l) (n : Int) : Ans Tryz.prog M 130 #[.slice A l.length c, .int .i64 n, .func (.func 131) #[] #[]] (.tuple #[.int .i64 (ixN l n : Int), .bool (hasN l (ixN l n) n)]) := by
  have hl := h.len
  have hsort : ∀ i j (hi : i < j) (hj : j < l.length), (l[i]'(by omega)).From < l[j].From := fun i j hi hj => List.pairwise_iff_getElem.mp hs i j (by omega) hj hi
  refine ans_of T (l := [.slice A l.length c, .int .i64 n, .func (.func 131) #[] #[]]) mixed Tryz.func130 rfl (by kernel_rfl) (Nat.le_of_ble_eq_true rfl) ?_
  (conv => whnf)
  refine LoopK.mk {q : Nat × Nat // q.1 ≤ q.2 ∧ q.2 ≤ l.length ∧ (∀ (j : Nat) (hj : j < q.1) (hl : j < l.length), decide ((l[j]'hl).From < n) = true) ∧ (∀ (j : Nat) (hj : q.2 ≤ j) (hl : j < l.length), decide ((l[j]'hl).From < n) = false)} (fun ⟨⟨i, j⟩, _⟩ => [(0, .v (.slice A l.length c)), (1, .v (.int .i64 n)), (2, .v (.func (.func 131) #[] #[])), (8, .v (.int .i64 (l.length : Int))), (9, .v (.int .i64 (i : Int))), (10, .v (.int .i64 (j : Int)))]) (fun _ => []) (fun _ => M) (fun q => q.1.2 - q.1.1) ⟨(0, l.length), by simp, by simp, fun j hj => absurd hj (by simp), fun j hj hl => absurd hj (by simp; omega)⟩ ⟨⟨⟨rfl, rfl, rfl, rfl, rfl, rfl, trivial⟩, trivial, rfl, rfl⟩, rfl⟩ ?_
  rintro ⟨⟨i, j⟩, hij, hjl, ha, hb⟩
  replace hij : i ≤ j := hij
  replace hjl : j ≤ l.length := hjl
  by_cases hlt : i < j
  · obtain ⟨m, hm⟩ : ∃ m, m = (i + j) / 2 := ⟨_, rfl⟩
    have hml : m < l.length := by omega
    have hx := List.getElem?_eq_getElem hml
    obtain ⟨ad, rfl, A0, c0, A1, c1, A2, c2, A3, c3, bnx, ⟨s0, s1, s2, s3⟩, x0, x1, x2, x3, x4, x5, x6, x7, x8, x9, x10, x11, x12⟩ := at_Notice h hx
    cases hs : decide (l[m].From < n) with
    | true =>
      have hc : decide (cmpI l[m].From n < 0) = true := by rw [cmpN_lt]; exact hs
      repeat' ((conv => whnf); first | with_reducible refine CondK.tt ?_ | with_reducible refine CondK.ff ?_ | refine LdK.mk _ (by assumption) ?_ | refine IdxK.at m _ ((half_ok (by omega)).trans (congrArg _ hm.symm)) rfl hml ?_ | refine CallK.mk _ (noticeAt1_a _ l[m] A0 A1 A2 A3 c0 c1 c2 c3 n) ?_ | refine CondK.yes' (show decide ((i : Int) < (j : Int)) = true from decide_eq_true (by omega)) ?_ | refine CondK.yes' hc ?_ | fail)
      refine ⟨⟨(m + 1, j), by simp; omega, hjl, fun q hq hl => ?_, hb⟩, ⟨⟨rfl, rfl, rfl, rfl, look_int ?_, rfl, trivial⟩, trivial, rfl, rfl⟩, rfl, by simp; omega⟩
      · rcases Nat.lt_succ_iff_lt_or_eq.mp hq with hq | hq
        · exact decide_eq_true (Int.lt_trans (hsort q m hq hml) (of_decide_eq_true hs))
        · subst hq; exact hs
      · rw [half_ok (by omega), ← hm]
        exact i64_succ (by omega)
    | false =>
      have hc : decide (cmpI l[m].From n < 0) = false := by rw [cmpN_lt]; exact hs
      repeat' ((conv => whnf); first | with_reducible refine CondK.tt ?_ | with_reducible refine CondK.ff ?_ | refine LdK.mk _ (by assumption) ?_ | refine IdxK.at m _ ((half_ok (by omega)).trans (congrArg _ hm.symm)) rfl hml ?_ | refine CallK.mk _ (noticeAt1_a _ l[m] A0 A1 A2 A3 c0 c1 c2 c3 n) ?_ | refine CondK.yes' (show decide ((i : Int) < (j : Int)) = true from decide_eq_true (by omega)) ?_ | refine CondK.no' hc ?_ | fail)
      refine ⟨⟨(i, m), by simp; omega, by simp; omega, ha, fun q hq hl => ?_⟩, ⟨⟨rfl, rfl, rfl, rfl, rfl, look_int ?_, trivial⟩, trivial, rfl, rfl⟩, rfl, by simp; omega⟩
      · refine decide_eq_false ?_
        have h1 := of_decide_eq_false hs
        rcases Nat.lt_or_eq_of_le hq with hq | hq
        · have := hsort m q hq hl
          omega
        · have hq : m = q := hq
          subst hq; exact h1
      · rw [half_ok (by omega), ← hm]
  · have hij : i = j := by omega
    subst hij
    have e : ixN l n = i := aheadN_at hjl ha fun h => hb i (Nat.le_refl _) h
    rw [e]
    by_cases hlt : i < l.length
    · have hx := List.getElem?_eq_getElem hlt
      obtain ⟨ad, rfl, A0, c0, A1, c1, A2, c2, A3, c3, bnx, ⟨s0, s1, s2, s3⟩, x0, x1, x2, x3, x4, x5, x6, x7, x8, x9, x10, x11, x12⟩ := at_Notice h hx
      have e2 : hasN l i n = decide (cmpI l[i].From n = 0) := by unfold hasN; rw [hx, cmpN_eq]
      rw [e2]
      repeat' ((conv => whnf); first | with_reducible refine CondK.tt ?_ | with_reducible refine CondK.ff ?_ | refine LdK.mk _ (by assumption) ?_ | refine IdxK.mk _ rfl (by omega) (by omega) ?_ | refine CallK.mk _ (noticeAt1_a _ l[i] A0 A1 A2 A3 c0 c1 c2 c3 n) ?_ | refine CondK.no' (show decide ((i : Int) < (i : Int)) = false from decide_eq_false (by omega)) ?_ | refine CondK.yes' (show decide ((i : Int) < (l.length : Int)) = true from decide_eq_true (by omega)) ?_ | fail)
      exact rfl
    · have e2 : hasN l i n = false := by unfold hasN; rw [List.getElem?_eq_none (by omega)]
      rw [e2]
      repeat' ((conv => whnf); first | with_reducible refine CondK.tt ?_ | with_reducible refine CondK.ff ?_ | refine LdK.mk _ (by assumption) ?_ | refine CondK.no' (show decide ((i : Int) < (i : Int)) = false from decide_eq_false (by omega)) ?_ | refine CondK.no' (show decide ((i : Int) < (l.length : Int)) = false from decide_eq_false (by omega)) ?_ | fail)
      exact rfl
theorem noticeAt_a (M : Mem) (l : List GNotice) (A : Option Addr) (c : Nat) (h : SlR M RNotice 13 168 A c l) (hn : l.length ≤ 1048576) (hs : SortedN l) (n : Int) : Ans Tryz.prog M 100 #[.slice A l.length c, .int .i64 n] (.tuple #[.int .i64 (ixN l n : Int), .bool (hasN l (ixN l n) n)]) := by
  refine ans_of T (l := [.slice A l.length c, .int .i64 n]) mixed Tryz.func100 rfl (by kernel_rfl) (Nat.le_of_ble_eq_true rfl) ?_
  repeat' ((conv => whnf); first | refine CallK.mk _ (bsNotice_a M l A c h hn hs n) ?_ | refine DrawN.q (by kernel_rfl) ?_ | fail)
  exact rfl
theorem l22From_a (M : Mem) (l : List GNotice) (A : Option Addr) (c : Nat) (h : SlR M RNotice 13 168 A c l) (n : Int) : Ans Tryz.prog M 97 #[.slice A l.length c, .int .i64 n] (.int .i64 (ixF (fun y => decide (y.From = n)) l)) := by
  have hl := h.len
  refine ans_of T (l := [.slice A l.length c, .int .i64 n]) mixed Tryz.func97 rfl (by kernel_rfl) (Nat.le_of_ble_eq_true rfl) ?_
  (conv => whnf)
  refine LoopK.mk {k : Nat // k ≤ l.length ∧ ∀ (j : Nat) (hj : j < l.length), j < k → decide ((l[j]'hj).From = n) = false} (fun ⟨k, _⟩ => [(0, .v (.slice A l.length c)), (1, .v (.int .i64 n)), (5, .v (.int .i64 (k : Int)))]) (fun _ => []) (fun _ => M) (fun k => l.length - k.1) ⟨0, Nat.zero_le _, fun j _ hj => absurd hj (by omega)⟩ ⟨⟨⟨rfl, rfl, rfl, trivial⟩, trivial, rfl, rfl⟩, rfl⟩ ?_
  rintro ⟨k, hk, hp⟩
  (conv => whnf)
  refine CondK.mk (fun h1 => ?_) (fun h1 => ?_)
  · have hlt : k < l.length := by simpa using h1
    obtain ⟨ad, rfl, A0, c0, A1, c1, A2, c2, A3, c3, bnx, ⟨s0, s1, s2, s3⟩, x0, x1, x2, x3, x4, x5, x6, x7, x8, x9, x10, x11, x12⟩ := at_Notice h (List.getElem?_eq_getElem hlt)
    repeat' ((conv => whnf); first | with_reducible refine CondK.tt ?_ | with_reducible refine CondK.ff ?_ | refine IdxK.mk _ rfl (by omega) (by omega) ?_ | refine LdK.mk _ (by assumption) ?_ | refine DrawN.q (by kernel_rfl) ?_ | refine CondK.mk (fun hc => ?_) (fun hc => ?_) | fail)
    all_goals first
      | (have hd : decide (l[k].From = n) = true := by simpa using hc
         show _ = _
         rw [ix_at (p := fun (y : GNotice) => decide (y.From = n)) hlt hd hp]
         rfl)
      | (have hd : decide (l[k].From = n) = false := by simpa using hc
         exact ⟨⟨k + 1, hlt, fun j hj hj' => by rcases Nat.lt_succ_iff_lt_or_eq.mp hj' with hj' | rfl; exact hp j hj hj'; exact hd⟩, ⟨⟨rfl, rfl, look_int (i64_succ (by omega)), trivial⟩, trivial, rfl, rfl⟩, rfl, by simp; omega⟩)
      | fail
  · have he : k = l.length := by have : ¬ k < l.length := by simpa using h1
                                 omega
    subst he
    rw [ix_none (p := fun (y : GNotice) => decide (y.From = n)) fun j hj => hp j hj hj]
    exact rfl
/-- Whether a node's notice holds a chunk. -/
def holdN (l : List GNotice) (n : Int) (x : GHead) (pos : Int) : Bool := match l.find? (fun y => decide (y.From = n)) with | some y => hasAt y.State x pos | none => false
theorem findN_at {l : List GNotice} {n : Int} (hs : SortedN l) (h : hasN l (ixN l n) n = true) : ∃ y, l[ixN l n]? = some y ∧ l.find? (fun y => decide (y.From = n)) = some y := by
  unfold hasN at h
  cases hx : l[ixN l n]? with
  | none => rw [hx] at h; cases h
  | some y =>
    rw [hx] at h
    obtain ⟨hi, hy⟩ := List.getElem?_eq_some_iff.1 hx
    refine ⟨y, rfl, List.find?_eq_some_iff_getElem.2 ⟨h, ixN l n, hi, hy, fun j hj => ?_⟩⟩
    have := of_decide_eq_true (aheadN_lt (p := fun (y : GNotice) => decide (y.From < n)) hj (by omega))
    simp only [Bool.not_eq_true', decide_eq_false_iff_not]
    omega
theorem findN_no {l : List GNotice} {n : Int} (hs : SortedN l) (h : hasN l (ixN l n) n = false) : l.find? (fun y => decide (y.From = n)) = none := by
  refine List.find?_eq_none.2 fun y hy => ?_
  obtain ⟨j, hj, rfl⟩ := List.getElem_of_mem hy
  simp only [decide_eq_true_eq]
  intro he
  rcases Nat.lt_trichotomy j (ixN l n) with h1 | h1 | h1
  · have := of_decide_eq_true (aheadN_lt (p := fun (y : GNotice) => decide (y.From < n)) h1 hj)
    omega
  · unfold hasN at h
    rw [← h1, List.getElem?_eq_getElem hj] at h
    exact absurd he (of_decide_eq_false h)
  · have h2 : ixN l n < l.length := by omega
    have h3 := of_decide_eq_false (aheadN_end (p := fun (y : GNotice) => decide (y.From < n)) (l := l) (y := l[ixN l n]) (List.getElem?_eq_getElem h2))
    have h4 := List.pairwise_iff_getElem.mp hs _ j h2 hj h1
    omega
theorem find_ix (l : List GNotice) (n : Int) : (ixF (fun y => decide (y.From = n)) l = -1 ∧ l.find? (fun y => decide (y.From = n)) = none) ∨ ∃ (i : Nat) (y : GNotice), ixF (fun y => decide (y.From = n)) l = (i : Int) ∧ l[i]? = some y ∧ l.find? (fun y => decide (y.From = n)) = some y := by
  unfold ixF
  cases h : l.findIdx? (fun y => decide (y.From = n)) with
  | none =>
    rw [List.findIdx?_eq_none_iff] at h
    exact .inl ⟨rfl, List.find?_eq_none.2 fun y hy => by rw [h y hy]; decide⟩
  | some i =>
    obtain ⟨hi, h1, h2⟩ := List.findIdx?_eq_some_iff_getElem.1 h
    exact .inr ⟨i, l[i], rfl, List.getElem?_eq_getElem hi, List.find?_eq_some_iff_getElem.2 ⟨h1, i, hi, rfl, fun j hj => by have := h2 j hj; simpa using this⟩⟩
/-- What a place lacks. -/
def filN (l : List GNotice) (n : Int) (pos : Int) (L : List GHead) (j : Nat) : List GFill := ((L.take j).filter fun x => !holdN l n x pos).map fun x => ⟨n, pos, x⟩
theorem filN_step {l : List GNotice} {n pos : Int} {L : List GHead} {j : Nat} (h : j < L.length) : filN l n pos L (j + 1) = filN l n pos L j ++ (if holdN l n L[j] pos = true then [] else [⟨n, pos, L[j]⟩]) := by
  unfold filN
  rw [List.take_succ_eq_append_getElem h, List.filter_append, List.map_append]
  congr 1
  cases hc : holdN l n L[j] pos <;> simp [hc]
theorem filN_len (l : List GNotice) (n pos : Int) (L : List GHead) (j : Nat) : (filN l n pos L j).length ≤ L.length := by
  unfold filN
  rw [List.length_map]
  refine Nat.le_trans (List.length_filter_le _ _) ?_
  rw [List.length_take]; omega
def filTo (a : List Int) (l : List GNotice) (L : List GHead) : Nat → List GFill
  | 0 => []
  | k + 1 => filTo a l L k ++ (match a[k]? with | some n => if n < 0 then [] else filN l n (k : Int) L L.length | none => [])
theorem filTo_len (a : List Int) (l : List GNotice) (L : List GHead) : ∀ k, (filTo a l L k).length ≤ k * L.length
  | 0 => by simp [filTo]
  | k + 1 => by
    have h1 := filTo_len a l L k
    unfold filTo
    rw [List.length_append, Nat.add_mul, Nat.one_mul]
    split
    · split
      · simp; omega
      · rename_i n _ _
        have := filN_len l n (k : Int) L L.length
        omega
    · simp; omega
end Go.Proofs.YtpkphcgipkmiaaaGreat.Hlp
