/- A state's clients at a version by the light walk: both doors. -/
import Derived.Test.YtcppfjdhppoenaaGreatFunHE
namespace Go.Proofs.YtcppfjdhppoenaaGreat.Hlp
open Go Go.RowKit Go.Proofs Go.Proofs.YtcppfjdhppoenaaGreat.Lw
set_option linter.unusedVariables false
set_option linter.unusedSimpArgs false
set_option maxRecDepth 100000
set_option maxHeartbeats 4000000
def SortedL (l : List GLast) : Prop := l.Pairwise fun a b => a.Client < b.Client
def ixL (l : List GLast) (c : Int) : Nat := aheadN (fun y => decide (y.Client < c)) l
def hasL (l : List GLast) (k : Nat) (c : Int) : Bool :=
  match l[k]? with
  | some y => decide (y.Client = c)
  | none => false
def ownL (e : GEntry) : GLast := ⟨e.Req.Client, e.Req.No, e.Ver⟩
def putL (e : GEntry) (l : List GLast) : List GLast := if e.Req = ⟨0, 0⟩ then l else l.take (ixL l e.Req.Client) ++ ([ownL e] ++ l.drop (if hasL l (ixL l e.Req.Client) e.Req.Client = true then ixL l e.Req.Client + 1 else ixL l e.Req.Client))
theorem hasL_lt {l : List GLast} {k : Nat} {c : Int} (h : hasL l k c = true) : k < l.length := by
  rcases Nat.lt_or_ge k l.length with h1 | h1
  · exact h1
  · unfold hasL at h
    rw [List.getElem?_eq_none h1] at h
    cases h
theorem putL_len (e : GEntry) (l : List GLast) : (putL e l).length ≤ l.length + 1 := by
  unfold putL
  split
  · omega
  · have h1 : ixL l e.Req.Client ≤ l.length := aheadN_le
    simp only [List.length_append, List.length_take, List.length_drop, List.length_cons, List.length_nil]
    split <;> omega
theorem putL_at {e : GEntry} {l : List GLast} {k : Nat} (hr : ¬ e.Req = ⟨0, 0⟩) (hk : k ≤ l.length) (ha : ∀ (j : Nat) (hj : j < k) (hl : j < l.length), decide ((l[j]'hl).Client < e.Req.Client) = true) (hb : ∀ (hk : k < l.length), decide (l[k].Client < e.Req.Client) = false) : putL e l = l.take k ++ ([ownL e] ++ l.drop (if hasL l k e.Req.Client = true then k + 1 else k)) := by
  have e1 : ixL l e.Req.Client = k := aheadN_at (p := fun (y : GLast) => decide (y.Client < e.Req.Client)) hk ha hb
  unfold putL
  rw [if_neg hr, e1]
theorem putL_sorted {e : GEntry} {l : List GLast} (h : SortedL l) : SortedL (putL e l) := by
  by_cases hr : e.Req = ⟨0, 0⟩
  · unfold putL; rw [if_pos hr]; exact h
  · unfold putL
    rw [if_neg hr]
    have hle : ixL l e.Req.Client ≤ l.length := aheadN_le
    have ha : ∀ (j : Nat) (hj : j < ixL l e.Req.Client) (hl : j < l.length), (l[j]'hl).Client < e.Req.Client := fun j hj hl => of_decide_eq_true (aheadN_lt (p := fun (y : GLast) => decide (y.Client < e.Req.Client)) hj hl)
    have hb : ∀ (hl : ixL l e.Req.Client < l.length), ¬ (l[ixL l e.Req.Client]'hl).Client < e.Req.Client := fun hl => of_decide_eq_false (aheadN_end (p := fun (y : GLast) => decide (y.Client < e.Req.Client)) (List.getElem?_eq_getElem hl))
    generalize ixL l e.Req.Client = k at hle ha hb
    have hs : ∀ i j (hi : i < j) (hj : j < l.length), (l[i]'(by omega)).Client < l[j].Client := fun i j hi hj => List.pairwise_iff_getElem.mp h i j (by omega) hj hi
    have hd : ∀ y ∈ l.drop (if hasL l k e.Req.Client = true then k + 1 else k), e.Req.Client < y.Client := by
      intro y hy
      obtain ⟨j, hj, rfl⟩ := List.getElem_of_mem hy
      rw [List.length_drop] at hj
      rw [List.getElem_drop]
      by_cases hc : hasL l k e.Req.Client = true
      · have hkl := hasL_lt hc
        have hc2 := hc
        unfold hasL at hc2
        rw [List.getElem?_eq_getElem hkl] at hc2
        have hc2 : l[k].Client = e.Req.Client := of_decide_eq_true hc2
        simp only [if_pos hc] at hj ⊢
        have := hs k (k + 1 + j) (by omega) (by omega)
        omega
      · simp only [if_neg hc] at hj ⊢
        have hkl : k < l.length := by omega
        have h1 := hb hkl
        have h2 : ¬ l[k].Client = e.Req.Client := fun h => hc (by unfold hasL; rw [List.getElem?_eq_getElem hkl]; exact decide_eq_true h)
        rcases Nat.eq_zero_or_pos j with h0 | h0
        · subst h0
          simp only [Nat.add_zero]
          omega
        · have := hs k (k + j) (by omega) (by omega)
          omega
    refine List.pairwise_append.2 ⟨List.Pairwise.sublist (List.take_sublist _ _) h, List.pairwise_cons.2 ⟨fun y hy => hd y hy, List.Pairwise.sublist (List.drop_sublist _ _) h⟩, fun a ha1 b hb1 => ?_⟩
    obtain ⟨j, hj, rfl⟩ := List.getElem_of_mem ha1
    rw [List.length_take] at hj
    rw [List.getElem_take]
    have h1 := ha j (by omega) (by omega)
    rcases List.mem_cons.1 hb1 with rfl | hb1
    · exact h1
    · have := hd b hb1
      omega
/-- The clients at the state's n-th step. -/
def clsTo (s : GPgState) (n : Nat) : List GLast := (s.Log.take n).foldl (fun l e => putL e l) s.Clients
theorem clsTo_step {s : GPgState} {k : Nat} (h : k < s.Log.length) : clsTo s (k + 1) = putL s.Log[k] (clsTo s k) := by
  unfold clsTo
  rw [List.take_succ_eq_append_getElem h, List.foldl_append]
  rfl
theorem state_cls {s : GPgState} (h : stateOkF s = true) : allR s.Clients.length (lastF s.Tail s.Clients) = true ∧ s.Clients.length ≤ 6 := by
  unfold stateOkF baseOkF at h
  simp only [Bool.and_eq_true, decide_eq_true_eq] at h
  have h1 := h.1.1.1.1.2
  exact ⟨h1.1.2, by omega⟩
theorem lasts_sorted {most : GVer} {l : List GLast} (h : allR l.length (lastF most l) = true) : SortedL l := by
  have step : ∀ k, (hk : k + 1 < l.length) → (l[k]'(by omega)).Client < (l[k + 1]).Client := by
    intro k hk
    have h1 := allR_get h hk
    rw [lastF_at (List.getElem?_eq_getElem hk) (y := l[k]'(by omega)) (by rw [show k + 1 - 1 = k by omega]; exact List.getElem?_eq_getElem (by omega))] at h1
    simp only [Bool.and_eq_true, Bool.not_eq_true', Bool.and_eq_false_iff, decide_eq_false_iff_not] at h1
    rcases h1.2 with h2 | h2
    · omega
    · omega
  have far : ∀ d i, (hd : i + (d + 1) < l.length) → (l[i]'(by omega)).Client < (l[i + (d + 1)]).Client := by
    intro d
    induction d with
    | zero => intro i hd; exact step i hd
    | succ d ih => intro i hd; have h1 := ih i (by omega); have h2 := step (i + (d + 1)) hd; exact Int.lt_trans h1 h2
  refine List.pairwise_iff_getElem.mpr fun i j hi hj hij => ?_
  obtain ⟨d, rfl⟩ : ∃ d, j = i + (d + 1) := ⟨j - i - 1, by omega⟩
  exact far d i hj
theorem cls_len {s : GPgState} (h : stateOkF s = true) : ∀ k, k ≤ s.Log.length → (clsTo s k).length ≤ 6 + k
  | 0, _ => by unfold clsTo; simpa using (state_cls h).2
  | k + 1, hk => by
    rw [clsTo_step (by omega)]
    have h1 := cls_len h k (by omega)
    have h2 := putL_len s.Log[k] (clsTo s k)
    omega
theorem cls_sorted {s : GPgState} (h : stateOkF s = true) : ∀ k, k ≤ s.Log.length → SortedL (clsTo s k)
  | 0, _ => by unfold clsTo; simpa using lasts_sorted (state_cls h).1
  | k + 1, hk => by rw [clsTo_step (by omega)]; exact putL_sorted (cls_sorted h k (by omega))
theorem clientsTo1_a (M : Mem) (x y : GLast) : Ans Tryz.prog M 82 #[.agg #[.int .i64 x.Client, .int .i64 x.No, .int .i64 x.Ver.Epoch, .int .i64 x.Ver.Seq], .agg #[.int .i64 y.Client, .int .i64 y.No, .int .i64 y.Ver.Epoch, .int .i64 y.Ver.Seq]] (.int .i64 (cmpI x.Client y.Client)) := by
  refine ans_of T (l := [.agg #[.int .i64 x.Client, .int .i64 x.No, .int .i64 x.Ver.Epoch, .int .i64 x.Ver.Seq], .agg #[.int .i64 y.Client, .int .i64 y.No, .int .i64 y.Ver.Epoch, .int .i64 y.Ver.Seq]]) mixed Tryz.func82 rfl (by kernel_rfl) (Nat.le_of_ble_eq_true rfl) ?_
  repeat' ((conv => whnf); first | refine CallK.mk _ (cmpInt64_a _ x.Client y.Client) ?_ | fail)
  exact ret_int rfl
theorem cmpI_lt (a b : Int) : decide (cmpI a b < 0) = decide (a < b) := by
  unfold cmpI
  split
  · rename_i h; simp [h]
  · rename_i h
    rw [decide_eq_false h]
    split <;> rfl
theorem cmpI_eq (a b : Int) : decide (cmpI a b = 0) = decide (a = b) := by
  unfold cmpI
  split
  · rename_i h; rw [decide_eq_false (show ¬ a = b by omega)]; rfl
  · split
    · rename_i h; rw [decide_eq_false (show ¬ a = b by omega)]; rfl
    · rw [decide_eq_true (show a = b by omega)]; rfl
theorem bsLast_a (M : Mem) (l : List GLast) (A : Option Addr) (c : Nat) (h : SlR M RLast 4 32 A c l) (hn : l.length ≤ 1048576) (hs : SortedL l) (y : GLast) : Ans Tryz.prog M 81 #[.slice A l.length c, .agg #[.int .i64 y.Client, .int .i64 y.No, .int .i64 y.Ver.Epoch, .int .i64 y.Ver.Seq], .func (.func 82) #[] #[]] (.tuple #[.int .i64 (ixL l y.Client : Int), .bool (hasL l (ixL l y.Client) y.Client)]) := by
  have hl := h.len
  have hsort : ∀ i j (hi : i < j) (hj : j < l.length), (l[i]'(by omega)).Client < l[j].Client := fun i j hi hj => List.pairwise_iff_getElem.mp hs i j (by omega) hj hi
  refine ans_of T (l := [.slice A l.length c, .agg #[.int .i64 y.Client, .int .i64 y.No, .int .i64 y.Ver.Epoch, .int .i64 y.Ver.Seq], .func (.func 82) #[] #[]]) mixed Tryz.func81 rfl (by kernel_rfl) (Nat.le_of_ble_eq_true rfl) ?_
  (conv => whnf)
  refine LoopK.mk {q : Nat × Nat // q.1 ≤ q.2 ∧ q.2 ≤ l.length ∧ (∀ (j : Nat) (hj : j < q.1) (hl : j < l.length), decide ((l[j]'hl).Client < y.Client) = true) ∧ (∀ (j : Nat) (hj : q.2 ≤ j) (hl : j < l.length), decide ((l[j]'hl).Client < y.Client) = false)} (fun ⟨⟨i, j⟩, _⟩ => [(0, .v (.slice A l.length c)), (2, .v (.func (.func 82) #[] #[])), (4, .p 0 0), (8, .v (.int .i64 (l.length : Int))), (9, .v (.int .i64 (i : Int))), (10, .v (.int .i64 (j : Int)))]) (fun _ => [(0, [.int .i64 y.Client, .int .i64 y.No, .int .i64 y.Ver.Epoch, .int .i64 y.Ver.Seq])]) (fun _ => M) (fun q => q.1.2 - q.1.1) ⟨(0, l.length), by simp, by simp, fun j hj => absurd hj (by simp), fun j hj hl => absurd hj (by simp; omega)⟩ ⟨⟨⟨rfl, rfl, rfl, rfl, rfl, rfl, trivial⟩, ⟨rfl, trivial⟩, rfl, rfl⟩, rfl⟩ ?_
  rintro ⟨⟨i, j⟩, hij, hjl, ha, hb⟩
  replace hij : i ≤ j := hij
  replace hjl : j ≤ l.length := hjl
  by_cases hlt : i < j
  · obtain ⟨m, hm⟩ : ∃ m, m = (i + j) / 2 := ⟨_, rfl⟩
    have hml : m < l.length := by omega
    have hx := List.getElem?_eq_getElem hml
    obtain ⟨ad, rfl, bnx, x0, x1, x2, x3⟩ := at_Last h hx
    cases hs : decide (l[m].Client < y.Client) with
    | true =>
      have hc : decide (cmpI l[m].Client y.Client < 0) = true := by rw [cmpI_lt]; exact hs
      repeat' ((conv => whnf); first | with_reducible refine CondK.tt ?_ | with_reducible refine CondK.ff ?_ | refine LdK.mk _ (by assumption) ?_ | refine IdxK.at m _ ((half_ok (by omega)).trans (congrArg _ hm.symm)) rfl hml ?_ | refine DrawN.q (by kernel_rfl) ?_ | refine CallK.mk _ (clientsTo1_a _ l[m] y) ?_ | refine CallQ.mk _ (clientsTo1_a _ l[m] y) ?_ | refine CondK.yes' (show decide ((i : Int) < (j : Int)) = true from decide_eq_true (by omega)) ?_ | refine CondK.yes' hc ?_ | fail)
      refine ⟨⟨(m + 1, j), by simp; omega, hjl, fun q hq hl => ?_, hb⟩, ⟨⟨rfl, rfl, rfl, rfl, look_int ?_, rfl, trivial⟩, ⟨rfl, trivial⟩, rfl, rfl⟩, rfl, by simp; omega⟩
      · rcases Nat.lt_succ_iff_lt_or_eq.mp hq with hq | hq
        · exact decide_eq_true (Int.lt_trans (hsort q m hq hml) (of_decide_eq_true hs))
        · subst hq; exact hs
      · rw [half_ok (by omega), ← hm]
        exact i64_succ (by omega)
    | false =>
      have hc : decide (cmpI l[m].Client y.Client < 0) = false := by rw [cmpI_lt]; exact hs
      repeat' ((conv => whnf); first | with_reducible refine CondK.tt ?_ | with_reducible refine CondK.ff ?_ | refine LdK.mk _ (by assumption) ?_ | refine IdxK.at m _ ((half_ok (by omega)).trans (congrArg _ hm.symm)) rfl hml ?_ | refine DrawN.q (by kernel_rfl) ?_ | refine CallK.mk _ (clientsTo1_a _ l[m] y) ?_ | refine CallQ.mk _ (clientsTo1_a _ l[m] y) ?_ | refine CondK.yes' (show decide ((i : Int) < (j : Int)) = true from decide_eq_true (by omega)) ?_ | refine CondK.no' hc ?_ | fail)
      refine ⟨⟨(i, m), by simp; omega, by simp; omega, ha, fun q hq hl => ?_⟩, ⟨⟨rfl, rfl, rfl, rfl, rfl, look_int ?_, trivial⟩, ⟨rfl, trivial⟩, rfl, rfl⟩, rfl, by simp; omega⟩
      · refine decide_eq_false ?_
        have h1 := of_decide_eq_false hs
        rcases Nat.lt_or_eq_of_le hq with hq | hq
        · have := hsort m q hq hl
          omega
        · have hq : m = q := hq
          subst hq; exact h1
      · rw [half_ok (by omega), ← hm]
  · have hij : i = j := by omega
    subst hij
    have e : ixL l y.Client = i := aheadN_at hjl ha fun h => hb i (Nat.le_refl _) h
    rw [e]
    by_cases hlt : i < l.length
    · have hx := List.getElem?_eq_getElem hlt
      obtain ⟨ad, rfl, bnx, x0, x1, x2, x3⟩ := at_Last h hx
      have e2 : hasL l i y.Client = decide (cmpI l[i].Client y.Client = 0) := by unfold hasL; rw [hx, cmpI_eq]
      rw [e2]
      repeat' ((conv => whnf); first | with_reducible refine CondK.tt ?_ | with_reducible refine CondK.ff ?_ | refine LdK.mk _ (by assumption) ?_ | refine IdxK.mk _ rfl (by omega) (by omega) ?_ | refine DrawN.q (by kernel_rfl) ?_ | refine CallK.mk _ (clientsTo1_a _ l[i] y) ?_ | refine CallQ.mk _ (clientsTo1_a _ l[i] y) ?_ | refine CondK.no' (show decide ((i : Int) < (i : Int)) = false from decide_eq_false (by omega)) ?_ | refine CondK.yes' (show decide ((i : Int) < (l.length : Int)) = true from decide_eq_true (by omega)) ?_ | fail)
      exact rfl
    · have e2 : hasL l i y.Client = false := by unfold hasL; rw [List.getElem?_eq_none (by omega)]
      rw [e2]
      repeat' ((conv => whnf); first | with_reducible refine CondK.tt ?_ | with_reducible refine CondK.ff ?_ | refine LdK.mk _ (by assumption) ?_ | refine DrawN.q (by kernel_rfl) ?_ | refine CondK.no' (show decide ((i : Int) < (i : Int)) = false from decide_eq_false (by omega)) ?_ | refine CondK.no' (show decide ((i : Int) < (l.length : Int)) = false from decide_eq_false (by omega)) ?_ | fail)
      exact rfl
theorem clientsTo_n (M : Mem) (s : GPgState) (cs : List Value) (h : RPgState M s cs) (hok : stateOkF s = true) (n : Nat) (hn : n ≤ s.Log.length) : AnsR Tryz.prog M 46 #[.agg cs.toArray, .int .i64 (n : Int)] (fun M' v => ∃ A' cap' ds', v = .slice A' (clsTo s n).length cap' ∧ RowR M RLast 4 (clsTo s n) ds' ∧ RowN M M' 4 A' (clsTo s n).length cap' ds') := by
  obtain ⟨A0, c0, A1, c1, A2, c2, A3, c3, rfl, hb, s0, s1, s2, s3⟩ := h
  have hb0 := (state_cls hok).2
  have hb1 := (state_base hok).2.2.2
  have l2 := s2.len
  have lc2 := s2.cap
  refine ansR_of (T.at M) (l := [.agg (List.toArray _), .int .i64 (n : Int)]) mixed Tryz.func46 rfl (by kernel_rfl) (Nat.le_of_ble_eq_true rfl) ?_ (fun _ ad u h1 h2 => by rw [show M ad = none from h1] at h2; cases h2)
  (conv => whnf)
  refine CallK.mr _ (cloneLast_f M s.Clients A1 c1 s1 (by omega)) (fun v N0 hl0 hv => ?_)
  obtain ⟨Ab, cb, db, rfl, rb, nb⟩ := hv
  (conv => whnf)
  refine SlN.mk 0 n A2 n c2 rfl rfl (by omega) (by omega) (by split; rfl; cases A2 with | none => rfl | some a => simp [add0]) (by omega) (by omega) ?_
  (conv => whnf)
  refine LoopK.mk {q : (Nat × Option Addr × Nat × List Value) × Mem // q.1.1 ≤ n ∧ Le M q.2 ∧ RowR M RLast 4 (clsTo s q.1.1) q.1.2.2.2 ∧ RowN M q.2 4 q.1.2.1 (clsTo s q.1.1).length q.1.2.2.1 q.1.2.2.2} (fun ⟨⟨⟨k, A, cap, ds⟩, _⟩, _⟩ => [(2, .p 0 0), (5, .v (.slice A (clsTo s k).length cap)), (17, .v (.slice A2 n c2)), (18, .v (.int .i64 (n : Int))), (19, .v (.int .i64 (k : Int)))]) (fun _ => [(0, [.int .i64 s.Pg.Pool, .int .i64 s.Pg.No, .int .i64 s.Seen, .int .i64 s.Started, .int .i64 s.Tail.Epoch, .int .i64 s.Tail.Seq, .slice A0 s.Base.length c0, .slice A1 s.Clients.length c1, .slice A2 s.Log.length c2, .int .i64 s.Firm.Epoch, .int .i64 s.Firm.Seq, .slice A3 s.Chunks.length c3])]) (fun q => q.1.2) (fun q => n - q.1.1.1) ⟨((0, Ab, cb, db), N0), Nat.zero_le _, hl0, rb, nb⟩ ⟨⟨⟨rfl, rfl, rfl, rfl, rfl, trivial⟩, ⟨rfl, trivial⟩, rfl, rfl⟩, rfl⟩ ?_
  rintro ⟨⟨⟨k, A, cap, ds⟩, N1⟩, hk, hle, hr, hrow⟩
  simp only at hk hle hr hrow
  (conv => whnf)
  refine CondK.mk (fun h1 => ?_) (fun h1 => ?_)
  · have hlt : k < n := by simpa using h1
    have hltL : k < s.Log.length := by omega
    obtain ⟨y, hyk⟩ : ∃ y, s.Log[k] = y := ⟨_, rfl⟩
    have hy : s.Log[k]? = some y := by rw [List.getElem?_eq_getElem hltL, hyk]
    obtain ⟨ad, rfl, bnx, x0, x1, x2, x3, x4, x5, x6, x7, x8, x9⟩ := at_Entry (s2.mono hle (REntry.mono hle)) hy
    have hst : clsTo s (k + 1) = putL y (clsTo s k) := by rw [clsTo_step hltL, hyk]
    have hlen := cls_len hok k (by omega)
    have hsrt := cls_sorted hok k (by omega)
    by_cases hz : y.Req = ⟨0, 0⟩
    · have e : clsTo s (k + 1) = clsTo s k := by rw [hst]; unfold putL; rw [if_pos hz]
      have hzz : ((y.Req.Client == 0) && ((y.Req.No == 0) && true)) = true := (eqv_Req y.Req ⟨0, 0⟩).trans (decide_eq_true hz)
      repeat' ((conv => whnf); first | refine IdxK.mk _ rfl (by omega) (by omega) ?_ | refine LdK.mk _ (by assumption) ?_ | refine CondK.yes' hzz ?_ | fail)
      (conv => whnf)
      exact ⟨⟨((k + 1, A, cap, ds), N1), hlt, hle, by rw [e]; exact hr, by rw [e]; exact hrow⟩, ⟨⟨rfl, by rw [e]; rfl, rfl, rfl, look_int (i64_succ (by omega)), trivial⟩, ⟨rfl, trivial⟩, rfl, rfl⟩, rfl, by simp only; omega⟩
    have hzz : ((y.Req.Client == 0) && ((y.Req.No == 0) && true)) = false := (eqv_Req y.Req ⟨0, 0⟩).trans (decide_eq_false hz)
    have hput : putL y (clsTo s k) = (clsTo s k).take (ixL (clsTo s k) y.Req.Client) ++ ([ownL y] ++ (clsTo s k).drop (if hasL (clsTo s k) (ixL (clsTo s k) y.Req.Client) y.Req.Client = true then ixL (clsTo s k) y.Req.Client + 1 else ixL (clsTo s k) y.Req.Client)) := by unfold putL; rw [if_neg hz]
    have hixle : ixL (clsTo s k) y.Req.Client ≤ (clsTo s k).length := aheadN_le
    have hixlt := fun h => hasL_lt (l := clsTo s k) (k := ixL (clsTo s k) y.Req.Client) (c := y.Req.Client) h
    have hsl : SlR N1 RLast 4 32 A cap (clsTo s k) := hrow.sl hr (fun _ _ h => h) (by omega)
    have hat := bsLast_a N1 (clsTo s k) A cap hsl (by omega) hsrt (ownL y)
    rw [show (ownL y).Client = y.Req.Client from rfl, show (ownL y).No = y.Req.No from rfl, show (ownL y).Ver = y.Ver from rfl] at hat
    generalize hasL (clsTo s k) (ixL (clsTo s k) y.Req.Client) y.Req.Client = f at hat hput hixlt
    generalize ixL (clsTo s k) y.Req.Client = i at hat hput hixle hixlt
    have hone : allOne ds = true := hr.all
    have hvo : RowR M RLast 4 [ownL y] [.int .i64 y.Req.Client, .int .i64 y.Req.No, .int .i64 y.Ver.Epoch, .int .i64 y.Ver.Seq] := RowR.one ⟨rfl, trivial⟩ rfl rfl
    cases hf : f with
    | true =>
      rw [hf] at hat hput
      rw [if_pos rfl] at hput
      have hi := hixlt hf
      rcases hrow with ⟨_, hz, _⟩ | ⟨ad1, rfl, hrc, hfr⟩
      · omega
      repeat' ((conv => whnf); first | refine IdxK.mk _ rfl (by omega) (by omega) ?_ | refine LdK.mk _ (by assumption) ?_ | refine CallK.mk _ hat ?_ | refine CondK.no' hzz ?_ | with_reducible refine CondK.tt ?_ | with_reducible refine CondK.ff ?_ | fail)
      have hcl := hrc.le
      (conv => whnf)
      refine WrL.mk rfl (fun o ho => ?_) (fun o ho => ?_) rfl (fun N' j1 j2 => ?_)
      · replace ho : o < 4 := ho
        obtain ⟨u, hu⟩ := hrc.room (i * 4 + o) (by omega)
        show (N1 ((ad1.add (i * 4)).add o)).isSome = true
        rw [add_add, hu]; rfl
      · show M ((ad1.add (i * 4)).add o) = none
        cases hm : M ((ad1.add (i * 4)).add o) with
        | none => rfl
        | some w => exact absurd (by rw [add_block, add_block]) (hfr _ w hm)
      (conv => whnf)
      have e : clsTo s (k + 1) = (clsTo s k).take i ++ ([ownL y] ++ (clsTo s k).drop (i + 1)) := by rw [hst, hput]
      have el : (clsTo s (k + 1)).length = (clsTo s k).length := by rw [e]; simp; omega
      have hrl := hrc.len
      have htl : (ds.take (i * 4)).length = i * 4 := by rw [List.length_take, hrl]; omega
      refine ⟨⟨((k + 1, some ad1, cap, ds.take (i * 4) ++ ([.int .i64 y.Req.Client, .int .i64 y.Req.No, .int .i64 y.Ver.Epoch, .int .i64 y.Ver.Seq] ++ ds.drop ((i + 1) * 4))), N'), hlt, fun a u hu => ?_, by rw [e]; exact (RowR.take hr i).app (hvo.app (RowR.drop hr (i + 1))), ?_⟩, ⟨⟨rfl, by rw [el]; rfl, rfl, rfl, look_int (i64_succ (by omega)), trivial⟩, ⟨rfl, trivial⟩, rfl, rfl⟩, rfl, by simp only; omega⟩
      · show N' a = some u
        rw [j2 a (fun o ho he => by
          have := hfr a u hu
          rw [he] at this
          exact this (by
            show ((ad1.add (i * 4)).add o).block = _
            rw [add_block, add_block]))]
        exact hle a u hu
      · refine .inr ⟨ad1, rfl, ?_, hfr⟩
        refine hrc.wr (q := i * 4) (vs := [.int .i64 y.Req.Client, .int .i64 y.Req.No, .int .i64 y.Ver.Epoch, .int .i64 y.Ver.Seq]) j1 j2 (by rw [el]; simp only [List.length_append, List.length_take, List.length_drop, hrl, List.length_cons, List.length_nil]; omega) (by rw [el]; exact hcl) (fun o u hu => ?_)
        rcases Nat.lt_or_ge o (i * 4) with h2 | h2
        · rw [List.getElem?_append_left (by omega), List.getElem?_take, if_pos h2] at hu
          exact .inr ⟨.inl h2, hrc.el o u hu⟩
        · rw [List.getElem?_append_right (by omega), htl] at hu
          rcases Nat.lt_or_ge (o - i * 4) 4 with h3 | h3
          · rw [List.getElem?_append_left (by simpa using h3)] at hu
            exact .inl ⟨h2, hu⟩
          · rw [List.getElem?_append_right (by simpa using h3), List.getElem?_drop] at hu
            refine .inr ⟨.inr (by simp; omega), hrc.el o u ?_⟩
            simp only [List.length_cons, List.length_nil] at hu
            rw [show (i + 1) * 4 + (o - i * 4 - 4) = o by omega] at hu
            exact hu
    | false =>
      rw [hf] at hat hput
      rw [if_neg (by decide)] at hput
      repeat' ((conv => whnf); first | refine IdxK.mk _ rfl (by omega) (by omega) ?_ | refine LdK.mk _ (by assumption) ?_ | refine CallK.mk _ hat ?_ | refine CondK.no' hzz ?_ | with_reducible refine CondK.tt ?_ | with_reducible refine CondK.ff ?_ | fail)
      (conv => whnf)
      refine PubK.fr fun av N2 hl2 hc2 hroom hfresh hdom => ?_
      (conv => whnf)
      refine insLast_k rfl hrow hle hl2 hfresh hone rfl rfl hc2 hixle (by omega) (fun N' A' cap' hN' hrow' => ?_)
      (conv => whnf)
      have e : clsTo s (k + 1) = (clsTo s k).take i ++ [ownL y] ++ (clsTo s k).drop i := by rw [hst, hput]; simp
      have el : (clsTo s (k + 1)).length = (clsTo s k).length + 1 := by rw [e]; simp; omega
      exact ⟨⟨((k + 1, A', cap', _), N'), hlt, hN', by rw [e]; exact ((RowR.take hr i).app hvo).app (RowR.drop hr i), by rw [el]; exact hrow'⟩, ⟨⟨rfl, by rw [el]; rfl, rfl, rfl, look_int (i64_succ (by omega)), trivial⟩, ⟨rfl, trivial⟩, rfl, rfl⟩, rfl, by simp only; omega⟩
  · have he : k = n := by have : ¬ k < n := by simpa using h1
                          omega
    subst he
    (conv => whnf)
    exact RetK.mk fun g M' hl hg => ⟨A, cap, ds, rfl, hr, hrow.mono hl⟩
theorem l17PutLast_a (M : Mem) (l : List GLast) (A : Option Addr) (c : Nat) (h : SlR M RLast 4 32 A c l) (hn : l.length ≤ 1048576) (x : GEntry) (hb : x.Name.size ≤ 9223372036854775807) : AnsR Tryz.prog M 79 #[.slice A l.length c, .agg #[.int .i64 x.Ver.Epoch, .int .i64 x.Ver.Seq, .int .i64 x.Prior.Epoch, .int .i64 x.Prior.Seq, .string x.Name, .bool x.Gone, .int .i64 x.Size, .int .i64 x.Sum, .int .i64 x.Req.Client, .int .i64 x.Req.No]] (fun M' v => ∃ A' c', v = .slice A' (putL x l).length c' ∧ SlR M' RLast 4 32 A' c' (putL x l)) := by
  have hl := h.len
  have hcap := h.cap
  refine ansR_of T (l := [.slice A l.length c, .agg #[.int .i64 x.Ver.Epoch, .int .i64 x.Ver.Seq, .int .i64 x.Prior.Epoch, .int .i64 x.Prior.Seq, .string x.Name, .bool x.Gone, .int .i64 x.Size, .int .i64 x.Sum, .int .i64 x.Req.Client, .int .i64 x.Req.No]]) mixed Tryz.func79 rfl (by kernel_rfl) (Nat.le_of_ble_eq_true rfl) ?_
  have h1R := fun (x : GLast) cs h => (RLast.one (M := M) x cs h).1
  by_cases hz : x.Req = ⟨0, 0⟩
  · have e : putL x l = l := by unfold putL; rw [if_pos hz]
    have hzz : ((x.Req.Client == 0) && ((x.Req.No == 0) && true)) = true := (eqv_Req x.Req ⟨0, 0⟩).trans (decide_eq_true hz)
    obtain ⟨d0, r0, n0, m0⟩ := h.row h1R
    rw [e]
    repeat' ((conv => whnf); first | refine CondK.yes' hzz ?_ | refine SrcK.mk d0 n0 m0 ?_ | refine AppK.mk (by show (2 * _ + 512) * 32 ≤ 281474976710656; omega) (by omega) (.inr rfl) r0.all (fun cap hcap => ?_) | fail)
    exact RetK.mk fun g M' hl hg => ⟨_, _, slice_eq (m := l.length) (by omega), row_out (RowR.nil.app r0) (by simp) (RLast.mono hl) (hg 2 _ rfl) (by omega) (by omega)⟩
  have hzz : ((x.Req.Client == 0) && ((x.Req.No == 0) && true)) = false := (eqv_Req x.Req ⟨0, 0⟩).trans (decide_eq_false hz)
  repeat' ((conv => whnf); first | refine CondK.no' hzz ?_ | fail)
  (conv => whnf)
  refine LoopK.mk {k : Nat // k ≤ l.length ∧ ∀ (j : Nat) (hj : j < k) (hl : j < l.length), decide ((l[j]'hl).Client < x.Req.Client) = true} (fun ⟨k, _⟩ => [(0, .v (.slice A l.length c)), (3, .p 0 0), (5, .v (.int .i64 (k : Int)))]) (fun _ => [(0, _)]) (fun _ => M) (fun k => l.length - k.1) ⟨0, Nat.zero_le _, fun j hj => absurd hj (by omega)⟩ ⟨⟨⟨rfl, rfl, rfl, trivial⟩, ⟨rfl, trivial⟩, rfl, rfl⟩, rfl⟩ ?_
  rintro ⟨k, hk, ha⟩
  have step : ∀ (hlt : k < l.length), decide (l[k].Client < x.Req.Client) = true → ∀ (j : Nat) (hj : j < k + 1) (hl : j < l.length), decide ((l[j]'hl).Client < x.Req.Client) = true := fun hlt h j hj hl => by
    rcases Nat.lt_succ_iff_lt_or_eq.mp hj with hj | rfl
    · exact ha j hj hl
    · exact h
  obtain ⟨d1, r1, n1, m1⟩ := h.rowTo h1R hk
  by_cases hlt : k < l.length
  · obtain ⟨ad, rfl, bnx, x0, x1, x2, x3⟩ := at_Last h (List.getElem?_eq_getElem hlt)
    obtain ⟨d2, r2, n2, m2⟩ := h.rowFrom h1R hk
    obtain ⟨d3, r3, n3, m3⟩ := h.rowFrom h1R (show k + 1 ≤ l.length from hlt)
    have hget : l[k]? = some l[k] := List.getElem?_eq_getElem hlt
    have ht := List.length_take_of_le hk
    have hd2 := List.length_drop (i := k) (l := l)
    have hd3 := List.length_drop (i := k + 1) (l := l)
    have he : decide (l[k].Client < x.Req.Client) = false → (l[k].Client == x.Req.Client) = true → putL x l = l.take k ++ ([ownL x] ++ l.drop (k + 1)) := fun h1 h2 => by
      have := putL_at hz hk ha (fun _ => h1)
      unfold hasL at this
      rw [hget] at this
      rwa [if_pos (decide_eq_true (by simpa using h2))] at this
    have hn' : decide (l[k].Client < x.Req.Client) = false → (l[k].Client == x.Req.Client) = false → putL x l = l.take k ++ ([ownL x] ++ l.drop k) := fun h1 h2 => by
      have := putL_at hz hk ha (fun _ => h1)
      unfold hasL at this
      rw [hget] at this
      rwa [if_neg (by simpa using h2)] at this
    repeat' ((conv => whnf); first | with_reducible refine CondK.tt ?_ | with_reducible refine CondK.ff ?_ | with_reducible refine CondK.not ?_ | refine LdK.mk _ (by assumption) ?_ | refine IdxK.mk _ rfl (by omega) (by omega) ?_ | refine SlK.mk 0 k rfl rfl (by omega) (by omega) ?_ | refine SlK.mk k l.length rfl rfl (by omega) (by omega) ?_ | refine SlK.mk (k + 1) l.length (i64_succ (by omega)) rfl (by omega) (by omega) ?_ | refine SrcK.mk d1 n1 m1 ?_ | refine SrcK.mk d2 n2 m2 ?_ | refine SrcK.mk d3 n3 m3 ?_ | refine AppK.mk (by show (2 * _ + 512) * 32 ≤ 281474976710656; omega) (by omega) (.inr rfl) (by first | exact r1.all | exact r2.all | exact r3.all | rfl) (fun cap hcap => ?_) | refine DrawN.q (by kernel_rfl) ?_ | refine CondK.yes' (show decide ((k : Int) < (l.length : Int)) = true by simpa using hlt) ?_ | refine CondK.mk (fun h => ?_) (fun h => ?_) | fail)
    all_goals first
      | exact ⟨⟨k + 1, hlt, step hlt (by assumption)⟩, ⟨⟨rfl, rfl, look_int (i64_succ (by omega)), trivial⟩, ⟨rfl, trivial⟩, rfl, rfl⟩, rfl, by simp; omega⟩
      | (have e := he (by assumption) (by assumption)
         refine RetK.mk fun g M' hl hg => ⟨_, _, slice_eq (m := (putL x l).length) (by rw [e]; simp; omega), row_out (((RowR.nil.app r1).app (RowR.one (x := ownL x) ⟨rfl, trivial⟩ rfl rfl)).app r3) (by rw [e]; simp) (RLast.mono hl) (hg 5 _ rfl) (by rw [e]; simp; omega) (by rw [e]; simp; omega)⟩)
      | (have e := hn' (by assumption) (by assumption)
         refine RetK.mk fun g M' hl hg => ⟨_, _, slice_eq (m := (putL x l).length) (by rw [e]; simp; omega), row_out (((RowR.nil.app r1).app (RowR.one (x := ownL x) ⟨rfl, trivial⟩ rfl rfl)).app r2) (by rw [e]; simp) (RLast.mono hl) (hg 5 _ rfl) (by rw [e]; simp; omega) (by rw [e]; simp; omega)⟩)
      | fail
  · obtain ⟨d2, r2, n2, m2⟩ := h.rowFrom h1R hk
    have ht := List.length_take_of_le hk
    have hd2 := List.length_drop (i := k) (l := l)
    have e : putL x l = l.take k ++ ([ownL x] ++ l.drop k) := by
      have := putL_at hz hk ha (fun h => absurd h hlt)
      unfold hasL at this
      rw [List.getElem?_eq_none (by omega)] at this
      rwa [if_neg (fun h => by cases h)] at this
    repeat' ((conv => whnf); first | with_reducible refine CondK.tt ?_ | with_reducible refine CondK.ff ?_ | with_reducible refine CondK.not ?_ | refine LdK.mk _ (by assumption) ?_ | refine IdxK.mk _ rfl (by omega) (by omega) ?_ | refine SlK.mk 0 k rfl rfl (by omega) (by omega) ?_ | refine SlK.mk k l.length rfl rfl (by omega) (by omega) ?_ | refine SrcK.mk d1 n1 m1 ?_ | refine SrcK.mk d2 n2 m2 ?_ | refine AppK.mk (by show (2 * _ + 512) * 32 ≤ 281474976710656; omega) (by omega) (.inr rfl) (by first | exact r1.all | exact r2.all | rfl) (fun cap hcap => ?_) | refine DrawN.q (by kernel_rfl) ?_ | refine CondK.no' (show decide ((k : Int) < (l.length : Int)) = false by simpa using hlt) ?_ | refine CondK.mk (fun h => ?_) (fun h => ?_) | fail)
    refine RetK.mk fun g M' hl hg => ⟨_, _, slice_eq (m := (putL x l).length) (by rw [e]; simp; omega), row_out (((RowR.nil.app r1).app (RowR.one (x := ownL x) ⟨rfl, trivial⟩ rfl rfl)).app r2) (by rw [e]; simp) (RLast.mono hl) (hg 5 _ rfl) (by rw [e]; simp; omega) (by rw [e]; simp; omega)⟩
end Go.Proofs.YtcppfjdhppoenaaGreat.Hlp
