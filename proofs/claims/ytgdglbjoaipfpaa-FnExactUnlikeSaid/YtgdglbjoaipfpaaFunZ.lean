/- Chunks that are told of differently by the light walk. -/
import Derived.Test.YtgdglbjoaipfpaaFunYa
import Derived.Test.YtgdglbjoaipfpaaFunL
namespace Go.Proofs.Ytgdglbjoaipfpaa.Hlp
open Go Go.RowKit Go.Proofs Go.Proofs.Ytgdglbjoaipfpaa.Lw
set_option linter.unusedVariables false
set_option linter.unusedSimpArgs false
set_option maxRecDepth 100000
set_option maxHeartbeats 4000000
def SortedP (l : List GProof) : Prop := ∀ (i j : Nat) (hi : i < j) (hj : j < l.length), chunkLessF (keyF (l[i]'(by omega))) (keyF l[j]) = true
theorem proofs_sorted {l : List GProof} (h : allR l.length (proofF l) = true) : SortedP l := by
  have step : ∀ k, (hk : k + 1 < l.length) → chunkLessF (keyF (l[k]'(by omega))) (keyF (l[k + 1])) = true := by
    intro k hk
    have h1 := allR_get h hk
    rw [proofF_at (List.getElem?_eq_getElem hk) (y := l[k]'(by omega)) (by rw [show k + 1 - 1 = k by omega]; exact List.getElem?_eq_getElem (by omega))] at h1
    simp only [Bool.and_eq_true, Bool.not_eq_true', Bool.and_eq_false_iff, decide_eq_false_iff_not, Bool.not_eq_false'] at h1
    rcases h1.2 with h2 | h2
    · omega
    · exact h2
  have far : ∀ d i, (hd : i + (d + 1) < l.length) → chunkLessF (keyF (l[i]'(by omega))) (keyF (l[i + (d + 1)])) = true := by
    intro d
    induction d with
    | zero => intro i hd; exact step i hd
    | succ d ih => intro i hd; exact chunkLess_trans (ih i (by omega)) (step (i + (d + 1)) hd)
  intro i j hij hj
  obtain ⟨d, rfl⟩ : ∃ d, j = i + (d + 1) := ⟨j - i - 1, by omega⟩
  exact far d i hj
theorem report_sorted {l : List GReport} (h : reportsF l = true) {y : GReport} (hy : y ∈ l) : SortedP y.List := by
  obtain ⟨j, hj, rfl⟩ := List.getElem_of_mem hy
  have h1 := allR_get h hj
  rw [reportF_at (List.getElem?_eq_getElem hj) (y := l[j - 1]'(by omega)) (List.getElem?_eq_getElem (by omega))] at h1
  simp only [Bool.and_eq_true, reportOkF] at h1
  exact proofs_sorted h1.1.1.1
def prIx (l : List GProof) (x : GProof) : Nat := aheadN (fun y => chunkLessF (keyF y) (keyF x)) l
def hasP (l : List GProof) (k : Nat) (x : GProof) : Bool :=
  match l[k]? with
  | some y => decide (cmpProof y x = 0)
  | none => false
theorem bsProof_a (M : Mem) (l : List GProof) (A : Option Addr) (c : Nat) (h : SlR M RProof 6 56 A c l) (hn : l.length ≤ 1048576) (hsort : SortedP l) (x : GProof) : Ans Try.prog M 71 #[.slice A l.length c, .agg #[.string x.Name, .int .i64 x.Ver.Epoch, .int .i64 x.Ver.Seq, .int .i64 x.Pos, .int .i64 x.Sum, .int .i64 x.Real], .func (.func 72) #[] #[]] (.tuple #[.int .i64 (prIx l x : Int), .bool (hasP l (prIx l x) x)]) := by
  have hl := h.len
  refine ans_of T (l := [.slice A l.length c, .agg #[.string x.Name, .int .i64 x.Ver.Epoch, .int .i64 x.Ver.Seq, .int .i64 x.Pos, .int .i64 x.Sum, .int .i64 x.Real], .func (.func 72) #[] #[]]) mixed Try.func71 rfl (by kernel_rfl) (Nat.le_of_ble_eq_true rfl) ?_
  (conv => whnf)
  refine LoopK.mk {q : Nat × Nat // q.1 ≤ q.2 ∧ q.2 ≤ l.length ∧ (∀ (j : Nat) (hj : j < q.1) (hl : j < l.length), chunkLessF (keyF (l[j]'hl)) (keyF x) = true) ∧ (∀ (j : Nat) (hj : q.2 ≤ j) (hl : j < l.length), chunkLessF (keyF (l[j]'hl)) (keyF x) = false)} (fun ⟨⟨i, j⟩, _⟩ => [(0, .v (.slice A l.length c)), (2, .v (.func (.func 72) #[] #[])), (4, .p 0 0), (8, .v (.int .i64 (l.length : Int))), (9, .v (.int .i64 (i : Int))), (10, .v (.int .i64 (j : Int)))]) (fun _ => [(0, [.string x.Name, .int .i64 x.Ver.Epoch, .int .i64 x.Ver.Seq, .int .i64 x.Pos, .int .i64 x.Sum, .int .i64 x.Real])]) (fun _ => M) (fun q => q.1.2 - q.1.1) ⟨(0, l.length), by simp, by simp, fun j hj => absurd hj (by simp), fun j hj hl => absurd hj (by simp; omega)⟩ ⟨⟨⟨rfl, rfl, rfl, rfl, rfl, rfl, trivial⟩, ⟨rfl, trivial⟩, rfl, rfl⟩, rfl⟩ ?_
  rintro ⟨⟨i, j⟩, hij, hjl, ha, hb⟩
  replace hij : i ≤ j := hij
  replace hjl : j ≤ l.length := hjl
  by_cases hlt : i < j
  · obtain ⟨m, hm⟩ : ∃ m, m = (i + j) / 2 := ⟨_, rfl⟩
    have hml : m < l.length := by omega
    have hx := List.getElem?_eq_getElem hml
    obtain ⟨ad, rfl, bnx, x0, x1, x2, x3, x4, x5⟩ := at_Proof h hx
    cases hs : chunkLessF (keyF l[m]) (keyF x) with
    | true =>
      have hc : decide (cmpProof l[m] x < 0) = true := by rw [cmpProof_less]; exact hs
      repeat' ((conv => whnf); first | with_reducible refine CondK.tt ?_ | with_reducible refine CondK.ff ?_ | refine LdK.mk _ (by assumption) ?_ | refine IdxK.at m _ ((half_ok (by omega)).trans (congrArg _ hm.symm)) rfl hml ?_ | refine DrawN.q (by kernel_rfl) ?_ | refine CallQ.mk _ (compareProofs_a _ l[m] x) ?_ | refine CondK.yes' (show decide ((i : Int) < (j : Int)) = true from decide_eq_true (by omega)) ?_ | refine CondK.yes' hc ?_ | fail)
      refine ⟨⟨(m + 1, j), by simp; omega, hjl, fun q hq hl => ?_, hb⟩, ⟨⟨rfl, rfl, rfl, rfl, look_int ?_, rfl, trivial⟩, ⟨rfl, trivial⟩, rfl, rfl⟩, rfl, by simp; omega⟩
      · rcases Nat.lt_succ_iff_lt_or_eq.mp hq with hq | hq
        · exact chunkLess_trans (hsort q m hq hml) hs
        · subst hq; exact hs
      · rw [half_ok (by omega), ← hm]
        exact i64_succ (by omega)
    | false =>
      have hc : decide (cmpProof l[m] x < 0) = false := by rw [cmpProof_less]; exact hs
      repeat' ((conv => whnf); first | with_reducible refine CondK.tt ?_ | with_reducible refine CondK.ff ?_ | refine LdK.mk _ (by assumption) ?_ | refine IdxK.at m _ ((half_ok (by omega)).trans (congrArg _ hm.symm)) rfl hml ?_ | refine DrawN.q (by kernel_rfl) ?_ | refine CallQ.mk _ (compareProofs_a _ l[m] x) ?_ | refine CondK.yes' (show decide ((i : Int) < (j : Int)) = true from decide_eq_true (by omega)) ?_ | refine CondK.no' hc ?_ | fail)
      refine ⟨⟨(i, m), by simp; omega, by simp; omega, ha, fun q hq hl => ?_⟩, ⟨⟨rfl, rfl, rfl, rfl, rfl, look_int ?_, trivial⟩, ⟨rfl, trivial⟩, rfl, rfl⟩, rfl, by simp; omega⟩
      · rcases Nat.lt_or_eq_of_le hq with hq | hq
        · cases hh : chunkLessF (keyF l[q]) (keyF x) with
          | false => rfl
          | true =>
            have := chunkLess_trans (hsort m q hq hl) hh
            rw [hs] at this
            cases this
        · have hq : m = q := hq
          subst hq; exact hs
      · rw [half_ok (by omega), ← hm]
  · have hij : i = j := by omega
    subst hij
    have e : prIx l x = i := aheadN_at hjl ha fun h => hb i (Nat.le_refl _) h
    rw [e]
    by_cases hlt : i < l.length
    · have hx := List.getElem?_eq_getElem hlt
      obtain ⟨ad, rfl, bnx, x0, x1, x2, x3, x4, x5⟩ := at_Proof h hx
      have e2 : hasP l i x = decide (cmpProof l[i] x = 0) := by unfold hasP; rw [hx]
      rw [e2]
      repeat' ((conv => whnf); first | with_reducible refine CondK.tt ?_ | with_reducible refine CondK.ff ?_ | refine LdK.mk _ (by assumption) ?_ | refine IdxK.mk _ rfl (by omega) (by omega) ?_ | refine DrawN.q (by kernel_rfl) ?_ | refine CallQ.mk _ (compareProofs_a _ l[i] x) ?_ | refine CondK.no' (show decide ((i : Int) < (i : Int)) = false from decide_eq_false (by omega)) ?_ | refine CondK.yes' (show decide ((i : Int) < (l.length : Int)) = true from decide_eq_true (by omega)) ?_ | fail)
      exact rfl
    · have e2 : hasP l i x = false := by unfold hasP; rw [List.getElem?_eq_none (by omega)]
      rw [e2]
      repeat' ((conv => whnf); first | with_reducible refine CondK.tt ?_ | with_reducible refine CondK.ff ?_ | refine LdK.mk _ (by assumption) ?_ | refine DrawN.q (by kernel_rfl) ?_ | refine CondK.no' (show decide ((i : Int) < (i : Int)) = false from decide_eq_false (by omega)) ?_ | refine CondK.no' (show decide ((i : Int) < (l.length : Int)) = false from decide_eq_false (by omega)) ?_ | fail)
      exact rfl
/-- A proof of the same chunk that tells another sum. -/
def unP (p q : GProof) : Bool := (q.Name.toList == p.Name.toList) && ((q.Ver.Epoch == p.Ver.Epoch && (q.Ver.Seq == p.Ver.Seq && true)) && ((q.Pos == p.Pos) && (q.Sum != p.Sum)))
theorem unP_key (p q : GProof) : unP p q = (decide (cmpProof q p = 0) && (q.Sum != p.Sum)) := by
  have h1 : (decide (cmpProof q p = 0)) = (decide (q.Name = p.Name) && (decide (q.Ver = p.Ver) && decide (q.Pos = p.Pos))) := by
    rw [Bool.eq_iff_iff]
    simp only [Bool.and_eq_true, decide_eq_true_eq]
    exact cmpChunk_zero (keyF q) (keyF p)
  rw [h1]
  unfold unP
  rw [ba_eq, eqv_Ver, show (q.Pos == p.Pos) = decide (q.Pos = p.Pos) from by rw [Bool.eq_iff_iff]; simp]
  simp only [Bool.and_assoc]
def otherR (l : List GProof) (p : GProof) : Bool := hasP l (prIx l p) p && match l[prIx l p]? with | some q => (q.Sum != p.Sum) | none => false
theorem otherR_any {l : List GProof} (hs : SortedP l) (p : GProof) : otherR l p = l.any (unP p) := by
  rw [Bool.eq_iff_iff]
  constructor
  · intro h
    unfold otherR hasP at h
    cases hq : l[prIx l p]? with
    | none => rw [hq] at h; simp at h
    | some q =>
      rw [hq] at h
      rw [List.any_eq_true]
      exact ⟨q, List.mem_of_getElem? hq, by rw [unP_key]; exact h⟩
  · intro h
    rw [List.any_eq_true] at h
    obtain ⟨q, hq, hu⟩ := h
    obtain ⟨m, hm, rfl⟩ := List.getElem_of_mem hq
    rw [unP_key, Bool.and_eq_true, decide_eq_true_eq] at hu
    obtain ⟨hu1, hu2⟩ := hu
    have hk : keyF l[m] = keyF p := by
      obtain ⟨a1, a2, a3⟩ := (cmpChunk_zero (keyF l[m]) (keyF p)).mp hu1
      unfold keyF at a1 a2 a3 ⊢
      simp only at a1 a2 a3
      rw [a1, a2, a3]
    have e : prIx l p = m := aheadN_at (Nat.le_of_lt hm) (fun j hj hl => by rw [← hk]; exact hs j m hj hm) (fun _ => by
      rw [← hk, ← cmpProof_less]
      have : cmpProof l[m] l[m] = 0 := (cmpChunk_zero (keyF l[m]) (keyF l[m])).mpr ⟨rfl, rfl, rfl⟩
      rw [this]
      rfl)
    unfold otherR hasP
    rw [e, List.getElem?_eq_getElem hm]
    simp only
    rw [decide_eq_true hu1, hu2]
    rfl
def otherL (l : List GReport) (p : GProof) : Bool := l.any fun o => o.List.any (unP p)
theorem unlike11_a (M : Mem) (o : GReport) (cs : List Value) (h : RReport M o cs) (hn : o.List.length ≤ 160) (hs : SortedP o.List) (x : GProof) (b : Addr) (hb0 : M (b.add 0) = some (.string x.Name)) (hb1 : M (b.add 1) = some (.int .i64 x.Ver.Epoch)) (hb2 : M (b.add 2) = some (.int .i64 x.Ver.Seq)) (hb3 : M (b.add 3) = some (.int .i64 x.Pos)) (hb4 : M (b.add 4) = some (.int .i64 x.Sum)) (hb5 : M (b.add 5) = some (.int .i64 x.Real)) : Ans Try.prog M 70 #[.agg cs.toArray, .pointer (some b)] (.bool (o.List.any (unP x))) := by
  obtain ⟨A0, c0, rfl, hb, s0⟩ := h
  rw [← otherR_any hs]
  have l0 := s0.len
  refine ansC_of T (l := [.agg (List.toArray _), .pointer (some b)]) mixed Try.func70 rfl (by kernel_rfl) (Nat.le_of_ble_eq_true rfl) ?_
  have hle : prIx o.List x ≤ o.List.length := aheadN_le
  cases hq : o.List[prIx o.List x]? with
  | none =>
    have e1 : hasP o.List (prIx o.List x) x = false := by unfold hasP; rw [hq]
    have e2 : otherR o.List x = false := by unfold otherR; rw [e1]; rfl
    have hbs := bsProof_a M o.List A0 c0 s0 (by omega) hs x
    rw [e1] at hbs
    rw [e2]
    repeat' ((conv => whnf); first | with_reducible refine CondK.tt ?_ | with_reducible refine CondK.ff ?_ | refine LdK.mk _ (by assumption) ?_ | refine CallK.mk _ hbs ?_ | refine DrawN.q (by kernel_rfl) ?_ | fail)
    exact rfl
  | some q =>
    have hlt : prIx o.List x < o.List.length := by
      rcases Nat.lt_or_ge (prIx o.List x) o.List.length with h1 | h1
      · exact h1
      · rw [List.getElem?_eq_none h1] at hq; cases hq
    have hbs := bsProof_a M o.List A0 c0 s0 (by omega) hs x
    have e2 : otherR o.List x = (hasP o.List (prIx o.List x) x && (q.Sum != x.Sum)) := by unfold otherR; rw [hq]
    rw [e2]
    generalize hasP o.List (prIx o.List x) x = f at hbs ⊢
    generalize prIx o.List x = i at hbs hlt hq hle ⊢
    obtain ⟨ad, rfl, bnx, x0, x1, x2, x3, x4, x5⟩ := at_Proof s0 hq
    repeat' ((conv => whnf); first | with_reducible refine CondK.tt ?_ | with_reducible refine CondK.ff ?_ | refine LdK.mk _ (by assumption) ?_ | refine IdxK.mk _ rfl (by omega) (by omega) ?_ | refine CallK.mk _ hbs ?_ | refine DrawN.q (by kernel_rfl) ?_ | refine CondK.mk (fun hc => ?_) (fun hc => ?_) | fail)
    all_goals refine ret_bool ?_
    all_goals simp_all
def ixR (l : List GReport) (p : GProof) : Int := match l.findIdx? (fun o => o.List.any (unP p)) with | some i => (i : Int) | none => -1
theorem ixR_at {p : GProof} {l : List GReport} {k : Nat} (hk : k < l.length) (h : (l[k].List.any (unP p)) = true) (ha : ∀ (j : Nat) (hj : j < l.length), j < k → ((l[j]'hj).List.any (unP p)) = false) : ixR l p = (k : Int) := by
  unfold ixR
  rw [List.findIdx?_eq_some_iff_getElem.2 ⟨hk, h, fun j hj => by rw [ha j (by omega) hj]; decide⟩]
theorem ixR_none {p : GProof} {l : List GReport} (ha : ∀ (j : Nat) (hj : j < l.length), ((l[j]'hj).List.any (unP p)) = false) : ixR l p = -1 := by
  unfold ixR
  rw [List.findIdx?_eq_none_iff.2 fun x hx => by obtain ⟨j, hj, rfl⟩ := List.getElem_of_mem hx; exact ha j hj]
theorem ixR_any (l : List GReport) (p : GProof) : decide (ixR l p ≥ 0) = otherL l p := by
  unfold ixR otherL
  cases h : l.findIdx? (fun o => o.List.any (unP p)) with
  | none =>
    rw [List.findIdx?_eq_none_iff] at h
    have : (l.any fun o => o.List.any (unP p)) = false := by
      rw [List.any_eq_false]
      intro x hx
      have := h x hx
      simpa using this
    rw [this]; rfl
  | some i =>
    obtain ⟨hi, h1, _⟩ := List.findIdx?_eq_some_iff_getElem.1 h
    have : (l.any fun o => o.List.any (unP p)) = true := List.any_eq_true.2 ⟨l[i], List.getElem_mem hi, h1⟩
    rw [this]
    exact decide_eq_true (by show (i : Int) ≥ 0; omega)
theorem ixReport_a (M : Mem) (l : List GReport) (A : Option Addr) (c : Nat) (h : SlR M RReport 2 32 A c l) (hn : ∀ y ∈ l, y.List.length ≤ 160) (hs : ∀ y ∈ l, SortedP y.List) (x : GProof) (b : Addr) (hb0 : M (b.add 0) = some (.string x.Name)) (hb1 : M (b.add 1) = some (.int .i64 x.Ver.Epoch)) (hb2 : M (b.add 2) = some (.int .i64 x.Ver.Seq)) (hb3 : M (b.add 3) = some (.int .i64 x.Pos)) (hb4 : M (b.add 4) = some (.int .i64 x.Sum)) (hb5 : M (b.add 5) = some (.int .i64 x.Real)) : Ans Try.prog M 108 #[.slice A l.length c, .func (.func 70) #[] #[.pointer (some b)]] (.int .i64 (ixR l x)) := by
  have hl := h.len
  refine ans_of T (l := [.slice A l.length c, .func (.func 70) #[] #[.pointer (some b)]]) mixed Try.func108 rfl (by kernel_rfl) (Nat.le_of_ble_eq_true rfl) ?_
  (conv => whnf)
  refine LoopK.mk {k : Nat // k ≤ l.length ∧ ∀ (j : Nat) (hj : j < l.length), j < k → ((l[j]'hj).List.any (unP x)) = false} (fun ⟨k, _⟩ => [(0, .v (.slice A l.length c)), (1, .v (.func (.func 70) #[] #[.pointer (some b)])), (7, .v (.int .i64 (l.length : Int))), (8, .v (.int .i64 (k : Int)))]) (fun _ => []) (fun _ => M) (fun k => l.length - k.1) ⟨0, Nat.zero_le _, fun j _ hj => absurd hj (by omega)⟩ ⟨⟨⟨rfl, rfl, rfl, rfl, trivial⟩, trivial, rfl, rfl⟩, rfl⟩ ?_
  rintro ⟨k, hk, hp⟩
  (conv => whnf)
  refine CondK.mk (fun h1 => ?_) (fun h1 => ?_)
  · have hlt : k < l.length := by simpa using h1
    obtain ⟨ad, rfl, A0, c0, bnx, s0, x0, x1⟩ := at_Report h (List.getElem?_eq_getElem hlt)
    repeat' ((conv => whnf); first | with_reducible refine CondK.tt ?_ | with_reducible refine CondK.ff ?_ | refine IdxK.mk _ rfl (by omega) (by omega) ?_ | refine LdK.mk _ (by assumption) ?_ | refine CallK.mk _ (unlike11_a _ l[k] _ ⟨_, _, rfl, trivial, s0⟩ (hn _ (List.getElem_mem hlt)) (hs _ (List.getElem_mem hlt)) x b hb0 hb1 hb2 hb3 hb4 hb5) ?_ | refine CondK.mk (fun hc => ?_) (fun hc => ?_) | fail)
    all_goals first
      | (show _ = _
         rw [ixR_at hlt hc hp]
         rfl)
      | exact ⟨⟨k + 1, hlt, fun j hj hj' => by rcases Nat.lt_succ_iff_lt_or_eq.mp hj' with hj' | rfl; exact hp j hj hj'; exact hc⟩, ⟨⟨rfl, rfl, rfl, look_int (i64_succ (by omega)), trivial⟩, trivial, rfl, rfl⟩, rfl, by simp; omega⟩
  · have he : k = l.length := by have : ¬ k < l.length := by simpa using h1
                                 omega
    subst he
    rw [ixR_none fun j hj => hp j hj hj]
    exact rfl
theorem hasReport_a (M : Mem) (l : List GReport) (A : Option Addr) (c : Nat) (h : SlR M RReport 2 32 A c l) (hn : ∀ y ∈ l, y.List.length ≤ 160) (hs : ∀ y ∈ l, SortedP y.List) (x : GProof) (b : Addr) (hb0 : M (b.add 0) = some (.string x.Name)) (hb1 : M (b.add 1) = some (.int .i64 x.Ver.Epoch)) (hb2 : M (b.add 2) = some (.int .i64 x.Ver.Seq)) (hb3 : M (b.add 3) = some (.int .i64 x.Pos)) (hb4 : M (b.add 4) = some (.int .i64 x.Sum)) (hb5 : M (b.add 5) = some (.int .i64 x.Real)) : Ans Try.prog M 69 #[.slice A l.length c, .func (.func 70) #[] #[.pointer (some b)]] (.bool (otherL l x)) := by
  refine ans_of T (l := [.slice A l.length c, .func (.func 70) #[] #[.pointer (some b)]]) mixed Try.func69 rfl (by kernel_rfl) (Nat.le_of_ble_eq_true rfl) ?_
  (conv => whnf)
  refine CallK.mk _ (ixReport_a M l A c h hn hs x b hb0 hb1 hb2 hb3 hb4 hb5) ?_
  (conv => whnf)
  exact ret_bool (ixR_any _ _)
theorem unlike1_a (M : Mem) (l : List GReport) (A : Option Addr) (c : Nat) (h : SlR M RReport 2 32 A c l) (hn : ∀ y ∈ l, y.List.length ≤ 160) (hs : ∀ y ∈ l, SortedP y.List) (r : GReport) (cs : List Value) (hr : RReport M r cs) (x : GProof) (a : Addr) (ha : M (a.add 0) = some (.slice A l.length c)) : Ans Try.prog M 68 #[.agg cs.toArray, .agg #[.string x.Name, .int .i64 x.Ver.Epoch, .int .i64 x.Ver.Seq, .int .i64 x.Pos, .int .i64 x.Sum, .int .i64 x.Real], .pointer (some a)] (.bool (otherL l x)) := by
  obtain ⟨A0, c0, rfl, hb, s0⟩ := hr
  refine ansC_of T (l := [.agg (List.toArray _), .agg #[.string x.Name, .int .i64 x.Ver.Epoch, .int .i64 x.Ver.Seq, .int .i64 x.Pos, .int .i64 x.Sum, .int .i64 x.Real], .pointer (some a)]) mixed Try.func68 rfl (by kernel_rfl) (Nat.le_of_ble_eq_true rfl) ?_
  (conv => whnf)
  refine LdK.mk _ ha ?_
  (conv => whnf)
  refine PubK.mk fun b M1 hl1 hc1 => ?_
  (conv => whnf)
  refine CallK.mk _ (hasReport_a M1 l A c (h.mono hl1 (RReport.mono hl1)) hn hs x b (hc1 0 _ rfl) (hc1 1 _ rfl) (hc1 2 _ rfl) (hc1 3 _ rfl) (hc1 4 _ rfl) (hc1 5 _ rfl)) ?_
  (conv => whnf)
  exact rfl
def unIs (l : List GReport) (_ : GReport) (p : GProof) : Bool := otherL l p
theorem markedUn_a (M : Mem) (l : List GReport) (A : Option Addr) (c : Nat) (h : SlR M RReport 2 32 A c l) (hn : l.length ≤ 16) (hs : ∀ y ∈ l, y.List.length ≤ 160) (hso : ∀ y ∈ l, SortedP y.List) (a0 : Addr) (ha0 : M (a0.add 0) = some (.slice A l.length c)) : AnsR Try.prog M 67 #[.slice A l.length c, .func (.func 68) #[] #[.pointer (some a0)]] (fun M' v => ∃ A' c', v = .slice A' (mkTo (unIs l) l l.length).length c' ∧ SlR (sub M' M) RBad 5 48 A' c' (mkTo (unIs l) l l.length)) := by
  have hl := h.len
  refine ansR_of T (l := [.slice A l.length c, .func (.func 68) #[] #[.pointer (some a0)]]) mixed Try.func67 rfl (by kernel_rfl) (Nat.le_of_ble_eq_true rfl) ?_
  generalize his : (unIs l) = is0
  (conv => whnf)
  refine LoopK.sw 0 1 {q : Nat × Option (Nat × List Value) // q.1 ≤ l.length ∧ RowOB M (mkTo is0 l q.1) q.2} (fun ⟨⟨k, o⟩, _⟩ => [(1, .v (.func (.func 68) #[] #[.pointer (some a0)])), (5, rowP0 (mkTo is0 l k) o), (10, .v (.slice A l.length c)), (11, .v (.int .i64 (l.length : Int))), (12, .v (.int .i64 (k : Int)))]) (fun ⟨⟨k, o⟩, _⟩ => rowB0 o []) (fun _ => M) (fun q => l.length - q.1.1) ⟨(0, none), Nat.zero_le _, rfl⟩ 0 ⟨⟨⟨rfl, rfl, rfl, rfl, rfl, trivial⟩, trivial, rfl, rfl⟩, rfl⟩ ?_
  rintro ⟨⟨k, o⟩, hk, hr⟩
  replace hk : k ≤ l.length := hk
  replace hr : RowOB M (mkTo is0 l k) o := hr
  have hsl := mkTo_len is0 hs k hk
  (conv => whnf)
  refine CondK.mk (fun h1 => ?_) (fun h1 => ?_)
  · have hlt : k < l.length := by simpa using h1
    obtain ⟨y, hyk⟩ : ∃ y, l[k] = y := ⟨_, rfl⟩
    have hy : l[k]? = some y := by rw [List.getElem?_eq_getElem hlt, hyk]
    have hyl : y ∈ l := List.mem_of_getElem? hy
    have hy1 := hs y hyl
    obtain ⟨ad, rfl, A0, c0, bnx, s0, x0, x1⟩ := at_Report h hy
    have hss : mkTo is0 l (k + 1) = mkTo is0 l k ++ mkN is0 y y.List.length := by rw [mkTo_step hlt, hyk]
    have h00 : mkTo is0 l k ++ mkN is0 y 0 = mkTo is0 l k := by simp [mkN]
    repeat' ((conv => whnf); first | refine IdxK.mk _ rfl (by omega) (by omega) ?_ | refine LdK.mk _ (by assumption) ?_ | fail)
    refine LoopK.sw 0 2 {q : Nat × Option (Nat × List Value) // q.1 ≤ y.List.length ∧ RowOB M (mkTo is0 l k ++ mkN is0 y q.1) q.2} (fun ⟨⟨j, o⟩, _⟩ => [(1, .v (.func (.func 68) #[] #[.pointer (some a0)])), (5, rowP0 (mkTo is0 l k ++ mkN is0 y j) o), (7, .p 1 0), (10, .v (.slice (some ad) l.length c)), (11, .v (.int .i64 (l.length : Int))), (12, .v (.int .i64 (k : Int))), (17, .v (.slice A0 y.List.length c0)), (18, .v (.int .i64 (y.List.length : Int))), (19, .v (.int .i64 (j : Int)))]) (fun ⟨⟨j, o⟩, _⟩ => rowB0 o [(1, [.int .i64 y.From, .slice A0 y.List.length c0])]) (fun _ => M) (fun q => y.List.length - q.1.1) ⟨(0, o), Nat.zero_le _, by rw [h00]; exact hr⟩ 0 ?_ ?_
    · cases o with
      | none => exact ⟨⟨⟨rfl, rfl, rfl, rfl, rfl, rfl, rfl, rfl, rfl, trivial⟩, ⟨rfl, trivial⟩, rfl, rfl⟩, rfl⟩
      | some q => exact ⟨⟨⟨rfl, congrArg (fun t => some (PV.s 0 t q.1 5)) (by rw [h00]), rfl, rfl, rfl, rfl, rfl, rfl, rfl, trivial⟩, ⟨rfl, rfl, trivial⟩, rfl, rfl⟩, rfl⟩
    rintro ⟨⟨j, o⟩, hj, hr⟩
    replace hj : j ≤ y.List.length := hj
    replace hr : RowOB M (mkTo is0 l k ++ mkN is0 y j) o := hr
    have hsn := mkN_len is0 y j
    have hlen2 : (mkTo is0 l k ++ mkN is0 y j).length ≤ 4000 := by rw [List.length_append]; omega
    (conv => whnf)
    refine CondK.mk (fun h2 => ?_) (fun h2 => ?_)
    · have hlt2 : j < y.List.length := by simpa using h2
      have e := mkN_step (is := is0) hlt2
      obtain ⟨p, hpj⟩ : ∃ p, y.List[j] = p := ⟨_, rfl⟩
      have hp : y.List[j]? = some p := by rw [List.getElem?_eq_getElem hlt2, hpj]
      rw [hpj] at e
      obtain ⟨ad2, rfl, bnp, z0, z1, z2, z3, z4, z5⟩ := at_Proof s0 hp
      have hcl := (show otherL l p = is0 y p by rw [← his]; rfl) ▸ unlike1_a M l _ c h hs hso y _ ⟨_, _, rfl, trivial, s0⟩ p a0 ha0
      cases hq : is0 y p with
      | false =>
        rw [hq] at hcl
        rw [hq, if_neg (by decide), List.append_nil] at e
        cases o with
        | none =>
          repeat' ((conv => whnf); first | refine IdxK.mk _ rfl (by omega) (by omega) ?_ | refine LdK.mk _ (by assumption) ?_ | refine CallK.mk _ hcl ?_ | with_reducible refine CondK.ff ?_ | fail)
          exact ⟨⟨(j + 1, none), hlt2, by show _ = _; rw [e]; exact hr⟩, 0, ⟨⟨rfl, rfl, rfl, rfl, rfl, rfl, rfl, rfl, look_int (i64_succ (by omega)), trivial⟩, ⟨rfl, trivial⟩, rfl, rfl⟩, rfl, by simp; omega⟩
        | some q =>
          repeat' ((conv => whnf); first | refine IdxK.mk _ rfl (by omega) (by omega) ?_ | refine LdK.mk _ (by assumption) ?_ | refine CallK.mk _ hcl ?_ | with_reducible refine CondK.ff ?_ | fail)
          exact ⟨⟨(j + 1, some q), hlt2, by show RowOB M _ _; rw [e]; exact hr⟩, 0, ⟨⟨rfl, congrArg (fun t => some (PV.s 0 t q.1 5)) (by rw [e]), rfl, rfl, rfl, rfl, rfl, rfl, look_int (i64_succ (by omega)), trivial⟩, ⟨rfl, rfl, trivial⟩, rfl, rfl⟩, rfl, by simp; omega⟩
      | true =>
        rw [hq] at hcl
        rw [hq, if_pos rfl] at e
        have e2 : mkTo is0 l k ++ mkN is0 y (j + 1) = (mkTo is0 l k ++ mkN is0 y j) ++ [badF y p] := by rw [e, List.append_assoc]
        cases o with
        | none =>
          replace hr : mkTo is0 l k ++ mkN is0 y j = [] := hr
          repeat' ((conv => whnf); first | refine IdxK.mk _ rfl (by omega) (by omega) ?_ | refine LdK.mk _ (by assumption) ?_ | refine CallK.mk _ hcl ?_ | with_reducible refine CondK.tt ?_ | refine AppK.mk (by decide) (by decide) (.inl (by decide)) rfl (fun cap3 hcap3 => ?_) | fail)
          refine ⟨⟨(j + 1, some (cap3, [.int .i64 y.From, .string p.Name, .int .i64 p.Ver.Epoch, .int .i64 p.Ver.Seq, .int .i64 p.Pos])), hlt2, ?_⟩, 4, ⟨⟨rfl, congrArg (fun t => some (PV.s 4 t cap3 5)) ?_, rfl, rfl, rfl, rfl, rfl, rfl, look_int (i64_succ (by omega)), trivial⟩, ⟨rfl, rfl, trivial⟩, rfl, rfl⟩, rfl, by simp; omega⟩
          · show RowOB M (mkTo is0 l k ++ mkN is0 y (j + 1)) _
            rw [e2, hr]
            exact ⟨hcap3, RowR.one (x := badF y p) ⟨rfl, bnp⟩ rfl rfl⟩
          · rw [e2, hr]
            rfl
        | some q =>
          obtain ⟨cap, ds⟩ := q
          obtain ⟨hr1, hr2⟩ := hr
          repeat' ((conv => whnf); first | refine IdxK.mk _ rfl (by omega) (by omega) ?_ | refine LdK.mk _ (by assumption) ?_ | refine CallK.mk _ hcl ?_ | with_reducible refine CondK.tt ?_ | refine AppK.mk (by show (2 * _ + 512) * 48 ≤ 281474976710656; omega) (by omega) (.inr rfl) (by first | exact hr2.all | rfl) (fun cap3 hcap3 => ?_) | fail)
          refine ⟨⟨(j + 1, some (cap3, ds ++ [.int .i64 y.From, .string p.Name, .int .i64 p.Ver.Epoch, .int .i64 p.Ver.Seq, .int .i64 p.Pos])), hlt2, ?_⟩, 4, ⟨⟨rfl, congrArg (fun t => some (PV.s 4 t cap3 5)) ?_, rfl, rfl, rfl, rfl, rfl, rfl, look_int (i64_succ (by omega)), trivial⟩, ⟨rfl, rfl, trivial⟩, rfl, rfl⟩, rfl, by simp; omega⟩
          · show RowOB M (mkTo is0 l k ++ mkN is0 y (j + 1)) _
            rw [e2]
            exact ⟨by rw [List.length_append]; exact hcap3, hr2.app (RowR.one (x := badF y p) ⟨rfl, bnp⟩ rfl rfl)⟩
          · rw [e2]
            simp only [List.length_append, List.length_singleton]
    · have he : j = y.List.length := by have : ¬ j < y.List.length := by simpa using h2
                                        omega
      subst he
      cases o with
      | none => exact ⟨⟨(k + 1, none), hlt, by show _ = _; rw [hss]; exact hr⟩, 0, ⟨⟨rfl, rfl, rfl, rfl, look_int (i64_succ (by omega)), trivial⟩, trivial, rfl, rfl⟩, rfl, by simp; omega⟩
      | some q => exact ⟨⟨(k + 1, some q), hlt, by show RowOB M _ _; rw [hss]; exact hr⟩, 0, ⟨⟨rfl, congrArg (fun t => some (PV.s 0 t q.1 5)) (by rw [hss]), rfl, rfl, look_int (i64_succ (by omega)), trivial⟩, ⟨rfl, trivial⟩, rfl, rfl⟩, rfl, by simp; omega⟩
  · have he : k = l.length := by have : ¬ k < l.length := by simpa using h1
                                 omega
    subst he
    cases o with
    | none =>
      replace hr : mkTo is0 l l.length = [] := hr
      exact RetK.mk fun g M' hl hg => ⟨none, 0, slice_eq (by rw [hr]; rfl), slR_eq SlR.nil hr.symm⟩
    | some q =>
      obtain ⟨cap, ds⟩ := q
      exact RetK.fr fun g M' hl hg => ⟨_, _, rfl, rowOB_new hr (by omega) (Le.refl M) (hg 0 _ rfl)⟩
theorem iUnlike_f (M : Mem) (l : List GReport) (A : Option Addr) (c : Nat) (h : SlR M RReport 2 32 A c l) : AnsR Try.prog M 21 #[.slice A l.length c] (fun M' v => ∃ A' c', v = .tuple #[.slice A' (mkAll (unIs l) l).length c', .int .i64 (if reportsF l = true then 0 else 1)] ∧ SlR (sub M' M) RBad 5 48 A' c' (mkAll (unIs l) l)) := by
  refine ansR_of T (l := [.slice A l.length c]) mixed Try.func21 rfl (by kernel_rfl) (Nat.le_of_ble_eq_true rfl) ?_
  cases h2 : reportsF l with
  | false =>
    have e' : mkAll (unIs l) l = [] := by unfold mkAll; rw [h2]; rfl
    repeat' ((conv => whnf); first | with_reducible refine CondK.tt ?_ | with_reducible refine CondK.ff ?_ | refine CallK.mk (.bool false) (h2 ▸ reportsOk_a M l A c h) ?_ | refine DrawN.q (by kernel_rfl) ?_ | fail)
    exact RetK.mk fun g M' hl hg => ⟨none, 0, by rw [e']; rfl, slR_eq SlR.nil e'.symm⟩
  | true =>
    have e' : mkAll (unIs l) l = mkTo (unIs l) l l.length := by unfold mkAll; rw [h2]; rfl
    repeat' ((conv => whnf); first | with_reducible refine CondK.tt ?_ | with_reducible refine CondK.ff ?_ | refine CallK.mk (.bool true) (h2 ▸ reportsOk_a M l A c h) ?_ | fail)
    refine PubK.mk fun a0 M0 hl0 hc0 => ?_
    (conv => whnf)
    refine CallK.mr _ (markedUn_a M0 l A c (h.mono hl0 (RReport.mono hl0)) (reports_len h2) (fun y hy => report_small h2 hy) (fun y hy => report_sorted h2 hy) a0 (hc0 0 _ rfl)) (fun v M1 hl1 hv => ?_)
    obtain ⟨A1, c1, rfl, hs⟩ := hv
    replace hs := hs.mono (sub_anti M1 hl0) (fun _ _ h => h)
    (conv => whnf)
    exact RetK.mk fun g M' hl hg => ⟨A1, c1, by rw [e']; rfl, slR_eq (hs.mono (sub_mono _ hl) (fun _ _ h => h)) e'.symm⟩
theorem l26Other_a (M : Mem) (l : List GReport) (A : Option Addr) (c : Nat) (h : SlR M RReport 2 32 A c l) (x : GProof) : Ans Try.prog M 65 #[.slice A l.length c, .agg #[.string x.Name, .int .i64 x.Ver.Epoch, .int .i64 x.Ver.Seq, .int .i64 x.Pos, .int .i64 x.Sum, .int .i64 x.Real]] (.bool (otherL l x)) := by
  have hl := h.len
  refine ans_of T (l := [.slice A l.length c, .agg #[.string x.Name, .int .i64 x.Ver.Epoch, .int .i64 x.Ver.Seq, .int .i64 x.Pos, .int .i64 x.Sum, .int .i64 x.Real]]) mixed Try.func65 rfl (by kernel_rfl) (Nat.le_of_ble_eq_true rfl) ?_
  (conv => whnf)
  refine LoopK.mk {k : Nat // k ≤ l.length ∧ ∀ (j : Nat) (hj : j < l.length), j < k → ((l[j]'hj).List.any (unP x)) = false} (fun ⟨k, _⟩ => [(0, .v (.slice A l.length c)), (3, .p 0 0), (5, .v (.int .i64 (k : Int)))]) (fun _ => [(0, [.string x.Name, .int .i64 x.Ver.Epoch, .int .i64 x.Ver.Seq, .int .i64 x.Pos, .int .i64 x.Sum, .int .i64 x.Real])]) (fun _ => M) (fun k => l.length - k.1) ⟨0, Nat.zero_le _, fun j _ hj => absurd hj (by omega)⟩ ⟨⟨⟨rfl, rfl, rfl, trivial⟩, ⟨rfl, trivial⟩, rfl, rfl⟩, rfl⟩ ?_
  rintro ⟨k, hk, hp⟩
  (conv => whnf)
  refine CondK.mk (fun h1 => ?_) (fun h1 => ?_)
  · have hlt : k < l.length := by simpa using h1
    obtain ⟨y, hyk⟩ : ∃ y, l[k] = y := ⟨_, rfl⟩
    have hy : l[k]? = some y := by rw [List.getElem?_eq_getElem hlt, hyk]
    obtain ⟨ad, rfl, A0, c0, bny, s0, y0, y1⟩ := at_Report h hy
    have l0 := s0.len
    (conv => whnf)
    refine LoopK.mk {j : Nat // j ≤ y.List.length ∧ ∀ (i : Nat) (hi : i < y.List.length), i < j → unP x (y.List[i]'hi) = false} (fun ⟨j, _⟩ => [(0, .v (.slice (some ad) l.length c)), (3, .p 0 0), (5, .v (.int .i64 (k : Int))), (6, .v (.int .i64 (j : Int)))]) (fun _ => [(0, [.string x.Name, .int .i64 x.Ver.Epoch, .int .i64 x.Ver.Seq, .int .i64 x.Pos, .int .i64 x.Sum, .int .i64 x.Real])]) (fun _ => M) (fun k => y.List.length - k.1) ⟨0, Nat.zero_le _, fun j _ hj => absurd hj (by omega)⟩ ⟨⟨⟨rfl, rfl, rfl, rfl, trivial⟩, ⟨rfl, trivial⟩, rfl, rfl⟩, rfl⟩ ?_
    rintro ⟨j, hj, hq⟩
    repeat' ((conv => whnf); first | refine IdxK.mk _ rfl (by omega) (by omega) ?_ | refine LdK.mk _ (by assumption) ?_ | fail)
    refine CondK.mk (fun h2 => ?_) (fun h2 => ?_)
    · have hlt2 : j < y.List.length := by simpa using h2
      obtain ⟨q, hqj⟩ : ∃ q, y.List[j] = q := ⟨_, rfl⟩
      have hqq : y.List[j]? = some q := by rw [List.getElem?_eq_getElem hlt2, hqj]
      obtain ⟨ad2, rfl, bnq, z0, z1, z2, z3, z4, z5⟩ := at_Proof s0 hqq
      repeat' ((conv => whnf); first | with_reducible refine CondK.tt ?_ | with_reducible refine CondK.ff ?_ | refine IdxK.mk _ rfl (by omega) (by omega) ?_ | refine LdK.mk _ (by assumption) ?_ | refine CondK.mk (fun hc => ?_) (fun hc => ?_) | fail)
      all_goals first
        | (have hu : unP x q = true := by unfold unP; simp_all
           refine ret_bool ?_
           exact (List.any_eq_true.2 ⟨y, hyk ▸ List.getElem_mem hlt, List.any_eq_true.2 ⟨q, hqj ▸ List.getElem_mem hlt2, hu⟩⟩).symm)
        | (have hu : unP x q = false := by unfold unP; simp_all
           exact ⟨⟨j + 1, hlt2, fun i hi hi' => by rcases Nat.lt_succ_iff_lt_or_eq.mp hi' with hi' | rfl; exact hq i hi hi'; rw [hqj]; exact hu⟩, ⟨⟨rfl, rfl, rfl, look_int (i64_succ (by omega)), trivial⟩, ⟨rfl, trivial⟩, rfl, rfl⟩, rfl, by simp; omega⟩)
    · have he : j = y.List.length := by have : ¬ j < y.List.length := by simpa using h2
                                        omega
      subst he
      have hu : y.List.any (unP x) = false := by
        rw [List.any_eq_false]
        intro z hz
        obtain ⟨i, hi, rfl⟩ := List.getElem_of_mem hz
        rw [hq i hi hi]; decide
      exact ⟨⟨k + 1, hlt, fun j hj hj' => by rcases Nat.lt_succ_iff_lt_or_eq.mp hj' with hj' | rfl; exact hp j hj hj'; rw [hyk]; exact hu⟩, ⟨⟨rfl, rfl, look_int (i64_succ (by omega)), trivial⟩, ⟨rfl, trivial⟩, rfl, rfl⟩, rfl, by simp; omega⟩
  · have he : k = l.length := by have : ¬ k < l.length := by simpa using h1
                                 omega
    subst he
    refine ret_bool ?_
    symm
    show (l.any fun o => o.List.any (unP x)) = false
    rw [List.any_eq_false]
    intro z hz
    obtain ⟨i, hi, rfl⟩ := List.getElem_of_mem hz
    rw [hp i hi hi]; decide
theorem sUnlike_a (M : Mem) (l : List GReport) (A : Option Addr) (c : Nat) (h : SlR M RReport 2 32 A c l) : AnsR Try.prog M 20 #[.slice A l.length c] (fun M' v => ∃ A' c', v = .tuple #[.slice A' (mkAll (unIs l) l).length c', .int .i64 (if reportsF l = true then 0 else 1)] ∧ SlR M' RBad 5 48 A' c' (mkAll (unIs l) l)) := by
  have hl := h.len
  refine ansR_of T (l := [.slice A l.length c]) mixed Try.func20 rfl (by kernel_rfl) (Nat.le_of_ble_eq_true rfl) ?_
  cases h2 : reportsF l with
  | false =>
    have e' : mkAll (unIs l) l = [] := by unfold mkAll; rw [h2]; rfl
    repeat' ((conv => whnf); first | with_reducible refine CondK.tt ?_ | with_reducible refine CondK.ff ?_ | refine CallK.mk (.bool false) (h2 ▸ l26All_a M l A c h) ?_ | refine DrawN.q (by kernel_rfl) ?_ | fail)
    exact RetK.mk fun g M' hl hg => ⟨_, _, by rw [e']; rfl, slR_eq SlR.nil e'.symm⟩
  | true =>
  have e' : mkAll (unIs l) l = mkTo (unIs l) l l.length := by unfold mkAll; rw [h2]; rfl
  rw [e']
  have hn := reports_len h2
  have hs : ∀ y ∈ l, y.List.length ≤ 160 := fun y hy => report_small h2 hy
  generalize his : (unIs l) = is0
  repeat' ((conv => whnf); first | with_reducible refine CondK.tt ?_ | with_reducible refine CondK.ff ?_ | refine CallK.mk (.bool true) (h2 ▸ l26All_a M l A c h) ?_ | fail)
  refine LoopK.sw 0 1 {q : Nat × Nat × List Value // q.1 ≤ l.length ∧ (mkTo is0 l q.1).length ≤ q.2.1 ∧ RowR M RBad 5 (mkTo is0 l q.1) q.2.2} (fun ⟨⟨k, cap, ds⟩, _⟩ => [(0, .v (.slice A l.length c)), (4, .s 0 (mkTo is0 l k).length cap 5), (5, .v (.int .i64 (k : Int)))]) (fun ⟨⟨k, cap, ds⟩, _⟩ => [(0, ds)]) (fun _ => M) (fun q => l.length - q.1.1) ⟨(0, 0, []), Nat.zero_le _, Nat.le_refl _, RowR.nil⟩ 0 ⟨⟨⟨rfl, rfl, rfl, trivial⟩, ⟨rfl, trivial⟩, rfl, rfl⟩, rfl⟩ ?_
  rintro ⟨⟨k, cap, ds⟩, hk, hcap, hr⟩
  replace hk : k ≤ l.length := hk
  replace hcap : (mkTo is0 l k).length ≤ cap := hcap
  replace hr : RowR M RBad 5 (mkTo is0 l k) ds := hr
  have hsl := mkTo_len is0 hs k hk
  (conv => whnf)
  refine CondK.mk (fun h1 => ?_) (fun h1 => ?_)
  · have hlt : k < l.length := by simpa using h1
    obtain ⟨y, hyk⟩ : ∃ y, l[k] = y := ⟨_, rfl⟩
    have hy : l[k]? = some y := by rw [List.getElem?_eq_getElem hlt, hyk]
    have hyl : y ∈ l := List.mem_of_getElem? hy
    have hy1 := hs y hyl
    obtain ⟨ad, rfl, A0, c0, bnx, s0, x0, x1⟩ := at_Report h hy
    have hss : mkTo is0 l (k + 1) = mkTo is0 l k ++ mkN is0 y y.List.length := by rw [mkTo_step hlt, hyk]
    have h00 : mkTo is0 l k ++ mkN is0 y 0 = mkTo is0 l k := by simp [mkN]
    (conv => whnf)
    refine LoopK.sw 0 1 {q : Nat × Nat × List Value // q.1 ≤ y.List.length ∧ (mkTo is0 l k ++ mkN is0 y q.1).length ≤ q.2.1 ∧ RowR M RBad 5 (mkTo is0 l k ++ mkN is0 y q.1) q.2.2} (fun ⟨⟨j, cap, ds⟩, _⟩ => [(0, .v (.slice (some ad) l.length c)), (4, .s 0 (mkTo is0 l k ++ mkN is0 y j).length cap 5), (5, .v (.int .i64 (k : Int))), (6, .v (.int .i64 (j : Int)))]) (fun ⟨⟨j, cap, ds⟩, _⟩ => [(0, ds)]) (fun _ => M) (fun q => y.List.length - q.1.1) ⟨(0, cap, ds), Nat.zero_le _, by rw [h00]; exact hcap, by rw [h00]; exact hr⟩ 0 ⟨⟨⟨rfl, congrArg (fun t => some (PV.s 0 t cap 5)) (by rw [h00]), rfl, rfl, trivial⟩, ⟨rfl, trivial⟩, rfl, rfl⟩, rfl⟩ ?_
    rintro ⟨⟨j, cap2, ds2⟩, hj, hcap2, hr2⟩
    replace hj : j ≤ y.List.length := hj
    replace hcap2 : (mkTo is0 l k ++ mkN is0 y j).length ≤ cap2 := hcap2
    replace hr2 : RowR M RBad 5 (mkTo is0 l k ++ mkN is0 y j) ds2 := hr2
    have hsn := mkN_len is0 y j
    have hlen2 : (mkTo is0 l k ++ mkN is0 y j).length ≤ 4000 := by rw [List.length_append]; omega
    repeat' ((conv => whnf); first | refine IdxK.mk _ rfl (by omega) (by omega) ?_ | refine LdK.mk _ (by assumption) ?_ | fail)
    refine CondK.mk (fun h2 => ?_) (fun h2 => ?_)
    · have hlt2 : j < y.List.length := by simpa using h2
      have e := mkN_step (is := is0) hlt2
      obtain ⟨p, hpj⟩ : ∃ p, y.List[j] = p := ⟨_, rfl⟩
      have hp : y.List[j]? = some p := by rw [List.getElem?_eq_getElem hlt2, hpj]
      rw [hpj] at e
      obtain ⟨ad2, rfl, bnp, z0, z1, z2, z3, z4, z5⟩ := at_Proof s0 hp
      cases hq : is0 y p with
      | false =>
        rw [hq, if_neg (by decide), List.append_nil] at e
        have hq' : otherL l p = false := by rw [← hq, ← his]; rfl
        repeat' ((conv => whnf); first | refine IdxK.mk _ rfl (by omega) (by omega) ?_ | refine LdK.mk _ (by assumption) ?_ | refine CallK.mk (.bool false) (hq' ▸ l26Other_a M l _ c h p) ?_ | with_reducible refine CondK.ff ?_ | fail)
        refine ⟨⟨(j + 1, cap2, ds2), hlt2, ?_, ?_⟩, 0, ⟨⟨rfl, congrArg (fun t => some (PV.s 0 t cap2 5)) ?_, rfl, look_int (i64_succ (by omega)), trivial⟩, ⟨rfl, trivial⟩, rfl, rfl⟩, rfl, by simp; omega⟩
        · show (mkTo is0 l k ++ mkN is0 y (j + 1)).length ≤ cap2
          rw [e]; exact hcap2
        · show RowR M RBad 5 (mkTo is0 l k ++ mkN is0 y (j + 1)) _
          rw [e]; exact hr2
        · rw [e]
      | true =>
        rw [hq, if_pos rfl] at e
        have e2 : mkTo is0 l k ++ mkN is0 y (j + 1) = (mkTo is0 l k ++ mkN is0 y j) ++ [badF y p] := by rw [e, List.append_assoc]
        have hq' : otherL l p = true := by rw [← hq, ← his]; rfl
        repeat' ((conv => whnf); first | refine IdxK.mk _ rfl (by omega) (by omega) ?_ | refine LdK.mk _ (by assumption) ?_ | refine CallK.mk (.bool true) (hq' ▸ l26Other_a M l _ c h p) ?_ | with_reducible refine CondK.tt ?_ | fail)
        refine DrawN.a {cap3 : Nat // (mkTo is0 l k ++ mkN is0 y j).length + 1 ≤ cap3} (fun ⟨cap3, _⟩ => [(0, .v (.slice (some ad) l.length c)), (4, .s 3 ((mkTo is0 l k ++ mkN is0 y j).length + 1) cap3 5), (5, .v (.int .i64 (k : Int))), (6, .v (.int .i64 (j : Int)))]) (fun _ => [(3, ds2 ++ [.int .i64 y.From, .string p.Name, .int .i64 p.Ver.Epoch, .int .i64 p.Ver.Seq, .int .i64 p.Pos])]) 4 (fun _ => M) ?_ ?_
        · repeat' ((conv => whnf); first | refine AndK.mk ?_ ?_ | refine IdxK.mk _ rfl (by omega) (by omega) ?_ | refine LdK.mk _ (by assumption) ?_ | refine CallK.mk _ (l26Bad_a _ _ p) ?_ | refine AppK.mk (by show (2 * _ + 512) * 48 ≤ 281474976710656; omega) (by omega) (.inr rfl) (by first | exact hr2.all | rfl) (fun cap3 hcap3 => ?_) | fail)
          all_goals exact ⟨⟨cap3, hcap3⟩, ⟨⟨rfl, rfl, rfl, rfl, trivial⟩, ⟨rfl, trivial⟩, rfl, rfl⟩, rfl⟩
        rintro ⟨cap3, hcap3⟩
        (conv => whnf)
        refine ⟨⟨(j + 1, cap3, ds2 ++ [.int .i64 y.From, .string p.Name, .int .i64 p.Ver.Epoch, .int .i64 p.Ver.Seq, .int .i64 p.Pos]), hlt2, ?_, ?_⟩, 3, ⟨⟨rfl, congrArg (fun t => some (PV.s 3 t cap3 5)) ?_, rfl, look_int (i64_succ (by omega)), trivial⟩, ⟨rfl, trivial⟩, rfl, rfl⟩, rfl, by simp; omega⟩
        · show (mkTo is0 l k ++ mkN is0 y (j + 1)).length ≤ cap3
          rw [e2, List.length_append]
          exact hcap3
        · show RowR M RBad 5 (mkTo is0 l k ++ mkN is0 y (j + 1)) _
          rw [e2]
          exact hr2.app (RowR.one (x := badF y p) ⟨rfl, bnp⟩ rfl rfl)
        · rw [e2]
          simp only [List.length_append, List.length_singleton]
    · have he : j = y.List.length := by have : ¬ j < y.List.length := by simpa using h2
                                        omega
      subst he
      refine ⟨⟨(k + 1, cap2, ds2), hlt, ?_, ?_⟩, 0, ⟨⟨rfl, congrArg (fun t => some (PV.s 0 t cap2 5)) ?_, look_int (i64_succ (by omega)), trivial⟩, ⟨rfl, trivial⟩, rfl, rfl⟩, rfl, by simp; omega⟩
      · show (mkTo is0 l (k + 1)).length ≤ cap2
        rw [hss]; exact hcap2
      · show RowR M RBad 5 (mkTo is0 l (k + 1)) _
        rw [hss]; exact hr2
      · rw [hss]
  · have he : k = l.length := by have : ¬ k < l.length := by simpa using h1
                                 omega
    subst he
    exact RetK.mk fun g M' hl hg => ⟨_, _, rfl, row_out hr rfl (fun _ _ h => h) (hg 0 _ rfl) hcap (by omega)⟩
end Go.Proofs.Ytgdglbjoaipfpaa.Hlp
