/- Scrub reports by the light walk. -/
import Derived.Test.YtgdglbjoaipfpaaFunJ
namespace Go.Proofs.Ytgdglbjoaipfpaa.Hlp
open Go Go.RowKit Go.Proofs Go.Proofs.Ytgdglbjoaipfpaa.Lw
set_option linter.unusedVariables false
set_option linter.unusedSimpArgs false
set_option maxRecDepth 100000
set_option maxHeartbeats 4000000
theorem isNodeY_a (M : Mem) (n : Int) : Ans Try.prog M 123 #[.int .i64 n] (.bool (inR n 0 15)) := by
  refine ans_of T (l := [.int .i64 n]) mixed Try.func123 rfl (by kernel_rfl) (Nat.le_of_ble_eq_true rfl) ?_
  repeat' ((conv => whnf); first | refine CallK.mk _ (between_a _ _ _ _) ?_ | fail)
  exact ret_bool rfl
theorem isPlaceY_a (M : Mem) (n : Int) : Ans Try.prog M 122 #[.int .i64 n] (.bool (inR n 0 6)) := by
  refine ans_of T (l := [.int .i64 n]) mixed Try.func122 rfl (by kernel_rfl) (Nat.le_of_ble_eq_true rfl) ?_
  repeat' ((conv => whnf); first | refine CallK.mk _ (between_a _ _ _ _) ?_ | fail)
  exact ret_bool rfl
theorem realVerY_a (M : Mem) (v : GVer) : Ans Try.prog M 121 #[.agg #[.int .i64 v.Epoch, .int .i64 v.Seq]] (.bool (fullF v)) := by
  refine ans_of T (l := [.agg #[.int .i64 v.Epoch, .int .i64 v.Seq]]) mixed Try.func121 rfl (by kernel_rfl) (Nat.le_of_ble_eq_true rfl) ?_
  repeat' ((conv => whnf); first | with_reducible refine CondK.tt ?_ | with_reducible refine CondK.ff ?_ | refine CallK.mk _ (verOk_a _ v) ?_ | refine CallQ.mk _ (verOk_a _ v) ?_ | refine DrawN.q (by kernel_rfl) ?_ | refine CondK.mk (fun hc => ?_) (fun hc => ?_) | fail)
  all_goals refine ret_bool ?_
  all_goals (unfold fullF; rw [← eqv_Ver]; simp_all)
theorem l24PosY_a (M : Mem) (n : Int) : Ans Try.prog M 127 #[.int .i64 n] (.bool (inR n 0 6)) := by
  refine ans_of T (l := [.int .i64 n]) mixed Try.func127 rfl (by kernel_rfl) (Nat.le_of_ble_eq_true rfl) ?_
  repeat' ((conv => whnf); first | refine CallK.mk _ (l00In_a _ _ _ _) ?_ | fail)
  exact ret_bool rfl
def keyF (p : GProof) : GChunk := ⟨p.Name, p.Ver, p.Pos, 0, ⟨#[]⟩⟩
def cmpProof (a b : GProof) : Int := orF [cmpS a.Name b.Name, cmpVer a.Ver b.Ver, cmpI a.Pos b.Pos]
theorem cmpProof_less (a b : GProof) : decide (cmpProof a b < 0) = chunkLessF (keyF a) (keyF b) := cmpChunk_less (keyF a) (keyF b)
theorem compareProofs_a (M : Mem) (a b : GProof) : Ans Try.prog M 72 #[.agg #[.string a.Name, .int .i64 a.Ver.Epoch, .int .i64 a.Ver.Seq, .int .i64 a.Pos, .int .i64 a.Sum, .int .i64 a.Real], .agg #[.string b.Name, .int .i64 b.Ver.Epoch, .int .i64 b.Ver.Seq, .int .i64 b.Pos, .int .i64 b.Sum, .int .i64 b.Real]] (.int .i64 (cmpProof a b)) := by
  refine ans_of T (l := [.agg #[.string a.Name, .int .i64 a.Ver.Epoch, .int .i64 a.Ver.Seq, .int .i64 a.Pos, .int .i64 a.Sum, .int .i64 a.Real], .agg #[.string b.Name, .int .i64 b.Ver.Epoch, .int .i64 b.Ver.Seq, .int .i64 b.Pos, .int .i64 b.Sum, .int .i64 b.Real]]) mixed Try.func72 rfl (by kernel_rfl) (Nat.le_of_ble_eq_true rfl) ?_
  (conv => whnf)
  refine DrawN.t 15 (by kernel_rfl) ?_
  repeat' ((conv => whnf); first | refine CallQ.mk _ (stringsCompare_a _ a.Name b.Name) ?_ | refine CallQ.mk _ (compareVers_a _ a.Ver b.Ver) ?_ | refine CallQ.mk _ (cmpInt64_a _ a.Pos b.Pos) ?_ | fail)
  refine PubK.mk fun ad M' hl hg => ?_
  (conv => whnf)
  refine CallK.mk _ (or_a M' [cmpS a.Name b.Name, cmpVer a.Ver b.Ver, cmpI a.Pos b.Pos] (some ad) 3 (slInts (M := M') (ad := ad) [cmpS a.Name b.Name, cmpVer a.Ver b.Ver, cmpI a.Pos b.Pos] hg (by simp))) ?_
  (conv => whnf)
  exact ret_int rfl
theorem l26Key_a (M : Mem) (a : GProof) : Ans Try.prog M 119 #[.agg #[.string a.Name, .int .i64 a.Ver.Epoch, .int .i64 a.Ver.Seq, .int .i64 a.Pos, .int .i64 a.Sum, .int .i64 a.Real]] (.agg #[.string a.Name, .int .i64 a.Ver.Epoch, .int .i64 a.Ver.Seq, .int .i64 a.Pos, .int .i64 0, .string ⟨#[]⟩]) := by
  refine ans_of T (l := [.agg #[.string a.Name, .int .i64 a.Ver.Epoch, .int .i64 a.Ver.Seq, .int .i64 a.Pos, .int .i64 a.Sum, .int .i64 a.Real]]) mixed Try.func119 rfl (by kernel_rfl) (Nat.le_of_ble_eq_true rfl) ?_
  repeat' ((conv => whnf); first | refine DrawN.q (by kernel_rfl) ?_ | fail)
  exact rfl
def proofOkF (x : GProof) : Bool := nameOkF x.Name && fullF x.Ver && inR x.Pos 0 6 && inR x.Sum 0 4294967295 && inR x.Real 0 4294967295
theorem l26Proof_a (M : Mem) (x : GProof) (hb : x.Name.size ≤ 9223372036854775807) : Ans Try.prog M 118 #[.agg #[.string x.Name, .int .i64 x.Ver.Epoch, .int .i64 x.Ver.Seq, .int .i64 x.Pos, .int .i64 x.Sum, .int .i64 x.Real]] (.bool (proofOkF x)) := by
  refine ans_of T (l := [.agg #[.string x.Name, .int .i64 x.Ver.Epoch, .int .i64 x.Ver.Seq, .int .i64 x.Pos, .int .i64 x.Sum, .int .i64 x.Real]]) mixed Try.func118 rfl (by kernel_rfl) (Nat.le_of_ble_eq_true rfl) ?_
  repeat' ((conv => whnf); first | with_reducible refine CondK.tt ?_ | with_reducible refine CondK.ff ?_ | refine LdK.mk _ (by assumption) ?_ | refine DrawN.q (by kernel_rfl) ?_ | refine CallK.mk _ (l09Name_a _ _ hb) ?_ | refine CallQ.mk _ (l09Name_a _ _ hb) ?_ | refine CallK.mk _ (l17Full_a _ x.Ver) ?_ | refine CallQ.mk _ (l17Full_a _ x.Ver) ?_ | refine CallK.mk _ (l24PosY_a _ _) ?_ | refine CallQ.mk _ (l24PosY_a _ _) ?_ | refine CallK.mk _ (l17Sum_a _ _) ?_ | refine CallQ.mk _ (l17Sum_a _ _) ?_ | refine GuardK.mk (fun h => ?_) (fun h => ?_) | refine CondK.mk (fun h => ?_) (fun h => ?_) | fail)
  all_goals refine ret_bool ?_
  all_goals (unfold proofOkF; simp_all)
def proofF (l : List GProof) (k : Nat) : Bool :=
  match l[k]? with
  | some x => proofOkF x && !(decide (0 < k) && match l[k - 1]? with | some y => !chunkLessF (keyF y) (keyF x) | none => false)
  | none => true
theorem proofF_at {l : List GProof} {k : Nat} {x y : GProof} (hx : l[k]? = some x) (hy : l[k - 1]? = some y) : proofF l k = (proofOkF x && !(decide (0 < k) && !chunkLessF (keyF y) (keyF x))) := by
  unfold proofF
  rw [hx, hy]
def reportOkF (r : GReport) : Bool := allR r.List.length (proofF r.List) && inR r.From 0 15 && decide ((r.List.length : Int) ≤ 160)
def reportF (l : List GReport) (k : Nat) : Bool :=
  match l[k]? with
  | some x => reportOkF x && !(decide (0 < k) && match l[k - 1]? with | some y => decide (x.From ≤ y.From) | none => false)
  | none => true
theorem reportF_at {l : List GReport} {k : Nat} {x y : GReport} (hx : l[k]? = some x) (hy : l[k - 1]? = some y) : reportF l k = (reportOkF x && !(decide (0 < k) && decide (x.From ≤ y.From))) := by
  unfold reportF
  rw [hx, hy]
def reportsF (l : List GReport) : Bool := allR l.length (reportF l)
theorem reports_from {l : List GReport} : ∀ (k : Nat), (∀ j, j ≤ k → reportF l j = true) → ∀ (hk : k < l.length), (k : Int) ≤ l[k].From ∧ l[k].From ≤ 15
  | 0, h, hk => by
    have h1 := h 0 (Nat.le_refl _)
    rw [reportF_at (List.getElem?_eq_getElem hk) (List.getElem?_eq_getElem hk)] at h1
    simp only [Bool.and_eq_true, reportOkF, inR, decide_eq_true_eq] at h1
    exact ⟨h1.1.1.2.1, h1.1.1.2.2⟩
  | k + 1, h, hk => by
    have ih := reports_from k (fun j hj => h j (by omega)) (by omega)
    have h1 := h (k + 1) (Nat.le_refl _)
    rw [reportF_at (List.getElem?_eq_getElem hk) (y := l[k]'(by omega)) (by rw [show k + 1 - 1 = k by omega]; exact List.getElem?_eq_getElem (by omega))] at h1
    simp only [Bool.and_eq_true, reportOkF, inR, decide_eq_true_eq, Bool.not_eq_true', Bool.and_eq_false_iff, decide_eq_false_iff_not] at h1
    have := h1.2
    exact ⟨by omega, h1.1.1.2.2⟩
theorem reports_len {l : List GReport} (h : reportsF l = true) : l.length ≤ 16 := by
  rcases Nat.lt_or_ge 16 l.length with h1 | h1
  · have := reports_from (l := l) 16 (fun j hj => allR_get h (by omega)) h1
    omega
  · exact h1
theorem report_small {l : List GReport} (h : reportsF l = true) {y : GReport} (hy : y ∈ l) : y.List.length ≤ 160 := by
  obtain ⟨j, hj, rfl⟩ := List.getElem_of_mem hy
  have h1 := allR_get h hj
  rw [reportF_at (List.getElem?_eq_getElem hj) (y := l[j - 1]'(by omega)) (List.getElem?_eq_getElem (by omega))] at h1
  simp only [Bool.and_eq_true, reportOkF, decide_eq_true_eq] at h1
  omega
/-- What is found in the reports: a list as far as report k, and its proofs as far as j. -/
def badF (r : GReport) (p : GProof) : GBad := ⟨r.From, p.Name, p.Ver, p.Pos⟩
def mkN (is : GReport → GProof → Bool) (r : GReport) (j : Nat) : List GBad := ((r.List.take j).filter (is r)).map (badF r)
def mkTo (is : GReport → GProof → Bool) (l : List GReport) (k : Nat) : List GBad := (l.take k).flatMap fun r => mkN is r r.List.length
theorem mkN_step {is : GReport → GProof → Bool} {r : GReport} {j : Nat} (h : j < r.List.length) : mkN is r (j + 1) = mkN is r j ++ (if is r r.List[j] = true then [badF r r.List[j]] else []) := by
  unfold mkN
  rw [List.take_succ_eq_append_getElem h, List.filter_append, List.map_append]
  congr 1
  cases h : is r r.List[j] <;> simp [h]
theorem mkN_len (is : GReport → GProof → Bool) (r : GReport) (j : Nat) : (mkN is r j).length ≤ r.List.length := by
  unfold mkN
  rw [List.length_map]
  exact Nat.le_trans (List.length_filter_le _ _) (by rw [List.length_take]; omega)
theorem mkTo_step {is : GReport → GProof → Bool} {l : List GReport} {k : Nat} (h : k < l.length) : mkTo is l (k + 1) = mkTo is l k ++ mkN is l[k] l[k].List.length := by
  unfold mkTo
  rw [List.take_succ_eq_append_getElem h, List.flatMap_append]
  simp
theorem mkTo_len (is : GReport → GProof → Bool) {l : List GReport} (hs : ∀ y ∈ l, y.List.length ≤ 160) : ∀ k, k ≤ l.length → (mkTo is l k).length ≤ 160 * k
  | 0, _ => by simp [mkTo]
  | k + 1, h => by
    rw [mkTo_step (by omega), List.length_append]
    have := mkTo_len is hs k (by omega)
    have := mkN_len is l[k] l[k].List.length
    have := hs l[k] (List.getElem_mem (by omega))
    omega
def mkAll (is : GReport → GProof → Bool) (l : List GReport) : List GBad := if reportsF l = true then mkTo is l l.length else []
theorem mkAll_len (is : GReport → GProof → Bool) (l : List GReport) : (mkAll is l).length ≤ 4000 := by
  unfold mkAll
  split
  · rename_i h
    have := mkTo_len is (fun y hy => report_small h hy) l.length (Nat.le_refl _)
    have := reports_len h
    omega
  · simp
theorem reportOkY_a (M : Mem) (r : GReport) (cs : List Value) (h : RReport M r cs) : Ans Try.prog M 105 #[.agg cs.toArray] (.bool (reportOkF r)) := by
  obtain ⟨A0, c0, rfl, hb, s0⟩ := h
  have l0 := s0.len
  refine ans_of T (l := [.agg (List.toArray _)]) mixed Try.func105 rfl (by kernel_rfl) (Nat.le_of_ble_eq_true rfl) ?_
  (conv => whnf)
  refine LoopK.mk {k : Nat // k ≤ r.List.length ∧ ∀ j, j < k → proofF r.List j = true} (fun ⟨k, _⟩ => [(1, .p 0 0), (6, .v (.slice A0 r.List.length c0)), (7, .v (.int .i64 (r.List.length : Int))), (8, .v (.int .i64 (k : Int)))]) (fun _ => [(0, _)]) (fun _ => M) (fun k => r.List.length - k.1) ⟨0, Nat.zero_le _, fun j hj => absurd hj (by omega)⟩ ⟨⟨⟨rfl, rfl, rfl, rfl, trivial⟩, ⟨rfl, trivial⟩, rfl, rfl⟩, rfl⟩ ?_
  rintro ⟨k, hk, ha⟩
  (conv => whnf)
  refine CondK.mk (fun h1 => ?_) (fun h1 => ?_)
  · have hlt : k < r.List.length := by simpa using h1
    have hx := List.getElem?_eq_getElem hlt
    obtain ⟨ad, rfl, bnx, x0, x1, x2, x3, x4, x5⟩ := at_Proof s0 hx
    obtain ⟨p, hp⟩ : ∃ p, p = k - 1 := ⟨_, rfl⟩
    have hpl : p < r.List.length := by omega
    have hy := List.getElem?_eq_getElem hpl
    obtain ⟨_, hae, bny, y0, y1, y2, y3, y4, y5⟩ := at_Proof s0 hy
    cases hae
    have hf := proofF_at hx (by rw [← hp]; exact hy)
    rw [← cmpProof_less] at hf
    unfold proofOkF at hf
    repeat' ((conv => whnf); first | with_reducible refine CondK.tt ?_ | with_reducible refine CondK.ff ?_ | with_reducible refine CondK.not ?_ | refine LdK.mk _ (by assumption) ?_ | refine IdxK.mk _ rfl (by omega) (by omega) ?_ | refine IdxK.at p _ (i64_pred hp (by simpa using h) (by omega)) rfl hpl ?_ | refine DrawN.q (by kernel_rfl) ?_ | refine CallK.mk _ (nameOk_a _ _ bnx) ?_ | refine CallK.mk _ (realVerY_a _ r.List[k].Ver) ?_ | refine CallK.mk _ (isPlaceY_a _ _) ?_ | refine CallK.mk _ (between_a _ _ _ _) ?_ | refine CallQ.mk _ (nameOk_a _ _ bnx) ?_ | refine CallQ.mk _ (realVerY_a _ r.List[k].Ver) ?_ | refine CallQ.mk _ (isPlaceY_a _ _) ?_ | refine CallQ.mk _ (between_a _ _ _ _) ?_ | refine CallQ.mk _ (compareProofs_a _ r.List[p] r.List[k]) ?_ | refine GuardK.mk (fun h => ?_) (fun h => ?_) | refine CondK.mk (fun h => ?_) (fun h => ?_) | fail)
    all_goals first
      | (have hf : proofF r.List k = true := by rw [hf]; clear hf ha; (simp_all <;> (try intro h2 h3) <;> (try simp_all) <;> omega)
         exact ⟨⟨k + 1, hlt, allR_step ha hf⟩, ⟨⟨rfl, rfl, rfl, look_int (i64_succ (by omega)), trivial⟩, ⟨rfl, trivial⟩, rfl, rfl⟩, rfl, by simp; omega⟩)
      | (have hf : proofF r.List k = false := by rw [hf]; clear hf ha; (simp_all <;> (try intro h2) <;> (try simp_all) <;> omega)
         refine ret_bool ?_
         rw [reportOkF, allR_no hlt hf]; rfl)
  have e0 : allR r.List.length (proofF r.List) = true := allR_yes fun j hj => ha j (Nat.lt_of_lt_of_le hj (by simpa using h1))
  repeat' ((conv => whnf); first | with_reducible refine CondK.tt ?_ | with_reducible refine CondK.ff ?_ | refine LdK.mk _ (by assumption) ?_ | refine DrawN.q (by kernel_rfl) ?_ | refine CallK.mk _ (isNodeY_a _ _) ?_ | refine CallQ.mk _ (isNodeY_a _ _) ?_ | refine GuardK.mk (fun h => ?_) (fun h => ?_) | refine CondK.mk (fun h => ?_) (fun h => ?_) | fail)
  all_goals refine ret_bool ?_
  all_goals (rw [reportOkF, e0]; (first | rfl | simp_all))
theorem l26OK_a (M : Mem) (r : GReport) (cs : List Value) (h : RReport M r cs) : Ans Try.prog M 103 #[.agg cs.toArray] (.bool (reportOkF r)) := by
  obtain ⟨A0, c0, rfl, hb, s0⟩ := h
  have l0 := s0.len
  refine ans_of T (l := [.agg (List.toArray _)]) mixed Try.func103 rfl (by kernel_rfl) (Nat.le_of_ble_eq_true rfl) ?_
  cases hA : inR r.From 0 15 with
  | false =>
    have e : reportOkF r = false := by unfold reportOkF; rw [hA]; simp
    repeat' ((conv => whnf); first | refine CallK.mk (.bool false) (hA ▸ l00In_a _ _ _ _) ?_ | with_reducible refine CondK.tt ?_ | with_reducible refine CondK.ff ?_ | fail)
    exact ret_bool (by rw [e])
  | true =>
  by_cases h160 : r.List.length > 160
  · have e : reportOkF r = false := by unfold reportOkF; rw [decide_eq_false (show ¬ ((r.List.length : Int) ≤ 160) by omega)]; simp
    repeat' ((conv => whnf); first | refine CallK.mk (.bool true) (hA ▸ l00In_a _ _ _ _) ?_ | with_reducible refine CondK.tt ?_ | with_reducible refine CondK.ff ?_ | refine CondK.yes' (show decide ((r.List.length : Int) > 160) = true from decide_eq_true (by omega)) ?_ | fail)
    exact ret_bool (by rw [e])
  have eR : reportOkF r = allR r.List.length (proofF r.List) := by unfold reportOkF; rw [hA, decide_eq_true (show ((r.List.length : Int) ≤ 160) by omega)]; simp
  rw [eR]
  repeat' ((conv => whnf); first | refine CallK.mk (.bool true) (hA ▸ l00In_a _ _ _ _) ?_ | with_reducible refine CondK.tt ?_ | with_reducible refine CondK.ff ?_ | refine CondK.no' (show decide ((r.List.length : Int) > 160) = false from decide_eq_false (by omega)) ?_ | fail)
  refine LoopK.mk {k : Nat // k ≤ r.List.length ∧ ∀ j, j < k → proofF r.List j = true} (fun ⟨k, _⟩ => [(1, .p 0 0), (3, .v (.int .i64 (k : Int)))]) (fun _ => [(0, _)]) (fun _ => M) (fun k => r.List.length - k.1) ⟨0, Nat.zero_le _, fun j hj => absurd hj (by omega)⟩ ⟨⟨⟨rfl, rfl, trivial⟩, ⟨rfl, trivial⟩, rfl, rfl⟩, rfl⟩ ?_
  rintro ⟨k, hk, ha⟩
  by_cases hlt : k < r.List.length
  · have hx := List.getElem?_eq_getElem hlt
    obtain ⟨ad, rfl, bnx, x0, x1, x2, x3, x4, x5⟩ := at_Proof s0 hx
    obtain ⟨p, hp⟩ : ∃ p, p = k - 1 := ⟨_, rfl⟩
    have hpl : p < r.List.length := by omega
    have hy := List.getElem?_eq_getElem hpl
    obtain ⟨_, hae, bny, y0, y1, y2, y3, y4, y5⟩ := at_Proof s0 hy
    cases hae
    have hf := proofF_at hx (by rw [← hp]; exact hy)
    repeat' ((conv => whnf); first | with_reducible refine CondK.tt ?_ | with_reducible refine CondK.ff ?_ | with_reducible refine CondK.not ?_ | refine LdK.mk _ (by assumption) ?_ | refine IdxK.mk _ rfl (by omega) (by omega) ?_ | refine IdxK.at p _ (i64_pred hp (by simpa using h) (by omega)) rfl hpl ?_ | refine DrawN.q (by kernel_rfl) ?_ | refine CallQ.mk _ (l26Proof_a _ r.List[k] bnx) ?_ | refine CallQ.mk _ (l26Key_a _ r.List[p]) ?_ | refine CallQ.mk _ (l26Key_a _ r.List[k]) ?_ | refine CallQ.mk _ (l17ChunkLess_a _ (keyF r.List[p]) (keyF r.List[k])) ?_ | refine CondK.yes' (show decide ((k : Int) < (r.List.length : Int)) = true from decide_eq_true (by omega)) ?_ | refine CondK.mk (fun h => ?_) (fun h => ?_) | fail)
    all_goals first
      | (have hf : proofF r.List k = true := by rw [hf]; clear hf ha; (simp_all <;> (try intro h2 h3) <;> (try simp_all) <;> omega)
         exact ⟨⟨k + 1, hlt, allR_step ha hf⟩, ⟨⟨rfl, look_int (i64_succ (by omega)), trivial⟩, ⟨rfl, trivial⟩, rfl, rfl⟩, rfl, by simp; omega⟩)
      | (have hf : proofF r.List k = false := by rw [hf]; clear hf ha; (simp_all <;> (try intro h2) <;> (try simp_all) <;> omega)
         refine ret_bool ?_
         rw [allR_no hlt hf])
  · have e0 : allR r.List.length (proofF r.List) = true := allR_yes fun j hj => ha j (by omega)
    repeat' ((conv => whnf); first | with_reducible refine CondK.tt ?_ | with_reducible refine CondK.ff ?_ | refine DrawN.q (by kernel_rfl) ?_ | refine CondK.no' (show decide ((k : Int) < (r.List.length : Int)) = false from decide_eq_false (by omega)) ?_ | fail)
    refine ret_bool ?_
    rw [e0]
theorem reportsOk_a (M : Mem) (l : List GReport) (A : Option Addr) (c : Nat) (h : SlR M RReport 2 32 A c l) : Ans Try.prog M 59 #[.slice A l.length c] (.bool (reportsF l)) := by
  have hl := h.len
  refine ans_of T (l := [.slice A l.length c]) mixed Try.func59 rfl (by kernel_rfl) (Nat.le_of_ble_eq_true rfl) ?_
  (conv => whnf)
  refine LoopK.mk {k : Nat // k ≤ l.length ∧ ∀ j, j < k → reportF l j = true} (fun ⟨k, _⟩ => [(0, .v (.slice A l.length c)), (5, .v (.slice A l.length c)), (6, .v (.int .i64 (l.length : Int))), (7, .v (.int .i64 (k : Int)))]) (fun _ => []) (fun _ => M) (fun k => l.length - k.1) ⟨0, Nat.zero_le _, fun j hj => absurd hj (by omega)⟩ ⟨⟨⟨rfl, rfl, rfl, rfl, trivial⟩, trivial, rfl, rfl⟩, rfl⟩ ?_
  rintro ⟨k, hk, ha⟩
  by_cases hlt : k < l.length
  · have hx := List.getElem?_eq_getElem hlt
    obtain ⟨ad, rfl, A0, c0, bnx, s0, x0, x1⟩ := at_Report h hx
    obtain ⟨p, hp⟩ : ∃ p, p = k - 1 := ⟨_, rfl⟩
    have hpl : p < l.length := by omega
    have hy := List.getElem?_eq_getElem hpl
    obtain ⟨_, hae, _, _, _, _, y0, _⟩ := at_Report h hy
    cases hae
    have hf := reportF_at hx (by rw [← hp]; exact hy)
    repeat' ((conv => whnf); first | with_reducible refine CondK.tt ?_ | with_reducible refine CondK.ff ?_ | refine LdK.mk _ (by assumption) ?_ | refine IdxK.mk _ rfl (by omega) (by omega) ?_ | refine IdxK.at p _ (i64_pred hp (by simpa using h) (by omega)) rfl hpl ?_ | refine DrawN.q (by kernel_rfl) ?_ | refine CallQ.mk _ (reportOkY_a _ l[k] _ ⟨_, _, rfl, trivial, s0⟩) ?_ | refine CondK.yes' (show decide ((k : Int) < (l.length : Int)) = true from decide_eq_true (by omega)) ?_ | refine CondK.mk (fun h => ?_) (fun h => ?_) | fail)
    all_goals first
      | (have hf : reportF l k = true := by rw [hf]; clear hf ha; (simp_all <;> (try intro h2 h3) <;> (try simp_all) <;> omega)
         exact ⟨⟨k + 1, hlt, allR_step ha hf⟩, ⟨⟨rfl, rfl, rfl, look_int (i64_succ (by omega)), trivial⟩, trivial, rfl, rfl⟩, rfl, by simp; omega⟩)
      | (have hf : reportF l k = false := by rw [hf]; clear hf ha; (simp_all <;> (try intro h2) <;> (try simp_all) <;> omega)
         refine ret_bool ?_
         rw [reportsF, allR_no hlt hf])
  · have e0 : allR l.length (reportF l) = true := allR_yes fun j hj => ha j (by omega)
    repeat' ((conv => whnf); first | with_reducible refine CondK.tt ?_ | with_reducible refine CondK.ff ?_ | refine DrawN.q (by kernel_rfl) ?_ | refine CondK.no' (show decide ((k : Int) < (l.length : Int)) = false from decide_eq_false (by omega)) ?_ | fail)
    refine ret_bool ?_
    rw [reportsF, e0]
theorem l26All_a (M : Mem) (l : List GReport) (A : Option Addr) (c : Nat) (h : SlR M RReport 2 32 A c l) : Ans Try.prog M 56 #[.slice A l.length c] (.bool (reportsF l)) := by
  have hl := h.len
  refine ans_of T (l := [.slice A l.length c]) mixed Try.func56 rfl (by kernel_rfl) (Nat.le_of_ble_eq_true rfl) ?_
  by_cases h16 : l.length > 16
  · have e : reportsF l = false := by
      cases hn : reportsF l with
      | false => rfl
      | true => have := reports_len hn; omega
    rw [e]
    repeat' ((conv => whnf); first | with_reducible refine CondK.tt ?_ | refine CondK.yes' (show decide ((l.length : Int) > 16) = true from decide_eq_true (by omega)) ?_ | fail)
    exact ret_bool rfl
  (conv => whnf)
  refine CondK.no' (show decide ((l.length : Int) > 16) = false from decide_eq_false (by omega)) ?_
  (conv => whnf)
  refine LoopK.mk {k : Nat // k ≤ l.length ∧ ∀ j, j < k → reportF l j = true} (fun ⟨k, _⟩ => [(0, .v (.slice A l.length c)), (3, .v (.int .i64 (k : Int)))]) (fun _ => []) (fun _ => M) (fun k => l.length - k.1) ⟨0, Nat.zero_le _, fun j hj => absurd hj (by omega)⟩ ⟨⟨⟨rfl, rfl, trivial⟩, trivial, rfl, rfl⟩, rfl⟩ ?_
  rintro ⟨k, hk, ha⟩
  by_cases hlt : k < l.length
  · have hx := List.getElem?_eq_getElem hlt
    obtain ⟨ad, rfl, A0, c0, bnx, s0, x0, x1⟩ := at_Report h hx
    obtain ⟨p, hp⟩ : ∃ p, p = k - 1 := ⟨_, rfl⟩
    have hpl : p < l.length := by omega
    have hy := List.getElem?_eq_getElem hpl
    obtain ⟨_, hae, _, _, _, _, y0, _⟩ := at_Report h hy
    cases hae
    have hf := reportF_at hx (by rw [← hp]; exact hy)
    repeat' ((conv => whnf); first | with_reducible refine CondK.tt ?_ | with_reducible refine CondK.ff ?_ | refine LdK.mk _ (by assumption) ?_ | refine IdxK.mk _ rfl (by omega) (by omega) ?_ | refine IdxK.at p _ (i64_pred hp (by simpa using h) (by omega)) rfl hpl ?_ | refine DrawN.q (by kernel_rfl) ?_ | refine CallQ.mk _ (l26OK_a _ l[k] _ ⟨_, _, rfl, trivial, s0⟩) ?_ | refine CondK.yes' (show decide ((k : Int) < (l.length : Int)) = true from decide_eq_true (by omega)) ?_ | refine CondK.mk (fun h => ?_) (fun h => ?_) | fail)
    all_goals first
      | (have hf : reportF l k = true := by rw [hf]; clear hf ha; (simp_all <;> (try intro h2 h3) <;> (try simp_all) <;> omega)
         exact ⟨⟨k + 1, hlt, allR_step ha hf⟩, ⟨⟨rfl, look_int (i64_succ (by omega)), trivial⟩, trivial, rfl, rfl⟩, rfl, by simp; omega⟩)
      | (have hf : reportF l k = false := by rw [hf]; clear hf ha; (simp_all <;> (try intro h2) <;> (try simp_all) <;> omega)
         refine ret_bool ?_
         rw [reportsF, allR_no hlt hf])
  · have e0 : allR l.length (reportF l) = true := allR_yes fun j hj => ha j (by omega)
    repeat' ((conv => whnf); first | with_reducible refine CondK.tt ?_ | with_reducible refine CondK.ff ?_ | refine DrawN.q (by kernel_rfl) ?_ | refine CondK.no' (show decide ((k : Int) < (l.length : Int)) = false from decide_eq_false (by omega)) ?_ | fail)
    refine ret_bool ?_
    rw [reportsF, e0]
end Go.Proofs.Ytgdglbjoaipfpaa.Hlp
