/- A state's heads at a version by the light walk. -/
import Derived.Test.YtefhbbmklpnpoaaGreatFunL
import Derived.Test.YtefhbbmklpnpoaaGreatIns
namespace Go.Proofs.YtefhbbmklpnpoaaGreat.Hlp
open Go Go.RowKit Go.Proofs Go.Proofs.YtefhbbmklpnpoaaGreat.Lw
set_option linter.unusedVariables false
set_option linter.unusedSimpArgs false
set_option maxRecDepth 100000
set_option maxHeartbeats 4000000
theorem aheadN_lt {α : Type} {p : α → Bool} : ∀ {l : List α} {j : Nat} (hj : j < aheadN p l) (hl : j < l.length), p l[j] = true
  | [], j, hj, hl => by simp at hl
  | x :: r, j, hj, hl => by
    simp only [aheadN] at hj
    split at hj
    · rename_i hx
      cases j with
      | zero => exact hx
      | succ j => simpa using aheadN_lt (p := p) (l := r) (j := j) (by omega) (by simpa using hl)
    · omega
theorem aheadN_end {α : Type} {p : α → Bool} : ∀ {l : List α} {y : α}, l[aheadN p l]? = some y → p y = false
  | [], y, h => by simp at h
  | x :: r, y, h => by
    simp only [aheadN] at h
    split at h
    · rename_i hx
      exact aheadN_end (p := p) (l := r) (by simpa using h)
    · rename_i hx
      simp only [List.getElem?_cons_zero, Option.some.injEq] at h
      subst h
      simpa using hx
def ixH (l : List GHead) (nm : ByteArray) : Nat := aheadN (fun y => bl y.Name nm) l
def hasH (l : List GHead) (k : Nat) (nm : ByteArray) : Bool :=
  match l[k]? with
  | some y => decide (cmpS y.Name nm = 0)
  | none => false
theorem RowN.mono {M0 N N' : Mem} {z n cap : Nat} {A : Option Addr} {ds : List Value} (h : RowN M0 N z A n cap ds) (hl : Le N N') : RowN M0 N' z A n cap ds := by
  rcases h with h | ⟨ad, h1, h2, h3⟩
  · exact .inl h
  · exact .inr ⟨ad, h1, h2.mono hl, h3⟩
theorem RowN.slS {α : Type} {M M1 N : Mem} {R : Mem → α → List Value → Prop} {z by_ cap : Nat} {A : Option Addr} {l : List α} {ds : List Value} (h : RowN M N z A l.length cap ds) (r : RowR M1 R z l ds) (hR : ∀ x cs, R M1 x cs → R (sub N M) x cs) (hl : l.length ≤ 9223372036854775807) : SlR (sub N M) R z by_ A cap l := by
  rcases h with ⟨_, hz, _⟩ | ⟨ad, rfl, hrc, hfr⟩
  · rw [List.eq_nil_of_length_eq_zero hz]; exact SlR.nil
  · have hno : ∀ o, M (ad.add o) = none := fun o => by
      cases hm : M (ad.add o) with
      | none => rfl
      | some w => exact absurd (add_block _ _) (hfr _ w hm)
    exact RowC.sl (M' := M1) ⟨hrc.len, hrc.le, fun o u hu => sub_of (hrc.el o u hu) (hno o), fun o ho => let ⟨u, hu⟩ := hrc.room o ho; ⟨u, sub_of hu (hno o)⟩⟩ r hR hl
theorem headAt1_a (M : Mem) (x : GHead) (nm : ByteArray) : Ans Tryz.prog M 160 #[.agg #[.string x.Name, .int .i64 x.Ver.Epoch, .int .i64 x.Ver.Seq, .int .i64 x.Size, .int .i64 x.Sum], .string nm] (.int .i64 (cmpS x.Name nm)) := by
  refine ans_of T (l := [.agg #[.string x.Name, .int .i64 x.Ver.Epoch, .int .i64 x.Ver.Seq, .int .i64 x.Size, .int .i64 x.Sum], .string nm]) mixed Tryz.func160 rfl (by kernel_rfl) (Nat.le_of_ble_eq_true rfl) ?_
  repeat' ((conv => whnf); first | refine CallK.mk _ (stringsCompare_a _ x.Name nm) ?_ | fail)
  exact ret_int rfl
theorem bsHead_a (M : Mem) (l : List GHead) (A : Option Addr) (c : Nat) (h : SlR M RHead 5 48 A c l) (hn : l.length ≤ 1048576) (hs : SortedH l) (nm : ByteArray) : Ans Tryz.prog M 159 #[.slice A l.length c, .string nm, .func (.func 160) #[] #[]] (.tuple #[.int .i64 (ixH l nm : Int), .bool (hasH l (ixH l nm) nm)]) := by
  have hl := h.len
  have hsort : ∀ i j (hi : i < j) (hj : j < l.length), bl (l[i]'(by omega)).Name l[j].Name = true := fun i j hi hj => List.pairwise_iff_getElem.mp hs i j (by omega) hj hi
  refine ans_of T (l := [.slice A l.length c, .string nm, .func (.func 160) #[] #[]]) mixed Tryz.func159 rfl (by kernel_rfl) (Nat.le_of_ble_eq_true rfl) ?_
  (conv => whnf)
  refine LoopK.mk {q : Nat × Nat // q.1 ≤ q.2 ∧ q.2 ≤ l.length ∧ (∀ (j : Nat) (hj : j < q.1) (hl : j < l.length), bl (l[j]'hl).Name nm = true) ∧ (∀ (j : Nat) (hj : q.2 ≤ j) (hl : j < l.length), bl (l[j]'hl).Name nm = false)} (fun ⟨⟨i, j⟩, _⟩ => [(0, .v (.slice A l.length c)), (1, .v (.string nm)), (2, .v (.func (.func 160) #[] #[])), (8, .v (.int .i64 (l.length : Int))), (9, .v (.int .i64 (i : Int))), (10, .v (.int .i64 (j : Int)))]) (fun _ => []) (fun _ => M) (fun q => q.1.2 - q.1.1) ⟨(0, l.length), by simp, by simp, fun j hj => absurd hj (by simp), fun j hj hl => absurd hj (by simp; omega)⟩ ⟨⟨⟨rfl, rfl, rfl, rfl, rfl, rfl, trivial⟩, trivial, rfl, rfl⟩, rfl⟩ ?_
  rintro ⟨⟨i, j⟩, hij, hjl, ha, hb⟩
  replace hij : i ≤ j := hij
  replace hjl : j ≤ l.length := hjl
  by_cases hlt : i < j
  · obtain ⟨m, hm⟩ : ∃ m, m = (i + j) / 2 := ⟨_, rfl⟩
    have hml : m < l.length := by omega
    have hx := List.getElem?_eq_getElem hml
    obtain ⟨ad, rfl, bnx, x0, x1, x2, x3, x4⟩ := at_Head h hx
    cases hs : bl l[m].Name nm with
    | true =>
      have hc : decide (cmpS l[m].Name nm < 0) = true := by rw [cmpS_less]; exact hs
      repeat' ((conv => whnf); first | with_reducible refine CondK.tt ?_ | with_reducible refine CondK.ff ?_ | refine LdK.mk _ (by assumption) ?_ | refine IdxK.at m _ ((half_ok (by omega)).trans (congrArg _ hm.symm)) rfl hml ?_ | refine DrawN.q (by kernel_rfl) ?_ | refine CallK.mk _ (headAt1_a _ l[m] nm) ?_ | refine CallQ.mk _ (headAt1_a _ l[m] nm) ?_ | refine CondK.yes' (show decide ((i : Int) < (j : Int)) = true from decide_eq_true (by omega)) ?_ | refine CondK.yes' hc ?_ | fail)
      refine ⟨⟨(m + 1, j), by simp; omega, hjl, fun q hq hl => ?_, hb⟩, ⟨⟨rfl, rfl, rfl, rfl, look_int ?_, rfl, trivial⟩, trivial, rfl, rfl⟩, rfl, by simp; omega⟩
      · rcases Nat.lt_succ_iff_lt_or_eq.mp hq with hq | hq
        · exact bl_trans (hsort q m hq hml) hs
        · subst hq; exact hs
      · rw [half_ok (by omega), ← hm]
        exact i64_succ (by omega)
    | false =>
      have hc : decide (cmpS l[m].Name nm < 0) = false := by rw [cmpS_less]; exact hs
      repeat' ((conv => whnf); first | with_reducible refine CondK.tt ?_ | with_reducible refine CondK.ff ?_ | refine LdK.mk _ (by assumption) ?_ | refine IdxK.at m _ ((half_ok (by omega)).trans (congrArg _ hm.symm)) rfl hml ?_ | refine DrawN.q (by kernel_rfl) ?_ | refine CallK.mk _ (headAt1_a _ l[m] nm) ?_ | refine CallQ.mk _ (headAt1_a _ l[m] nm) ?_ | refine CondK.yes' (show decide ((i : Int) < (j : Int)) = true from decide_eq_true (by omega)) ?_ | refine CondK.no' hc ?_ | fail)
      refine ⟨⟨(i, m), by simp; omega, by simp; omega, ha, fun q hq hl => ?_⟩, ⟨⟨rfl, rfl, rfl, rfl, rfl, look_int ?_, trivial⟩, trivial, rfl, rfl⟩, rfl, by simp; omega⟩
      · rcases Nat.lt_or_eq_of_le hq with hq | hq
        · cases hh : bl l[q].Name nm with
          | false => rfl
          | true =>
            have := bl_trans (hsort m q hq hl) hh
            rw [hs] at this
            cases this
        · have hq : m = q := hq
          subst hq; exact hs
      · rw [half_ok (by omega), ← hm]
  · have hij : i = j := by omega
    subst hij
    have e : ixH l nm = i := aheadN_at hjl ha fun h => hb i (Nat.le_refl _) h
    rw [e]
    by_cases hlt : i < l.length
    · have hx := List.getElem?_eq_getElem hlt
      obtain ⟨ad, rfl, bnx, x0, x1, x2, x3, x4⟩ := at_Head h hx
      have e2 : hasH l i nm = decide (cmpS l[i].Name nm = 0) := by unfold hasH; rw [hx]
      rw [e2]
      repeat' ((conv => whnf); first | with_reducible refine CondK.tt ?_ | with_reducible refine CondK.ff ?_ | refine LdK.mk _ (by assumption) ?_ | refine IdxK.mk _ rfl (by omega) (by omega) ?_ | refine DrawN.q (by kernel_rfl) ?_ | refine CallK.mk _ (headAt1_a _ l[i] nm) ?_ | refine CallQ.mk _ (headAt1_a _ l[i] nm) ?_ | refine CondK.no' (show decide ((i : Int) < (i : Int)) = false from decide_eq_false (by omega)) ?_ | refine CondK.yes' (show decide ((i : Int) < (l.length : Int)) = true from decide_eq_true (by omega)) ?_ | fail)
      exact rfl
    · have e2 : hasH l i nm = false := by unfold hasH; rw [List.getElem?_eq_none (by omega)]
      rw [e2]
      repeat' ((conv => whnf); first | with_reducible refine CondK.tt ?_ | with_reducible refine CondK.ff ?_ | refine LdK.mk _ (by assumption) ?_ | refine DrawN.q (by kernel_rfl) ?_ | refine CondK.no' (show decide ((i : Int) < (i : Int)) = false from decide_eq_false (by omega)) ?_ | refine CondK.no' (show decide ((i : Int) < (l.length : Int)) = false from decide_eq_false (by omega)) ?_ | fail)
      exact rfl
theorem headAt_a (M : Mem) (l : List GHead) (A : Option Addr) (c : Nat) (h : SlR M RHead 5 48 A c l) (hn : l.length ≤ 1048576) (hs : SortedH l) (nm : ByteArray) : Ans Tryz.prog M 147 #[.slice A l.length c, .string nm] (.tuple #[.int .i64 (ixH l nm : Int), .bool (hasH l (ixH l nm) nm)]) := by
  refine ans_of T (l := [.slice A l.length c, .string nm]) mixed Tryz.func147 rfl (by kernel_rfl) (Nat.le_of_ble_eq_true rfl) ?_
  repeat' ((conv => whnf); first | refine CallK.mk _ (bsHead_a M l A c h hn hs nm) ?_ | refine DrawN.q (by kernel_rfl) ?_ | fail)
  exact rfl
/-- The heads at the state's n-th step. -/
def hdsTo (s : GPgState) (n : Nat) : List GHead := (s.Log.take n).foldl (fun l e => putF e l) s.Base
theorem hdsTo_step {s : GPgState} {k : Nat} (h : k < s.Log.length) : hdsTo s (k + 1) = putF s.Log[k] (hdsTo s k) := by
  unfold hdsTo
  rw [List.take_succ_eq_append_getElem h, List.foldl_append]
  rfl
theorem logS_len : ∀ (r : List GEntry) (at_ : GVer) (l : List GHead), l.length ≤ 16 → logS at_ l r = true → ∀ k, k ≤ r.length → ((r.take k).foldl (fun l e => putF e l) l).length ≤ 16
  | [], _, l, hl, _, k, hk => by simpa using hl
  | e :: r, at_, l, hl, h, 0, hk => by simpa using hl
  | e :: r, at_, l, hl, h, k + 1, hk => by
    simp only [logS, Bool.and_eq_true, decide_eq_true_eq] at h
    rw [List.take_succ_cons, List.foldl_cons]
    exact logS_len r e.Ver (putF e l) (by omega) h.2.2 k (by simpa using hk)
theorem state_base {s : GPgState} (h : stateOkF s = true) : allR s.Base.length (headF s.Tail s.Base) = true ∧ s.Base.length ≤ 16 ∧ logS s.Tail s.Base s.Log = true ∧ s.Log.length ≤ 24 := by
  have hb : allR s.Base.length (headF s.Tail s.Base) = true ∧ s.Base.length ≤ 16 := by
    unfold stateOkF baseOkF at h
    simp only [Bool.and_eq_true, decide_eq_true_eq] at h
    have h1 := h.1.1.1.1.2
    exact ⟨h1.1.1, by omega⟩
  have hl : logOkF s = true := by
    unfold stateOkF at h
    simp only [Bool.and_eq_true] at h
    exact h.1.1.1.2
  rw [log_same hb.1] at hl
  simp only [Bool.and_eq_true, decide_eq_true_eq] at hl
  exact ⟨hb.1, hb.2, hl.1, by omega⟩
theorem hds_len {s : GPgState} (h : stateOkF s = true) {k : Nat} (hk : k ≤ s.Log.length) : (hdsTo s k).length ≤ 16 := by
  obtain ⟨_, h1, h2, _⟩ := state_base h
  exact logS_len _ _ _ h1 h2 k hk
theorem hds_sorted {s : GPgState} (h : stateOkF s = true) : ∀ k, k ≤ s.Log.length → SortedH (hdsTo s k)
  | 0, _ => by unfold hdsTo; simpa using heads_sorted (state_base h).1
  | k + 1, hk => by rw [hdsTo_step (by omega)]; exact put_sorted (hds_sorted h k (by omega))
/-- The entry put where the search says. -/
theorem putF_ix (e : GEntry) (l : List GHead) : putF e l = l.take (ixH l e.Name) ++ (newF e ++ l.drop (if hasH l (ixH l e.Name) e.Name = true then ixH l e.Name + 1 else ixH l e.Name)) ∧ ixH l e.Name ≤ l.length ∧ (hasH l (ixH l e.Name) e.Name = true → ixH l e.Name < l.length) := by
  have hle : ixH l e.Name ≤ l.length := aheadN_le
  refine ⟨?_, hle, fun h => ?_⟩
  · have h1 := putF_at (e := e) (l := l) hle (fun j hj hl => aheadN_lt (p := fun (y : GHead) => bl y.Name e.Name) hj hl) (fun y hy => aheadN_end (p := fun (y : GHead) => bl y.Name e.Name) hy)
    unfold hasH
    cases hq : l[ixH l e.Name]? with
    | none => rw [hq] at h1; simpa using h1
    | some y =>
      rw [hq] at h1
      have : decide (y.Name = e.Name) = decide (cmpS y.Name e.Name = 0) := by rw [Bool.eq_iff_iff, decide_eq_true_eq, decide_eq_true_eq]; exact (cmpS_eq _ _).symm
      by_cases hc : y.Name = e.Name
      · have hc2 : cmpS y.Name e.Name = 0 := (cmpS_eq _ _).mpr hc
        rw [if_pos (decide_eq_true hc)] at h1
        rw [if_pos (decide_eq_true hc2)]
        exact h1
      · have hc2 : ¬ cmpS y.Name e.Name = 0 := fun h => hc ((cmpS_eq _ _).mp h)
        rw [if_neg (by simpa using hc)] at h1
        rw [if_neg (by simpa using hc2)]
        exact h1
  · rcases Nat.lt_or_ge (ixH l e.Name) l.length with h1 | h1
    · exact h1
    · unfold hasH at h
      rw [List.getElem?_eq_none h1] at h
      cases h
theorem headsTo_n (M : Mem) (s : GPgState) (cs : List Value) (h : RPgState M s cs) (hok : stateOkF s = true) (n : Nat) (hn : n ≤ s.Log.length) : AnsR Tryz.prog M 134 #[.agg cs.toArray, .int .i64 (n : Int)] (fun M' v => ∃ A' cap' ds', v = .slice A' (hdsTo s n).length cap' ∧ RowR M RHead 5 (hdsTo s n) ds' ∧ RowN M M' 5 A' (hdsTo s n).length cap' ds') := by
  obtain ⟨A0, c0, A1, c1, A2, c2, A3, c3, rfl, hb, s0, s1, s2, s3⟩ := h
  have hb0 := (state_base hok).2
  have l2 := s2.len
  have lc2 := s2.cap
  refine ansR_of (T.at M) (l := [.agg (List.toArray _), .int .i64 (n : Int)]) mixed Tryz.func134 rfl (by kernel_rfl) (Nat.le_of_ble_eq_true rfl) ?_ (fun _ ad u h1 h2 => by rw [show M ad = none from h1] at h2; cases h2)
  (conv => whnf)
  refine CallK.mr _ (cloneHead_f M s.Base A0 c0 s0 (by omega)) (fun v N0 hl0 hv => ?_)
  obtain ⟨Ab, cb, db, rfl, rb, nb⟩ := hv
  (conv => whnf)
  refine SlN.mk 0 n A2 n c2 rfl rfl (by omega) (by omega) (by split; rfl; cases A2 with | none => rfl | some a => simp [add0]) (by omega) (by omega) ?_
  (conv => whnf)
  refine LoopK.mk {q : (Nat × Option Addr × Nat × List Value) × Mem // q.1.1 ≤ n ∧ Le M q.2 ∧ RowR M RHead 5 (hdsTo s q.1.1) q.1.2.2.2 ∧ RowN M q.2 5 q.1.2.1 (hdsTo s q.1.1).length q.1.2.2.1 q.1.2.2.2} (fun ⟨⟨⟨k, A, cap, ds⟩, _⟩, _⟩ => [(2, .p 0 0), (5, .v (.slice A (hdsTo s k).length cap)), (17, .v (.slice A2 n c2)), (18, .v (.int .i64 (n : Int))), (19, .v (.int .i64 (k : Int)))]) (fun _ => [(0, [.int .i64 s.Pg.Pool, .int .i64 s.Pg.No, .int .i64 s.Seen, .int .i64 s.Started, .int .i64 s.Tail.Epoch, .int .i64 s.Tail.Seq, .slice A0 s.Base.length c0, .slice A1 s.Clients.length c1, .slice A2 s.Log.length c2, .int .i64 s.Firm.Epoch, .int .i64 s.Firm.Seq, .slice A3 s.Chunks.length c3])]) (fun q => q.1.2) (fun q => n - q.1.1.1) ⟨((0, Ab, cb, db), N0), Nat.zero_le _, hl0, rb, nb⟩ ⟨⟨⟨rfl, rfl, rfl, rfl, rfl, trivial⟩, ⟨rfl, trivial⟩, rfl, rfl⟩, rfl⟩ ?_
  rintro ⟨⟨⟨k, A, cap, ds⟩, N1⟩, hk, hle, hr, hrow⟩
  simp only at hk hle hr hrow
  (conv => whnf)
  refine CondK.mk (fun h1 => ?_) (fun h1 => ?_)
  · have hlt : k < n := by simpa using h1
    have hltL : k < s.Log.length := by omega
    obtain ⟨y, hyk⟩ : ∃ y, s.Log[k] = y := ⟨_, rfl⟩
    have hy : s.Log[k]? = some y := by rw [List.getElem?_eq_getElem hltL, hyk]
    obtain ⟨ad, rfl, bnx, x0, x1, x2, x3, x4, x5, x6, x7, x8, x9⟩ := at_Entry (s2.mono hle (REntry.mono hle)) hy
    have hst : hdsTo s (k + 1) = putF y (hdsTo s k) := by rw [hdsTo_step hltL, hyk]
    have hlen := hds_len hok (k := k) (by omega)
    have hsrt := hds_sorted hok k (by omega)
    obtain ⟨hput, hixle, hixlt⟩ := putF_ix y (hdsTo s k)
    have hsl : SlR N1 RHead 5 48 A cap (hdsTo s k) := hrow.sl hr (fun _ _ h => h) (by omega)
    have hat := headAt_a N1 (hdsTo s k) A cap hsl (by omega) hsrt y.Name
    generalize hasH (hdsTo s k) (ixH (hdsTo s k) y.Name) y.Name = f at hat hput hixlt
    generalize ixH (hdsTo s k) y.Name = i at hat hput hixle hixlt
    have hone : allOne ds = true := hr.all
    cases hg : y.Gone with
    | true =>
      have hnew : newF y = [] := by unfold newF; rw [hg]; rfl
      rw [hnew] at hput
      rw [hg] at x5
      cases hf : f with
      | true =>
        rw [hf] at hat hput
        rw [if_pos rfl] at hput
        have hi := hixlt hf
        repeat' ((conv => whnf); first | refine IdxK.mk _ rfl (by omega) (by omega) ?_ | refine LdK.mk _ (by assumption) ?_ | refine CallK.mk _ hat ?_ | with_reducible refine CondK.tt ?_ | with_reducible refine CondK.ff ?_ | fail)
        (conv => whnf)
        refine delHead_k (i64_succ (by omega)) rfl hrow hle hone hi (by omega) (fun N' hN' hrow' => ?_)
        (conv => whnf)
        have e : hdsTo s (k + 1) = (hdsTo s k).take i ++ (hdsTo s k).drop (i + 1) := by rw [hst, hput]; simp
        have el : (hdsTo s (k + 1)).length = (hdsTo s k).length - 1 := by rw [e]; simp; omega
        exact ⟨⟨((k + 1, A, cap, _), N'), hlt, hN', by rw [e]; exact (RowR.take hr i).app (RowR.drop hr (i + 1)), by rw [el]; exact hrow'⟩, ⟨⟨rfl, by rw [el]; rfl, rfl, rfl, look_int (i64_succ (by omega)), trivial⟩, ⟨rfl, trivial⟩, rfl, rfl⟩, rfl, by simp only; omega⟩
      | false =>
        rw [hf] at hat hput
        repeat' ((conv => whnf); first | refine IdxK.mk _ rfl (by omega) (by omega) ?_ | refine LdK.mk _ (by assumption) ?_ | refine CallK.mk _ hat ?_ | with_reducible refine CondK.tt ?_ | with_reducible refine CondK.ff ?_ | fail)
        (conv => whnf)
        have e : hdsTo s (k + 1) = (hdsTo s k) := by rw [hst, hput]; simp
        exact ⟨⟨((k + 1, A, cap, ds), N1), hlt, hle, by rw [e]; exact hr, by rw [e]; exact hrow⟩, ⟨⟨rfl, by rw [e]; rfl, rfl, rfl, look_int (i64_succ (by omega)), trivial⟩, ⟨rfl, trivial⟩, rfl, rfl⟩, rfl, by simp only; omega⟩
    | false =>
      have hnew : newF y = [⟨y.Name, y.Ver, y.Size, y.Sum⟩] := by unfold newF; rw [hg]; rfl
      rw [hnew] at hput
      rw [hg] at x5
      have hvo : RowR M RHead 5 [(⟨y.Name, y.Ver, y.Size, y.Sum⟩ : GHead)] [.string y.Name, .int .i64 y.Ver.Epoch, .int .i64 y.Ver.Seq, .int .i64 y.Size, .int .i64 y.Sum] := RowR.one ⟨rfl, bnx⟩ rfl rfl
      cases hf : f with
      | true =>
        rw [hf] at hat hput
        rw [if_pos rfl] at hput
        have hi := hixlt hf
        rcases hrow with ⟨_, hz, _⟩ | ⟨ad1, rfl, hrc, hfr⟩
        · omega
        repeat' ((conv => whnf); first | refine IdxK.mk _ rfl (by omega) (by omega) ?_ | refine LdK.mk _ (by assumption) ?_ | refine CallK.mk _ hat ?_ | with_reducible refine CondK.tt ?_ | with_reducible refine CondK.ff ?_ | fail)
        have hcl := hrc.le
        (conv => whnf)
        refine WrL.mk rfl (fun o ho => ?_) (fun o ho => ?_) rfl (fun N' j1 j2 => ?_)
        · replace ho : o < 5 := ho
          obtain ⟨u, hu⟩ := hrc.room (i * 5 + o) (by omega)
          show (N1 ((ad1.add (i * 5)).add o)).isSome = true
          rw [add_add, hu]; rfl
        · show M ((ad1.add (i * 5)).add o) = none
          cases hm : M ((ad1.add (i * 5)).add o) with
          | none => rfl
          | some w => exact absurd (by rw [add_block, add_block]) (hfr _ w hm)
        (conv => whnf)
        have e : hdsTo s (k + 1) = (hdsTo s k).take i ++ ([⟨y.Name, y.Ver, y.Size, y.Sum⟩] ++ (hdsTo s k).drop (i + 1)) := by rw [hst, hput]
        have el : (hdsTo s (k + 1)).length = (hdsTo s k).length := by rw [e]; simp; omega
        have hrl := hrc.len
        have htl : (ds.take (i * 5)).length = i * 5 := by rw [List.length_take, hrl]; omega
        refine ⟨⟨((k + 1, some ad1, cap, ds.take (i * 5) ++ ([.string y.Name, .int .i64 y.Ver.Epoch, .int .i64 y.Ver.Seq, .int .i64 y.Size, .int .i64 y.Sum] ++ ds.drop ((i + 1) * 5))), N'), hlt, fun a u hu => ?_, by rw [e]; exact (RowR.take hr i).app (hvo.app (RowR.drop hr (i + 1))), ?_⟩, ⟨⟨rfl, by rw [el]; rfl, rfl, rfl, look_int (i64_succ (by omega)), trivial⟩, ⟨rfl, trivial⟩, rfl, rfl⟩, rfl, by simp only; omega⟩
        · show N' a = some u
          rw [j2 a (fun o ho he => by
            have := hfr a u hu
            rw [he] at this
            exact this (by
              show ((ad1.add (i * 5)).add o).block = _
              rw [add_block, add_block]))]
          exact hle a u hu
        · refine .inr ⟨ad1, rfl, ?_, hfr⟩
          refine hrc.wr (q := i * 5) (vs := [.string y.Name, .int .i64 y.Ver.Epoch, .int .i64 y.Ver.Seq, .int .i64 y.Size, .int .i64 y.Sum]) j1 j2 (by rw [el]; simp only [List.length_append, List.length_take, List.length_drop, hrl, List.length_cons, List.length_nil]; omega) (by rw [el]; exact hcl) (fun o u hu => ?_)
          rcases Nat.lt_or_ge o (i * 5) with h2 | h2
          · rw [List.getElem?_append_left (by omega), List.getElem?_take, if_pos h2] at hu
            exact .inr ⟨.inl h2, hrc.el o u hu⟩
          · rw [List.getElem?_append_right (by omega), htl] at hu
            rcases Nat.lt_or_ge (o - i * 5) 5 with h3 | h3
            · rw [List.getElem?_append_left (by simpa using h3)] at hu
              exact .inl ⟨h2, hu⟩
            · rw [List.getElem?_append_right (by simpa using h3), List.getElem?_drop] at hu
              refine .inr ⟨.inr (by simp; omega), hrc.el o u ?_⟩
              simp only [List.length_cons, List.length_nil] at hu
              rw [show (i + 1) * 5 + (o - i * 5 - 5) = o by omega] at hu
              exact hu
      | false =>
        rw [hf] at hat hput
        rw [if_neg (by decide)] at hput
        repeat' ((conv => whnf); first | refine IdxK.mk _ rfl (by omega) (by omega) ?_ | refine LdK.mk _ (by assumption) ?_ | refine CallK.mk _ hat ?_ | with_reducible refine CondK.tt ?_ | with_reducible refine CondK.ff ?_ | fail)
        (conv => whnf)
        refine PubK.fr fun av N2 hl2 hc2 hroom hfresh hdom => ?_
        (conv => whnf)
        refine insHead_k rfl hrow hle hl2 hfresh hone rfl rfl hc2 hixle (by omega) (fun N' A' cap' hN' hrow' => ?_)
        (conv => whnf)
        have e : hdsTo s (k + 1) = (hdsTo s k).take i ++ [⟨y.Name, y.Ver, y.Size, y.Sum⟩] ++ (hdsTo s k).drop i := by rw [hst, hput]; simp
        have el : (hdsTo s (k + 1)).length = (hdsTo s k).length + 1 := by rw [e]; simp; omega
        exact ⟨⟨((k + 1, A', cap', _), N'), hlt, hN', by rw [e]; exact ((RowR.take hr i).app hvo).app (RowR.drop hr i), by rw [el]; exact hrow'⟩, ⟨⟨rfl, by rw [el]; rfl, rfl, rfl, look_int (i64_succ (by omega)), trivial⟩, ⟨rfl, trivial⟩, rfl, rfl⟩, rfl, by simp only; omega⟩
  · have he : k = n := by have : ¬ k < n := by simpa using h1
                          omega
    subst he
    (conv => whnf)
    have hlen := hds_len hok (k := k) (by omega)
    exact RetK.mk fun g M' hl hg => ⟨A, cap, ds, rfl, hr, hrow.mono hl⟩
theorem headsTo_f (M : Mem) (s : GPgState) (cs : List Value) (h : RPgState M s cs) (hok : stateOkF s = true) (n : Nat) (hn : n ≤ s.Log.length) : AnsR Tryz.prog M 134 #[.agg cs.toArray, .int .i64 (n : Int)] (fun M' v => ∃ A' cap', v = .slice A' (hdsTo s n).length cap' ∧ SlR (sub M' M) RHead 5 48 A' cap' (hdsTo s n)) :=
  (headsTo_n M s cs h hok n hn).imp fun M' v _ ⟨A', cap', ds', h1, h2, h3⟩ => ⟨A', cap', h1, h3.slS h2 (fun _ _ h => h) (by have := hds_len hok hn; omega)⟩
end Go.Proofs.YtefhbbmklpnpoaaGreat.Hlp
