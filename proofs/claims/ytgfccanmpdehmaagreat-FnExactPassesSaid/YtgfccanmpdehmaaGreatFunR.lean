/- Net by the light walk. -/
import Derived.Test.YtgfccanmpdehmaaGreatPlQ
namespace Go.Proofs.YtgfccanmpdehmaaGreat.Hlp
open Go Go.RowKit Go.Proofs Go.Proofs.YtgfccanmpdehmaaGreat.Lw
set_option linter.unusedVariables false
set_option linter.unusedSimpArgs false
set_option maxRecDepth 100000
set_option maxHeartbeats 4000000
theorem allR_iff {n : Nat} {f : Nat → Bool} : allR n f = true ↔ ∀ j, j < n → f j = true := by
  unfold allR
  simp
def ixF {α : Type} (p : α → Bool) (l : List α) : Int := match l.findIdx? p with | some i => (i : Int) | none => -1
theorem ix_any {α : Type} (p : α → Bool) (l : List α) : decide (0 ≤ ixF p l) = l.any p := by
  rw [← List.findIdx?_isSome]
  unfold ixF
  cases l.findIdx? p with
  | none => rfl
  | some i => simp
theorem ix_at {α : Type} {p : α → Bool} {l : List α} {k : Nat} (hk : k < l.length) (h : p l[k] = true) (ha : ∀ (j : Nat) (hj : j < l.length), j < k → p (l[j]'hj) = false) : ixF p l = (k : Int) := by
  unfold ixF
  rw [List.findIdx?_eq_some_iff_getElem.2 ⟨hk, h, fun j hj => by rw [ha j (by omega) hj]; decide⟩]
theorem ix_none {α : Type} {p : α → Bool} {l : List α} (ha : ∀ (j : Nat) (hj : j < l.length), p (l[j]'hj) = false) : ixF p l = -1 := by
  unfold ixF
  rw [List.findIdx?_eq_none_iff.2 fun x hx => by obtain ⟨j, hj, rfl⟩ := List.getElem_of_mem hx; exact ha j hj]
theorem between1_a (M : Mem) (x lo hi : Int) (a b : Addr) (ha : M (a.add 0) = some (.int .i64 lo)) (hb : M (b.add 0) = some (.int .i64 hi)) : Ans Tryz.prog M 118 #[.int .i64 x, .pointer (some a), .pointer (some b)] (.bool (!inR x lo hi)) := by
  refine ansC_of T (l := [.int .i64 x, .pointer (some a), .pointer (some b)]) mixed Tryz.func118 rfl (by kernel_rfl) (Nat.le_of_ble_eq_true rfl) ?_
  repeat' ((conv => whnf); first | refine LdK.mk _ (by assumption) ?_ | refine CallK.mk _ (between_a _ _ _ _) ?_ | fail)
  exact rfl
theorem ixInt_a (M : Mem) (l : List Int) (A : Option Addr) (c : Nat) (h : SlR M RInt 1 8 A c l) (lo hi : Int) (a b : Addr) (ha : M (a.add 0) = some (.int .i64 lo)) (hb : M (b.add 0) = some (.int .i64 hi)) : Ans Tryz.prog M 139 #[.slice A l.length c, .func (.func 118) #[] #[.pointer (some a), .pointer (some b)]] (.int .i64 (ixF (fun x => !inR x lo hi) l)) := by
  have hl := h.len
  refine ans_of T (l := [.slice A l.length c, .func (.func 118) #[] #[.pointer (some a), .pointer (some b)]]) mixed Tryz.func139 rfl (by kernel_rfl) (Nat.le_of_ble_eq_true rfl) ?_
  (conv => whnf)
  refine LoopK.mk {k : Nat // k ≤ l.length ∧ ∀ (j : Nat) (hj : j < l.length), j < k → (!inR (l[j]'hj) lo hi) = false} (fun ⟨k, _⟩ => [(0, .v (.slice A l.length c)), (1, .v (.func (.func 118) #[] #[.pointer (some a), .pointer (some b)])), (7, .v (.int .i64 (l.length : Int))), (8, .v (.int .i64 (k : Int)))]) (fun _ => []) (fun _ => M) (fun k => l.length - k.1) ⟨0, Nat.zero_le _, fun j _ hj => absurd hj (by omega)⟩ ⟨⟨⟨rfl, rfl, rfl, rfl, trivial⟩, trivial, rfl, rfl⟩, rfl⟩ ?_
  rintro ⟨k, hk, hp⟩
  (conv => whnf)
  refine CondK.mk (fun h1 => ?_) (fun h1 => ?_)
  · have hlt : k < l.length := by simpa using h1
    obtain ⟨ad, rfl, _, x0⟩ := at_Int h (List.getElem?_eq_getElem hlt)
    repeat' ((conv => whnf); first | with_reducible refine CondK.tt ?_ | with_reducible refine CondK.ff ?_ | refine IdxK.mk _ rfl (by omega) (by omega) ?_ | refine LdK.mk _ (by assumption) ?_ | refine CallK.mk _ (between1_a _ l[k] lo hi a b ha hb) ?_ | refine CondK.mk (fun hc => ?_) (fun hc => ?_) | fail)
    all_goals first
      | (show _ = _
         rw [ix_at (p := fun x => !inR x lo hi) hlt hc hp]
         rfl)
      | exact ⟨⟨k + 1, hlt, fun j hj hj' => by rcases Nat.lt_succ_iff_lt_or_eq.mp hj' with hj' | rfl; exact hp j hj hj'; exact hc⟩, ⟨⟨rfl, rfl, rfl, look_int (i64_succ (by omega)), trivial⟩, trivial, rfl, rfl⟩, rfl, by simp; omega⟩
  · have he : k = l.length := by have : ¬ k < l.length := by simpa using h1
                                 omega
    subst he
    rw [ix_none (p := fun x => !inR x lo hi) fun j hj => hp j hj hj]
    exact rfl
theorem hasInt_a (M : Mem) (l : List Int) (A : Option Addr) (c : Nat) (h : SlR M RInt 1 8 A c l) (lo hi : Int) (a b : Addr) (ha : M (a.add 0) = some (.int .i64 lo)) (hb : M (b.add 0) = some (.int .i64 hi)) : Ans Tryz.prog M 117 #[.slice A l.length c, .func (.func 118) #[] #[.pointer (some a), .pointer (some b)]] (.bool (l.any fun x => !inR x lo hi)) := by
  refine ans_of T (l := [.slice A l.length c, .func (.func 118) #[] #[.pointer (some a), .pointer (some b)]]) mixed Tryz.func117 rfl (by kernel_rfl) (Nat.le_of_ble_eq_true rfl) ?_
  (conv => whnf)
  refine CallK.mk _ (ixInt_a M l A c h lo hi a b ha hb) ?_
  (conv => whnf)
  exact ret_bool (ix_any _ _)
theorem allBetween_a (M : Mem) (l : List Int) (A : Option Addr) (c : Nat) (h : SlR M RInt 1 8 A c l) (lo hi : Int) : Ans Tryz.prog M 86 #[.slice A l.length c, .int .i64 lo, .int .i64 hi] (.bool (!l.any fun x => !inR x lo hi)) := by
  refine ans_of T (l := [.slice A l.length c, .int .i64 lo, .int .i64 hi]) mixed Tryz.func86 rfl (by kernel_rfl) (Nat.le_of_ble_eq_true rfl) ?_
  (conv => whnf)
  refine PubK.mk fun a M1 hl1 hc1 => ?_
  (conv => whnf)
  refine PubK.mk fun b M2 hl2 hc2 => ?_
  (conv => whnf)
  refine CallK.mk _ (hasInt_a M2 l A c ((h.mono hl1 (RInt.mono hl1)).mono hl2 (RInt.mono hl2)) lo hi a b (hl2 _ _ (hc1 0 _ rfl)) (hc2 0 _ rfl)) ?_
  (conv => whnf)
  exact rfl
def incP (l : List Int) (k : Nat) : Bool :=
  match l[k]? with
  | some x => !(decide (0 < k) && match l[k - 1]? with | some y => decide (x ≤ y) | none => false)
  | none => true
theorem incP_at {l : List Int} {k : Nat} {x y : Int} (hx : l[k]? = some x) (hy : l[k - 1]? = some y) : incP l k = !(decide (0 < k) && decide (x ≤ y)) := by
  unfold incP
  rw [hx, hy]
theorem increasing_a (M : Mem) (l : List Int) (A : Option Addr) (c : Nat) (h : SlR M RInt 1 8 A c l) : Ans Tryz.prog M 85 #[.slice A l.length c] (.bool (allR l.length (incP l))) := by
  have hl := h.len
  refine ans_of T (l := [.slice A l.length c]) mixed Tryz.func85 rfl (by kernel_rfl) (Nat.le_of_ble_eq_true rfl) ?_
  have h00 : ∀ j, j < 1 → incP l j = true := fun j hj => by
    have : j = 0 := by omega
    subst this
    unfold incP
    cases l[0]? <;> simp
  (conv => whnf)
  refine LoopK.mk {k : Nat // 1 ≤ k ∧ k ≤ l.length + 1 ∧ ∀ j, j < k → incP l j = true} (fun ⟨k, _⟩ => [(0, .v (.slice A l.length c)), (3, .v (.int .i64 (k : Int)))]) (fun _ => []) (fun _ => M) (fun k => l.length + 1 - k.1) ⟨1, Nat.le_refl _, by omega, h00⟩ ⟨⟨⟨rfl, rfl, trivial⟩, trivial, rfl, rfl⟩, rfl⟩ ?_
  rintro ⟨k, h1k, hk, ha⟩
  (conv => whnf)
  refine CondK.mk (fun h1 => ?_) (fun h1 => ?_)
  · have hlt : k < l.length := by simpa using h1
    obtain ⟨p, hp⟩ : ∃ p, p = k - 1 := ⟨_, rfl⟩
    have hpl : p < l.length := by omega
    have hx := List.getElem?_eq_getElem hlt
    have hy := List.getElem?_eq_getElem hpl
    obtain ⟨ad, rfl, _, x0⟩ := at_Int h hx
    obtain ⟨_, hae, _, y0⟩ := at_Int h hy
    cases hae
    have hb := incP_at hx (y := l[p]) (by rw [← hp]; exact hy)
    repeat' ((conv => whnf); first | with_reducible refine CondK.tt ?_ | with_reducible refine CondK.ff ?_ | refine IdxK.mk _ rfl (by omega) (by omega) ?_ | refine IdxK.at p _ (i64_pred hp (by omega) (by omega)) rfl hpl ?_ | refine LdK.mk _ (by assumption) ?_ | refine DrawN.q (by kernel_rfl) ?_ | refine CondK.mk (fun hc => ?_) (fun hc => ?_) | fail)
    all_goals first
      | (refine ret_bool (Eq.symm (allR_no hlt ?_))
         rw [hb]
         simp_all <;> omega)
      | (refine ⟨⟨k + 1, by omega, by omega, allR_step ha ?_⟩, ⟨⟨rfl, look_int (i64_succ (by omega)), trivial⟩, trivial, rfl, rfl⟩, rfl, by simp; omega⟩
         rw [hb]
         simp_all)
  · refine ret_bool (Eq.symm (allR_yes fun j hj => ha j ?_))
    have : ¬ k < l.length := by simpa using h1
    omega
def cutOkF (l : List Int) : Bool := allR l.length (incP l) && !l.any fun x => !inR x 0 15
theorem outOk_a (M : Mem) (l : List Int) (A : Option Addr) (c : Nat) (h : SlR M RInt 1 8 A c l) : Ans Tryz.prog M 57 #[.slice A l.length c] (.bool (cutOkF l)) := by
  refine ans_of T (l := [.slice A l.length c]) mixed Tryz.func57 rfl (by kernel_rfl) (Nat.le_of_ble_eq_true rfl) ?_
  repeat' ((conv => whnf); first | with_reducible refine CondK.tt ?_ | with_reducible refine CondK.ff ?_ | refine CallK.mk _ (increasing_a _ l A c h) ?_ | refine CallK.mk _ (allBetween_a _ l A c h 0 15) ?_ | refine CondK.mk (fun hc => ?_) (fun hc => ?_) | fail)
  all_goals refine ret_bool ?_
  all_goals (unfold cutOkF; rw [hc]; simp)
def msgOkF (m : GMsg) : Bool := endsF m && hasMsgF m
theorem netOk1_a (M : Mem) (m : GMsg) (cs : List Value) (h : RMsg M m cs) : AnsR Tryz.prog M 59 #[.agg cs.toArray] (fun _ v => v = .bool (!msgOkF m)) := by
  have h0 := h
  obtain ⟨A0, c0, A1, c1, A2, c2, A3, c3, rfl, _⟩ := h
  refine ansR_of T (l := [.agg (List.toArray _)]) mixed Tryz.func59 rfl (by kernel_rfl) (Nat.le_of_ble_eq_true rfl) ?_
  (conv => whnf)
  refine CallK.mr _ (msgOk_a _ m _ h0) (fun v M1 hl1 hv => ?_)
  subst hv
  (conv => whnf)
  exact RetK.mk fun g M' hl hg => ret_bool (by unfold msgOkF; rw [Bool.and_assoc, msg_plain])
theorem ixMsg_a (M : Mem) (l : List GMsg) (A : Option Addr) (c : Nat) (h : SlR M RMsg 46 480 A c l) : AnsR Tryz.prog M 87 #[.slice A l.length c, .func (.func 59) #[] #[]] (fun _ v => v = .int .i64 (ixF (fun m => !msgOkF m) l)) := by
  have hl := h.len
  refine ansR_of T (l := [.slice A l.length c, .func (.func 59) #[] #[]]) mixed Tryz.func87 rfl (by kernel_rfl) (Nat.le_of_ble_eq_true rfl) ?_
  (conv => whnf)
  refine LoopK.mk {q : Nat × Mem // q.1 ≤ l.length ∧ Le M q.2 ∧ ∀ (j : Nat) (hj : j < l.length), j < q.1 → (!msgOkF (l[j]'hj)) = false} (fun ⟨⟨k, _⟩, _⟩ => [(0, .v (.slice A l.length c)), (1, .v (.func (.func 59) #[] #[])), (7, .v (.int .i64 (l.length : Int))), (8, .v (.int .i64 (k : Int)))]) (fun _ => []) (fun q => q.1.2) (fun q => l.length - q.1.1) ⟨(0, M), Nat.zero_le _, Le.refl M, fun j _ hj => absurd hj (by simp)⟩ ⟨⟨⟨rfl, rfl, rfl, rfl, trivial⟩, trivial, rfl, rfl⟩, rfl⟩ ?_
  rintro ⟨⟨k, N⟩, hk, hN, hp⟩
  replace hk : k ≤ l.length := hk
  replace hN : Le M N := hN
  replace h := h.mono hN (RMsg.mono hN)
  (conv => whnf)
  refine CondK.mk (fun h1 => ?_) (fun h1 => ?_)
  · have hlt : k < l.length := by simpa using h1
    obtain ⟨ad, rfl, A0, c0, A1, c1, A2, c2, A3, c3, bnx, ⟨s0, s1, s2, s3⟩, x0, x1, x2, x3, x4, x5, x6, x7, x8, x9, x10, x11, x12, x13, x14, x15, x16, x17, x18, x19, x20, x21, x22, x23, x24, x25, x26, x27, x28, x29, x30, x31, x32, x33, x34, x35, x36, x37, x38, x39, x40, x41, x42, x43, x44, x45⟩ := at_Msg h (List.getElem?_eq_getElem hlt)
    repeat' ((conv => whnf); first | with_reducible refine CondK.tt ?_ | with_reducible refine CondK.ff ?_ | refine IdxK.mk _ rfl (by omega) (by omega) ?_ | refine LdK.mk _ (by assumption) ?_ | (refine CallK.mr _ (netOk1_a _ l[k] _ ⟨A0, c0, A1, c1, A2, c2, A3, c3, rfl, bnx, s0, s1, s2, s3⟩) (fun v M1 hl1 hv => ?_); subst hv) | refine CondK.mk (fun hc => ?_) (fun hc => ?_) | fail)
    all_goals first
      | (refine RetK.mk fun g M' hl hg => ?_
         show _ = _
         rw [ix_at (p := fun m => !msgOkF m) hlt hc hp]
         rfl)
      | exact ⟨⟨(k + 1, _), hlt, hN.trans (by assumption), fun j hj hj' => by rcases Nat.lt_succ_iff_lt_or_eq.mp hj' with hj' | rfl; exact hp j hj hj'; exact hc⟩, ⟨⟨rfl, rfl, rfl, look_int (i64_succ (by omega)), trivial⟩, trivial, rfl, rfl⟩, rfl, by simp; omega⟩
  · have he : k = l.length := by have : ¬ k < l.length := by simpa using h1
                                 omega
    subst he
    refine RetK.mk fun g M' hl hg => ?_
    show _ = _
    rw [ix_none (p := fun m => !msgOkF m) fun j hj => hp j hj hj]
    rfl
theorem hasMsg_a (M : Mem) (l : List GMsg) (A : Option Addr) (c : Nat) (h : SlR M RMsg 46 480 A c l) : AnsR Tryz.prog M 58 #[.slice A l.length c, .func (.func 59) #[] #[]] (fun _ v => v = .bool (l.any fun m => !msgOkF m)) := by
  refine ansR_of T (l := [.slice A l.length c, .func (.func 59) #[] #[]]) mixed Tryz.func58 rfl (by kernel_rfl) (Nat.le_of_ble_eq_true rfl) ?_
  (conv => whnf)
  refine CallK.mr _ (ixMsg_a M l A c h) (fun v M1 hl1 hv => ?_)
  subst hv
  (conv => whnf)
  exact RetK.mk fun g M' hl hg => ret_bool (ix_any _ _)
def netOkF (n : GNet) : Bool := decide ((n.Flight.length : Int) ≤ 200) && cutOkF n.Cut && !n.Flight.any fun m => !msgOkF m
theorem netOk_a (M : Mem) (n : GNet) (cs : List Value) (h : RNet M n cs) : AnsR Tryz.prog M 30 #[.agg cs.toArray] (fun _ v => v = .bool (netOkF n)) := by
  obtain ⟨A0, c0, A1, c1, rfl, _, s0, s1⟩ := h
  refine ansR_of T (l := [.agg (List.toArray _)]) mixed Tryz.func30 rfl (by kernel_rfl) (Nat.le_of_ble_eq_true rfl) ?_
  repeat' ((conv => whnf); first | with_reducible refine CondK.tt ?_ | with_reducible refine CondK.ff ?_ | refine CallK.mk _ (outOk_a _ n.Cut A1 c1 s1) ?_ | (refine CallK.mr _ (hasMsg_a _ n.Flight A0 c0 s0) (fun v M1 hl1 hv => ?_); subst hv) | refine CondK.mk (fun hc => ?_) (fun hc => ?_) | fail)
  all_goals refine RetK.mk fun g M' hl hg => ret_bool ?_
  all_goals (unfold netOkF; simp_all)
  all_goals (intro hq; omega)
def riseF (l : List Int) (lo hi : Int) (k : Nat) : Bool :=
  match l[k]? with
  | some x => inR x lo hi && !(decide (0 < k) && match l[k - 1]? with | some y => decide (x ≤ y) | none => false)
  | none => true
theorem riseF_at {l : List Int} {lo hi : Int} {k : Nat} {x y : Int} (hx : l[k]? = some x) (hy : l[k - 1]? = some y) : riseF l lo hi k = (inR x lo hi && !(decide (0 < k) && decide (x ≤ y))) := by
  unfold riseF
  rw [hx, hy]
theorem l00Rises_a (M : Mem) (l : List Int) (A : Option Addr) (c : Nat) (h : SlR M RInt 1 8 A c l) (lo hi : Int) : Ans Tryz.prog M 46 #[.slice A l.length c, .int .i64 lo, .int .i64 hi] (.bool (allR l.length (riseF l lo hi))) := by
  have hl := h.len
  refine ans_of T (l := [.slice A l.length c, .int .i64 lo, .int .i64 hi]) mixed Tryz.func46 rfl (by kernel_rfl) (Nat.le_of_ble_eq_true rfl) ?_
  (conv => whnf)
  refine LoopK.mk {k : Nat // k ≤ l.length ∧ ∀ j, j < k → riseF l lo hi j = true} (fun ⟨k, _⟩ => [(0, .v (.slice A l.length c)), (1, .v (.int .i64 lo)), (2, .v (.int .i64 hi)), (7, .v (.int .i64 (k : Int)))]) (fun _ => []) (fun _ => M) (fun k => l.length - k.1) ⟨0, Nat.zero_le _, fun j hj => absurd hj (by omega)⟩ ⟨⟨⟨rfl, rfl, rfl, rfl, trivial⟩, trivial, rfl, rfl⟩, rfl⟩ ?_
  rintro ⟨k, hk, ha⟩
  (conv => whnf)
  refine CondK.mk (fun h1 => ?_) (fun h1 => ?_)
  · have hlt : k < l.length := by simpa using h1
    obtain ⟨p, hp⟩ : ∃ p, p = k - 1 := ⟨_, rfl⟩
    have hpl : p < l.length := by omega
    have hx := List.getElem?_eq_getElem hlt
    have hy := List.getElem?_eq_getElem hpl
    obtain ⟨ad, rfl, _, x0⟩ := at_Int h hx
    obtain ⟨_, hae, _, y0⟩ := at_Int h hy
    cases hae
    have hb := riseF_at (lo := lo) (hi := hi) hx (y := l[p]) (by rw [← hp]; exact hy)
    repeat' ((conv => whnf); first | with_reducible refine CondK.tt ?_ | with_reducible refine CondK.ff ?_ | refine IdxK.mk _ rfl (by omega) (by omega) ?_ | refine IdxK.at p _ (i64_pred hp (by simpa using hc) (by omega)) rfl hpl ?_ | refine LdK.mk _ (by assumption) ?_ | refine DrawN.q (by kernel_rfl) ?_ | refine CallK.mk _ (l00In_a _ _ _ _) ?_ | refine CallQ.mk _ (l00In_a _ _ _ _) ?_ | refine GuardK.mk (fun hc => ?_) (fun hc => ?_) | refine CondK.mk (fun hc => ?_) (fun hc => ?_) | fail)
    all_goals first
      | (refine ret_bool (Eq.symm (allR_no hlt ?_))
         rw [hb]
         (simp_all <;> omega); done)
      | (refine ⟨⟨k + 1, hlt, allR_step ha ?_⟩, ⟨⟨rfl, rfl, rfl, look_int (i64_succ (by omega)), trivial⟩, trivial, rfl, rfl⟩, rfl, by simp; omega⟩
         rw [hb]
         (simp_all <;> omega); done)
      | fail
  · have he : k = l.length := by have : ¬ k < l.length := by simpa using h1
                                 omega
    subst he
    exact ret_bool (Eq.symm (allR_yes ha))
theorem rises_eq (l : List Int) : allR l.length (riseF l 0 15) = cutOkF l := by
  have key : ∀ j, j < l.length → riseF l 0 15 j = (inR (l.getD j 0) 0 15 && incP l j) := fun j hj => by
    unfold riseF incP
    rw [List.getElem?_eq_getElem hj]
    simp [List.getElem?_eq_getElem hj]
  rw [Bool.eq_iff_iff]
  unfold cutOkF
  rw [Bool.and_eq_true, allR_iff, allR_iff]
  constructor
  · intro h
    refine ⟨fun j hj => ?_, ?_⟩
    · have := h j hj
      rw [key j hj, Bool.and_eq_true] at this
      exact this.2
    · simp only [Bool.not_eq_true', List.any_eq_false, Bool.not_eq_true]
      intro x hx
      obtain ⟨j, hj, rfl⟩ := List.getElem_of_mem hx
      have := h j hj
      rw [key j hj, Bool.and_eq_true] at this
      simpa [List.getElem?_eq_getElem hj] using this.1
  · rintro ⟨h1, h2⟩ j hj
    rw [key j hj, Bool.and_eq_true]
    refine ⟨?_, h1 j hj⟩
    simp only [Bool.not_eq_true', List.any_eq_false, Bool.not_eq_true] at h2
    have := h2 l[j] (List.getElem_mem hj)
    simpa [List.getElem?_eq_getElem hj] using this
theorem sNetOk_a (M : Mem) (n : GNet) (cs : List Value) (h : RNet M n cs) : Ans Tryz.prog M 18 #[.agg cs.toArray] (.bool (netOkF n)) := by
  obtain ⟨A0, c0, A1, c1, rfl, _, s0, s1⟩ := h
  have hl := s0.len
  refine ans_of T (l := [.agg (List.toArray _)]) mixed Tryz.func18 rfl (by kernel_rfl) (Nat.le_of_ble_eq_true rfl) ?_
  (conv => whnf)
  refine LoopK.mk {k : Nat // k ≤ n.Flight.length ∧ k ≤ 201 ∧ ∀ (j : Nat) (hj : j < n.Flight.length), j < k → msgOkF (n.Flight[j]'hj) = true} (fun ⟨k, _⟩ => [(1, .p 0 0), (3, .v (.int .i64 (k : Int)))]) (fun _ => [(0, [.slice A0 n.Flight.length c0, .slice A1 n.Cut.length c1])]) (fun _ => M) (fun k => n.Flight.length - k.1) ⟨0, Nat.zero_le _, by omega, fun j _ hj => absurd hj (by omega)⟩ ⟨⟨⟨rfl, rfl, trivial⟩, ⟨rfl, trivial⟩, rfl, rfl⟩, rfl⟩ ?_
  rintro ⟨k, hk, hk2, ha⟩
  have fin : (k = n.Flight.length ∨ k = 201) → (decide ((n.Flight.length : Int) ≤ 200) && cutOkF n.Cut) = netOkF n := by
    intro hq
    unfold netOkF
    by_cases hn : (n.Flight.length : Int) ≤ 200
    · have he : k = n.Flight.length := by omega
      have : (n.Flight.any fun m => !msgOkF m) = false := by
        rw [List.any_eq_false]
        intro x hx
        obtain ⟨j, hj, rfl⟩ := List.getElem_of_mem hx
        rw [ha j hj (by omega)]
        decide
      rw [this]
      simp
    · simp [hn]
  by_cases hlt : k < n.Flight.length ∧ k ≤ 200
  · have hlt1 := hlt.1
    obtain ⟨ad, rfl, B0, d0, B1, d1, B2, d2, B3, d3, bnx, ⟨t0, t1, t2, t3⟩, x0, x1, x2, x3, x4, x5, x6, x7, x8, x9, x10, x11, x12, x13, x14, x15, x16, x17, x18, x19, x20, x21, x22, x23, x24, x25, x26, x27, x28, x29, x30, x31, x32, x33, x34, x35, x36, x37, x38, x39, x40, x41, x42, x43, x44, x45⟩ := at_Msg s0 (List.getElem?_eq_getElem hlt.1)
    have no : msgOkF n.Flight[k] = false → netOkF n = false := fun hq => by
      unfold netOkF
      have : (n.Flight.any fun m => !msgOkF m) = true := List.any_eq_true.2 ⟨_, List.getElem_mem hlt.1, by rw [hq]; rfl⟩
      rw [this]
      simp
    repeat' ((conv => whnf); first | with_reducible refine CondK.tt ?_ | with_reducible refine CondK.ff ?_ | refine CondK.yes' (show decide ((k : Int) < (n.Flight.length : Int)) = true from decide_eq_true (by omega)) ?_ | refine CondK.yes' (show decide ((k : Int) ≤ 200) = true from decide_eq_true (by omega)) ?_ | refine IdxK.mk _ rfl (by omega) (by omega) ?_ | refine LdK.mk _ (by assumption) ?_ | refine CallK.mk _ (sMsgOk_a _ n.Flight[k] _ ⟨B0, d0, B1, d1, B2, d2, B3, d3, rfl, bnx, t0, t1, t2, t3⟩) ?_ | refine CondK.mk (fun hc => ?_) (fun hc => ?_) | fail)
    all_goals first
      | exact ret_bool (Eq.symm (no (by have hd := hc; rw [Bool.not_eq_true'] at hd; exact hd)))
      | exact ⟨⟨k + 1, hlt1, by omega, fun j hj hj' => by rcases Nat.lt_succ_iff_lt_or_eq.mp hj' with hj' | rfl; exact ha j hj hj'; (have hd := hc; rw [Bool.not_eq_false'] at hd; exact hd)⟩, ⟨⟨rfl, look_int (i64_succ (by omega)), trivial⟩, ⟨rfl, trivial⟩, rfl, rfl⟩, rfl, by simp; omega⟩
  · have fin := fin (by omega)
    rw [← fin]
    repeat' ((conv => whnf); first | with_reducible refine CondK.tt ?_ | with_reducible refine CondK.ff ?_ | refine CallK.mk _ (l00Rises_a _ n.Cut A1 c1 s1 0 15) ?_ | refine CondK.mk (fun hc => ?_) (fun hc => ?_) | fail)
    all_goals first
      | (refine ret_bool ?_
         rw [hc, Bool.false_and]; done)
      | (refine ret_bool ?_
         rw [hc, Bool.true_and, rises_eq]; done)
      | (exfalso; simp at *; omega)
      | fail
end Go.Proofs.YtgfccanmpdehmaaGreat.Hlp
