/- Ballots, increments, slots: what is right of one, by the light walk. -/
import Derived.Test.YtmmgknhefobloaaHlpC
namespace Go.Proofs.Ytmmgknhefobloaa.Hlp
open Go Go.RowKit Go.Proofs Go.Proofs.Ytmmgknhefobloaa.Lw
set_option linter.unusedVariables false
set_option linter.unusedSimpArgs false
set_option maxRecDepth 100000
set_option maxHeartbeats 4000000
def inR (n lo hi : Int) : Bool := decide (lo ≤ n) && decide (n ≤ hi)
theorem between_a (M : Mem) (n lo hi : Int) : Ans Try.prog M 37 #[.int .i64 n, .int .i64 lo, .int .i64 hi] (.bool (inR n lo hi)) := by
  refine ans_of T (l := [.int .i64 n, .int .i64 lo, .int .i64 hi]) mixed Try.func37 rfl (by kernel_rfl) (Nat.le_of_ble_eq_true rfl) ?_
  repeat' ((conv => whnf); first | with_reducible refine CondK.tt ?_ | with_reducible refine CondK.ff ?_ | with_reducible refine CondK.not ?_ | refine GuardK.mk (fun h => ?_) (fun h => ?_) | refine CondK.mk (fun h => ?_) (fun h => ?_) | fail)
  all_goals refine ret_bool ?_
  all_goals ((unfold inR; simp_all) <;> omega)
theorem l00In_a (M : Mem) (n lo hi : Int) : Ans Try.prog M 28 #[.int .i64 n, .int .i64 lo, .int .i64 hi] (.bool (inR n lo hi)) := by
  refine ans_of T (l := [.int .i64 n, .int .i64 lo, .int .i64 hi]) mixed Try.func28 rfl (by kernel_rfl) (Nat.le_of_ble_eq_true rfl) ?_
  repeat' ((conv => whnf); first | with_reducible refine CondK.tt ?_ | with_reducible refine CondK.ff ?_ | with_reducible refine CondK.not ?_ | refine GuardK.mk (fun h => ?_) (fun h => ?_) | refine CondK.mk (fun h => ?_) (fun h => ?_) | fail)
  all_goals refine ret_bool ?_
  all_goals ((unfold inR; simp_all) <;> omega)
def cmpI (a b : Int) : Int := if a < b then -1 else if a > b then 1 else 0
theorem isNaN_a (M : Mem) (n : Int) : Ans Try.prog M 70 #[.int .i64 n] (.bool false) := by
  refine ans_of T (l := [.int .i64 n]) mixed Try.func70 rfl (by kernel_rfl) (Nat.le_of_ble_eq_true rfl) ?_
  repeat' ((conv => whnf); first | with_reducible refine CondK.tt ?_ | with_reducible refine CondK.ff ?_ | with_reducible refine CondK.not ?_ | refine LdK.mk _ (by assumption) ?_ | refine DrawN.q (by kernel_rfl) ?_ | refine GuardK.mk (fun h => ?_) (fun h => ?_) | refine CondK.mk (fun h => ?_) (fun h => ?_) | fail)
  all_goals (refine ret_bool ?_; simp)
theorem cmpInt64_a (M : Mem) (a b : Int) : Ans Try.prog M 67 #[.int .i64 a, .int .i64 b] (.int .i64 (cmpI a b)) := by
  refine ans_of T (l := [.int .i64 a, .int .i64 b]) mixed Try.func67 rfl (by kernel_rfl) (Nat.le_of_ble_eq_true rfl) ?_
  repeat' ((conv => whnf); first | with_reducible refine CondK.tt ?_ | with_reducible refine CondK.ff ?_ | with_reducible refine CondK.not ?_ | refine LdK.mk _ (by assumption) ?_ | refine DrawN.q (by kernel_rfl) ?_ | refine CallK.mk _ (isNaN_a _ _) ?_ | refine CallQ.mk _ (isNaN_a _ _) ?_ | refine GuardK.mk (fun h => ?_) (fun h => ?_) | refine CondK.mk (fun h => ?_) (fun h => ?_) | fail)
  all_goals refine ret_int ?_
  all_goals ((unfold cmpI; simp_all) <;> omega)
theorem slInts {M : Mem} {ad : Addr} (l : List Int) (h : ∀ o u, (l.map (Value.int .i64))[o]? = some u → M (ad.add o) = some u) (hb : l.length ≤ 9223372036854775807) : SlR M RInt 1 8 (some ad) l.length l := by
  refine ⟨Nat.le_refl _, hb, fun i x hx => ⟨ad, [.int .i64 x], rfl, rfl, rfl, fun j u hu => ?_⟩⟩
  cases j with
  | succ j => simp at hu
  | zero =>
    have := h i u (by rw [List.getElem?_map, hx]; exact hu)
    rw [Nat.mul_one]
    simpa [Addr.add] using this
def orF : List Int → Int
  | [] => 0
  | x :: r => if x = 0 then orF r else x
theorem orF_drop {l : List Int} {k : Nat} (h : k < l.length) : orF (l.drop k) = if l[k] = 0 then orF (l.drop (k + 1)) else l[k] := by
  rw [List.drop_eq_getElem_cons h]
  rfl
theorem or_a (M : Mem) (l : List Int) (A : Option Addr) (c : Nat) (h : SlR M RInt 1 8 A c l) : Ans Try.prog M 66 #[.slice A l.length c] (.int .i64 (orF l)) := by
  have hl := h.len
  refine ans_of T (l := [.slice A l.length c]) mixed Try.func66 rfl (by kernel_rfl) (Nat.le_of_ble_eq_true rfl) ?_
  (conv => whnf)
  refine LoopK.mk {k : Nat // k ≤ l.length ∧ orF l = orF (l.drop k)} (fun ⟨k, _⟩ => [(3, .v (.int .i64 0)), (6, .v (.slice A l.length c)), (7, .v (.int .i64 (l.length : Int))), (8, .v (.int .i64 (k : Int)))]) (fun _ => []) (fun _ => M) (fun k => l.length - k.1) ⟨0, Nat.zero_le _, rfl⟩ ⟨⟨⟨rfl, rfl, rfl, rfl, trivial⟩, trivial, rfl, rfl⟩, rfl⟩ ?_
  rintro ⟨k, hk, ha⟩
  (conv => whnf)
  refine CondK.mk (fun h1 => ?_) (fun h1 => ?_)
  · have hlt : k < l.length := by simpa using h1
    have hx := List.getElem?_eq_getElem hlt
    obtain ⟨ad, rfl, bnx, x0⟩ := at_Int h hx
    repeat' ((conv => whnf); first | with_reducible refine CondK.tt ?_ | with_reducible refine CondK.ff ?_ | with_reducible refine CondK.not ?_ | refine LdK.mk _ (by assumption) ?_ | refine IdxK.mk _ rfl (by omega) (by omega) ?_ | refine DrawN.q (by kernel_rfl) ?_ | refine CondK.mk (fun h => ?_) (fun h => ?_) | fail)
    all_goals first
      | (have h0 : l[k] = 0 := by simpa using h
         exact ⟨⟨k + 1, hlt, by rw [ha, orF_drop hlt, if_pos h0]⟩, ⟨⟨rfl, rfl, rfl, look_int (i64_succ (by omega)), trivial⟩, trivial, rfl, rfl⟩, rfl, by simp; omega⟩)
      | (have h0 : ¬ l[k] = 0 := by simpa using h
         refine ret_int ?_
         rw [ha, orF_drop hlt, if_neg h0])
  · have he : k = l.length := by have : ¬ k < l.length := by simpa using h1
                                 omega
    refine ret_int ?_
    rw [ha, he, List.drop_length]
    rfl
def allR (n : Nat) (f : Nat → Bool) : Bool := (List.range n).all f
theorem allR_yes {n : Nat} {f : Nat → Bool} (h : ∀ j, j < n → f j = true) : allR n f = true := by
  unfold allR
  rw [List.all_eq_true]
  intro j hj
  exact h j (List.mem_range.mp hj)
theorem allR_no {n : Nat} {f : Nat → Bool} {j : Nat} (hj : j < n) (h : f j = false) : allR n f = false := by
  unfold allR
  rw [List.all_eq_false]
  exact ⟨j, List.mem_range.mpr hj, by rw [h]; simp⟩
theorem allR_step {f : Nat → Bool} {k : Nat} (ha : ∀ j, j < k → f j = true) (h : f k = true) : ∀ j, j < k + 1 → f j = true := fun j hj => by
  rcases Nat.lt_succ_iff_lt_or_eq.mp hj with hj | rfl
  · exact ha j hj
  · exact h
theorem i64_pred {k p : Nat} (hp : p = k - 1) (h : 0 < k) (hk : k ≤ 9223372036854775807) : IntKind.i64.wrap ((k : Int) - 1) = (p : Int) := by
  subst hp
  rw [show ((k : Int) - 1) = ((k - 1 : Nat) : Int) by omega]
  exact i64_in (by omega) (by omega)
theorem IdxK.at {base : Option Addr} {len z : Nat} {i : Int} {K : Addr → Prop} (p : Nat) (ad : Addr) (e : i = (p : Int)) (h : base = some ad) (h1 : p < len) (k : K (ad.add (p * z))) : IdxK base len i z K := by
  subst e
  exact ⟨ad, h, by omega, by omega, by simpa using k⟩
theorem allR_iff {n : Nat} {f : Nat → Bool} : allR n f = true ↔ ∀ j, j < n → f j = true := by
  unfold allR
  simp
def ixF {α : Type} (p : α → Bool) (l : List α) : Int := match l.findIdx? p with | some i => (i : Int) | none => -1
theorem ix_any {α : Type} (p : α → Bool) (l : List α) : decide (0 ≤ ixF p l) = l.any p := by
  rw [← List.findIdx?_isSome]
  unfold ixF
  cases l.findIdx? p with
  | none => rfl
  | some i => simp
theorem ix_at {α : Type} {p : α → Bool} {l : List α} {k : Nat} (hk : k < l.length) (h : p l[k] = true) (ha : ∀ (j : Nat) (hj : j < l.length), j < k → p (l[j]'hj) = false) : ixF p l = (k : Int) := by
  unfold ixF
  rw [List.findIdx?_eq_some_iff_getElem.2 ⟨hk, h, fun j hj => by rw [ha j (by omega) hj]; decide⟩]
theorem ix_none {α : Type} {p : α → Bool} {l : List α} (ha : ∀ (j : Nat) (hj : j < l.length), p (l[j]'hj) = false) : ixF p l = -1 := by
  unfold ixF
  rw [List.findIdx?_eq_none_iff.2 fun x hx => by obtain ⟨j, hj, rfl⟩ := List.getElem_of_mem hx; exact ha j hj]
theorem between1_a (M : Mem) (x lo hi : Int) (a b : Addr) (ha : M (a.add 0) = some (.int .i64 lo)) (hb : M (b.add 0) = some (.int .i64 hi)) : Ans Try.prog M 69 #[.int .i64 x, .pointer (some a), .pointer (some b)] (.bool (!inR x lo hi)) := by
  refine ansC_of T (l := [.int .i64 x, .pointer (some a), .pointer (some b)]) mixed Try.func69 rfl (by kernel_rfl) (Nat.le_of_ble_eq_true rfl) ?_
  repeat' ((conv => whnf); first | refine LdK.mk _ (by assumption) ?_ | refine CallK.mk _ (between_a _ _ _ _) ?_ | fail)
  exact rfl
theorem ixInt_a (M : Mem) (l : List Int) (A : Option Addr) (c : Nat) (h : SlR M RInt 1 8 A c l) (lo hi : Int) (a b : Addr) (ha : M (a.add 0) = some (.int .i64 lo)) (hb : M (b.add 0) = some (.int .i64 hi)) : Ans Try.prog M 71 #[.slice A l.length c, .func (.func 69) #[] #[.pointer (some a), .pointer (some b)]] (.int .i64 (ixF (fun x => !inR x lo hi) l)) := by
  have hl := h.len
  refine ans_of T (l := [.slice A l.length c, .func (.func 69) #[] #[.pointer (some a), .pointer (some b)]]) mixed Try.func71 rfl (by kernel_rfl) (Nat.le_of_ble_eq_true rfl) ?_
  (conv => whnf)
  refine LoopK.mk {k : Nat // k ≤ l.length ∧ ∀ (j : Nat) (hj : j < l.length), j < k → (!inR (l[j]'hj) lo hi) = false} (fun ⟨k, _⟩ => [(0, .v (.slice A l.length c)), (1, .v (.func (.func 69) #[] #[.pointer (some a), .pointer (some b)])), (7, .v (.int .i64 (l.length : Int))), (8, .v (.int .i64 (k : Int)))]) (fun _ => []) (fun _ => M) (fun k => l.length - k.1) ⟨0, Nat.zero_le _, fun j _ hj => absurd hj (by omega)⟩ ⟨⟨⟨rfl, rfl, rfl, rfl, trivial⟩, trivial, rfl, rfl⟩, rfl⟩ ?_
  rintro ⟨k, hk, hp⟩
  (conv => whnf)
  refine CondK.mk (fun h1 => ?_) (fun h1 => ?_)
  · have hlt : k < l.length := by simpa using h1
    obtain ⟨ad, rfl, _, x0⟩ := at_Int h (List.getElem?_eq_getElem hlt)
    repeat' ((conv => whnf); first | with_reducible refine CondK.tt ?_ | with_reducible refine CondK.ff ?_ | refine IdxK.mk _ rfl (by omega) (by omega) ?_ | refine LdK.mk _ (by assumption) ?_ | refine CallK.mk _ (between1_a _ l[k] lo hi a b ha hb) ?_ | refine CondK.mk (fun hc => ?_) (fun hc => ?_) | fail)
    all_goals first
      | (show _ = _
         rw [ix_at (p := fun x => !inR x lo hi) hlt hc hp]
         rfl)
      | exact ⟨⟨k + 1, hlt, fun j hj hj' => by rcases Nat.lt_succ_iff_lt_or_eq.mp hj' with hj' | rfl; exact hp j hj hj'; exact hc⟩, ⟨⟨rfl, rfl, rfl, look_int (i64_succ (by omega)), trivial⟩, trivial, rfl, rfl⟩, rfl, by simp; omega⟩
  · have he : k = l.length := by have : ¬ k < l.length := by simpa using h1
                                 omega
    subst he
    rw [ix_none (p := fun x => !inR x lo hi) fun j hj => hp j hj hj]
    exact rfl
theorem hasInt_a (M : Mem) (l : List Int) (A : Option Addr) (c : Nat) (h : SlR M RInt 1 8 A c l) (lo hi : Int) (a b : Addr) (ha : M (a.add 0) = some (.int .i64 lo)) (hb : M (b.add 0) = some (.int .i64 hi)) : Ans Try.prog M 68 #[.slice A l.length c, .func (.func 69) #[] #[.pointer (some a), .pointer (some b)]] (.bool (l.any fun x => !inR x lo hi)) := by
  refine ans_of T (l := [.slice A l.length c, .func (.func 69) #[] #[.pointer (some a), .pointer (some b)]]) mixed Try.func68 rfl (by kernel_rfl) (Nat.le_of_ble_eq_true rfl) ?_
  (conv => whnf)
  refine CallK.mk _ (ixInt_a M l A c h lo hi a b ha hb) ?_
  (conv => whnf)
  exact ret_bool (ix_any _ _)
theorem allBetween_a (M : Mem) (l : List Int) (A : Option Addr) (c : Nat) (h : SlR M RInt 1 8 A c l) (lo hi : Int) : Ans Try.prog M 64 #[.slice A l.length c, .int .i64 lo, .int .i64 hi] (.bool (!l.any fun x => !inR x lo hi)) := by
  refine ans_of T (l := [.slice A l.length c, .int .i64 lo, .int .i64 hi]) mixed Try.func64 rfl (by kernel_rfl) (Nat.le_of_ble_eq_true rfl) ?_
  (conv => whnf)
  refine PubK.mk fun a M1 hl1 hc1 => ?_
  (conv => whnf)
  refine PubK.mk fun b M2 hl2 hc2 => ?_
  (conv => whnf)
  refine CallK.mk _ (hasInt_a M2 l A c ((h.mono hl1 (RInt.mono hl1)).mono hl2 (RInt.mono hl2)) lo hi a b (hl2 _ _ (hc1 0 _ rfl)) (hc2 0 _ rfl)) ?_
  (conv => whnf)
  exact rfl
def incP (l : List Int) (k : Nat) : Bool :=
  match l[k]? with
  | some x => !(decide (0 < k) && match l[k - 1]? with | some y => decide (x ≤ y) | none => false)
  | none => true
theorem incP_at {l : List Int} {k : Nat} {x y : Int} (hx : l[k]? = some x) (hy : l[k - 1]? = some y) : incP l k = !(decide (0 < k) && decide (x ≤ y)) := by
  unfold incP
  rw [hx, hy]
theorem increasing_a (M : Mem) (l : List Int) (A : Option Addr) (c : Nat) (h : SlR M RInt 1 8 A c l) : Ans Try.prog M 63 #[.slice A l.length c] (.bool (allR l.length (incP l))) := by
  have hl := h.len
  refine ans_of T (l := [.slice A l.length c]) mixed Try.func63 rfl (by kernel_rfl) (Nat.le_of_ble_eq_true rfl) ?_
  have h00 : ∀ j, j < 1 → incP l j = true := fun j hj => by
    have : j = 0 := by omega
    subst this
    unfold incP
    cases l[0]? <;> simp
  (conv => whnf)
  refine LoopK.mk {k : Nat // 1 ≤ k ∧ k ≤ l.length + 1 ∧ ∀ j, j < k → incP l j = true} (fun ⟨k, _⟩ => [(0, .v (.slice A l.length c)), (3, .v (.int .i64 (k : Int)))]) (fun _ => []) (fun _ => M) (fun k => l.length + 1 - k.1) ⟨1, Nat.le_refl _, by omega, h00⟩ ⟨⟨⟨rfl, rfl, trivial⟩, trivial, rfl, rfl⟩, rfl⟩ ?_
  rintro ⟨k, h1k, hk, ha⟩
  (conv => whnf)
  refine CondK.mk (fun h1 => ?_) (fun h1 => ?_)
  · have hlt : k < l.length := by simpa using h1
    obtain ⟨p, hp⟩ : ∃ p, p = k - 1 := ⟨_, rfl⟩
    have hpl : p < l.length := by omega
    have hx := List.getElem?_eq_getElem hlt
    have hy := List.getElem?_eq_getElem hpl
    obtain ⟨ad, rfl, _, x0⟩ := at_Int h hx
    obtain ⟨_, hae, _, y0⟩ := at_Int h hy
    cases hae
    have hb := incP_at hx (y := l[p]) (by rw [← hp]; exact hy)
    repeat' ((conv => whnf); first | with_reducible refine CondK.tt ?_ | with_reducible refine CondK.ff ?_ | refine IdxK.mk _ rfl (by omega) (by omega) ?_ | refine IdxK.at p _ (i64_pred hp (by omega) (by omega)) rfl hpl ?_ | refine LdK.mk _ (by assumption) ?_ | refine DrawN.q (by kernel_rfl) ?_ | refine CondK.mk (fun hc => ?_) (fun hc => ?_) | fail)
    all_goals first
      | (refine ret_bool (Eq.symm (allR_no hlt ?_))
         rw [hb]
         simp_all <;> omega)
      | (refine ⟨⟨k + 1, by omega, by omega, allR_step ha ?_⟩, ⟨⟨rfl, look_int (i64_succ (by omega)), trivial⟩, trivial, rfl, rfl⟩, rfl, by simp; omega⟩
         rw [hb]
         simp_all)
  · refine ret_bool (Eq.symm (allR_yes fun j hj => ha j ?_))
    have : ¬ k < l.length := by simpa using h1
    omega
def riseF (l : List Int) (lo hi : Int) (k : Nat) : Bool :=
  match l[k]? with
  | some x => inR x lo hi && !(decide (0 < k) && match l[k - 1]? with | some y => decide (x ≤ y) | none => false)
  | none => true
theorem riseF_at {l : List Int} {lo hi : Int} {k : Nat} {x y : Int} (hx : l[k]? = some x) (hy : l[k - 1]? = some y) : riseF l lo hi k = (inR x lo hi && !(decide (0 < k) && decide (x ≤ y))) := by
  unfold riseF
  rw [hx, hy]
theorem l00Rises_a (M : Mem) (l : List Int) (A : Option Addr) (c : Nat) (h : SlR M RInt 1 8 A c l) (lo hi : Int) : Ans Try.prog M 43 #[.slice A l.length c, .int .i64 lo, .int .i64 hi] (.bool (allR l.length (riseF l lo hi))) := by
  have hl := h.len
  refine ans_of T (l := [.slice A l.length c, .int .i64 lo, .int .i64 hi]) mixed Try.func43 rfl (by kernel_rfl) (Nat.le_of_ble_eq_true rfl) ?_
  (conv => whnf)
  refine LoopK.mk {k : Nat // k ≤ l.length ∧ ∀ j, j < k → riseF l lo hi j = true} (fun ⟨k, _⟩ => [(0, .v (.slice A l.length c)), (1, .v (.int .i64 lo)), (2, .v (.int .i64 hi)), (7, .v (.int .i64 (k : Int)))]) (fun _ => []) (fun _ => M) (fun k => l.length - k.1) ⟨0, Nat.zero_le _, fun j hj => absurd hj (by omega)⟩ ⟨⟨⟨rfl, rfl, rfl, rfl, trivial⟩, trivial, rfl, rfl⟩, rfl⟩ ?_
  rintro ⟨k, hk, ha⟩
  (conv => whnf)
  refine CondK.mk (fun h1 => ?_) (fun h1 => ?_)
  · have hlt : k < l.length := by simpa using h1
    obtain ⟨p, hp⟩ : ∃ p, p = k - 1 := ⟨_, rfl⟩
    have hpl : p < l.length := by omega
    have hx := List.getElem?_eq_getElem hlt
    have hy := List.getElem?_eq_getElem hpl
    obtain ⟨ad, rfl, _, x0⟩ := at_Int h hx
    obtain ⟨_, hae, _, y0⟩ := at_Int h hy
    cases hae
    have hb := riseF_at (lo := lo) (hi := hi) hx (y := l[p]) (by rw [← hp]; exact hy)
    repeat' ((conv => whnf); first | with_reducible refine CondK.tt ?_ | with_reducible refine CondK.ff ?_ | refine IdxK.mk _ rfl (by omega) (by omega) ?_ | refine IdxK.at p _ (i64_pred hp (by simpa using hc) (by omega)) rfl hpl ?_ | refine LdK.mk _ (by assumption) ?_ | refine DrawN.q (by kernel_rfl) ?_ | refine CallK.mk _ (l00In_a _ _ _ _) ?_ | refine CallQ.mk _ (l00In_a _ _ _ _) ?_ | refine GuardK.mk (fun hc => ?_) (fun hc => ?_) | refine CondK.mk (fun hc => ?_) (fun hc => ?_) | fail)
    all_goals first
      | (refine ret_bool (Eq.symm (allR_no hlt ?_))
         rw [hb]
         (simp_all <;> omega); done)
      | (refine ⟨⟨k + 1, hlt, allR_step ha ?_⟩, ⟨⟨rfl, rfl, rfl, look_int (i64_succ (by omega)), trivial⟩, trivial, rfl, rfl⟩, rfl, by simp; omega⟩
         rw [hb]
         (simp_all <;> omega); done)
      | fail
  · have he : k = l.length := by have : ¬ k < l.length := by simpa using h1
                                 omega
    subst he
    exact ret_bool (Eq.symm (allR_yes ha))
theorem isNodeM_a (M : Mem) (n : Int) : Ans Try.prog M 65 #[.int .i64 n] (.bool (inR n 0 15)) := by
  refine ans_of T (l := [.int .i64 n]) mixed Try.func65 rfl (by kernel_rfl) (Nat.le_of_ble_eq_true rfl) ?_
  repeat' ((conv => whnf); first | refine DrawN.q (by kernel_rfl) ?_ | with_reducible refine CondK.tt ?_ | with_reducible refine CondK.ff ?_ | with_reducible refine CondK.not ?_ | refine LdK.mk _ (by assumption) ?_ | refine CallK.mk _ (between_a _ _ _ _) ?_ | refine CallQ.mk _ (between_a _ _ _ _) ?_ | refine GuardK.mk (fun h => ?_) (fun h => ?_) | refine CondK.mk (fun h => ?_) (fun h => ?_) | fail)
  exact ret_bool rfl
theorem isDecidable_a (M : Mem) (n : Int) : Ans Try.prog M 55 #[.int .i64 n] (.bool (inR n 2 60)) := by
  refine ans_of T (l := [.int .i64 n]) mixed Try.func55 rfl (by kernel_rfl) (Nat.le_of_ble_eq_true rfl) ?_
  repeat' ((conv => whnf); first | refine DrawN.q (by kernel_rfl) ?_ | with_reducible refine CondK.tt ?_ | with_reducible refine CondK.ff ?_ | with_reducible refine CondK.not ?_ | refine LdK.mk _ (by assumption) ?_ | refine CallK.mk _ (between_a _ _ _ _) ?_ | refine CallQ.mk _ (between_a _ _ _ _) ?_ | refine GuardK.mk (fun h => ?_) (fun h => ?_) | refine CondK.mk (fun h => ?_) (fun h => ?_) | fail)
  exact ret_bool rfl
theorem l21Epoch_a (M : Mem) (n : Int) : Ans Try.prog M 29 #[.int .i64 n] (.bool (inR n 2 60)) := by
  refine ans_of T (l := [.int .i64 n]) mixed Try.func29 rfl (by kernel_rfl) (Nat.le_of_ble_eq_true rfl) ?_
  repeat' ((conv => whnf); first | refine DrawN.q (by kernel_rfl) ?_ | with_reducible refine CondK.tt ?_ | with_reducible refine CondK.ff ?_ | with_reducible refine CondK.not ?_ | refine LdK.mk _ (by assumption) ?_ | refine CallK.mk _ (l00In_a _ _ _ _) ?_ | refine CallQ.mk _ (l00In_a _ _ _ _) ?_ | refine GuardK.mk (fun h => ?_) (fun h => ?_) | refine CondK.mk (fun h => ?_) (fun h => ?_) | fail)
  exact ret_bool rfl
def ballotOkF (b : GBallot) : Bool := decide (b = ⟨0, 0⟩) || inR b.No 1 999 && inR b.By 0 4
theorem ballotOk_a (M : Mem) (b : GBallot) : Ans Try.prog M 56 #[.agg (List.toArray [.int .i64 b.No, .int .i64 b.By])] (.bool (ballotOkF b)) := by
  refine ans_of T (l := [.agg (List.toArray [.int .i64 b.No, .int .i64 b.By])]) mixed Try.func56 rfl (by kernel_rfl) (Nat.le_of_ble_eq_true rfl) ?_
  repeat' ((conv => whnf); first | refine DrawN.q (by kernel_rfl) ?_ | with_reducible refine CondK.tt ?_ | with_reducible refine CondK.ff ?_ | with_reducible refine CondK.not ?_ | refine LdK.mk _ (by assumption) ?_ | refine CallK.mk _ (between_a _ _ _ _) ?_ | refine CallQ.mk _ (between_a _ _ _ _) ?_ | refine GuardK.mk (fun h => ?_) (fun h => ?_) | refine CondK.mk (fun h => ?_) (fun h => ?_) | fail)
  all_goals refine ret_bool ?_
  all_goals (unfold ballotOkF; rw [← eqv_Ballot]; simp_all)
theorem l21Ballot_a (M : Mem) (b : GBallot) : Ans Try.prog M 30 #[.agg (List.toArray [.int .i64 b.No, .int .i64 b.By])] (.bool (ballotOkF b)) := by
  refine ans_of T (l := [.agg (List.toArray [.int .i64 b.No, .int .i64 b.By])]) mixed Try.func30 rfl (by kernel_rfl) (Nat.le_of_ble_eq_true rfl) ?_
  repeat' ((conv => whnf); first | refine DrawN.q (by kernel_rfl) ?_ | with_reducible refine CondK.tt ?_ | with_reducible refine CondK.ff ?_ | with_reducible refine CondK.not ?_ | refine LdK.mk _ (by assumption) ?_ | refine CallK.mk _ (l00In_a _ _ _ _) ?_ | refine CallQ.mk _ (l00In_a _ _ _ _) ?_ | refine GuardK.mk (fun h => ?_) (fun h => ?_) | refine CondK.mk (fun h => ?_) (fun h => ?_) | fail)
  all_goals refine ret_bool ?_
  all_goals (unfold ballotOkF; rw [← eqv_Ballot]; simp_all)
def fullF (b : GBallot) : Bool := ballotOkF b && !decide (b = ⟨0, 0⟩)
theorem l21Full_a (M : Mem) (b : GBallot) : Ans Try.prog M 42 #[.agg (List.toArray [.int .i64 b.No, .int .i64 b.By])] (.bool (fullF b)) := by
  refine ans_of T (l := [.agg (List.toArray [.int .i64 b.No, .int .i64 b.By])]) mixed Try.func42 rfl (by kernel_rfl) (Nat.le_of_ble_eq_true rfl) ?_
  repeat' ((conv => whnf); first | refine DrawN.q (by kernel_rfl) ?_ | with_reducible refine CondK.tt ?_ | with_reducible refine CondK.ff ?_ | with_reducible refine CondK.not ?_ | refine LdK.mk _ (by assumption) ?_ | refine CallK.mk _ (l21Ballot_a _ _) ?_ | refine CallQ.mk _ (l21Ballot_a _ _) ?_ | refine GuardK.mk (fun h => ?_) (fun h => ?_) | refine CondK.mk (fun h => ?_) (fun h => ?_) | fail)
  all_goals refine ret_bool ?_
  all_goals (unfold fullF; rw [← eqv_Ballot]; simp_all)
def lessF (a b : GBallot) : Bool := decide (a.No < b.No) || decide (a.No = b.No) && decide (a.By < b.By)
theorem l21Less_a (M : Mem) (a b : GBallot) : Ans Try.prog M 31 #[.agg (List.toArray [.int .i64 a.No, .int .i64 a.By]), .agg (List.toArray [.int .i64 b.No, .int .i64 b.By])] (.bool (lessF a b)) := by
  refine ans_of T (l := [.agg (List.toArray [.int .i64 a.No, .int .i64 a.By]), .agg (List.toArray [.int .i64 b.No, .int .i64 b.By])]) mixed Try.func31 rfl (by kernel_rfl) (Nat.le_of_ble_eq_true rfl) ?_
  repeat' ((conv => whnf); first | refine DrawN.q (by kernel_rfl) ?_ | with_reducible refine CondK.tt ?_ | with_reducible refine CondK.ff ?_ | with_reducible refine CondK.not ?_ | refine LdK.mk _ (by assumption) ?_ | refine GuardK.mk (fun h => ?_) (fun h => ?_) | refine CondK.mk (fun h => ?_) (fun h => ?_) | fail)
  all_goals refine ret_bool ?_
  all_goals (unfold lessF; simp_all)
def cmpBal (a b : GBallot) : Int := orF [cmpI a.No b.No, cmpI a.By b.By]
theorem cmpBal_less (a b : GBallot) : decide (cmpBal a b < 0) = lessF a b := by
  rw [Bool.eq_iff_iff]
  unfold cmpBal lessF orF orF orF cmpI
  simp only [decide_eq_true_eq, Bool.or_eq_true, Bool.and_eq_true]
  split <;> split <;> (try split) <;> (try split) <;> (try split) <;> omega
theorem compareBallots_a (M : Mem) (a b : GBallot) : Ans Try.prog M 62 #[.agg (List.toArray [.int .i64 a.No, .int .i64 a.By]), .agg (List.toArray [.int .i64 b.No, .int .i64 b.By])] (.int .i64 (cmpBal a b)) := by
  refine ans_of T (l := [.agg (List.toArray [.int .i64 a.No, .int .i64 a.By]), .agg (List.toArray [.int .i64 b.No, .int .i64 b.By])]) mixed Try.func62 rfl (by kernel_rfl) (Nat.le_of_ble_eq_true rfl) ?_
  (conv => whnf)
  refine DrawN.t 10 (by kernel_rfl) ?_
  repeat' ((conv => whnf); first | refine CallQ.mk _ (cmpInt64_a _ _ _) ?_ | fail)
  refine PubK.mk fun ad M' hl hg => ?_
  (conv => whnf)
  refine CallK.mk _ (or_a M' [cmpI a.No b.No, cmpI a.By b.By] (some ad) 2 (slInts (M := M') (ad := ad) [cmpI a.No b.No, cmpI a.By b.By] hg (by simp))) ?_
  (conv => whnf)
  exact ret_int rfl
theorem lessBallot_a (M : Mem) (a b : GBallot) : Ans Try.prog M 58 #[.agg (List.toArray [.int .i64 a.No, .int .i64 a.By]), .agg (List.toArray [.int .i64 b.No, .int .i64 b.By])] (.bool (lessF a b)) := by
  refine ans_of T (l := [.agg (List.toArray [.int .i64 a.No, .int .i64 a.By]), .agg (List.toArray [.int .i64 b.No, .int .i64 b.By])]) mixed Try.func58 rfl (by kernel_rfl) (Nat.le_of_ble_eq_true rfl) ?_
  repeat' ((conv => whnf); first | refine CallK.mk _ (compareBallots_a _ _ _) ?_ | refine DrawN.q (by kernel_rfl) ?_ | refine CallQ.mk _ (compareBallots_a _ _ _) ?_ | fail)
  exact ret_bool (cmpBal_less a b)
def incOkF (i : GInc) : Bool := inR i.Epoch 2 60 && inR i.Kind 1 6 && inR i.A 0 15 && (if i.Kind = 6 then (i.A == 0) && (i.B == 0) else if i.Kind = 5 then inR i.B 0 8 else (i.B == 0))
theorem incOk_a (M : Mem) (i : GInc) : Ans Try.prog M 61 #[.agg (List.toArray [.int .i64 i.Epoch, .int .i64 i.Kind, .int .i64 i.A, .int .i64 i.B])] (.bool (incOkF i)) := by
  have g1 := between_a M i.Epoch 2 60
  have g2 := between_a M i.Kind 1 6
  have g3 := isNodeM_a M i.A
  have g4 := between_a M i.B 0 8
  refine ans_of T (l := [.agg (List.toArray [.int .i64 i.Epoch, .int .i64 i.Kind, .int .i64 i.A, .int .i64 i.B])]) mixed Try.func61 rfl (by kernel_rfl) (Nat.le_of_ble_eq_true rfl) ?_
  cases q1 : inR i.Epoch 2 60 with
  | false =>
    rw [q1] at g1
    repeat' ((conv => whnf); first | refine DrawN.q (by kernel_rfl) ?_ | with_reducible refine CondK.tt ?_ | with_reducible refine CondK.ff ?_ | refine LdK.mk _ (by assumption) ?_ | refine CallK.mk _ (g1) ?_ | refine CallQ.mk _ (g1) ?_ | refine CallK.mk _ (g2) ?_ | refine CallQ.mk _ (g2) ?_ | refine CallK.mk _ (g3) ?_ | refine CallQ.mk _ (g3) ?_ | refine CallK.mk _ (g4) ?_ | refine CallQ.mk _ (g4) ?_ | fail | refine CondK.yes' (by assumption) ?_ | refine CondK.no' (by assumption) ?_ | fail)
    all_goals (refine ret_bool ?_; unfold incOkF; simp_all)
  | true =>
    rw [q1] at g1
    cases q2 : inR i.Kind 1 6 with
    | false =>
      rw [q2] at g2
      repeat' ((conv => whnf); first | refine DrawN.q (by kernel_rfl) ?_ | with_reducible refine CondK.tt ?_ | with_reducible refine CondK.ff ?_ | refine LdK.mk _ (by assumption) ?_ | refine CallK.mk _ (g1) ?_ | refine CallQ.mk _ (g1) ?_ | refine CallK.mk _ (g2) ?_ | refine CallQ.mk _ (g2) ?_ | refine CallK.mk _ (g3) ?_ | refine CallQ.mk _ (g3) ?_ | refine CallK.mk _ (g4) ?_ | refine CallQ.mk _ (g4) ?_ | fail | refine CondK.yes' (by assumption) ?_ | refine CondK.no' (by assumption) ?_ | fail)
      all_goals (refine ret_bool ?_; unfold incOkF; simp_all)
    | true =>
      rw [q2] at g2
      cases q3 : inR i.A 0 15 with
      | false =>
        rw [q3] at g3
        repeat' ((conv => whnf); first | refine DrawN.q (by kernel_rfl) ?_ | with_reducible refine CondK.tt ?_ | with_reducible refine CondK.ff ?_ | refine LdK.mk _ (by assumption) ?_ | refine CallK.mk _ (g1) ?_ | refine CallQ.mk _ (g1) ?_ | refine CallK.mk _ (g2) ?_ | refine CallQ.mk _ (g2) ?_ | refine CallK.mk _ (g3) ?_ | refine CallQ.mk _ (g3) ?_ | refine CallK.mk _ (g4) ?_ | refine CallQ.mk _ (g4) ?_ | fail | refine CondK.yes' (by assumption) ?_ | refine CondK.no' (by assumption) ?_ | fail)
        all_goals (refine ret_bool ?_; unfold incOkF; simp_all)
      | true =>
        rw [q3] at g3
        cases k6 : (i.Kind == 6) with
        | false =>
          cases k5 : (i.Kind == 5) with
          | false =>
            repeat' ((conv => whnf); first | refine DrawN.q (by kernel_rfl) ?_ | with_reducible refine CondK.tt ?_ | with_reducible refine CondK.ff ?_ | refine LdK.mk _ (by assumption) ?_ | refine CallK.mk _ (g1) ?_ | refine CallQ.mk _ (g1) ?_ | refine CallK.mk _ (g2) ?_ | refine CallQ.mk _ (g2) ?_ | refine CallK.mk _ (g3) ?_ | refine CallQ.mk _ (g3) ?_ | refine CallK.mk _ (g4) ?_ | refine CallQ.mk _ (g4) ?_ | rw [k6] | rw [k5] | refine CondK.yes' (by assumption) ?_ | refine CondK.no' (by assumption) ?_ | fail)
            all_goals (refine ret_bool ?_; unfold incOkF; simp_all)
          | true =>
            repeat' ((conv => whnf); first | refine DrawN.q (by kernel_rfl) ?_ | with_reducible refine CondK.tt ?_ | with_reducible refine CondK.ff ?_ | refine LdK.mk _ (by assumption) ?_ | refine CallK.mk _ (g1) ?_ | refine CallQ.mk _ (g1) ?_ | refine CallK.mk _ (g2) ?_ | refine CallQ.mk _ (g2) ?_ | refine CallK.mk _ (g3) ?_ | refine CallQ.mk _ (g3) ?_ | refine CallK.mk _ (g4) ?_ | refine CallQ.mk _ (g4) ?_ | rw [k6] | rw [k5] | refine CondK.yes' (by assumption) ?_ | refine CondK.no' (by assumption) ?_ | fail)
            all_goals (refine ret_bool ?_; unfold incOkF; simp_all)
        | true =>
          cases a0 : (i.A != 0) with
          | false =>
            cases k5 : (i.Kind == 5) with
            | false =>
              repeat' ((conv => whnf); first | refine DrawN.q (by kernel_rfl) ?_ | with_reducible refine CondK.tt ?_ | with_reducible refine CondK.ff ?_ | refine LdK.mk _ (by assumption) ?_ | refine CallK.mk _ (g1) ?_ | refine CallQ.mk _ (g1) ?_ | refine CallK.mk _ (g2) ?_ | refine CallQ.mk _ (g2) ?_ | refine CallK.mk _ (g3) ?_ | refine CallQ.mk _ (g3) ?_ | refine CallK.mk _ (g4) ?_ | refine CallQ.mk _ (g4) ?_ | rw [k6] | rw [a0] | rw [k5] | refine CondK.yes' (by assumption) ?_ | refine CondK.no' (by assumption) ?_ | fail)
              all_goals (refine ret_bool ?_; unfold incOkF; simp_all)
            | true =>
              repeat' ((conv => whnf); first | refine DrawN.q (by kernel_rfl) ?_ | with_reducible refine CondK.tt ?_ | with_reducible refine CondK.ff ?_ | refine LdK.mk _ (by assumption) ?_ | refine CallK.mk _ (g1) ?_ | refine CallQ.mk _ (g1) ?_ | refine CallK.mk _ (g2) ?_ | refine CallQ.mk _ (g2) ?_ | refine CallK.mk _ (g3) ?_ | refine CallQ.mk _ (g3) ?_ | refine CallK.mk _ (g4) ?_ | refine CallQ.mk _ (g4) ?_ | rw [k6] | rw [a0] | rw [k5] | refine CondK.yes' (by assumption) ?_ | refine CondK.no' (by assumption) ?_ | fail)
              all_goals (refine ret_bool ?_; unfold incOkF; simp_all)
          | true =>
            repeat' ((conv => whnf); first | refine DrawN.q (by kernel_rfl) ?_ | with_reducible refine CondK.tt ?_ | with_reducible refine CondK.ff ?_ | refine LdK.mk _ (by assumption) ?_ | refine CallK.mk _ (g1) ?_ | refine CallQ.mk _ (g1) ?_ | refine CallK.mk _ (g2) ?_ | refine CallQ.mk _ (g2) ?_ | refine CallK.mk _ (g3) ?_ | refine CallQ.mk _ (g3) ?_ | refine CallK.mk _ (g4) ?_ | refine CallQ.mk _ (g4) ?_ | rw [k6] | rw [a0] | refine CondK.yes' (by assumption) ?_ | refine CondK.no' (by assumption) ?_ | fail)
            all_goals (refine ret_bool ?_; unfold incOkF; simp_all)
theorem l11Inc_a (M : Mem) (i : GInc) : Ans Try.prog M 53 #[.agg (List.toArray [.int .i64 i.Epoch, .int .i64 i.Kind, .int .i64 i.A, .int .i64 i.B])] (.bool (incOkF i)) := by
  have g1 := l00In_a M i.Epoch 2 60
  have g2 := l00In_a M i.Kind 1 6
  have g3 := l00In_a M i.A 0 15
  have g4 := l00In_a M i.B 0 8
  refine ans_of T (l := [.agg (List.toArray [.int .i64 i.Epoch, .int .i64 i.Kind, .int .i64 i.A, .int .i64 i.B])]) mixed Try.func53 rfl (by kernel_rfl) (Nat.le_of_ble_eq_true rfl) ?_
  cases q1 : inR i.Epoch 2 60 with
  | false =>
    rw [q1] at g1
    repeat' ((conv => whnf); first | refine DrawN.q (by kernel_rfl) ?_ | with_reducible refine CondK.tt ?_ | with_reducible refine CondK.ff ?_ | refine LdK.mk _ (by assumption) ?_ | refine CallK.mk _ (g1) ?_ | refine CallQ.mk _ (g1) ?_ | refine CallK.mk _ (g2) ?_ | refine CallQ.mk _ (g2) ?_ | refine CallK.mk _ (g3) ?_ | refine CallQ.mk _ (g3) ?_ | refine CallK.mk _ (g4) ?_ | refine CallQ.mk _ (g4) ?_ | fail | refine CondK.yes' (by assumption) ?_ | refine CondK.no' (by assumption) ?_ | fail)
    all_goals (refine ret_bool ?_; unfold incOkF; (first | (exfalso; unfold inR at q3; simp_all; done) | simp_all))
  | true =>
    rw [q1] at g1
    cases q2 : inR i.Kind 1 6 with
    | false =>
      rw [q2] at g2
      repeat' ((conv => whnf); first | refine DrawN.q (by kernel_rfl) ?_ | with_reducible refine CondK.tt ?_ | with_reducible refine CondK.ff ?_ | refine LdK.mk _ (by assumption) ?_ | refine CallK.mk _ (g1) ?_ | refine CallQ.mk _ (g1) ?_ | refine CallK.mk _ (g2) ?_ | refine CallQ.mk _ (g2) ?_ | refine CallK.mk _ (g3) ?_ | refine CallQ.mk _ (g3) ?_ | refine CallK.mk _ (g4) ?_ | refine CallQ.mk _ (g4) ?_ | fail | refine CondK.yes' (by assumption) ?_ | refine CondK.no' (by assumption) ?_ | fail)
      all_goals (refine ret_bool ?_; unfold incOkF; (first | (exfalso; unfold inR at q3; simp_all; done) | simp_all))
    | true =>
      rw [q2] at g2
      cases q3 : inR i.A 0 15 with
      | false =>
        rw [q3] at g3
        cases k6 : (i.Kind == 6) with
        | false =>
          cases k5 : (i.Kind == 5) with
          | false =>
            repeat' ((conv => whnf); first | refine DrawN.q (by kernel_rfl) ?_ | with_reducible refine CondK.tt ?_ | with_reducible refine CondK.ff ?_ | refine LdK.mk _ (by assumption) ?_ | refine CallK.mk _ (g1) ?_ | refine CallQ.mk _ (g1) ?_ | refine CallK.mk _ (g2) ?_ | refine CallQ.mk _ (g2) ?_ | refine CallK.mk _ (g3) ?_ | refine CallQ.mk _ (g3) ?_ | refine CallK.mk _ (g4) ?_ | refine CallQ.mk _ (g4) ?_ | rw [k6] | rw [k5] | refine CondK.yes' (by assumption) ?_ | refine CondK.no' (by assumption) ?_ | fail)
            all_goals (refine ret_bool ?_; unfold incOkF; (first | (exfalso; unfold inR at q3; simp_all; done) | simp_all))
          | true =>
            repeat' ((conv => whnf); first | refine DrawN.q (by kernel_rfl) ?_ | with_reducible refine CondK.tt ?_ | with_reducible refine CondK.ff ?_ | refine LdK.mk _ (by assumption) ?_ | refine CallK.mk _ (g1) ?_ | refine CallQ.mk _ (g1) ?_ | refine CallK.mk _ (g2) ?_ | refine CallQ.mk _ (g2) ?_ | refine CallK.mk _ (g3) ?_ | refine CallQ.mk _ (g3) ?_ | refine CallK.mk _ (g4) ?_ | refine CallQ.mk _ (g4) ?_ | rw [k6] | rw [k5] | refine CondK.yes' (by assumption) ?_ | refine CondK.no' (by assumption) ?_ | fail)
            all_goals (refine ret_bool ?_; unfold incOkF; (first | (exfalso; unfold inR at q3; simp_all; done) | simp_all))
        | true =>
          cases a0 : (i.A == 0) with
          | false =>
            repeat' ((conv => whnf); first | refine DrawN.q (by kernel_rfl) ?_ | with_reducible refine CondK.tt ?_ | with_reducible refine CondK.ff ?_ | refine LdK.mk _ (by assumption) ?_ | refine CallK.mk _ (g1) ?_ | refine CallQ.mk _ (g1) ?_ | refine CallK.mk _ (g2) ?_ | refine CallQ.mk _ (g2) ?_ | refine CallK.mk _ (g3) ?_ | refine CallQ.mk _ (g3) ?_ | refine CallK.mk _ (g4) ?_ | refine CallQ.mk _ (g4) ?_ | rw [k6] | rw [a0] | refine CondK.yes' (by assumption) ?_ | refine CondK.no' (by assumption) ?_ | fail)
            all_goals (refine ret_bool ?_; unfold incOkF; (first | (exfalso; unfold inR at q3; simp_all; done) | simp_all))
          | true =>
            repeat' ((conv => whnf); first | refine DrawN.q (by kernel_rfl) ?_ | with_reducible refine CondK.tt ?_ | with_reducible refine CondK.ff ?_ | refine LdK.mk _ (by assumption) ?_ | refine CallK.mk _ (g1) ?_ | refine CallQ.mk _ (g1) ?_ | refine CallK.mk _ (g2) ?_ | refine CallQ.mk _ (g2) ?_ | refine CallK.mk _ (g3) ?_ | refine CallQ.mk _ (g3) ?_ | refine CallK.mk _ (g4) ?_ | refine CallQ.mk _ (g4) ?_ | rw [k6] | rw [a0] | refine CondK.yes' (by assumption) ?_ | refine CondK.no' (by assumption) ?_ | fail)
            all_goals (refine ret_bool ?_; unfold incOkF; (first | (exfalso; unfold inR at q3; simp_all; done) | simp_all))
      | true =>
        rw [q3] at g3
        cases k6 : (i.Kind == 6) with
        | false =>
          cases k5 : (i.Kind == 5) with
          | false =>
            repeat' ((conv => whnf); first | refine DrawN.q (by kernel_rfl) ?_ | with_reducible refine CondK.tt ?_ | with_reducible refine CondK.ff ?_ | refine LdK.mk _ (by assumption) ?_ | refine CallK.mk _ (g1) ?_ | refine CallQ.mk _ (g1) ?_ | refine CallK.mk _ (g2) ?_ | refine CallQ.mk _ (g2) ?_ | refine CallK.mk _ (g3) ?_ | refine CallQ.mk _ (g3) ?_ | refine CallK.mk _ (g4) ?_ | refine CallQ.mk _ (g4) ?_ | rw [k6] | rw [k5] | refine CondK.yes' (by assumption) ?_ | refine CondK.no' (by assumption) ?_ | fail)
            all_goals (refine ret_bool ?_; unfold incOkF; (first | (exfalso; unfold inR at q3; simp_all; done) | simp_all))
          | true =>
            repeat' ((conv => whnf); first | refine DrawN.q (by kernel_rfl) ?_ | with_reducible refine CondK.tt ?_ | with_reducible refine CondK.ff ?_ | refine LdK.mk _ (by assumption) ?_ | refine CallK.mk _ (g1) ?_ | refine CallQ.mk _ (g1) ?_ | refine CallK.mk _ (g2) ?_ | refine CallQ.mk _ (g2) ?_ | refine CallK.mk _ (g3) ?_ | refine CallQ.mk _ (g3) ?_ | refine CallK.mk _ (g4) ?_ | refine CallQ.mk _ (g4) ?_ | rw [k6] | rw [k5] | refine CondK.yes' (by assumption) ?_ | refine CondK.no' (by assumption) ?_ | fail)
            all_goals (refine ret_bool ?_; unfold incOkF; (first | (exfalso; unfold inR at q3; simp_all; done) | simp_all))
        | true =>
          cases a0 : (i.A == 0) with
          | false =>
            repeat' ((conv => whnf); first | refine DrawN.q (by kernel_rfl) ?_ | with_reducible refine CondK.tt ?_ | with_reducible refine CondK.ff ?_ | refine LdK.mk _ (by assumption) ?_ | refine CallK.mk _ (g1) ?_ | refine CallQ.mk _ (g1) ?_ | refine CallK.mk _ (g2) ?_ | refine CallQ.mk _ (g2) ?_ | refine CallK.mk _ (g3) ?_ | refine CallQ.mk _ (g3) ?_ | refine CallK.mk _ (g4) ?_ | refine CallQ.mk _ (g4) ?_ | rw [k6] | rw [a0] | refine CondK.yes' (by assumption) ?_ | refine CondK.no' (by assumption) ?_ | fail)
            all_goals (refine ret_bool ?_; unfold incOkF; (first | (exfalso; unfold inR at q3; simp_all; done) | simp_all))
          | true =>
            repeat' ((conv => whnf); first | refine DrawN.q (by kernel_rfl) ?_ | with_reducible refine CondK.tt ?_ | with_reducible refine CondK.ff ?_ | refine LdK.mk _ (by assumption) ?_ | refine CallK.mk _ (g1) ?_ | refine CallQ.mk _ (g1) ?_ | refine CallK.mk _ (g2) ?_ | refine CallQ.mk _ (g2) ?_ | refine CallK.mk _ (g3) ?_ | refine CallQ.mk _ (g3) ?_ | refine CallK.mk _ (g4) ?_ | refine CallQ.mk _ (g4) ?_ | rw [k6] | rw [a0] | refine CondK.yes' (by assumption) ?_ | refine CondK.no' (by assumption) ?_ | fail)
            all_goals (refine ret_bool ?_; unfold incOkF; (first | (exfalso; unfold inR at q3; simp_all; done) | simp_all))
theorem sIncOk_a (M : Mem) (i : GInc) : Ans Try.prog M 41 #[.agg (List.toArray [.int .i64 i.Epoch, .int .i64 i.Kind, .int .i64 i.A, .int .i64 i.B])] (.bool (incOkF i)) := by
  refine ans_of T (l := [.agg (List.toArray [.int .i64 i.Epoch, .int .i64 i.Kind, .int .i64 i.A, .int .i64 i.B])]) mixed Try.func41 rfl (by kernel_rfl) (Nat.le_of_ble_eq_true rfl) ?_
  repeat' ((conv => whnf); first | refine DrawN.q (by kernel_rfl) ?_ | with_reducible refine CondK.tt ?_ | with_reducible refine CondK.ff ?_ | with_reducible refine CondK.not ?_ | refine LdK.mk _ (by assumption) ?_ | refine CallK.mk _ (l11Inc_a _ _) ?_ | refine CallQ.mk _ (l11Inc_a _ _) ?_ | refine GuardK.mk (fun h => ?_) (fun h => ?_) | refine CondK.mk (fun h => ?_) (fun h => ?_) | fail)
  exact ret_bool rfl
def incForF (i : GInc) (e : Int) : Bool := incOkF i && (i.Epoch == e)
theorem incFor_a (M : Mem) (i : GInc) (e : Int) : Ans Try.prog M 57 #[.agg (List.toArray [.int .i64 i.Epoch, .int .i64 i.Kind, .int .i64 i.A, .int .i64 i.B]), .int .i64 e] (.bool (incForF i e)) := by
  refine ans_of T (l := [.agg (List.toArray [.int .i64 i.Epoch, .int .i64 i.Kind, .int .i64 i.A, .int .i64 i.B]), .int .i64 e]) mixed Try.func57 rfl (by kernel_rfl) (Nat.le_of_ble_eq_true rfl) ?_
  repeat' ((conv => whnf); first | refine DrawN.q (by kernel_rfl) ?_ | with_reducible refine CondK.tt ?_ | with_reducible refine CondK.ff ?_ | with_reducible refine CondK.not ?_ | refine LdK.mk _ (by assumption) ?_ | refine CallK.mk _ (incOk_a _ _) ?_ | refine CallQ.mk _ (incOk_a _ _) ?_ | refine GuardK.mk (fun h => ?_) (fun h => ?_) | refine CondK.mk (fun h => ?_) (fun h => ?_) | fail)
  all_goals refine ret_bool ?_
  all_goals (unfold incForF; simp_all)
def incWithF (a : GBallot) (i : GInc) (e : Int) : Bool := if a = ⟨0, 0⟩ then decide (i = ⟨0, 0, 0, 0⟩) else incForF i e
theorem incWith_a (M : Mem) (i : GInc) (a : GBallot) (e : Int) : Ans Try.prog M 60 #[.agg (List.toArray [.int .i64 i.Epoch, .int .i64 i.Kind, .int .i64 i.A, .int .i64 i.B]), .agg (List.toArray [.int .i64 a.No, .int .i64 a.By]), .int .i64 e] (.bool (incWithF a i e)) := by
  have eb := eqv_Ballot a ⟨0, 0⟩
  have ei := eqv_Inc i ⟨0, 0, 0, 0⟩
  have g1 := incFor_a M i e
  refine ans_of T (l := [.agg (List.toArray [.int .i64 i.Epoch, .int .i64 i.Kind, .int .i64 i.A, .int .i64 i.B]), .agg (List.toArray [.int .i64 a.No, .int .i64 a.By]), .int .i64 e]) mixed Try.func60 rfl (by kernel_rfl) (Nat.le_of_ble_eq_true rfl) ?_
  cases z : (a.No == 0 && (a.By == 0 && true)) with
  | false =>
    repeat' ((conv => whnf); first | refine DrawN.q (by kernel_rfl) ?_ | with_reducible refine CondK.tt ?_ | with_reducible refine CondK.ff ?_ | refine LdK.mk _ (by assumption) ?_ | refine CallK.mk _ (g1) ?_ | refine CallQ.mk _ (g1) ?_ | rw [z] | refine CondK.yes' (by assumption) ?_ | refine CondK.no' (by assumption) ?_ | fail)
    all_goals (refine ret_bool ?_; unfold incWithF; simp_all)
  | true =>
    repeat' ((conv => whnf); first | refine DrawN.q (by kernel_rfl) ?_ | with_reducible refine CondK.tt ?_ | with_reducible refine CondK.ff ?_ | refine LdK.mk _ (by assumption) ?_ | refine CallK.mk _ (g1) ?_ | refine CallQ.mk _ (g1) ?_ | rw [z] | refine CondK.yes' (by assumption) ?_ | refine CondK.no' (by assumption) ?_ | fail)
    all_goals (refine ret_bool ?_; unfold incWithF; simp_all)
theorem l21Value_a (M : Mem) (a : GBallot) (i : GInc) (e : Int) : Ans Try.prog M 32 #[.agg (List.toArray [.int .i64 a.No, .int .i64 a.By]), .agg (List.toArray [.int .i64 i.Epoch, .int .i64 i.Kind, .int .i64 i.A, .int .i64 i.B]), .int .i64 e] (.bool (incWithF a i e)) := by
  have eb := eqv_Ballot a ⟨0, 0⟩
  have ei := eqv_Inc i ⟨0, 0, 0, 0⟩
  have g1 := sIncOk_a M i
  refine ans_of T (l := [.agg (List.toArray [.int .i64 a.No, .int .i64 a.By]), .agg (List.toArray [.int .i64 i.Epoch, .int .i64 i.Kind, .int .i64 i.A, .int .i64 i.B]), .int .i64 e]) mixed Try.func32 rfl (by kernel_rfl) (Nat.le_of_ble_eq_true rfl) ?_
  cases z : (a.No == 0 && (a.By == 0 && true)) with
  | false =>
    cases q1 : incOkF i with
    | false =>
      rw [q1] at g1
      repeat' ((conv => whnf); first | refine DrawN.q (by kernel_rfl) ?_ | with_reducible refine CondK.tt ?_ | with_reducible refine CondK.ff ?_ | refine LdK.mk _ (by assumption) ?_ | refine CallK.mk _ (g1) ?_ | refine CallQ.mk _ (g1) ?_ | rw [z] | refine CondK.yes' (by assumption) ?_ | refine CondK.no' (by assumption) ?_ | fail)
      all_goals (refine ret_bool ?_; unfold incWithF incForF; simp_all)
    | true =>
      rw [q1] at g1
      repeat' ((conv => whnf); first | refine DrawN.q (by kernel_rfl) ?_ | with_reducible refine CondK.tt ?_ | with_reducible refine CondK.ff ?_ | refine LdK.mk _ (by assumption) ?_ | refine CallK.mk _ (g1) ?_ | refine CallQ.mk _ (g1) ?_ | rw [z] | refine CondK.yes' (by assumption) ?_ | refine CondK.no' (by assumption) ?_ | fail)
      all_goals (refine ret_bool ?_; unfold incWithF incForF; simp_all)
  | true =>
    repeat' ((conv => whnf); first | refine DrawN.q (by kernel_rfl) ?_ | with_reducible refine CondK.tt ?_ | with_reducible refine CondK.ff ?_ | refine LdK.mk _ (by assumption) ?_ | refine CallK.mk _ (g1) ?_ | refine CallQ.mk _ (g1) ?_ | rw [z] | refine CondK.yes' (by assumption) ?_ | refine CondK.no' (by assumption) ?_ | fail)
    all_goals (refine ret_bool ?_; unfold incWithF incForF; simp_all)
def slotOkF (s : GSlot) : Bool := inR s.Epoch 2 60 && ballotOkF s.Promised && ballotOkF s.Accepted && !lessF s.Promised s.Accepted && incWithF s.Accepted s.Inc s.Epoch
theorem slotOk_a (M : Mem) (s : GSlot) : Ans Try.prog M 49 #[.agg (List.toArray [.int .i64 s.Epoch, .int .i64 s.Promised.No, .int .i64 s.Promised.By, .int .i64 s.Accepted.No, .int .i64 s.Accepted.By, .int .i64 s.Inc.Epoch, .int .i64 s.Inc.Kind, .int .i64 s.Inc.A, .int .i64 s.Inc.B])] (.bool (slotOkF s)) := by
  have g1 := isDecidable_a M s.Epoch
  have g2 := ballotOk_a M s.Promised
  have g3 := ballotOk_a M s.Accepted
  have g4 := lessBallot_a M s.Promised s.Accepted
  have g5 := incWith_a M s.Inc s.Accepted s.Epoch
  refine ans_of T (l := [.agg (List.toArray [.int .i64 s.Epoch, .int .i64 s.Promised.No, .int .i64 s.Promised.By, .int .i64 s.Accepted.No, .int .i64 s.Accepted.By, .int .i64 s.Inc.Epoch, .int .i64 s.Inc.Kind, .int .i64 s.Inc.A, .int .i64 s.Inc.B])]) mixed Try.func49 rfl (by kernel_rfl) (Nat.le_of_ble_eq_true rfl) ?_
  cases q1 : inR s.Epoch 2 60 with
  | false =>
    rw [q1] at g1
    repeat' ((conv => whnf); first | refine DrawN.q (by kernel_rfl) ?_ | with_reducible refine CondK.tt ?_ | with_reducible refine CondK.ff ?_ | refine LdK.mk _ (by assumption) ?_ | refine CallK.mk _ (g1) ?_ | refine CallQ.mk _ (g1) ?_ | refine CallK.mk _ (g2) ?_ | refine CallQ.mk _ (g2) ?_ | refine CallK.mk _ (g3) ?_ | refine CallQ.mk _ (g3) ?_ | refine CallK.mk _ (g4) ?_ | refine CallQ.mk _ (g4) ?_ | refine CallK.mk _ (g5) ?_ | refine CallQ.mk _ (g5) ?_ | fail | refine CondK.yes' (by assumption) ?_ | refine CondK.no' (by assumption) ?_ | fail)
    all_goals (refine ret_bool ?_; unfold slotOkF; simp_all)
  | true =>
    rw [q1] at g1
    cases q2 : ballotOkF s.Promised with
    | false =>
      rw [q2] at g2
      repeat' ((conv => whnf); first | refine DrawN.q (by kernel_rfl) ?_ | with_reducible refine CondK.tt ?_ | with_reducible refine CondK.ff ?_ | refine LdK.mk _ (by assumption) ?_ | refine CallK.mk _ (g1) ?_ | refine CallQ.mk _ (g1) ?_ | refine CallK.mk _ (g2) ?_ | refine CallQ.mk _ (g2) ?_ | refine CallK.mk _ (g3) ?_ | refine CallQ.mk _ (g3) ?_ | refine CallK.mk _ (g4) ?_ | refine CallQ.mk _ (g4) ?_ | refine CallK.mk _ (g5) ?_ | refine CallQ.mk _ (g5) ?_ | fail | refine CondK.yes' (by assumption) ?_ | refine CondK.no' (by assumption) ?_ | fail)
      all_goals (refine ret_bool ?_; unfold slotOkF; simp_all)
    | true =>
      rw [q2] at g2
      cases q3 : ballotOkF s.Accepted with
      | false =>
        rw [q3] at g3
        repeat' ((conv => whnf); first | refine DrawN.q (by kernel_rfl) ?_ | with_reducible refine CondK.tt ?_ | with_reducible refine CondK.ff ?_ | refine LdK.mk _ (by assumption) ?_ | refine CallK.mk _ (g1) ?_ | refine CallQ.mk _ (g1) ?_ | refine CallK.mk _ (g2) ?_ | refine CallQ.mk _ (g2) ?_ | refine CallK.mk _ (g3) ?_ | refine CallQ.mk _ (g3) ?_ | refine CallK.mk _ (g4) ?_ | refine CallQ.mk _ (g4) ?_ | refine CallK.mk _ (g5) ?_ | refine CallQ.mk _ (g5) ?_ | fail | refine CondK.yes' (by assumption) ?_ | refine CondK.no' (by assumption) ?_ | fail)
        all_goals (refine ret_bool ?_; unfold slotOkF; simp_all)
      | true =>
        rw [q3] at g3
        cases q4 : lessF s.Promised s.Accepted with
        | false =>
          rw [q4] at g4
          repeat' ((conv => whnf); first | refine DrawN.q (by kernel_rfl) ?_ | with_reducible refine CondK.tt ?_ | with_reducible refine CondK.ff ?_ | refine LdK.mk _ (by assumption) ?_ | refine CallK.mk _ (g1) ?_ | refine CallQ.mk _ (g1) ?_ | refine CallK.mk _ (g2) ?_ | refine CallQ.mk _ (g2) ?_ | refine CallK.mk _ (g3) ?_ | refine CallQ.mk _ (g3) ?_ | refine CallK.mk _ (g4) ?_ | refine CallQ.mk _ (g4) ?_ | refine CallK.mk _ (g5) ?_ | refine CallQ.mk _ (g5) ?_ | fail | refine CondK.yes' (by assumption) ?_ | refine CondK.no' (by assumption) ?_ | fail)
          all_goals (refine ret_bool ?_; unfold slotOkF; simp_all)
        | true =>
          rw [q4] at g4
          repeat' ((conv => whnf); first | refine DrawN.q (by kernel_rfl) ?_ | with_reducible refine CondK.tt ?_ | with_reducible refine CondK.ff ?_ | refine LdK.mk _ (by assumption) ?_ | refine CallK.mk _ (g1) ?_ | refine CallQ.mk _ (g1) ?_ | refine CallK.mk _ (g2) ?_ | refine CallQ.mk _ (g2) ?_ | refine CallK.mk _ (g3) ?_ | refine CallQ.mk _ (g3) ?_ | refine CallK.mk _ (g4) ?_ | refine CallQ.mk _ (g4) ?_ | refine CallK.mk _ (g5) ?_ | refine CallQ.mk _ (g5) ?_ | fail | refine CondK.yes' (by assumption) ?_ | refine CondK.no' (by assumption) ?_ | fail)
          all_goals (refine ret_bool ?_; unfold slotOkF; simp_all)
end Go.Proofs.Ytmmgknhefobloaa.Hlp
