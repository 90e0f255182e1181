/- SearchLine: a list of calls. -/
import Derived.Test.YthlnapamdcmlkaaFunCB
namespace Go.Proofs.Ythlnapamdcmlkaa.Hlp
open Go Go.RowKit Go.Proofs Go.Proofs.Ythlnapamdcmlkaa.Lw
set_option linter.unusedVariables false
set_option linter.unusedSimpArgs false
set_option maxRecDepth 100000
set_option maxHeartbeats 4000000
theorem SlR.takeT {α : Type} {M : Mem} {R : Mem → α → List Value → Prop} {z by_ cap : Nat} {A : Option Addr} {l : List α} (h : SlR M R z by_ A cap l) {k : Nat} (hk : k ≤ l.length) : SlR M R z by_ (if cap = 0 then A else A.map (·.add (0 * z))) (cap - 0) (l.take k) := by
  have := h.sub (lo := 0) (hi := k) (Nat.zero_le _) hk
  simpa using this
def ixF {α : Type} (p : α → Bool) (l : List α) : Int := match l.findIdx? p with | some i => (i : Int) | none => -1
theorem ix_any {α : Type} (p : α → Bool) (l : List α) : decide (0 ≤ ixF p l) = l.any p := by
  rw [← List.findIdx?_isSome]
  unfold ixF
  cases l.findIdx? p with
  | none => rfl
  | some i => simp
theorem ix_at {α : Type} {p : α → Bool} {l : List α} {k : Nat} (hk : k < l.length) (h : p l[k] = true) (ha : ∀ (j : Nat) (hj : j < l.length), j < k → p (l[j]'hj) = false) : ixF p l = (k : Int) := by
  unfold ixF
  rw [List.findIdx?_eq_some_iff_getElem.2 ⟨hk, h, fun j hj => by rw [ha j (by omega) hj]; decide⟩]
theorem ix_none {α : Type} {p : α → Bool} {l : List α} (ha : ∀ (j : Nat) (hj : j < l.length), p (l[j]'hj) = false) : ixF p l = -1 := by
  unfold ixF
  rw [List.findIdx?_eq_none_iff.2 fun x hx => by obtain ⟨j, hj, rfl⟩ := List.getElem_of_mem hx; exact ha j hj]
theorem ixCall_a (M : Mem) (l : List GCall) (A : Option Addr) (c : Nat) (h : SlR M RCall 14 136 A c l) (f : FuncId) (a : Addr) (p : GCall → Bool) (hf : ∀ x ∈ l, Ans Try.prog M f #[.agg (List.toArray [.int .i64 x.Client, .int .i64 x.No, .int .i64 x.Pg.Pool, .int .i64 x.Pg.No, .string x.Name, .int .i64 x.Op.Kind, .int .i64 x.Op.At, .string x.Op.Bytes, .int .i64 x.Begin, .int .i64 x.End, .int .i64 x.Code, .int .i64 x.Ver.Epoch, .int .i64 x.Ver.Seq, .string x.Body]), .pointer (some a)] (.bool (p x))) : Ans Try.prog M 42 #[.slice A l.length c, .func (.func f) #[] #[.pointer (some a)]] (.int .i64 (ixF p l)) := by
  have hl := h.len
  refine ans_of T (l := [.slice A l.length c, .func (.func f) #[] #[.pointer (some a)]]) mixed Try.func42 rfl (by kernel_rfl) (Nat.le_of_ble_eq_true rfl) ?_
  (conv => whnf)
  refine LoopK.mk {k : Nat // k ≤ l.length ∧ ∀ (j : Nat) (hj : j < l.length), j < k → p (l[j]'hj) = false} (fun ⟨k, _⟩ => [(0, .v (.slice A l.length c)), (1, .v (.func (.func f) #[] #[.pointer (some a)])), (7, .v (.int .i64 (l.length : Int))), (8, .v (.int .i64 (k : Int)))]) (fun _ => []) (fun _ => M) (fun k => l.length - k.1) ⟨0, Nat.zero_le _, fun j _ hj => absurd hj (by omega)⟩ ⟨⟨⟨rfl, rfl, rfl, rfl, trivial⟩, trivial, rfl, rfl⟩, rfl⟩ ?_
  rintro ⟨k, hk, hp⟩
  (conv => whnf)
  refine CondK.mk (fun h1 => ?_) (fun h1 => ?_)
  · have hlt : k < l.length := by simpa using h1
    obtain ⟨ad, rfl, bnx, x0, x1, x2, x3, x4, x5, x6, x7, x8, x9, x10, x11, x12, x13⟩ := at_Call h (List.getElem?_eq_getElem hlt)
    repeat' ((conv => whnf); first | with_reducible refine CondK.tt ?_ | with_reducible refine CondK.ff ?_ | refine IdxK.mk _ rfl (by omega) (by omega) ?_ | refine LdK.mk _ (by assumption) ?_ | refine CallK.mk _ (hf l[k] (List.getElem_mem hlt)) ?_ | refine CondK.mk (fun hc => ?_) (fun hc => ?_) | fail)
    all_goals first
      | (show _ = _
         rw [ix_at hlt hc hp]
         rfl)
      | exact ⟨⟨k + 1, hlt, fun j hj hj' => by rcases Nat.lt_succ_iff_lt_or_eq.mp hj' with hj' | rfl; exact hp j hj hj'; exact hc⟩, ⟨⟨rfl, rfl, rfl, look_int (i64_succ (by omega)), trivial⟩, trivial, rfl, rfl⟩, rfl, by simp; omega⟩
  · have he : k = l.length := by have : ¬ k < l.length := by simpa using h1
                                 omega
    subst he
    rw [ix_none fun j hj => hp j hj hj]
    exact rfl
theorem hasCall_a (M : Mem) (l : List GCall) (A : Option Addr) (c : Nat) (h : SlR M RCall 14 136 A c l) (f : FuncId) (a : Addr) (p : GCall → Bool) (hf : ∀ x ∈ l, Ans Try.prog M f #[.agg (List.toArray [.int .i64 x.Client, .int .i64 x.No, .int .i64 x.Pg.Pool, .int .i64 x.Pg.No, .string x.Name, .int .i64 x.Op.Kind, .int .i64 x.Op.At, .string x.Op.Bytes, .int .i64 x.Begin, .int .i64 x.End, .int .i64 x.Code, .int .i64 x.Ver.Epoch, .int .i64 x.Ver.Seq, .string x.Body]), .pointer (some a)] (.bool (p x))) : Ans Try.prog M 26 #[.slice A l.length c, .func (.func f) #[] #[.pointer (some a)]] (.bool (l.any p)) := by
  refine ans_of T (l := [.slice A l.length c, .func (.func f) #[] #[.pointer (some a)]]) mixed Try.func26 rfl (by kernel_rfl) (Nat.le_of_ble_eq_true rfl) ?_
  (conv => whnf)
  refine CallK.mk _ (ixCall_a M l A c h f a p hf) ?_
  (conv => whnf)
  exact ret_bool (ix_any _ _)
def sameIdF (x o : GCall) : Bool := o.Client == x.Client && o.No == x.No
def callAt (l : List GCall) (k : Nat) : Bool := match l[k]? with | some x => callOkF x && !(l.take k).any (sameIdF x) | none => true
def allR (n : Nat) (f : Nat → Bool) : Bool := (List.range n).all f
theorem allR_iff {n : Nat} {f : Nat → Bool} : allR n f = true ↔ ∀ j, j < n → f j = true := by
  unfold allR
  simp
theorem allR_no {n k : Nat} {f : Nat → Bool} (hk : k < n) (h : f k = false) : allR n f = false := by
  rw [Bool.eq_false_iff]
  intro h2
  rw [allR_iff.1 h2 k hk] at h
  cases h
theorem allR_step {k : Nat} {f : Nat → Bool} (ha : ∀ j, j < k → f j = true) (h : f k = true) : ∀ j, j < k + 1 → f j = true := fun j hj => by
  rcases Nat.lt_succ_iff_lt_or_eq.mp hj with hj | rfl
  · exact ha j hj
  · exact h
theorem take_any {α : Type} {p : α → Bool} {l : List α} {k j : Nat} (hj : j < k) (hl : j < l.length) (h : p l[j] = true) : (l.take k).any p = true := List.any_eq_true.2 ⟨l[j], List.mem_take_iff_getElem.2 ⟨j, by omega, rfl⟩, h⟩
theorem take_none {α : Type} {p : α → Bool} {l : List α} {k : Nat} (h : ∀ (j : Nat) (hj : j < l.length), j < k → p (l[j]'hj) = false) : (l.take k).any p = false := by
  rw [List.any_eq_false]
  intro x hx
  obtain ⟨j, hj, rfl⟩ := List.mem_take_iff_getElem.1 hx
  rw [h j (by omega) (by omega)]
  decide
def callsOkF (l : List GCall) : Bool := allR l.length (callAt l)
theorem callAt_at {l : List GCall} {k : Nat} {x : GCall} (hx : l[k]? = some x) : callAt l k = (callOkF x && !(l.take k).any (sameIdF x)) := by
  unfold callAt
  rw [hx]
theorem callsOk1_a (M : Mem) (o x : GCall) (a : Addr) (h0 : M (a.add 0) = some (.int .i64 x.Client)) (h1 : M (a.add 1) = some (.int .i64 x.No)) : Ans Try.prog M 41 #[.agg (List.toArray [.int .i64 o.Client, .int .i64 o.No, .int .i64 o.Pg.Pool, .int .i64 o.Pg.No, .string o.Name, .int .i64 o.Op.Kind, .int .i64 o.Op.At, .string o.Op.Bytes, .int .i64 o.Begin, .int .i64 o.End, .int .i64 o.Code, .int .i64 o.Ver.Epoch, .int .i64 o.Ver.Seq, .string o.Body]), .pointer (some a)] (.bool (sameIdF x o)) := by
  refine ansC_of T (l := [.agg (List.toArray [.int .i64 o.Client, .int .i64 o.No, .int .i64 o.Pg.Pool, .int .i64 o.Pg.No, .string o.Name, .int .i64 o.Op.Kind, .int .i64 o.Op.At, .string o.Op.Bytes, .int .i64 o.Begin, .int .i64 o.End, .int .i64 o.Code, .int .i64 o.Ver.Epoch, .int .i64 o.Ver.Seq, .string o.Body]), .pointer (some a)]) mixed Try.func41 rfl (by kernel_rfl) (Nat.le_of_ble_eq_true rfl) ?_
  unfold sameIdF
  cases q : (o.Client == x.Client)
  all_goals repeat' ((conv => whnf); first | refine LdK.mk _ (by assumption) ?_ | rw [q] | fail)
  all_goals ((conv => whnf); exact rfl)
theorem callsOk_a (M : Mem) (l : List GCall) (A : Option Addr) (c : Nat) (h : SlR M RCall 14 136 A c l) (hn : l.length ≤ 6) : AnsR Try.prog M 25 #[.slice A l.length c] (fun _ v => v = .bool (callsOkF l)) := by
  have hl := h.len
  refine ansR_of T (l := [.slice A l.length c]) mixed Try.func25 rfl (by kernel_rfl) (Nat.le_of_ble_eq_true rfl) ?_
  (conv => whnf)
  refine LoopK.mk {q : Nat × Mem // q.1 ≤ l.length ∧ Le M q.2 ∧ ∀ j, j < q.1 → callAt l j = true} (fun ⟨⟨k, _⟩, _⟩ => [(0, .v (.slice A l.length c)), (5, .v (.slice A l.length c)), (6, .v (.int .i64 (l.length : Int))), (7, .v (.int .i64 (k : Int)))]) (fun _ => []) (fun q => q.1.2) (fun q => l.length - q.1.1) ⟨(0, M), Nat.zero_le _, Le.refl M, fun j hj => absurd hj (by simp)⟩ ⟨⟨⟨rfl, rfl, rfl, rfl, trivial⟩, trivial, rfl, rfl⟩, rfl⟩ ?_
  rintro ⟨⟨k, N⟩, hk, hN, hp⟩
  replace hk : k ≤ l.length := hk
  replace hN : Le M N := hN
  replace hp : ∀ j, j < k → callAt l j = true := hp
  replace h := h.mono hN (RCall.mono hN)
  (conv => whnf)
  refine CondK.mk (fun h1 => ?_) (fun h1 => ?_)
  · have hlt : k < l.length := by simpa using h1
    have hx := List.getElem?_eq_getElem hlt
    obtain ⟨ad, rfl, bnx, x0, x1, x2, x3, x4, x5, x6, x7, x8, x9, x10, x11, x12, x13⟩ := at_Call h hx
    have hat := callAt_at hx
    have g1 := callOk_a N l[k] bnx.1 bnx.2.2
    cases q : callOkF l[k] with
    | false =>
      rw [q] at g1 hat
      repeat' ((conv => whnf); first | with_reducible refine CondK.tt ?_ | with_reducible refine CondK.ff ?_ | refine IdxK.mk _ rfl (by omega) (by omega) ?_ | refine LdK.mk _ (by assumption) ?_ | refine CallK.mk _ g1 ?_ | fail)
      (conv => whnf)
      exact RetK.mk fun g M' hl hg => ret_bool (allR_no hlt hat).symm
    | true =>
      rw [q] at g1 hat
      repeat' ((conv => whnf); first | with_reducible refine CondK.tt ?_ | with_reducible refine CondK.ff ?_ | refine IdxK.mk _ rfl (by omega) (by omega) ?_ | refine LdK.mk _ (by assumption) ?_ | refine CallK.mk _ g1 ?_ | fail)
      (conv => whnf)
      refine SlK.mk 0 k rfl rfl (Nat.zero_le _) (by have := h.cap; omega) ?_
      (conv => whnf)
      refine PubK.mk fun a M1 hl1 hc1 => ?_
      have g3 := hasCall_a M1 (l.take k) _ _ (SlR.takeT (h.mono hl1 (RCall.mono hl1)) hk) 41 a (sameIdF l[k]) (fun x hx => callsOk1_a M1 x l[k] a (hc1 0 _ rfl) (hc1 1 _ rfl))
      rw [List.length_take, Nat.min_eq_left hk] at g3
      cases q2 : (l.take k).any (sameIdF l[k]) with
      | true =>
        rw [q2] at g3 hat
        repeat' ((conv => whnf); first | with_reducible refine CondK.tt ?_ | with_reducible refine CondK.ff ?_ | refine CallK.mk _ g3 ?_ | fail)
        (conv => whnf)
        exact RetK.mk fun g M' hl hg => ret_bool (allR_no hlt hat).symm
      | false =>
        rw [q2] at g3 hat
        repeat' ((conv => whnf); first | with_reducible refine CondK.tt ?_ | with_reducible refine CondK.ff ?_ | refine CallK.mk _ g3 ?_ | fail)
        (conv => whnf)
        exact ⟨⟨(k + 1, M1), hlt, hN.trans hl1, allR_step hp hat⟩, ⟨⟨rfl, rfl, rfl, look_int (i64_succ (by omega)), trivial⟩, trivial, rfl, rfl⟩, rfl, by simp; omega⟩
  · refine RetK.mk fun g M' hl hg => ?_
    show Value.bool (decide ((l.length : Int) ≤ 60)) = _
    rw [decide_eq_true (by omega)]
    refine ret_bool (allR_iff.2 fun j hj => hp j ?_).symm
    have : ¬ k < l.length := by simpa using h1
    omega
theorem l29Calls_a (M : Mem) (l : List GCall) (A : Option Addr) (c : Nat) (h : SlR M RCall 14 136 A c l) (hn : l.length ≤ 6) : Ans Try.prog M 10 #[.slice A l.length c] (.bool (callsOkF l)) := by
  have hl := h.len
  refine ans_of T (l := [.slice A l.length c]) mixed Try.func10 rfl (by kernel_rfl) (Nat.le_of_ble_eq_true rfl) ?_
  (conv => whnf)
  refine LoopK.mk {k : Nat // k ≤ l.length ∧ ∀ j, j < k → callAt l j = true} (fun ⟨k, _⟩ => [(0, .v (.slice A l.length c)), (3, .v (.int .i64 (k : Int)))]) (fun _ => []) (fun _ => M) (fun k => l.length - k.1) ⟨0, Nat.zero_le _, fun j hj => absurd hj (by omega)⟩ ⟨⟨⟨rfl, rfl, trivial⟩, trivial, rfl, rfl⟩, rfl⟩ ?_
  rintro ⟨k, hk, hp⟩
  (conv => whnf)
  by_cases hlt : k < l.length
  · have q0 : decide ((k : Int) < (l.length : Int)) = true := decide_eq_true (by omega)
    have q1 : decide ((k : Int) ≤ 60) = true := decide_eq_true (by omega)
    have hx := List.getElem?_eq_getElem hlt
    obtain ⟨ad, rfl, bnx, x0, x1, x2, x3, x4, x5, x6, x7, x8, x9, x10, x11, x12, x13⟩ := at_Call h hx
    have hat := callAt_at hx
    have g1 := sCallOk_a M l[k] bnx.1 bnx.2.2
    cases q : callOkF l[k] with
    | false =>
      rw [q] at g1 hat
      repeat' ((conv => whnf); first | with_reducible refine CondK.tt ?_ | with_reducible refine CondK.ff ?_ | refine IdxK.mk _ rfl (by omega) (by omega) ?_ | refine LdK.mk _ (by assumption) ?_ | refine CallK.mk _ g1 ?_ | rw [q0] | rw [q1] | refine CondK.yes' q1 ?_ | fail)
      (conv => whnf)
      exact ret_bool (allR_no hlt hat).symm
    | true =>
      rw [q] at g1 hat
      repeat' ((conv => whnf); first | with_reducible refine CondK.tt ?_ | with_reducible refine CondK.ff ?_ | refine IdxK.mk _ rfl (by omega) (by omega) ?_ | refine LdK.mk _ (by assumption) ?_ | refine CallK.mk _ g1 ?_ | rw [q0] | rw [q1] | refine CondK.yes' q1 ?_ | fail)
      (conv => whnf)
      obtain ⟨Q, hQ⟩ : ∃ Q : Nat → Prop, Q = fun j => ∀ (i : Nat) (hi : i < l.length), i < j → sameIdF l[k] (l[i]'hi) = false := ⟨_, rfl⟩
      refine LoopK.mk {j : Nat // j ≤ k ∧ Q j} (fun ⟨j, _⟩ => [(0, .v (.slice (some ad) l.length c)), (3, .v (.int .i64 (k : Int))), (4, .v (.int .i64 (j : Int)))]) (fun _ => []) (fun _ => M) (fun j => k - j.1) ⟨0, Nat.zero_le _, by rw [hQ]; exact fun i _ hi => absurd hi (by omega)⟩ ⟨⟨⟨rfl, rfl, rfl, trivial⟩, trivial, rfl, rfl⟩, rfl⟩ ?_
      rintro ⟨j, hj, hq⟩
      have hq' := hq
      rw [hQ] at hq'
      (conv => whnf)
      refine CondK.mk (fun h2 => ?_) (fun h2 => ?_)
      · have hjk : j < k := by have := of_decide_eq_true h2; omega
        have hjl : j < l.length := by omega
        obtain ⟨ad', he, bny, y0, y1, y2, y3, y4, y5, y6, y7, y8, y9, y10, y11, y12, y13⟩ := at_Call h (List.getElem?_eq_getElem hjl)
        cases he
        cases qa : (l[j].Client == l[k].Client)
        · have hs : sameIdF l[k] l[j] = false := by unfold sameIdF; rw [qa]; rfl
          repeat' ((conv => whnf); first | with_reducible refine CondK.tt ?_ | with_reducible refine CondK.ff ?_ | refine DrawN.q (by kernel_rfl) ?_ | refine IdxK.mk _ rfl (by omega) (by omega) ?_ | refine LdK.mk _ (by assumption) ?_ | rw [qa] | fail)
          (conv => whnf)
          exact ⟨⟨j + 1, hjk, by rw [hQ]; exact fun i hi hi' => by rcases Nat.lt_succ_iff_lt_or_eq.mp hi' with hi' | rfl; exact hq' i hi hi'; exact hs⟩, ⟨⟨rfl, rfl, look_int (i64_succ (by omega)), trivial⟩, trivial, rfl, rfl⟩, rfl, by simp; omega⟩
        · cases qb : (l[j].No == l[k].No)
          · have hs : sameIdF l[k] l[j] = false := by unfold sameIdF; rw [qa, qb]; rfl
            repeat' ((conv => whnf); first | with_reducible refine CondK.tt ?_ | with_reducible refine CondK.ff ?_ | refine DrawN.q (by kernel_rfl) ?_ | refine IdxK.mk _ rfl (by omega) (by omega) ?_ | refine LdK.mk _ (by assumption) ?_ | rw [qa] | rw [qb] | fail)
            (conv => whnf)
            exact ⟨⟨j + 1, hjk, by rw [hQ]; exact fun i hi hi' => by rcases Nat.lt_succ_iff_lt_or_eq.mp hi' with hi' | rfl; exact hq' i hi hi'; exact hs⟩, ⟨⟨rfl, rfl, look_int (i64_succ (by omega)), trivial⟩, trivial, rfl, rfl⟩, rfl, by simp; omega⟩
          · have hs : sameIdF l[k] l[j] = true := by unfold sameIdF; rw [qa, qb]; rfl
            repeat' ((conv => whnf); first | with_reducible refine CondK.tt ?_ | with_reducible refine CondK.ff ?_ | refine DrawN.q (by kernel_rfl) ?_ | refine IdxK.mk _ rfl (by omega) (by omega) ?_ | refine LdK.mk _ (by assumption) ?_ | rw [qa] | rw [qb] | refine CondK.yes' qb ?_ | fail)
            (conv => whnf)
            rw [take_any (p := sameIdF l[k]) hjk hjl hs] at hat
            exact ret_bool (allR_no hlt hat).symm
      · have hjk : j = k := by have := of_decide_eq_false h2; omega
        subst hjk
        rw [take_none hq'] at hat
        (conv => whnf)
        exact ⟨⟨j + 1, hlt, allR_step hp hat⟩, ⟨⟨rfl, look_int (i64_succ (by omega)), trivial⟩, trivial, rfl, rfl⟩, rfl, by simp; omega⟩
  · have q0 : decide ((k : Int) < (l.length : Int)) = false := decide_eq_false (by omega)
    repeat' ((conv => whnf); first | with_reducible refine CondK.tt ?_ | with_reducible refine CondK.ff ?_ | rw [q0] | refine CondK.no' q0 ?_ | fail)
    (conv => whnf)
    show Value.bool (decide ((l.length : Int) ≤ 60)) = _
    rw [decide_eq_true (by omega)]
    exact ret_bool (allR_iff.2 fun j hj => hp j (by omega)).symm
end Go.Proofs.Ythlnapamdcmlkaa.Hlp
