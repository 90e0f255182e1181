/- The spec's parts of VerOf. -/
import Derived.Test.YtoedjkeahjmpiaaGreatFunVE
namespace Go.Proofs.YtoedjkeahjmpiaaGreat.Hlp
open Go Go.RowKit Go.Proofs Go.Proofs.YtoedjkeahjmpiaaGreat.Lw
set_option linter.unusedVariables false
set_option linter.unusedSimpArgs false
set_option maxRecDepth 100000
set_option maxHeartbeats 4000000
theorem fil_step {α : Type} {p : α → Bool} {l : List α} {k : Nat} {x : α} (hx : l[k]? = some x) : (l.take (k + 1)).filter p = (l.take k).filter p ++ (if p x = true then [x] else []) := by
  rw [List.take_add_one, hx, List.filter_append]
  congr 1
  cases h : p x <;> simp [h]
theorem fil_all {α : Type} {p : α → Bool} {l : List α} : (l.take l.length).filter p = l.filter p := by rw [List.take_length]
theorem fil_le {α : Type} (p : α → Bool) (l : List α) (k : Nat) : ((l.take k).filter p).length ≤ k := Nat.le_trans (List.length_filter_le _ _) (by rw [List.length_take]; omega)
theorem l13At_a (M : Mem) (l : List GInterval) (A : Option Addr) (c : Nat) (h : SlR M RInterval 4 48 A c l) (s : Int) : Ans Tryz.prog M 51 #[.slice A l.length c, .int .i64 s] (.int .i64 (ixD (fun x : GInterval => x.First == s) l)) := by
  have hl := h.len
  refine ans_of T (l := [.slice A l.length c, .int .i64 s]) mixed Tryz.func51 rfl (by kernel_rfl) (Nat.le_of_ble_eq_true rfl) ?_
  (conv => whnf)
  refine LoopK.mk {k : Nat // k ≤ l.length ∧ ∀ (j : Nat) (hj : j < l.length), j < k → ((l[j]'hj).First == s) = false} (fun ⟨k, _⟩ => [(0, .v (.slice A l.length c)), (1, .v (.int .i64 s)), (5, .v (.int .i64 (k : Int)))]) (fun _ => []) (fun _ => M) (fun k => l.length - k.1) ⟨0, Nat.zero_le _, fun j hj h => absurd h (by omega)⟩ ⟨⟨⟨rfl, rfl, rfl, trivial⟩, trivial, rfl, rfl⟩, rfl⟩ ?_
  rintro ⟨k, hk, hp⟩
  (conv => whnf)
  refine CondK.mk (fun h1 => ?_) (fun h1 => ?_)
  · have hlt : k < l.length := by simpa using h1
    obtain ⟨ad, rfl, A0, c0, _, s0, x0, x1, x2, x3⟩ := at_Interval h (List.getElem?_eq_getElem hlt)
    repeat' ((conv => whnf); first | refine IdxK.mk _ rfl (by omega) (by omega) ?_ | refine LdK.mk _ (by assumption) ?_ | refine CondK.mk (fun hc => ?_) (fun hc => ?_) | fail)
    · exact ret_int (ixD_at (p := fun x : GInterval => x.First == s) hlt hc hp).symm
    · exact ⟨⟨k + 1, hlt, fun j hj hj' => by rcases Nat.lt_succ_iff_lt_or_eq.mp hj' with hj' | rfl; exact hp j hj hj'; exact hc⟩, ⟨⟨rfl, rfl, look_int (i64_succ (by omega)), trivial⟩, trivial, rfl, rfl⟩, rfl, by simp; omega⟩
  · have he : k = l.length := by have : ¬ k < l.length := by simpa using h1
                                 omega
    subst he
    (conv => whnf)
    exact ret_int (ixD_none (p := fun x : GInterval => x.First == s) fun j hj => hp j hj hj).symm
def plF (l : List Int) (n : Int) : Int := ixD (fun z => z == n) l
theorem l12Place_a (M : Mem) (l : List Int) (A : Option Addr) (c : Nat) (h : SlR M RInt 1 8 A c l) (n : Int) (hn : 0 ≤ n) : Ans Tryz.prog M 73 #[.slice A l.length c, .int .i64 n] (.int .i64 (plF l n)) := by
  have hl := h.len
  refine ans_of T (l := [.slice A l.length c, .int .i64 n]) mixed Tryz.func73 rfl (by kernel_rfl) (Nat.le_of_ble_eq_true rfl) ?_
  have hnd : decide (n ≥ 0) = true := decide_eq_true hn
  (conv => whnf)
  refine LoopK.mk {k : Nat // k ≤ l.length ∧ ∀ (j : Nat) (hj : j < l.length), j < k → ((l[j]'hj) == n) = false} (fun ⟨k, _⟩ => [(0, .v (.slice A l.length c)), (1, .v (.int .i64 n)), (5, .v (.int .i64 (k : Int)))]) (fun _ => []) (fun _ => M) (fun k => l.length - k.1) ⟨0, Nat.zero_le _, fun j hj h => absurd h (by omega)⟩ ⟨⟨⟨rfl, rfl, rfl, trivial⟩, trivial, rfl, rfl⟩, rfl⟩ ?_
  rintro ⟨k, hk, hp⟩
  (conv => whnf)
  refine CondK.mk (fun h1 => ?_) (fun h1 => ?_)
  · have hlt : k < l.length := by simpa using h1
    obtain ⟨ad, rfl, _, x0⟩ := at_Int h (List.getElem?_eq_getElem hlt)
    (conv => whnf)
    rw [hnd]
    repeat' ((conv => whnf); first | with_reducible refine CondK.tt ?_ | refine IdxK.mk _ rfl (by omega) (by omega) ?_ | refine LdK.mk _ (by assumption) ?_ | refine CondK.mk (fun hc => ?_) (fun hc => ?_) | fail)
    · exact ret_int (ixD_at (p := fun z : Int => z == n) hlt hc hp).symm
    · exact ⟨⟨k + 1, hlt, fun j hj hj' => by rcases Nat.lt_succ_iff_lt_or_eq.mp hj' with hj' | rfl; exact hp j hj hj'; exact hc⟩, ⟨⟨rfl, rfl, look_int (i64_succ (by omega)), trivial⟩, trivial, rfl, rfl⟩, rfl, by simp; omega⟩
  · have he : k = l.length := by have : ¬ k < l.length := by simpa using h1
                                 omega
    subst he
    (conv => whnf)
    exact ret_int (ixD_none (p := fun z : Int => z == n) fun j hj => hp j hj hj).symm
theorem plF_any (l : List Int) (n : Int) : decide (plF l n ≥ 0) = l.any fun z => decide (n = z) := by
  unfold plF
  rw [ixD_any]
  congr 1
  funext z
  rw [Bool.eq_iff_iff]
  simp only [beq_iff_eq, decide_eq_true_eq]
  exact ⟨Eq.symm, Eq.symm⟩
theorem l22Has_f (M : Mem) (l : List GNotice) (A : Option Addr) (c : Nat) (h : SlR M RNotice 13 168 A c l) (hn : l.length ≤ 16) (s : Int) : AnsR Tryz.prog M 52 #[.slice A l.length c, .int .i64 s] (fun M' v => ∃ A' c', v = .slice A' (l.filter (fun y : GNotice => !(y.State.Started != s))).length c' ∧ SlR M' RNotice 13 168 A' c' (l.filter (fun y : GNotice => !(y.State.Started != s)))) := by
  refine ansR_of T (l := [.slice A l.length c, .int .i64 s]) mixed Tryz.func52 rfl (by kernel_rfl) (Nat.le_of_ble_eq_true rfl) ?_
  (conv => whnf)
  refine LoopK.sw 0 1 {q : Nat × Nat × List Value // q.1 ≤ l.length ∧ ((l.take q.1).filter (fun y : GNotice => !(y.State.Started != s))).length ≤ q.2.1 ∧ RowR M RNotice 13 ((l.take q.1).filter (fun y : GNotice => !(y.State.Started != s))) q.2.2} (fun ⟨(k, cap, ds), _⟩ => [(0, .v (.slice A l.length c)), (1, .v (.int .i64 s)), (5, .s 0 (((l.take k).filter (fun y : GNotice => !(y.State.Started != s)))).length cap 13), (6, .v (.int .i64 (k : Int)))]) (fun ⟨(k, cap, ds), _⟩ => [(0, ds)]) (fun _ => M) (fun q => l.length - q.1.1) ⟨(0, 0, []), Nat.zero_le _, Nat.le_refl _, RowR.nil⟩ 0 ⟨⟨⟨rfl, rfl, rfl, rfl, trivial⟩, ⟨rfl, trivial⟩, rfl, rfl⟩, rfl⟩ ?_
  rintro ⟨⟨k, cap, ds⟩, hk, hcap, hr2⟩
  simp only at hk hcap hr2
  have hle := fil_le (fun y : GNotice => !(y.State.Started != s)) l k
  (conv => whnf)
  refine CondK.mk (fun h5 => ?_) (fun h5 => ?_)
  · have hlt : k < l.length := by simpa using h5
    obtain ⟨y, hyk⟩ : ∃ y, l[k] = y := ⟨_, rfl⟩
    have hy : l[k]? = some y := by rw [List.getElem?_eq_getElem hlt, hyk]
    have hst := fil_step (p := (fun y : GNotice => !(y.State.Started != s))) hy
    obtain ⟨ad, rfl, A0, c0, A1, c1, A2, c2, A3, c3, bny, ⟨s0, s1, s2, s3⟩, y0, y1, y2, y3, y4, y5, y6, y7, y8, y9, y10, y11, y12⟩ := at_Notice h hy
    have hcc : (y.State.Started == s) = !(y.State.Started != s) := by rw [bne]; simp
    cases hc : !(y.State.Started != s) with
    | false =>
      rw [hc, if_neg (by decide), List.append_nil] at hst
      repeat' ((conv => whnf); first | with_reducible refine CondK.tt ?_ | with_reducible refine CondK.ff ?_ | refine DrawN.q (by kernel_rfl) ?_ | refine IdxK.mk _ rfl (by omega) (by omega) ?_ | refine LdK.mk _ (by assumption) ?_ | rw [hcc, hc] | refine CondK.no' hc' ?_ | fail)
      exact ⟨⟨(k + 1, cap, ds), hlt, by simp only; rw [hst]; exact hcap, by simp only; rw [hst]; exact hr2⟩, 0, ⟨⟨rfl, rfl, congrArg (fun t : List GNotice => some (PV.s 0 t.length cap 13)) hst.symm, look_int (i64_succ (by omega)), trivial⟩, ⟨rfl, trivial⟩, rfl, rfl⟩, rfl, by simp only; omega⟩
    | true =>
      rw [hc, if_pos rfl] at hst
      repeat' ((conv => whnf); first | with_reducible refine CondK.tt ?_ | with_reducible refine CondK.ff ?_ | refine DrawN.q (by kernel_rfl) ?_ | refine IdxK.mk _ rfl (by omega) (by omega) ?_ | refine LdK.mk _ (by assumption) ?_ | rw [hcc, hc] | refine CondK.yes' hc' ?_ | refine AppK.mk (by show (2 * _ + 512) * 168 ≤ 281474976710656; omega) (by omega) (.inr rfl) (by first | exact hr2.all | rfl) (fun cap3 hcap3 => ?_) | fail)
      refine ⟨⟨(k + 1, cap3, ds ++ [.int .i64 y.From, .int .i64 y.State.Pg.Pool, .int .i64 y.State.Pg.No, .int .i64 y.State.Seen, .int .i64 y.State.Started, .int .i64 y.State.Tail.Epoch, .int .i64 y.State.Tail.Seq, .slice A0 y.State.Base.length c0, .slice A1 y.State.Clients.length c1, .slice A2 y.State.Log.length c2, .int .i64 y.State.Firm.Epoch, .int .i64 y.State.Firm.Seq, .slice A3 y.State.Chunks.length c3]), hlt, ?_, ?_⟩, 2, ⟨⟨rfl, rfl, congrArg (fun t => some (PV.s 2 t cap3 13)) ?_, look_int (i64_succ (by omega)), trivial⟩, ⟨rfl, trivial⟩, rfl, rfl⟩, rfl, by simp only; omega⟩
      · simp only
        rw [hst, List.length_append]
        exact hcap3
      · simp only
        rw [hst]
        exact hr2.app (RowR.one (x := y) ⟨_, _, _, _, _, _, _, _, rfl, trivial, s0, s1, s2, s3⟩ rfl rfl)
      · rw [hst]
        simp only [List.length_append, List.length_singleton]
  · have he : k = l.length := by
      have : ¬ k < l.length := by simpa using h5
      omega
    subst he
    have ef := fil_all (p := (fun y : GNotice => !(y.State.Started != s))) (l := l)
    exact RetK.mk fun g M' hl' hg => ⟨_, _, congrArg (fun t : List GNotice => Value.slice _ t.length _) ef, row_out hr2 ef.symm (fun x cs h => RNotice.mono hl' _ _ h) (hg 0 _ rfl) (by rw [← ef]; exact hcap) (by rw [← ef]; omega)⟩
theorem l22In_f (M : Mem) (l : List GNotice) (A : Option Addr) (c : Nat) (h : SlR M RNotice 13 168 A c l) (hn : l.length ≤ 16) (hp : ∀ y ∈ l, 0 ≤ y.From) (x : GInterval) (cx : List Value) (hx : RInterval M x cx) : AnsR Tryz.prog M 50 #[.slice A l.length c, .agg cx.toArray] (fun M' v => ∃ A' c', v = .slice A' (l.filter (fun y : GNotice => !(!x.Acting.any fun z => decide (y.From = z)))).length c' ∧ SlR M' RNotice 13 168 A' c' (l.filter (fun y : GNotice => !(!x.Acting.any fun z => decide (y.From = z))))) := by
  obtain ⟨X0, e0, rfl, _, t0⟩ := hx
  refine ansR_of T (l := [.slice A l.length c, .agg (List.toArray _)]) mixed Tryz.func50 rfl (by kernel_rfl) (Nat.le_of_ble_eq_true rfl) ?_
  (conv => whnf)
  refine LoopK.sw 1 2 {q : Nat × Nat × List Value // q.1 ≤ l.length ∧ ((l.take q.1).filter (fun y : GNotice => !(!x.Acting.any fun z => decide (y.From = z)))).length ≤ q.2.1 ∧ RowR M RNotice 13 ((l.take q.1).filter (fun y : GNotice => !(!x.Acting.any fun z => decide (y.From = z)))) q.2.2} (fun ⟨(k, cap, ds), _⟩ => [(0, .v (.slice A l.length c)), (3, .p 0 0), (5, .s 1 (((l.take k).filter (fun y : GNotice => !(!x.Acting.any fun z => decide (y.From = z))))).length cap 13), (6, .v (.int .i64 (k : Int)))]) (fun ⟨(k, cap, ds), _⟩ => [(1, ds), (0, [.int .i64 x.First, .int .i64 x.Last, .slice X0 x.Acting.length e0, .bool x.May])]) (fun _ => M) (fun q => l.length - q.1.1) ⟨(0, 0, []), Nat.zero_le _, Nat.le_refl _, RowR.nil⟩ 1 ⟨⟨⟨rfl, rfl, rfl, rfl, trivial⟩, ⟨rfl, rfl, trivial⟩, rfl, rfl⟩, rfl⟩ ?_
  rintro ⟨⟨k, cap, ds⟩, hk, hcap, hr2⟩
  simp only at hk hcap hr2
  have hle := fil_le (fun y : GNotice => !(!x.Acting.any fun z => decide (y.From = z))) l k
  (conv => whnf)
  refine CondK.mk (fun h5 => ?_) (fun h5 => ?_)
  · have hlt : k < l.length := by simpa using h5
    obtain ⟨y, hyk⟩ : ∃ y, l[k] = y := ⟨_, rfl⟩
    have hy : l[k]? = some y := by rw [List.getElem?_eq_getElem hlt, hyk]
    have hst := fil_step (p := (fun y : GNotice => !(!x.Acting.any fun z => decide (y.From = z)))) hy
    obtain ⟨ad, rfl, A0, c0, A1, c1, A2, c2, A3, c3, bny, ⟨s0, s1, s2, s3⟩, y0, y1, y2, y3, y4, y5, y6, y7, y8, y9, y10, y11, y12⟩ := at_Notice h hy
    have hpl := l12Place_a M x.Acting X0 e0 t0 y.From (hp y (List.mem_of_getElem? hy))
    have hcc : decide (plF x.Acting y.From ≥ 0) = !(!x.Acting.any fun z => decide (y.From = z)) := by rw [plF_any, Bool.not_not]
    cases hc : !(!x.Acting.any fun z => decide (y.From = z)) with
    | false =>
      rw [hc, if_neg (by decide), List.append_nil] at hst
      repeat' ((conv => whnf); first | with_reducible refine CondK.tt ?_ | with_reducible refine CondK.ff ?_ | refine DrawN.q (by kernel_rfl) ?_ | refine IdxK.mk _ rfl (by omega) (by omega) ?_ | refine LdK.mk _ (by assumption) ?_ | refine CallK.mk _ hpl ?_ | refine CallQ.mk _ hpl ?_ | rw [hcc, hc] | refine CondK.no' hc' ?_ | fail)
      exact ⟨⟨(k + 1, cap, ds), hlt, by simp only; rw [hst]; exact hcap, by simp only; rw [hst]; exact hr2⟩, 1, ⟨⟨rfl, rfl, congrArg (fun t : List GNotice => some (PV.s 1 t.length cap 13)) hst.symm, look_int (i64_succ (by omega)), trivial⟩, ⟨rfl, rfl, trivial⟩, rfl, rfl⟩, rfl, by simp only; omega⟩
    | true =>
      rw [hc, if_pos rfl] at hst
      repeat' ((conv => whnf); first | with_reducible refine CondK.tt ?_ | with_reducible refine CondK.ff ?_ | refine DrawN.q (by kernel_rfl) ?_ | refine IdxK.mk _ rfl (by omega) (by omega) ?_ | refine LdK.mk _ (by assumption) ?_ | refine CallK.mk _ hpl ?_ | refine CallQ.mk _ hpl ?_ | rw [hcc, hc] | refine CondK.yes' hc' ?_ | refine AppK.mk (by show (2 * _ + 512) * 168 ≤ 281474976710656; omega) (by omega) (.inr rfl) (by first | exact hr2.all | rfl) (fun cap3 hcap3 => ?_) | fail)
      refine ⟨⟨(k + 1, cap3, ds ++ [.int .i64 y.From, .int .i64 y.State.Pg.Pool, .int .i64 y.State.Pg.No, .int .i64 y.State.Seen, .int .i64 y.State.Started, .int .i64 y.State.Tail.Epoch, .int .i64 y.State.Tail.Seq, .slice A0 y.State.Base.length c0, .slice A1 y.State.Clients.length c1, .slice A2 y.State.Log.length c2, .int .i64 y.State.Firm.Epoch, .int .i64 y.State.Firm.Seq, .slice A3 y.State.Chunks.length c3]), hlt, ?_, ?_⟩, 3, ⟨⟨rfl, rfl, congrArg (fun t => some (PV.s 3 t cap3 13)) ?_, look_int (i64_succ (by omega)), trivial⟩, ⟨rfl, rfl, trivial⟩, rfl, rfl⟩, rfl, by simp only; omega⟩
      · simp only
        rw [hst, List.length_append]
        exact hcap3
      · simp only
        rw [hst]
        exact hr2.app (RowR.one (x := y) ⟨_, _, _, _, _, _, _, _, rfl, trivial, s0, s1, s2, s3⟩ rfl rfl)
      · rw [hst]
        simp only [List.length_append, List.length_singleton]
  · have he : k = l.length := by
      have : ¬ k < l.length := by simpa using h5
      omega
    subst he
    have ef := fil_all (p := (fun y : GNotice => !(!x.Acting.any fun z => decide (y.From = z)))) (l := l)
    exact RetK.mk fun g M' hl' hg => ⟨_, _, congrArg (fun t : List GNotice => Value.slice _ t.length _) ef, row_out hr2 ef.symm (fun x cs h => RNotice.mono hl' _ _ h) (hg 1 _ rfl) (by rw [← ef]; exact hcap) (by rw [← ef]; omega)⟩
theorem l13Heard_f (M : Mem) (l : List Int) (A : Option Addr) (c : Nat) (h : SlR M RInt 1 8 A c l) (hn : l.length ≤ 16) (hp : ∀ y ∈ l, 0 ≤ y) (x : GInterval) (cx : List Value) (hx : RInterval M x cx) : AnsR Tryz.prog M 35 #[.agg cx.toArray, .slice A l.length c] (fun M' v => ∃ A' c', v = .slice A' (l.filter (fun y : Int => x.Acting.any fun z => decide (y = z))).length c' ∧ SlR M' RInt 1 8 A' c' (l.filter (fun y : Int => x.Acting.any fun z => decide (y = z)))) := by
  obtain ⟨X0, e0, rfl, _, t0⟩ := hx
  refine ansR_of T (l := [.agg (List.toArray _), .slice A l.length c]) mixed Tryz.func35 rfl (by kernel_rfl) (Nat.le_of_ble_eq_true rfl) ?_
  (conv => whnf)
  refine LoopK.sw 1 2 {q : Nat × Nat × List Value // q.1 ≤ l.length ∧ ((l.take q.1).filter (fun y : Int => x.Acting.any fun z => decide (y = z))).length ≤ q.2.1 ∧ RowR M RInt 1 ((l.take q.1).filter (fun y : Int => x.Acting.any fun z => decide (y = z))) q.2.2} (fun ⟨(k, cap, ds), _⟩ => [(1, .v (.slice A l.length c)), (2, .p 0 0), (5, .s 1 (((l.take k).filter (fun y : Int => x.Acting.any fun z => decide (y = z)))).length cap 1), (6, .v (.int .i64 (k : Int)))]) (fun ⟨(k, cap, ds), _⟩ => [(1, ds), (0, [.int .i64 x.First, .int .i64 x.Last, .slice X0 x.Acting.length e0, .bool x.May])]) (fun _ => M) (fun q => l.length - q.1.1) ⟨(0, 0, []), Nat.zero_le _, Nat.le_refl _, RowR.nil⟩ 1 ⟨⟨⟨rfl, rfl, rfl, rfl, trivial⟩, ⟨rfl, rfl, trivial⟩, rfl, rfl⟩, rfl⟩ ?_
  rintro ⟨⟨k, cap, ds⟩, hk, hcap, hr2⟩
  simp only at hk hcap hr2
  have hle := fil_le (fun y : Int => x.Acting.any fun z => decide (y = z)) l k
  (conv => whnf)
  refine CondK.mk (fun h5 => ?_) (fun h5 => ?_)
  · have hlt : k < l.length := by simpa using h5
    obtain ⟨y, hyk⟩ : ∃ y, l[k] = y := ⟨_, rfl⟩
    have hy : l[k]? = some y := by rw [List.getElem?_eq_getElem hlt, hyk]
    have hst := fil_step (p := (fun y : Int => x.Acting.any fun z => decide (y = z))) hy
    obtain ⟨ad, rfl, _, y0⟩ := at_Int h hy
    have hpl := l12Place_a M x.Acting X0 e0 t0 y (hp y (List.mem_of_getElem? hy))
    have hcc : decide (plF x.Acting y ≥ 0) = x.Acting.any fun z => decide (y = z) := plF_any _ _
    cases hc : x.Acting.any fun z => decide (y = z) with
    | false =>
      rw [hc, if_neg (by decide), List.append_nil] at hst
      repeat' ((conv => whnf); first | with_reducible refine CondK.tt ?_ | with_reducible refine CondK.ff ?_ | refine DrawN.q (by kernel_rfl) ?_ | refine IdxK.mk _ rfl (by omega) (by omega) ?_ | refine LdK.mk _ (by assumption) ?_ | refine CallK.mk _ hpl ?_ | refine CallQ.mk _ hpl ?_ | rw [hcc, hc] | refine CondK.no' hc' ?_ | fail)
      exact ⟨⟨(k + 1, cap, ds), hlt, by simp only; rw [hst]; exact hcap, by simp only; rw [hst]; exact hr2⟩, 1, ⟨⟨rfl, rfl, congrArg (fun t : List Int => some (PV.s 1 t.length cap 1)) hst.symm, look_int (i64_succ (by omega)), trivial⟩, ⟨rfl, rfl, trivial⟩, rfl, rfl⟩, rfl, by simp only; omega⟩
    | true =>
      rw [hc, if_pos rfl] at hst
      repeat' ((conv => whnf); first | with_reducible refine CondK.tt ?_ | with_reducible refine CondK.ff ?_ | refine DrawN.q (by kernel_rfl) ?_ | refine IdxK.mk _ rfl (by omega) (by omega) ?_ | refine LdK.mk _ (by assumption) ?_ | refine CallK.mk _ hpl ?_ | refine CallQ.mk _ hpl ?_ | rw [hcc, hc] | refine CondK.yes' hc' ?_ | refine AppK.mk (by show (2 * _ + 512) * 8 ≤ 281474976710656; omega) (by omega) (.inr rfl) (by first | exact hr2.all | rfl) (fun cap3 hcap3 => ?_) | fail)
      refine ⟨⟨(k + 1, cap3, ds ++ [.int .i64 y]), hlt, ?_, ?_⟩, 3, ⟨⟨rfl, rfl, congrArg (fun t => some (PV.s 3 t cap3 1)) ?_, look_int (i64_succ (by omega)), trivial⟩, ⟨rfl, rfl, trivial⟩, rfl, rfl⟩, rfl, by simp only; omega⟩
      · simp only
        rw [hst, List.length_append]
        exact hcap3
      · simp only
        rw [hst]
        exact hr2.app (RowR.one (x := y) rfl rfl rfl)
      · rw [hst]
        simp only [List.length_append, List.length_singleton]
  · have he : k = l.length := by
      have : ¬ k < l.length := by simpa using h5
      omega
    subst he
    have ef := fil_all (p := (fun y : Int => x.Acting.any fun z => decide (y = z))) (l := l)
    exact RetK.mk fun g M' hl' hg => ⟨_, _, congrArg (fun t : List Int => Value.slice _ t.length _) ef, row_out hr2 ef.symm (fun x cs h => RInt.mono hl' _ _ h) (hg 1 _ rfl) (by rw [← ef]; exact hcap) (by rw [← ef]; omega)⟩
theorem l22Froms_f (M : Mem) (l : List GNotice) (A : Option Addr) (c : Nat) (h : SlR M RNotice 13 168 A c l) (hn : l.length ≤ 16) : AnsR Tryz.prog M 32 #[.slice A l.length c] (fun M' v => ∃ A' c', v = .slice A' (fromsF l).length c' ∧ SlR M' RInt 1 8 A' c' (fromsF l)) := by
  refine ansR_of T (l := [.slice A l.length c]) mixed Tryz.func32 rfl (by kernel_rfl) (Nat.le_of_ble_eq_true rfl) ?_
  (conv => whnf)
  refine LoopK.sw 0 1 {q : Nat × Nat // q.1 ≤ l.length ∧ q.1 ≤ q.2} (fun ⟨(j, cap), _⟩ => [(0, .v (.slice A l.length c)), (3, .s 0 j cap 1), (4, .v (.int .i64 (j : Int)))]) (fun ⟨(j, cap), _⟩ => [(0, cellsI ((fromsF l).take j))]) (fun _ => M) (fun q => l.length - q.1.1) ⟨(0, 0), Nat.zero_le _, Nat.le_refl _⟩ 0 ⟨⟨⟨rfl, rfl, rfl, trivial⟩, ⟨rfl, trivial⟩, rfl, rfl⟩, rfl⟩ ?_
  rintro ⟨⟨j, cap⟩, hj, hcp⟩
  simp only at hj hcp
  (conv => whnf)
  refine CondK.mk (fun h1 => ?_) (fun h1 => ?_)
  · have hlt : j < l.length := by simpa using h1
    obtain ⟨y, hyk⟩ : ∃ y, l[j] = y := ⟨_, rfl⟩
    have hy : l[j]? = some y := by rw [List.getElem?_eq_getElem hlt, hyk]
    have hyf : (fromsF l)[j]? = some y.From := by simp [fromsF, hy]
    obtain ⟨ad, rfl, A0, c0, A1, c1, A2, c2, A3, c3, bnx, ⟨s0, s1, s2, s3⟩, x0, x1, x2, x3, x4, x5, x6, x7, x8, x9, x10, x11, x12⟩ := at_Notice h hy
    have e := cellsI_take hyf
    have hal := allOneI ((fromsF l).take j)
    repeat' ((conv => whnf); first | refine IdxK.mk _ rfl (by omega) (by omega) ?_ | refine LdK.mk _ (by assumption) ?_ | refine AppK.mk (by show (2 * _ + 512) * 8 ≤ 281474976710656; omega) (by omega) (.inr rfl) (by first | exact hal | rfl) (fun cap3 hcap3 => ?_) | fail)
    exact ⟨⟨(j + 1, cap3), hlt, hcap3⟩, 2, ⟨⟨rfl, rfl, look_int (i64_succ (by omega)), trivial⟩, ⟨congrArg some e.symm, trivial⟩, rfl, rfl⟩, rfl, by simp only; omega⟩
  · have hjl : j = l.length := by
      have : ¬ j < l.length := by simpa using h1
      omega
    subst hjl
    have hV : (fromsF l).take l.length = fromsF l := by rw [← fromsF_len, List.take_length]
    (conv => whnf)
    refine RetK.mk fun g M' hl hg => ⟨_, cap, slice_eq (fromsF_len l).symm, row_out (RowR.mono (M' := M) (rowI (fromsF l)) (fun _ _ h => h)) rfl (fun _ _ h => h) (fun o u hu => hg 0 _ rfl o u (by rw [hV]; exact hu)) (by rw [fromsF_len]; exact hcp) (by rw [fromsF_len]; omega)⟩
end Go.Proofs.YtoedjkeahjmpiaaGreat.Hlp
