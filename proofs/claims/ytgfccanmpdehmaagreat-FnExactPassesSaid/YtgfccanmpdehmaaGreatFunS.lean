/- Passes by the light walk. -/
import Derived.Test.YtgfccanmpdehmaaGreatFunR
namespace Go.Proofs.YtgfccanmpdehmaaGreat.Hlp
open Go Go.RowKit Go.Proofs Go.Proofs.YtgfccanmpdehmaaGreat.Lw
set_option linter.unusedVariables false
set_option linter.unusedSimpArgs false
set_option maxRecDepth 100000
set_option maxHeartbeats 4000000
theorem indexInt_a (M : Mem) (l : List Int) (A : Option Addr) (c : Nat) (h : SlR M RInt 1 8 A c l) (n : Int) : Ans Tryz.prog M 106 #[.slice A l.length c, .int .i64 n] (.int .i64 (ixF (fun x => decide (n = x)) l)) := by
  have hl := h.len
  refine ans_of T (l := [.slice A l.length c, .int .i64 n]) mixed Tryz.func106 rfl (by kernel_rfl) (Nat.le_of_ble_eq_true rfl) ?_
  (conv => whnf)
  refine LoopK.mk {k : Nat // k ≤ l.length ∧ ∀ (j : Nat) (hj : j < l.length), j < k → decide (n = (l[j]'hj)) = false} (fun ⟨k, _⟩ => [(0, .v (.slice A l.length c)), (1, .v (.int .i64 n)), (7, .v (.int .i64 (l.length : Int))), (8, .v (.int .i64 (k : Int)))]) (fun _ => []) (fun _ => M) (fun k => l.length - k.1) ⟨0, Nat.zero_le _, fun j _ hj => absurd hj (by omega)⟩ ⟨⟨⟨rfl, rfl, rfl, rfl, trivial⟩, trivial, rfl, rfl⟩, rfl⟩ ?_
  rintro ⟨k, hk, hp⟩
  (conv => whnf)
  refine CondK.mk (fun h1 => ?_) (fun h1 => ?_)
  · have hlt : k < l.length := by simpa using h1
    obtain ⟨ad, rfl, _, x0⟩ := at_Int h (List.getElem?_eq_getElem hlt)
    repeat' ((conv => whnf); first | with_reducible refine CondK.tt ?_ | with_reducible refine CondK.ff ?_ | refine IdxK.mk _ rfl (by omega) (by omega) ?_ | refine LdK.mk _ (by assumption) ?_ | refine DrawN.q (by kernel_rfl) ?_ | refine CondK.mk (fun hc => ?_) (fun hc => ?_) | fail)
    all_goals first
      | (have hd : decide (n = l[k]) = true := by simpa using hc
         show _ = _
         rw [ix_at (p := fun x => decide (n = x)) hlt hd hp]
         rfl)
      | (have hd : decide (n = l[k]) = false := by simpa using hc
         exact ⟨⟨k + 1, hlt, fun j hj hj' => by rcases Nat.lt_succ_iff_lt_or_eq.mp hj' with hj' | rfl; exact hp j hj hj'; exact hd⟩, ⟨⟨rfl, rfl, rfl, look_int (i64_succ (by omega)), trivial⟩, trivial, rfl, rfl⟩, rfl, by simp; omega⟩)
      | fail
  · have he : k = l.length := by have : ¬ k < l.length := by simpa using h1
                                 omega
    subst he
    rw [ix_none (p := fun x => decide (n = x)) fun j hj => hp j hj hj]
    exact rfl
theorem containsInt_a (M : Mem) (l : List Int) (A : Option Addr) (c : Nat) (h : SlR M RInt 1 8 A c l) (n : Int) : Ans Tryz.prog M 63 #[.slice A l.length c, .int .i64 n] (.bool (l.any fun x => decide (n = x))) := by
  refine ans_of T (l := [.slice A l.length c, .int .i64 n]) mixed Tryz.func63 rfl (by kernel_rfl) (Nat.le_of_ble_eq_true rfl) ?_
  (conv => whnf)
  refine CallK.mk _ (indexInt_a M l A c h n) ?_
  (conv => whnf)
  exact ret_bool (ix_any _ _)
theorem l00Has_a (M : Mem) (l : List Int) (A : Option Addr) (c : Nat) (h : SlR M RInt 1 8 A c l) (n : Int) : Ans Tryz.prog M 52 #[.slice A l.length c, .int .i64 n] (.bool (l.any fun x => decide (n = x))) := by
  have hl := h.len
  refine ans_of T (l := [.slice A l.length c, .int .i64 n]) mixed Tryz.func52 rfl (by kernel_rfl) (Nat.le_of_ble_eq_true rfl) ?_
  (conv => whnf)
  refine LoopK.mk {k : Nat // k ≤ l.length ∧ ∀ (j : Nat) (hj : j < l.length), j < k → decide (n = (l[j]'hj)) = false} (fun ⟨k, _⟩ => [(0, .v (.slice A l.length c)), (1, .v (.int .i64 n)), (5, .v (.int .i64 (k : Int)))]) (fun _ => []) (fun _ => M) (fun k => l.length - k.1) ⟨0, Nat.zero_le _, fun j _ hj => absurd hj (by omega)⟩ ⟨⟨⟨rfl, rfl, rfl, trivial⟩, trivial, rfl, rfl⟩, rfl⟩ ?_
  rintro ⟨k, hk, hp⟩
  (conv => whnf)
  refine CondK.mk (fun h1 => ?_) (fun h1 => ?_)
  · have hlt : k < l.length := by simpa using h1
    obtain ⟨ad, rfl, _, x0⟩ := at_Int h (List.getElem?_eq_getElem hlt)
    repeat' ((conv => whnf); first | with_reducible refine CondK.tt ?_ | with_reducible refine CondK.ff ?_ | refine IdxK.mk _ rfl (by omega) (by omega) ?_ | refine LdK.mk _ (by assumption) ?_ | refine DrawN.q (by kernel_rfl) ?_ | refine CondK.mk (fun hc => ?_) (fun hc => ?_) | fail)
    all_goals first
      | (have hd : decide (n = l[k]) = true := decide_eq_true (eq_of_beq hc).symm
         exact ret_bool (Eq.symm (List.any_eq_true.2 ⟨_, List.getElem_mem hlt, hd⟩)))
      | (have hd : decide (n = l[k]) = false := decide_eq_false fun q => by rw [q] at hc; exact absurd (beq_self_eq_true _) (by rw [hc]; decide)
         exact ⟨⟨k + 1, hlt, fun j hj hj' => by rcases Nat.lt_succ_iff_lt_or_eq.mp hj' with hj' | rfl; exact hp j hj hj'; exact hd⟩, ⟨⟨rfl, rfl, look_int (i64_succ (by omega)), trivial⟩, trivial, rfl, rfl⟩, rfl, by simp; omega⟩)
      | fail
  · have he : k = l.length := by have : ¬ k < l.length := by simpa using h1
                                 omega
    subst he
    refine ret_bool (Eq.symm (List.any_eq_false.2 fun x hx => ?_))
    obtain ⟨j, hj, rfl⟩ := List.getElem_of_mem hx
    rw [hp j hj hj]
    decide
def l20F (n : GNet) (m : GMsg) : Bool := !(n.Cut.any fun x => decide (m.From = x)) && !(n.Cut.any fun x => decide (m.To = x))
theorem passes_a (M : Mem) (n : GNet) (m : GMsg) (cs ds : List Value) (h : RNet M n cs) (h' : RMsg M m ds) : Ans Tryz.prog M 32 #[.agg cs.toArray, .agg ds.toArray] (.bool (l20F n m)) := by
  obtain ⟨A0, c0, A1, c1, rfl, _, s0, s1⟩ := h
  obtain ⟨B0, d0, B1, d1, B2, d2, B3, d3, rfl, _⟩ := h'
  refine ans_of T (l := [.agg (List.toArray _), .agg (List.toArray _)]) mixed Tryz.func32 rfl (by kernel_rfl) (Nat.le_of_ble_eq_true rfl) ?_
  repeat' ((conv => whnf); first | with_reducible refine CondK.tt ?_ | with_reducible refine CondK.ff ?_ | refine CallK.mk _ (containsInt_a _ n.Cut A1 c1 s1 m.From) ?_ | refine CallK.mk _ (containsInt_a _ n.Cut A1 c1 s1 m.To) ?_ | refine CallQ.mk _ (containsInt_a _ n.Cut A1 c1 s1 m.From) ?_ | refine CallQ.mk _ (containsInt_a _ n.Cut A1 c1 s1 m.To) ?_ | refine DrawN.q (by kernel_rfl) ?_ | refine CondK.mk (fun hc => ?_) (fun hc => ?_) | fail)
  all_goals refine ret_bool ?_
  all_goals first | (unfold l20F; rw [hc, Bool.true_and]; done) | (unfold l20F; rw [hc, Bool.false_and]; done)
theorem l20Passes_a (M : Mem) (n : GNet) (m : GMsg) (cs ds : List Value) (h : RNet M n cs) (h' : RMsg M m ds) : Ans Tryz.prog M 20 #[.agg cs.toArray, .agg ds.toArray] (.bool (l20F n m)) := by
  obtain ⟨A0, c0, A1, c1, rfl, _, s0, s1⟩ := h
  obtain ⟨B0, d0, B1, d1, B2, d2, B3, d3, rfl, _⟩ := h'
  refine ans_of T (l := [.agg (List.toArray _), .agg (List.toArray _)]) mixed Tryz.func20 rfl (by kernel_rfl) (Nat.le_of_ble_eq_true rfl) ?_
  repeat' ((conv => whnf); first | with_reducible refine CondK.tt ?_ | with_reducible refine CondK.ff ?_ | refine CallK.mk _ (l00Has_a _ n.Cut A1 c1 s1 m.From) ?_ | refine CallK.mk _ (l00Has_a _ n.Cut A1 c1 s1 m.To) ?_ | refine CallQ.mk _ (l00Has_a _ n.Cut A1 c1 s1 m.From) ?_ | refine CallQ.mk _ (l00Has_a _ n.Cut A1 c1 s1 m.To) ?_ | refine DrawN.q (by kernel_rfl) ?_ | refine CondK.mk (fun hc => ?_) (fun hc => ?_) | fail)
  all_goals refine ret_bool ?_
  all_goals first | (unfold l20F; rw [hc, Bool.true_and]; done) | (unfold l20F; rw [hc, Bool.false_and]; done)
def passesF (n : GNet) (m : GMsg) : Bool := netOkF n && msgOkF m && l20F n m
theorem msgOk'_a (M : Mem) (m : GMsg) (cs : List Value) (h : RMsg M m cs) : AnsR Tryz.prog M 31 #[.agg cs.toArray] (fun _ v => v = .bool (msgOkF m)) := by
  have e : (endsF m && (fieldsF m).2 && decide (m = (fieldsF m).1)) = msgOkF m := by unfold msgOkF; rw [Bool.and_assoc, msg_plain]
  rw [← e]
  exact msgOk_a M m cs h
theorem passesI_a (M : Mem) (n : GNet) (m : GMsg) (cs ds : List Value) (h : RNet M n cs) (h' : RMsg M m ds) : AnsR Tryz.prog M 9 #[.agg cs.toArray, .agg ds.toArray] (fun _ v => v = .bool (passesF n m)) := by
  have h0 := h
  have h1 := h'
  have hz := Le.refl M
  obtain ⟨A0, c0, A1, c1, rfl, _⟩ := h
  obtain ⟨B0, d0, B1, d1, B2, d2, B3, d3, rfl, _⟩ := h'
  refine ansR_of T (l := [.agg (List.toArray _), .agg (List.toArray _)]) mixed Tryz.func9 rfl (by kernel_rfl) (Nat.le_of_ble_eq_true rfl) ?_
  repeat' ((conv => whnf); first | with_reducible refine CondK.tt ?_ | with_reducible refine CondK.ff ?_ | (refine CallK.mr _ (netOk_a _ n _ (RNet.mono hz _ _ h0)) (fun v M1 hl1 hv => ?_); subst hv; replace hz := hz.trans hl1) | (refine CallK.mr _ (msgOk'_a _ m _ (RMsg.mono hz _ _ h1)) (fun v M1 hl1 hv => ?_); subst hv; replace hz := hz.trans hl1) | refine CallK.mk _ (passes_a _ n m _ _ (RNet.mono hz _ _ h0) (RMsg.mono hz _ _ h1)) ?_ | refine CondK.mk (fun hc => ?_) (fun hc => ?_) | fail)
  all_goals refine RetK.mk fun g M' hl hg => ret_bool ?_
  all_goals (unfold passesF; first | (rw [‹netOkF n = false›]; rfl) | (rw [‹netOkF n = true›, ‹msgOkF m = false›]; rfl) | (rw [‹netOkF n = true›, ‹msgOkF m = true›]; rfl))
theorem passesS_a (M : Mem) (n : GNet) (m : GMsg) (cs ds : List Value) (h : RNet M n cs) (h' : RMsg M m ds) : Ans Tryz.prog M 6 #[.agg cs.toArray, .agg ds.toArray] (.bool (passesF n m)) := by
  have h0 := h
  have h1 := h'
  obtain ⟨A0, c0, A1, c1, rfl, _⟩ := h
  obtain ⟨B0, d0, B1, d1, B2, d2, B3, d3, rfl, _⟩ := h'
  refine ans_of T (l := [.agg (List.toArray _), .agg (List.toArray _)]) mixed Tryz.func6 rfl (by kernel_rfl) (Nat.le_of_ble_eq_true rfl) ?_
  repeat' ((conv => whnf); first | with_reducible refine CondK.tt ?_ | with_reducible refine CondK.ff ?_ | refine CallK.mk _ (sNetOk_a _ n _ h0) ?_ | refine CallK.mk (.bool (msgOkF m)) (sMsgOk_a _ m _ h1) ?_ | refine CallK.mk _ (l20Passes_a _ n m _ _ h0 h1) ?_ | refine CondK.mk (fun hc => ?_) (fun hc => ?_) | fail)
  all_goals refine ret_bool ?_
  all_goals (unfold passesF; first | (rw [‹netOkF n = false›]; rfl) | (rw [‹netOkF n = true›, ‹msgOkF m = false›]; rfl) | (rw [‹netOkF n = true›, ‹msgOkF m = true›]; rfl))
end Go.Proofs.YtgfccanmpdehmaaGreat.Hlp
