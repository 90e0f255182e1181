/- Whether a list of numbers holds one. -/
import Derived.Test.YtgeofmoojifkmaaGreatFunM
namespace Go.Proofs.YtgeofmoojifkmaaGreat.Hlp
open Go Go.RowKit Go.Proofs Go.Proofs.YtgeofmoojifkmaaGreat.Lw
set_option linter.unusedVariables false
set_option linter.unusedSimpArgs false
set_option maxRecDepth 100000
set_option maxHeartbeats 4000000
def ixF {α : Type} (p : α → Bool) (l : List α) : Int := match l.findIdx? p with | some i => (i : Int) | none => -1
theorem ix_any {α : Type} (p : α → Bool) (l : List α) : decide (0 ≤ ixF p l) = l.any p := by
  rw [← List.findIdx?_isSome]
  unfold ixF
  cases l.findIdx? p with
  | none => rfl
  | some i => simp
theorem ix_at {α : Type} {p : α → Bool} {l : List α} {k : Nat} (hk : k < l.length) (h : p l[k] = true) (ha : ∀ (j : Nat) (hj : j < l.length), j < k → p (l[j]'hj) = false) : ixF p l = (k : Int) := by
  unfold ixF
  rw [List.findIdx?_eq_some_iff_getElem.2 ⟨hk, h, fun j hj => by rw [ha j (by omega) hj]; decide⟩]
theorem ix_none {α : Type} {p : α → Bool} {l : List α} (ha : ∀ (j : Nat) (hj : j < l.length), p (l[j]'hj) = false) : ixF p l = -1 := by
  unfold ixF
  rw [List.findIdx?_eq_none_iff.2 fun x hx => by obtain ⟨j, hj, rfl⟩ := List.getElem_of_mem hx; exact ha j hj]
theorem indexInt_a (M : Mem) (l : List Int) (A : Option Addr) (c : Nat) (h : SlR M RInt 1 8 A c l) (n : Int) : Ans Tryz.prog M 78 #[.slice A l.length c, .int .i64 n] (.int .i64 (ixF (fun x => decide (n = x)) l)) := by
  have hl := h.len
  refine ans_of T (l := [.slice A l.length c, .int .i64 n]) mixed Tryz.func78 rfl (by kernel_rfl) (Nat.le_of_ble_eq_true rfl) ?_
  (conv => whnf)
  refine LoopK.mk {k : Nat // k ≤ l.length ∧ ∀ (j : Nat) (hj : j < l.length), j < k → decide (n = (l[j]'hj)) = false} (fun ⟨k, _⟩ => [(0, .v (.slice A l.length c)), (1, .v (.int .i64 n)), (7, .v (.int .i64 (l.length : Int))), (8, .v (.int .i64 (k : Int)))]) (fun _ => []) (fun _ => M) (fun k => l.length - k.1) ⟨0, Nat.zero_le _, fun j _ hj => absurd hj (by omega)⟩ ⟨⟨⟨rfl, rfl, rfl, rfl, trivial⟩, trivial, rfl, rfl⟩, rfl⟩ ?_
  rintro ⟨k, hk, hp⟩
  (conv => whnf)
  refine CondK.mk (fun h1 => ?_) (fun h1 => ?_)
  · have hlt : k < l.length := by simpa using h1
    obtain ⟨ad, rfl, _, x0⟩ := at_Int h (List.getElem?_eq_getElem hlt)
    repeat' ((conv => whnf); first | with_reducible refine CondK.tt ?_ | with_reducible refine CondK.ff ?_ | refine IdxK.mk _ rfl (by omega) (by omega) ?_ | refine LdK.mk _ (by assumption) ?_ | refine DrawN.q (by kernel_rfl) ?_ | refine CondK.mk (fun hc => ?_) (fun hc => ?_) | fail)
    all_goals first
      | (have hd : decide (n = l[k]) = true := by simpa using hc
         show _ = _
         rw [ix_at (p := fun x => decide (n = x)) hlt hd hp]
         rfl)
      | (have hd : decide (n = l[k]) = false := by simpa using hc
         exact ⟨⟨k + 1, hlt, fun j hj hj' => by rcases Nat.lt_succ_iff_lt_or_eq.mp hj' with hj' | rfl; exact hp j hj hj'; exact hd⟩, ⟨⟨rfl, rfl, rfl, look_int (i64_succ (by omega)), trivial⟩, trivial, rfl, rfl⟩, rfl, by simp; omega⟩)
      | fail
  · have he : k = l.length := by have : ¬ k < l.length := by simpa using h1
                                 omega
    subst he
    rw [ix_none (p := fun x => decide (n = x)) fun j hj => hp j hj hj]
    exact rfl
theorem containsInt_a (M : Mem) (l : List Int) (A : Option Addr) (c : Nat) (h : SlR M RInt 1 8 A c l) (n : Int) : Ans Tryz.prog M 46 #[.slice A l.length c, .int .i64 n] (.bool (l.any fun x => decide (n = x))) := by
  refine ans_of T (l := [.slice A l.length c, .int .i64 n]) mixed Tryz.func46 rfl (by kernel_rfl) (Nat.le_of_ble_eq_true rfl) ?_
  (conv => whnf)
  refine CallK.mk _ (indexInt_a M l A c h n) ?_
  (conv => whnf)
  exact ret_bool (ix_any _ _)
theorem l00Has_a (M : Mem) (l : List Int) (A : Option Addr) (c : Nat) (h : SlR M RInt 1 8 A c l) (n : Int) : Ans Tryz.prog M 25 #[.slice A l.length c, .int .i64 n] (.bool (l.any fun x => decide (n = x))) := by
  have hl := h.len
  refine ans_of T (l := [.slice A l.length c, .int .i64 n]) mixed Tryz.func25 rfl (by kernel_rfl) (Nat.le_of_ble_eq_true rfl) ?_
  (conv => whnf)
  refine LoopK.mk {k : Nat // k ≤ l.length ∧ ∀ (j : Nat) (hj : j < l.length), j < k → decide (n = (l[j]'hj)) = false} (fun ⟨k, _⟩ => [(0, .v (.slice A l.length c)), (1, .v (.int .i64 n)), (5, .v (.int .i64 (k : Int)))]) (fun _ => []) (fun _ => M) (fun k => l.length - k.1) ⟨0, Nat.zero_le _, fun j _ hj => absurd hj (by omega)⟩ ⟨⟨⟨rfl, rfl, rfl, trivial⟩, trivial, rfl, rfl⟩, rfl⟩ ?_
  rintro ⟨k, hk, hp⟩
  (conv => whnf)
  refine CondK.mk (fun h1 => ?_) (fun h1 => ?_)
  · have hlt : k < l.length := by simpa using h1
    obtain ⟨ad, rfl, _, x0⟩ := at_Int h (List.getElem?_eq_getElem hlt)
    repeat' ((conv => whnf); first | with_reducible refine CondK.tt ?_ | with_reducible refine CondK.ff ?_ | refine IdxK.mk _ rfl (by omega) (by omega) ?_ | refine LdK.mk _ (by assumption) ?_ | refine DrawN.q (by kernel_rfl) ?_ | refine CondK.mk (fun hc => ?_) (fun hc => ?_) | fail)
    all_goals first
      | (have hd : decide (n = l[k]) = true := decide_eq_true (eq_of_beq hc).symm
         exact ret_bool (Eq.symm (List.any_eq_true.2 ⟨_, List.getElem_mem hlt, hd⟩)))
      | (have hd : decide (n = l[k]) = false := decide_eq_false fun q => by rw [q] at hc; exact absurd (beq_self_eq_true _) (by rw [hc]; decide)
         exact ⟨⟨k + 1, hlt, fun j hj hj' => by rcases Nat.lt_succ_iff_lt_or_eq.mp hj' with hj' | rfl; exact hp j hj hj'; exact hd⟩, ⟨⟨rfl, rfl, look_int (i64_succ (by omega)), trivial⟩, trivial, rfl, rfl⟩, rfl, by simp; omega⟩)
      | fail
  · have he : k = l.length := by have : ¬ k < l.length := by simpa using h1
                                 omega
    subst he
    refine ret_bool (Eq.symm (List.any_eq_false.2 fun x hx => ?_))
    obtain ⟨j, hj, rfl⟩ := List.getElem_of_mem hx
    rw [hp j hj hj]
    decide
end Go.Proofs.YtgeofmoojifkmaaGreat.Hlp
