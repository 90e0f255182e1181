/- The first element of which p holds. -/
import Derived.Test.YtgeofmoojifkmaaGreatIns
namespace Go.Proofs.YtgeofmoojifkmaaGreat.Hlp
open Go Go.RowKit Go.Proofs Go.Proofs.YtgeofmoojifkmaaGreat.Lw
set_option linter.unusedVariables false
def ixD {α : Type} (p : α → Bool) (l : List α) : Int := match l.findIdx? p with | some i => (i : Int) | none => -1
theorem ixD_at {α : Type} {p : α → Bool} {l : List α} {k : Nat} (hk : k < l.length) (h : p l[k] = true) (ha : ∀ (j : Nat) (hj : j < l.length), j < k → p (l[j]'hj) = false) : ixD p l = (k : Int) := by
  unfold ixD
  rw [List.findIdx?_eq_some_iff_getElem.2 ⟨hk, h, fun j hj => by rw [ha j (by omega) hj]; decide⟩]
theorem ixD_none {α : Type} {p : α → Bool} {l : List α} (ha : ∀ (j : Nat) (hj : j < l.length), p (l[j]'hj) = false) : ixD p l = -1 := by
  unfold ixD
  rw [List.findIdx?_eq_none_iff.2 fun x hx => by obtain ⟨j, hj, rfl⟩ := List.getElem_of_mem hx; exact ha j hj]
theorem ixD_cases {α : Type} (p : α → Bool) (l : List α) : (ixD p l = -1 ∧ l.filter (fun x => !p x) = l) ∨ ∃ i : Nat, ixD p l = (i : Int) ∧ i < l.length ∧ (l.take (i + 1)).filter (fun x => !p x) = l.take i := by
  unfold ixD
  cases h : l.findIdx? p with
  | none =>
    rw [List.findIdx?_eq_none_iff] at h
    refine .inl ⟨rfl, List.filter_eq_self.2 fun x hx => by rw [h x hx]; rfl⟩
  | some i =>
    obtain ⟨hi, h1, h2⟩ := List.findIdx?_eq_some_iff_getElem.1 h
    refine .inr ⟨i, rfl, hi, ?_⟩
    rw [List.take_succ_eq_append_getElem hi, List.filter_append]
    have h3 : (l.take i).filter (fun x => !p x) = l.take i := List.filter_eq_self.2 fun x hx => by
      obtain ⟨j, hj, rfl⟩ := List.getElem_of_mem hx
      rw [List.length_take] at hj
      rw [List.getElem_take]
      have := h2 j (by omega)
      simpa using this
    rw [h3]
    simp [h1]
end Go.Proofs.YtgeofmoojifkmaaGreat.Hlp
