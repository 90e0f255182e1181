/- A state's heads at a version by the light walk. -/
import Derived.Test.YtgeofmoojifkmaaGreatFunL
import Derived.Test.YtgeofmoojifkmaaGreatIns
namespace Go.Proofs.YtgeofmoojifkmaaGreat.Hlp
open Go Go.RowKit Go.Proofs Go.Proofs.YtgeofmoojifkmaaGreat.Lw
set_option linter.unusedVariables false
set_option linter.unusedSimpArgs false
set_option maxRecDepth 100000
set_option maxHeartbeats 4000000
theorem aheadN_lt {α : Type} {p : α → Bool} : ∀ {l : List α} {j : Nat} (hj : j < aheadN p l) (hl : j < l.length), p l[j] = true
  | [], j, hj, hl => by simp at hl
  | x :: r, j, hj, hl => by
    simp only [aheadN] at hj
    split at hj
    · rename_i hx
      cases j with
      | zero => exact hx
      | succ j => simpa using aheadN_lt (p := p) (l := r) (j := j) (by omega) (by simpa using hl)
    · omega
theorem aheadN_end {α : Type} {p : α → Bool} : ∀ {l : List α} {y : α}, l[aheadN p l]? = some y → p y = false
  | [], y, h => by simp at h
  | x :: r, y, h => by
    simp only [aheadN] at h
    split at h
    · rename_i hx
      exact aheadN_end (p := p) (l := r) (by simpa using h)
    · rename_i hx
      simp only [List.getElem?_cons_zero, Option.some.injEq] at h
      subst h
      simpa using hx
def ixH (l : List GHead) (nm : ByteArray) : Nat := aheadN (fun y => bl y.Name nm) l
def hasH (l : List GHead) (k : Nat) (nm : ByteArray) : Bool :=
  match l[k]? with
  | some y => decide (cmpS y.Name nm = 0)
  | none => false
theorem RowN.mono {M0 N N' : Mem} {z n cap : Nat} {A : Option Addr} {ds : List Value} (h : RowN M0 N z A n cap ds) (hl : Le N N') : RowN M0 N' z A n cap ds := by
  rcases h with h | ⟨ad, h1, h2, h3⟩
  · exact .inl h
  · exact .inr ⟨ad, h1, h2.mono hl, h3⟩
theorem RowN.slS {α : Type} {M M1 N : Mem} {R : Mem → α → List Value → Prop} {z by_ cap : Nat} {A : Option Addr} {l : List α} {ds : List Value} (h : RowN M N z A l.length cap ds) (r : RowR M1 R z l ds) (hR : ∀ x cs, R M1 x cs → R (sub N M) x cs) (hl : l.length ≤ 9223372036854775807) : SlR (sub N M) R z by_ A cap l := by
  rcases h with ⟨_, hz, _⟩ | ⟨ad, rfl, hrc, hfr⟩
  · rw [List.eq_nil_of_length_eq_zero hz]; exact SlR.nil
  · have hno : ∀ o, M (ad.add o) = none := fun o => by
      cases hm : M (ad.add o) with
      | none => rfl
      | some w => exact absurd (add_block _ _) (hfr _ w hm)
    exact RowC.sl (M' := M1) ⟨hrc.len, hrc.le, fun o u hu => sub_of (hrc.el o u hu) (hno o), fun o ho => let ⟨u, hu⟩ := hrc.room o ho; ⟨u, sub_of hu (hno o)⟩⟩ r hR hl
/-- The heads at the state's n-th step. -/
def hdsTo (s : GPgState) (n : Nat) : List GHead := (s.Log.take n).foldl (fun l e => putF e l) s.Base
theorem hdsTo_step {s : GPgState} {k : Nat} (h : k < s.Log.length) : hdsTo s (k + 1) = putF s.Log[k] (hdsTo s k) := by
  unfold hdsTo
  rw [List.take_succ_eq_append_getElem h, List.foldl_append]
  rfl
theorem logS_len : ∀ (r : List GEntry) (at_ : GVer) (l : List GHead), l.length ≤ 16 → logS at_ l r = true → ∀ k, k ≤ r.length → ((r.take k).foldl (fun l e => putF e l) l).length ≤ 16
  | [], _, l, hl, _, k, hk => by simpa using hl
  | e :: r, at_, l, hl, h, 0, hk => by simpa using hl
  | e :: r, at_, l, hl, h, k + 1, hk => by
    simp only [logS, Bool.and_eq_true, decide_eq_true_eq] at h
    rw [List.take_succ_cons, List.foldl_cons]
    exact logS_len r e.Ver (putF e l) (by omega) h.2.2 k (by simpa using hk)
theorem state_base {s : GPgState} (h : stateOkF s = true) : allR s.Base.length (headF s.Tail s.Base) = true ∧ s.Base.length ≤ 16 ∧ logS s.Tail s.Base s.Log = true ∧ s.Log.length ≤ 24 := by
  have hb : allR s.Base.length (headF s.Tail s.Base) = true ∧ s.Base.length ≤ 16 := by
    unfold stateOkF baseOkF at h
    simp only [Bool.and_eq_true, decide_eq_true_eq] at h
    have h1 := h.1.1.1.1.2
    exact ⟨h1.1.1, by omega⟩
  have hl : logOkF s = true := by
    unfold stateOkF at h
    simp only [Bool.and_eq_true] at h
    exact h.1.1.1.2
  rw [log_same hb.1] at hl
  simp only [Bool.and_eq_true, decide_eq_true_eq] at hl
  exact ⟨hb.1, hb.2, hl.1, by omega⟩
theorem hds_len {s : GPgState} (h : stateOkF s = true) {k : Nat} (hk : k ≤ s.Log.length) : (hdsTo s k).length ≤ 16 := by
  obtain ⟨_, h1, h2, _⟩ := state_base h
  exact logS_len _ _ _ h1 h2 k hk
theorem hds_sorted {s : GPgState} (h : stateOkF s = true) : ∀ k, k ≤ s.Log.length → SortedH (hdsTo s k)
  | 0, _ => by unfold hdsTo; simpa using heads_sorted (state_base h).1
  | k + 1, hk => by rw [hdsTo_step (by omega)]; exact put_sorted (hds_sorted h k (by omega))
/-- The entry put where the search says. -/
theorem putF_ix (e : GEntry) (l : List GHead) : putF e l = l.take (ixH l e.Name) ++ (newF e ++ l.drop (if hasH l (ixH l e.Name) e.Name = true then ixH l e.Name + 1 else ixH l e.Name)) ∧ ixH l e.Name ≤ l.length ∧ (hasH l (ixH l e.Name) e.Name = true → ixH l e.Name < l.length) := by
  have hle : ixH l e.Name ≤ l.length := aheadN_le
  refine ⟨?_, hle, fun h => ?_⟩
  · have h1 := putF_at (e := e) (l := l) hle (fun j hj hl => aheadN_lt (p := fun (y : GHead) => bl y.Name e.Name) hj hl) (fun y hy => aheadN_end (p := fun (y : GHead) => bl y.Name e.Name) hy)
    unfold hasH
    cases hq : l[ixH l e.Name]? with
    | none => rw [hq] at h1; simpa using h1
    | some y =>
      rw [hq] at h1
      have : decide (y.Name = e.Name) = decide (cmpS y.Name e.Name = 0) := by rw [Bool.eq_iff_iff, decide_eq_true_eq, decide_eq_true_eq]; exact (cmpS_eq _ _).symm
      by_cases hc : y.Name = e.Name
      · have hc2 : cmpS y.Name e.Name = 0 := (cmpS_eq _ _).mpr hc
        rw [if_pos (decide_eq_true hc)] at h1
        rw [if_pos (decide_eq_true hc2)]
        exact h1
      · have hc2 : ¬ cmpS y.Name e.Name = 0 := fun h => hc ((cmpS_eq _ _).mp h)
        rw [if_neg (by simpa using hc)] at h1
        rw [if_neg (by simpa using hc2)]
        exact h1
  · rcases Nat.lt_or_ge (ixH l e.Name) l.length with h1 | h1
    · exact h1
    · unfold hasH at h
      rw [List.getElem?_eq_none h1] at h
      cases h
end Go.Proofs.YtgeofmoojifkmaaGreat.Hlp
