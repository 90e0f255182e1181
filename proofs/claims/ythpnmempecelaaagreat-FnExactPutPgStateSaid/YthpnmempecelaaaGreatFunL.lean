/- Where a chunk stands: by looking, and by halving. -/
import Derived.Test.YthpnmempecelaaaGreatFunK
namespace Go.Proofs.YthpnmempecelaaaGreat.Hlp
open Go Go.RowKit Go.Proofs Go.Proofs.YthpnmempecelaaaGreat.Lw
set_option linter.unusedVariables false
set_option linter.unusedSimpArgs false
set_option maxRecDepth 100000
set_option maxHeartbeats 4000000
theorem verLess_iff (a b : GVer) : verLessF a b = true ↔ a.Epoch < b.Epoch ∨ (a.Epoch = b.Epoch ∧ a.Seq < b.Seq) := by
  unfold verLessF
  simp
theorem chunkLess_iff (a b : GChunk) : chunkLessF a b = true ↔ bl a.Name b.Name = true ∨ (a.Name = b.Name ∧ (verLessF a.Ver b.Ver = true ∨ (a.Ver = b.Ver ∧ a.Pos < b.Pos))) := by
  unfold chunkLessF
  by_cases h1 : a.Name = b.Name
  · rw [if_pos h1]
    have hb : bl a.Name b.Name = false := by rw [h1, bl_irrefl]
    by_cases h2 : a.Ver = b.Ver
    · rw [if_pos h2]
      have hv : ¬ verLessF a.Ver b.Ver = true := by rw [h2, verLess_iff]; omega
      simp only [decide_eq_true_eq]
      constructor
      · exact fun h => .inr ⟨h1, .inr ⟨h2, h⟩⟩
      · rintro (h | ⟨_, h | ⟨_, h⟩⟩)
        · rw [hb] at h; cases h
        · exact absurd h hv
        · exact h
    · rw [if_neg h2]
      constructor
      · exact fun h => .inr ⟨h1, .inl h⟩
      · rintro (h | ⟨_, h | ⟨h, _⟩⟩)
        · rw [hb] at h; cases h
        · exact h
        · exact absurd h h2
  · rw [if_neg h1]
    constructor
    · exact .inl
    · rintro (h | ⟨h, _⟩)
      · exact h
      · exact absurd h h1
theorem chunkLess_trans {a b c : GChunk} (h : chunkLessF a b = true) (k : chunkLessF b c = true) : chunkLessF a c = true := by
  rw [chunkLess_iff] at *
  rcases h with h | ⟨h0, h⟩ <;> rcases k with k | ⟨k0, k⟩
  · exact .inl (bl_trans h k)
  · exact .inl (k0 ▸ h)
  · exact .inl (h0 ▸ k)
  · refine .inr ⟨h0.trans k0, ?_⟩
    rcases h with h | ⟨h1, h⟩ <;> rcases k with k | ⟨k1, k⟩
    · refine .inl ?_
      rw [verLess_iff] at *
      omega
    · exact .inl (k1 ▸ h)
    · exact .inl (h1 ▸ k)
    · exact .inr ⟨h1.trans k1, by omega⟩
theorem cmpChunk_zero (a b : GChunk) : cmpChunk a b = 0 ↔ a.Name = b.Name ∧ a.Ver = b.Ver ∧ a.Pos = b.Pos := by
  unfold cmpChunk
  simp only [orF]
  have hi : cmpI a.Pos b.Pos = 0 ↔ a.Pos = b.Pos := by unfold cmpI; split <;> (try split) <;> omega
  by_cases h1 : a.Name = b.Name
  · rw [if_pos ((cmpS_eq _ _).mpr h1)]
    by_cases h2 : a.Ver = b.Ver
    · rw [if_pos ((cmpVer_eq _ _).mpr h2)]
      by_cases h3 : a.Pos = b.Pos
      · rw [if_pos (hi.mpr h3)]
        exact ⟨fun _ => ⟨h1, h2, h3⟩, fun _ => rfl⟩
      · rw [if_neg (fun h => h3 (hi.mp h))]
        exact ⟨fun h => absurd (hi.mp h) h3, fun h => absurd h.2.2 h3⟩
    · rw [if_neg (fun h => h2 ((cmpVer_eq _ _).mp h))]
      exact ⟨fun h => absurd ((cmpVer_eq _ _).mp h) h2, fun h => absurd h.2.1 h2⟩
  · rw [if_neg (fun h => h1 ((cmpS_eq _ _).mp h))]
    exact ⟨fun h => absurd ((cmpS_eq _ _).mp h) h1, fun h => absurd h.1 h1⟩
theorem verLess_tri {a b : GVer} (h : verLessF a b = false) (k : verLessF b a = false) : a = b := by
  have h' : ¬ verLessF a b = true := by rw [h]; simp
  have k' : ¬ verLessF b a = true := by rw [k]; simp
  rw [verLess_iff] at h' k'
  cases a; cases b
  simp only [GVer.mk.injEq] at *
  omega
/-- Behind what is not less: equal, or not, both ways of asking. -/
theorem chunk_same {a b : GChunk} (h : chunkLessF a b = false) : (!chunkLessF b a) = decide (cmpChunk a b = 0) := by
  rw [Bool.eq_iff_iff, decide_eq_true_eq, cmpChunk_zero, Bool.not_eq_true']
  have h' : ¬ chunkLessF a b = true := by rw [h]; simp
  rw [chunkLess_iff] at h'
  constructor
  · intro k
    have k' : ¬ chunkLessF b a = true := by rw [k]; simp
    rw [chunkLess_iff] at k'
    have e1 : a.Name = b.Name := by
      apply Classical.byContradiction
      intro hn
      have := bl_tri (a := a.Name) (b := b.Name) (by cases hh : bl a.Name b.Name with | false => rfl | true => exact absurd (.inl hh) h') hn
      exact k' (.inl this)
    have e2 : a.Ver = b.Ver := verLess_tri
      (by cases hh : verLessF a.Ver b.Ver with | false => rfl | true => exact absurd (.inr ⟨e1, .inl hh⟩) h')
      (by cases hh : verLessF b.Ver a.Ver with | false => rfl | true => exact absurd (.inr ⟨e1.symm, .inl hh⟩) k')
    refine ⟨e1, e2, ?_⟩
    have n1 : ¬ a.Pos < b.Pos := fun h => h' (.inr ⟨e1, .inr ⟨e2, h⟩⟩)
    have n2 : ¬ b.Pos < a.Pos := fun h => k' (.inr ⟨e1.symm, .inr ⟨e2.symm, h⟩⟩)
    omega
  · rintro ⟨e1, e2, e3⟩
    cases hh : chunkLessF b a with
    | false => rfl
    | true =>
      rw [chunkLess_iff] at hh
      rcases hh with hh | ⟨_, hh | ⟨_, hh⟩⟩
      · rw [e1, bl_irrefl] at hh; cases hh
      · rw [e2, verLess_iff] at hh; omega
      · omega
/-- The number of elements ahead. -/
def aheadN {α : Type} (p : α → Bool) : List α → Nat
  | [] => 0
  | x :: r => if p x then aheadN p r + 1 else 0
theorem aheadN_at {α : Type} {p : α → Bool} : ∀ {l : List α} {k : Nat}, k ≤ l.length → (∀ (j : Nat) (hj : j < k) (hl : j < l.length), p l[j] = true) → (∀ (hk : k < l.length), p l[k] = false) → aheadN p l = k
  | [], k, hk, _, _ => by simp at hk; subst hk; rfl
  | x :: r, 0, _, _, h => by
    have := h (by simp)
    simp only [List.getElem_cons_zero] at this
    simp [aheadN, this]
  | x :: r, k + 1, hk, ha, h => by
    have h0 := ha 0 (by omega) (by simp)
    simp only [List.getElem_cons_zero] at h0
    have ih := aheadN_at (p := p) (l := r) (k := k) (by simpa using hk) (fun j hj hl => by have := ha (j + 1) (by omega) (by simp; omega); simpa using this) (fun hk' => by have := h (by simp; omega); simpa using this)
    simp [aheadN, h0, ih]
def hasF (l : List GChunk) (k : Nat) (c : GChunk) : Bool :=
  match l[k]? with
  | some x => decide (cmpChunk x c = 0)
  | none => false
def chunkIx (l : List GChunk) (c : GChunk) : Nat := aheadN (fun x => chunkLessF x c) l
theorem aheadN_le {α : Type} {p : α → Bool} : ∀ {l : List α}, aheadN p l ≤ l.length
  | [] => Nat.le_refl _
  | x :: r => by
    have := aheadN_le (p := p) (l := r)
    simp only [aheadN, List.length_cons]
    split <;> omega
def SortedC (l : List GChunk) : Prop := ∀ (i j : Nat) (hi : i < j) (hj : j < l.length), chunkLessF (l[i]'(by omega)) l[j] = true
theorem chunks_sorted {l : List GChunk} (h : allR l.length (chunkF l) = true) : SortedC l := by
  have step : ∀ k, (hk : k + 1 < l.length) → chunkLessF (l[k]'(by omega)) (l[k + 1]) = true := by
    intro k hk
    have h1 := allR_get h hk
    rw [chunkF_at (List.getElem?_eq_getElem hk) (y := l[k]'(by omega)) (by rw [show k + 1 - 1 = k by omega]; exact List.getElem?_eq_getElem (by omega))] at h1
    simp only [Bool.and_eq_true, Bool.not_eq_true', Bool.and_eq_false_iff, decide_eq_false_iff_not, Bool.not_eq_false'] at h1
    rcases h1.2 with h2 | h2
    · omega
    · exact h2
  have far : ∀ d i, (hd : i + (d + 1) < l.length) → chunkLessF (l[i]'(by omega)) (l[i + (d + 1)]) = true := by
    intro d
    induction d with
    | zero => intro i hd; exact step i hd
    | succ d ih => intro i hd; exact chunkLess_trans (ih i (by omega)) (step (i + (d + 1)) hd)
  intro i j hij hj
  obtain ⟨d, rfl⟩ : ∃ d, j = i + (d + 1) := ⟨j - i - 1, by omega⟩
  exact far d i hj
theorem chunkIx_ok {s : GPgState} (h : stateOkF s = true) : s.Chunks.length ≤ 160 ∧ SortedC s.Chunks := by
  unfold stateOkF chunksOkF at h
  simp only [Bool.and_eq_true, decide_eq_true_eq] at h
  exact ⟨by omega, chunks_sorted h.2.1⟩
def zeroChunk : GChunk := ⟨⟨#[]⟩, ⟨0, 0⟩, 0, 0, ⟨#[]⟩⟩
def keyChunk (name : ByteArray) (v : GVer) (pos : Int) : GChunk := ⟨name, v, pos, 0, ⟨#[]⟩⟩
/-- The chunk that is found; whether there is one. -/
def chunkOfF (s : GPgState) (name : ByteArray) (v : GVer) (pos : Int) : GChunk × Bool :=
  if stateOkF s = true then
    match s.Chunks[chunkIx s.Chunks (keyChunk name v pos)]? with
    | some x => if cmpChunk x (keyChunk name v pos) = 0 then (x, true) else (zeroChunk, false)
    | none => (zeroChunk, false)
  else (zeroChunk, false)
theorem chunkOf_no {s : GPgState} (h : stateOkF s = false) (name : ByteArray) (v : GVer) (pos : Int) : chunkOfF s name v pos = (zeroChunk, false) := by
  unfold chunkOfF
  rw [h]
  rfl
theorem chunkOf_none {s : GPgState} {name : ByteArray} {v : GVer} {pos : Int} (h : stateOkF s = true) (k : hasF s.Chunks (chunkIx s.Chunks (keyChunk name v pos)) (keyChunk name v pos) = false) : chunkOfF s name v pos = (zeroChunk, false) := by
  unfold chunkOfF
  unfold hasF at k
  rw [if_pos h]
  split
  · rename_i x hx
    rw [hx] at k
    rw [if_neg (by simpa using k)]
  · rfl
theorem chunkOf_some {s : GPgState} {name : ByteArray} {v : GVer} {pos : Int} (h : stateOkF s = true) (k : hasF s.Chunks (chunkIx s.Chunks (keyChunk name v pos)) (keyChunk name v pos) = true) : ∃ (i : Nat) (hi : i < s.Chunks.length), i = chunkIx s.Chunks (keyChunk name v pos) ∧ chunkOfF s name v pos = (s.Chunks[i], true) := by
  unfold hasF at k
  split at k
  · rename_i x hx
    obtain ⟨hi, hx'⟩ := List.getElem?_eq_some_iff.1 hx
    refine ⟨_, hi, rfl, ?_⟩
    unfold chunkOfF
    rw [if_pos h, hx]
    simp only
    rw [if_pos (by simpa using k), hx']
  · cases k
end Go.Proofs.YthpnmempecelaaaGreat.Hlp
