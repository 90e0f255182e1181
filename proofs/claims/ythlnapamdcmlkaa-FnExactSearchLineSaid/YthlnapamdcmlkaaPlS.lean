/- The plain law of SearchLine: to choose calls and to put them in an order, as against to look for an order with marks. -/
namespace Go.Proofs.Ythlnapamdcmlkaa.SL
variable {α S : Type} (bef : α → α → Bool) (rd cnt : α → Bool) (step : α → S → Option S)
/-- The program's way: some calls, in an order. -/
inductive SeqI : List α → S → Prop
  | nil (s : S) : SeqI [] s
  | step (cs : List α) (s s' : S) (i : Nat) (hi : i < cs.length) (hb : ∀ o ∈ cs, bef o cs[i] = false) (h1 : step cs[i] s = some s') (h2 : SeqI (cs.eraseIdx i) s') : SeqI cs s
inductive ChoI (s : S) : List α → List α → Prop
  | nil (ch : List α) (h : SeqI bef step ch s) : ChoI s ch []
  | put (ch : List α) (l : α) (r : List α) (hc : cnt l = true ∨ rd l = false) (h : ChoI s (ch ++ [l]) r) : ChoI s ch (l :: r)
  | skip (ch : List α) (l : α) (r : List α) (hc : cnt l = false) (h : ChoI s ch r) : ChoI s ch (l :: r)
/-- The calls of which the mark is not set. -/
def left : List α → List Bool → List α
  | a :: r, b :: q => if b then left r q else a :: left r q
  | _, _ => []
def placed : List α → List Bool → List α
  | a :: r, b :: q => if b then a :: placed r q else placed r q
  | _, _ => []
/-- The reference's way: marks. -/
inductive FindI (cs : List α) : List Bool → S → Prop
  | all (us : List Bool) (s : S) (h : ∀ o ∈ left cs us, cnt o = false) : FindI cs us s
  | step (us : List Bool) (s s' : S) (i : Nat) (hi : i < cs.length) (hu : us[i]? = some false) (hb : ∀ o ∈ placed cs us, bef cs[i] o = false) (hm : cnt cs[i] = true ∨ rd cs[i] = false) (h1 : step cs[i] s = some s') (h2 : FindI cs (us.set i true) s') : FindI cs us s
/-- An order. -/
inductive Run : List α → S → Prop
  | nil (s : S) : Run [] s
  | cons (a : α) (r : List α) (s s' : S) (hb : ∀ o ∈ a :: r, bef o a = false) (h1 : step a s = some s') (h2 : Run r s') : Run (a :: r) s
theorem perm_erase : ∀ (cs : List α) (i : Nat) (hi : i < cs.length), (cs[i] :: cs.eraseIdx i).Perm cs
  | [], i, hi => absurd hi (by simp)
  | a :: r, 0, hi => by simp
  | a :: r, i + 1, hi => by
    have h := perm_erase r i (by simpa using hi)
    simp only [List.getElem_cons_succ, List.eraseIdx_cons_succ]
    exact (List.Perm.swap _ _ _).trans (h.cons a)
theorem seq_run {cs : List α} {s : S} : SeqI bef step cs s ↔ ∃ o : List α, o.Perm cs ∧ Run bef step o s := by
  constructor
  · intro h
    induction h with
    | nil s => exact ⟨[], .refl _, .nil s⟩
    | step cs s s' i hi hb h1 h2 ih =>
      obtain ⟨o, hp, hr⟩ := ih
      have hq : (cs[i] :: o).Perm cs := (hp.cons _).trans (perm_erase cs i hi)
      exact ⟨cs[i] :: o, hq, .cons _ _ s s' (fun x hx => hb x (hq.mem_iff.1 hx)) h1 hr⟩
  · rintro ⟨o, hp, hr⟩
    induction hr generalizing cs with
    | nil s => rw [List.nil_perm.1 hp]; exact .nil s
    | cons a r s s' hb h1 h2 ih =>
      obtain ⟨i, hi, he⟩ := List.getElem_of_mem (hp.mem_iff.1 (List.mem_cons_self ..))
      subst he
      refine .step cs s s' i hi (fun x hx => hb x (hp.mem_iff.2 hx)) h1 (ih ?_)
      exact (List.perm_cons _).1 (hp.trans (perm_erase cs i hi).symm)
theorem cho_seq {s : S} {ch l : List α} : ChoI bef rd cnt step s ch l ↔ ∃ p q : List α, (p ++ q).Perm l ∧ (∀ x ∈ p, cnt x = true ∨ rd x = false) ∧ (∀ x ∈ q, cnt x = false) ∧ ∃ o : List α, o.Perm (ch ++ p) ∧ Run bef step o s := by
  constructor
  · intro h
    induction h with
    | nil ch h => exact ⟨[], [], .refl _, by simp, by simp, by simpa using (seq_run bef step).1 h⟩
    | put ch l r hc h ih =>
      obtain ⟨p, q, hp, h1, h2, o, h3, h4⟩ := ih
      refine ⟨l :: p, q, hp.cons l, ?_, h2, o, h3.trans (by simp), h4⟩
      intro x hx
      rcases List.mem_cons.1 hx with rfl | hx
      · exact hc
      · exact h1 x hx
    | skip ch l r hc h ih =>
      obtain ⟨p, q, hp, h1, h2, o, h3, h4⟩ := ih
      refine ⟨p, l :: q, List.perm_middle.trans (hp.cons l), h1, ?_, o, h3, h4⟩
      intro x hx
      rcases List.mem_cons.1 hx with rfl | hx
      · exact hc
      · exact h2 x hx
  · rintro ⟨p, q, hp, h1, h2, o, h3, h4⟩
    induction l generalizing ch p q with
    | nil =>
      have := hp.length_eq
      simp at this
      obtain ⟨rfl, rfl⟩ := this
      exact .nil ch ((seq_run bef step).2 ⟨o, by simpa using h3, h4⟩)
    | cons l r ih =>
      have hm : l ∈ p ++ q := hp.mem_iff.2 (List.mem_cons_self ..)
      rcases List.mem_append.1 hm with hm | hm
      · obtain ⟨p1, p2, rfl⟩ := List.append_of_mem hm
        refine .put ch l r (h1 l hm) (ih (p := p1 ++ p2) (q := q) ?_ ?_ h2 ?_)
        · rw [List.append_assoc, List.cons_append] at hp
          have := List.perm_middle.symm.trans hp
          simpa using (List.perm_cons _).1 this
        · intro x hx
          exact h1 x (by simp at hx ⊢; rcases hx with hx | hx <;> simp [hx])
        · refine h3.trans ?_
          rw [List.append_assoc, List.singleton_append]
          exact List.Perm.append_left _ List.perm_middle
      · obtain ⟨q1, q2, rfl⟩ := List.append_of_mem hm
        refine .skip ch l r (h2 l hm) (ih (p := p) (q := q1 ++ q2) ?_ h1 ?_ h3)
        · have h5 : (l :: (p ++ (q1 ++ q2))).Perm (p ++ (q1 ++ l :: q2)) := by
            refine List.perm_middle.symm.trans ?_
            exact List.Perm.append_left _ List.perm_middle.symm
          exact (List.perm_cons _).1 (h5.trans hp)
        · intro x hx
          exact h2 x (by simp at hx ⊢; rcases hx with hx | hx <;> simp [hx])
theorem left_set : ∀ (cs : List α) (us : List Bool) (i : Nat) (hi : i < cs.length), us[i]? = some false → (cs[i] :: left cs (us.set i true)).Perm (left cs us) ∧ (placed cs (us.set i true)).Perm (cs[i] :: placed cs us)
  | [], us, i, hi, hu => absurd hi (by simp)
  | a :: r, [], i, hi, hu => by simp at hu
  | a :: r, b :: q, 0, hi, hu => by
    simp at hu
    subst hu
    simp [left, placed]
  | a :: r, b :: q, i + 1, hi, hu => by
    have h := left_set r q i (by simpa using hi) (by simpa using hu)
    simp only [List.getElem_cons_succ, List.set_cons_succ, left, placed]
    cases b with
    | true =>
      refine ⟨by simpa using h.1, ?_⟩
      simp only [if_true]
      exact (h.2.cons a).trans (.swap _ _ _)
    | false =>
      refine ⟨?_, by simpa using h.2⟩
      simp only [Bool.false_eq_true, if_false]
      exact (List.Perm.swap _ _ _).trans (h.1.cons a)
theorem mem_left : ∀ (cs : List α) (us : List Bool) (x : α), x ∈ left cs us → ∃ i, ∃ hi : i < cs.length, us[i]? = some false ∧ cs[i] = x
  | [], us, x, h => by simp [left] at h
  | a :: r, [], x, h => by simp [left] at h
  | a :: r, b :: q, x, h => by
    simp only [left] at h
    cases b with
    | true =>
      obtain ⟨i, hi, h1, h2⟩ := mem_left r q x (by simpa using h)
      exact ⟨i + 1, by simp; omega, by simpa using h1, by simpa using h2⟩
    | false =>
      simp only [Bool.false_eq_true, if_false, List.mem_cons] at h
      rcases h with rfl | h
      · exact ⟨0, by simp, by simp, by simp⟩
      · obtain ⟨i, hi, h1, h2⟩ := mem_left r q x h
        exact ⟨i + 1, by simp; omega, by simpa using h1, by simpa using h2⟩
theorem left_of : ∀ (cs : List α) (us : List Bool) (i : Nat) (hi : i < cs.length), us[i]? = some false → cs[i] ∈ left cs us
  | [], us, i, hi, h => absurd hi (by simp)
  | a :: r, [], i, hi, h => by simp at h
  | a :: r, b :: q, 0, hi, h => by simp at h; subst h; simp [left]
  | a :: r, b :: q, i + 1, hi, h => by
    have := left_of r q i (by simpa using hi) (by simpa using h)
    simp only [left, List.getElem_cons_succ]
    cases b <;> simp [this]
theorem mem_placed : ∀ (cs : List α) (us : List Bool) (x : α), x ∈ placed cs us → ∃ i, ∃ hi : i < cs.length, us[i]? = some true ∧ cs[i] = x
  | [], us, x, h => by simp [placed] at h
  | a :: r, [], x, h => by simp [placed] at h
  | a :: r, b :: q, x, h => by
    simp only [placed] at h
    cases b with
    | false =>
      obtain ⟨i, hi, h1, h2⟩ := mem_placed r q x (by simpa using h)
      exact ⟨i + 1, by simp; omega, by simpa using h1, by simpa using h2⟩
    | true =>
      simp only [if_true, List.mem_cons] at h
      rcases h with rfl | h
      · exact ⟨0, by simp, by simp, by simp⟩
      · obtain ⟨i, hi, h1, h2⟩ := mem_placed r q x h
        exact ⟨i + 1, by simp; omega, by simpa using h1, by simpa using h2⟩
theorem placed_of : ∀ (cs : List α) (us : List Bool) (i : Nat) (hi : i < cs.length), us[i]? = some true → cs[i] ∈ placed cs us
  | [], us, i, hi, h => absurd hi (by simp)
  | a :: r, [], i, hi, h => by simp at h
  | a :: r, b :: q, 0, hi, h => by simp at h; subst h; simp [placed]
  | a :: r, b :: q, i + 1, hi, h => by
    have := placed_of r q i (by simpa using hi) (by simpa using h)
    simp only [placed, List.getElem_cons_succ]
    cases b <;> simp [this]
theorem find_run {cs : List α} (hirr : ∀ a ∈ cs, bef a a = false) {us : List Bool} {s : S} : FindI bef rd cnt step cs us s ↔ ∃ p q : List α, (p ++ q).Perm (left cs us) ∧ (∀ x ∈ p, cnt x = true ∨ rd x = false) ∧ (∀ x ∈ q, cnt x = false) ∧ (∀ x ∈ p, ∀ y ∈ placed cs us, bef x y = false) ∧ Run bef step p s := by
  constructor
  · intro h
    induction h with
    | all us s h => exact ⟨[], left cs us, .refl _, by simp, h, by simp, .nil s⟩
    | step us s s' i hi hu hb hm h1 h2 ih =>
      obtain ⟨p, q, g1, g2, g3, g4, g5⟩ := ih
      obtain ⟨l1, l2⟩ := left_set cs us i hi hu
      refine ⟨cs[i] :: p, q, (g1.cons _).trans l1, ?_, g3, ?_, .cons _ _ s s' ?_ h1 g5⟩
      · intro x hx
        rcases List.mem_cons.1 hx with rfl | hx
        · exact hm
        · exact g2 x hx
      · intro x hx y hy
        rcases List.mem_cons.1 hx with rfl | hx
        · exact hb y hy
        · exact g4 x hx y (l2.mem_iff.2 (List.mem_cons_of_mem _ hy))
      · intro x hx
        rcases List.mem_cons.1 hx with rfl | hx
        · exact hirr _ (List.getElem_mem hi)
        · exact g4 x hx _ (l2.mem_iff.2 (List.mem_cons_self ..))
  · rintro ⟨p, q, g1, g2, g3, g4, g5⟩
    induction g5 generalizing us with
    | nil s => exact .all us s fun o ho => g3 o (g1.mem_iff.2 ho)
    | cons a r s s' hb h1 h2 ih =>
      obtain ⟨i, hi, hu, he⟩ := mem_left cs us a (g1.mem_iff.1 (by simp))
      subst he
      obtain ⟨l1, l2⟩ := left_set cs us i hi hu
      refine .step us s s' i hi hu (fun o ho => g4 _ (by simp) o ho) (g2 _ (by simp)) h1 (ih ?_ (fun x hx => g2 x (List.mem_cons_of_mem _ hx)) ?_)
      · exact (List.perm_cons _).1 (g1.trans l1.symm)
      · intro x hx y hy
        rcases List.mem_cons.1 (l2.mem_iff.1 hy) with rfl | hy
        · exact hb x (List.mem_cons_of_mem _ hx)
        · exact g4 x (List.mem_cons_of_mem _ hx) y hy
theorem left_none (cs : List α) (n : Nat) (h : cs.length = n) : left cs (List.replicate n false) = cs ∧ placed cs (List.replicate n false) = [] := by
  induction cs generalizing n with
  | nil => subst h; simp [left, placed]
  | cons a r ih =>
    subst h
    have := ih r.length rfl
    simp [List.replicate_succ, left, placed, this]
/-- The law: both ways find an order, or neither does. -/
theorem cho_find' (cs : List α) (s : S) (hirr : ∀ a ∈ cs, bef a a = false) : ChoI bef rd cnt step s [] cs ↔ FindI bef rd cnt step cs (List.replicate cs.length false) s := by
  rw [cho_seq, find_run bef rd cnt step hirr, (left_none cs _ rfl).1, (left_none cs _ rfl).2]
  constructor
  · rintro ⟨p, q, h1, h2, h3, o, h4, h5⟩
    simp only [List.nil_append] at h4
    exact ⟨o, q, (h4.append_right q).trans h1, fun x hx => h2 x (h4.mem_iff.1 hx), h3, by simp, h5⟩
  · rintro ⟨p, q, h1, h2, h3, _, h5⟩
    exact ⟨p, q, h1, h2, h3, p, by simp, h5⟩
end Go.Proofs.Ythlnapamdcmlkaa.SL
