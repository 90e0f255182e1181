/- What verOf's parts are worth: plain facts about acting sets, intervals and notices. -/
import Derived.Test.YtoedjkeahjmpiaaGreatFunVD
namespace Go.Proofs.YtoedjkeahjmpiaaGreat.Hlp
open Go Go.RowKit Go.Proofs Go.Proofs.YtoedjkeahjmpiaaGreat.Lw
set_option linter.unusedVariables false
set_option linter.unusedSimpArgs false
set_option maxRecDepth 100000
set_option maxHeartbeats 4000000
def actOf (ivs : List GInterval) (s : Int) : List Int := match ivs.findIdx? (fun x => x.First == s) with | some i => (match ivs[i]? with | some x => x.Acting | none => []) | none => []
def inBy (act : List Int) (l : List GNotice) : List GNotice := l.filter fun y => !(!act.any fun z => decide (y.From = z))
def inF (ivs : List GInterval) (s : Int) (l : List GNotice) : List GNotice := inBy (actOf ivs s) l
def verF (ivs : List GInterval) (k : Int) (l : List GNotice) : GVer × Int :=
  if henF ivs k (startedF l) (fromsF l) = false then (⟨0, 0⟩, 8) else if startedF l = 0 then (⟨0, 0⟩, 0)
  else if (whoF (inF ivs (startedF l) l) (startedF l)).length = (inF ivs (startedF l) l).length then (kthF (vsF (inF ivs (startedF l) l)) k, 0) else (kthF (vsF (whoF l (startedF l))) 1, 0)
theorem intervals_at {ivs : List GInterval} (h : intervalsF ivs = true) {x : GInterval} (hx : x ∈ ivs) : actingF x.Acting = true := by
  obtain ⟨k, hk⟩ := List.getElem?_of_mem hx
  have hkl : k < ivs.length := by
    rcases Nat.lt_or_ge k ivs.length with h' | h'
    · exact h'
    · rw [List.getElem?_eq_none h'] at hk; cases hk
  unfold intervalsF at h
  simp only [Bool.and_eq_true] at h
  have h1 := allR_get h.1 hkl
  rw [ivF_at hk (List.getElem?_eq_getElem (by omega : 0 < ivs.length))] at h1
  simp only [Bool.and_eq_true] at h1
  exact h1.1.2
theorem intervals_len {ivs : List GInterval} (h : intervalsF ivs = true) : ivs.length ≤ 60 := by
  unfold intervalsF at h
  simp only [Bool.and_eq_true, decide_eq_true_eq] at h
  exact h.2
theorem acting_le {a : List Int} (h : actingF a = true) : a.length ≤ 7 := by
  unfold actingF inR at h
  simp only [Bool.and_eq_true, decide_eq_true_eq] at h
  omega
theorem acting_at {a : List Int} (h : actingF a = true) {k : Nat} {n : Int} (hk : a[k]? = some n) : -1 ≤ n ∧ (0 ≤ n → ∀ j m, j < k → a[j]? = some m → n ≠ m) := by
  have hkl : k < a.length := by
    rcases Nat.lt_or_ge k a.length with h' | h'
    · exact h'
    · rw [List.getElem?_eq_none h'] at hk; cases hk
  unfold actingF at h
  simp only [Bool.and_eq_true] at h
  have h1 := allR_get h.1 hkl
  rw [actF_at hk] at h1
  simp only [inR, Bool.and_eq_true, decide_eq_true_eq, Bool.not_eq_true', Bool.and_eq_false_iff, decide_eq_false_iff_not, List.any_eq_false] at h1
  refine ⟨h1.1.1, fun h0 j m hj hm he => ?_⟩
  rcases h1.2 with h2 | h2
  · exact h2 h0
  · exact h2 m (List.mem_iff_getElem?.2 ⟨j, by rw [List.getElem?_take, if_pos hj]; exact hm⟩) he
theorem mem_remF {a : List Int} {n x : Int} : x ∈ remF a n ↔ x ∈ a ∧ x ≠ n := by
  unfold remF
  rw [List.mem_filter]
  simp
theorem mem_memF {a : List Int} {x : Int} : x ∈ memF a ↔ x ∈ a ∧ x ≠ -1 := by
  unfold memF srt
  rw [(List.mergeSort_perm _ _).mem_iff, mem_remF]
theorem nodup_memF {a : List Int} (h : actingF a = true) : (memF a).Nodup := by
  unfold memF srt
  refine (List.mergeSort_perm _ _).nodup_iff.2 ?_
  have hp : a.Pairwise fun x y => y ≠ -1 → x ≠ y := by
    rw [List.pairwise_iff_getElem]
    intro i j hi hj hij hne he
    have h1 := acting_at h (List.getElem?_eq_getElem hj)
    exact h1.2 (by omega) i _ hij (List.getElem?_eq_getElem hi) he.symm
  have hq : (remF a (-1)).Pairwise fun x y => y ≠ -1 → x ≠ y := hp.filter _
  refine List.Pairwise.imp_of_mem (fun {x y} hx hy hxy => hxy (mem_remF.1 hy).2) hq
theorem notices_lt {l : List GNotice} (h : noticesOkF l = true) {k : Nat} {x y : GNotice} (hx : l[k]? = some x) (hy : l[k + 1]? = some y) : x.From < y.From := by
  have hkl : k + 1 < l.length := by
    rcases Nat.lt_or_ge (k + 1) l.length with h' | h'
    · exact h'
    · rw [List.getElem?_eq_none h'] at hy; cases hy
  have h1 := allR_get h hkl
  rw [noticeF_at hy (y := x) (by rw [show k + 1 - 1 = k by omega]; exact hx) (List.getElem?_eq_getElem (by omega : 0 < l.length))] at h1
  simp only [Bool.and_eq_true, Bool.not_eq_true', Bool.and_eq_false_iff, decide_eq_false_iff_not] at h1
  have := h1.1.1.2
  omega
theorem notices_mono {l : List GNotice} (h : noticesOkF l = true) : ∀ (d k : Nat) (x y : GNotice), l[k]? = some x → l[k + d + 1]? = some y → x.From < y.From
  | 0, k, x, y, hx, hy => notices_lt h hx hy
  | d + 1, k, x, y, hx, hy => by
    have hkl : k + (d + 1) + 1 < l.length := by
      rcases Nat.lt_or_ge (k + (d + 1) + 1) l.length with h' | h'
      · exact h'
      · rw [List.getElem?_eq_none h'] at hy; cases hy
    have h1 := notices_mono h d k x (l[k + d + 1]'(by omega)) hx (List.getElem?_eq_getElem (by omega))
    have h2 := notices_lt h (k := k + d + 1) (List.getElem?_eq_getElem (by omega)) (by rw [show k + d + 1 + 1 = k + (d + 1) + 1 by omega]; exact hy)
    omega
theorem nodup_froms {l : List GNotice} (h : noticesOkF l = true) : (fromsF l).Nodup := by
  show (fromsF l).Pairwise _
  rw [List.pairwise_iff_getElem]
  intro i j hi hj hij
  have hi' : i < l.length := by rwa [fromsF_len] at hi
  have hj' : j < l.length := by rwa [fromsF_len] at hj
  have e1 : (fromsF l)[i] = l[i].From := by simp [fromsF]
  have e2 : (fromsF l)[j] = l[j].From := by simp [fromsF]
  rw [e1, e2]
  have := notices_mono h (j - i - 1) i l[i] l[j] (List.getElem?_eq_getElem hi') (by rw [show i + (j - i - 1) + 1 = j by omega]; exact List.getElem?_eq_getElem hj')
  omega
theorem froms_nonneg {l : List GNotice} (h : noticesOkF l = true) {x : Int} (hx : x ∈ fromsF l) : 0 ≤ x := by
  unfold fromsF at hx
  obtain ⟨y, hy, rfl⟩ := List.mem_map.1 hx
  obtain ⟨k, hk⟩ := List.getElem?_of_mem hy
  have hkl : k < l.length := by
    rcases Nat.lt_or_ge k l.length with h' | h'
    · exact h'
    · rw [List.getElem?_eq_none h'] at hk; cases hk
  have h1 := allR_get h hkl
  rw [noticeF_at hk (List.getElem?_eq_getElem (by omega : k - 1 < l.length)) (List.getElem?_eq_getElem (by omega : 0 < l.length))] at h1
  simp only [inR, Bool.and_eq_true, decide_eq_true_eq] at h1
  exact h1.1.1.1.1
theorem mem_heF {a h : List Int} {x : Int} : x ∈ heF a h ↔ x ∈ a ∧ x ≠ -1 ∧ x ∈ h := by
  unfold heF
  rw [List.mem_filter, mem_memF]
  simp only [Bool.not_not, List.any_eq_true, decide_eq_true_eq]
  constructor
  · rintro ⟨⟨h1, h2⟩, y, hy, rfl⟩; exact ⟨h1, h2, hy⟩
  · rintro ⟨h1, h2, h3⟩; exact ⟨⟨h1, h2⟩, x, h3, rfl⟩
theorem nodup_heF {a : List Int} (h : actingF a = true) (l : List Int) : (heF a l).Nodup := (nodup_memF h).filter _
theorem nodup_le : ∀ {a b : List Int}, a.Nodup → (∀ x ∈ a, x ∈ b) → a.length ≤ b.length
  | [], _, _, _ => Nat.zero_le _
  | x :: r, b, hn, hs => by
    rw [List.nodup_cons] at hn
    have hxb := hs x (List.mem_cons_self ..)
    have h1 := nodup_le (a := r) (b := b.erase x) hn.2 fun y hy => (List.mem_erase_of_ne (fun (he : y = x) => hn.1 (he ▸ hy))).2 (hs y (List.mem_cons_of_mem _ hy))
    have h2 := List.length_erase_of_mem hxb
    have h3 := List.length_pos_of_mem hxb
    simp only [List.length_cons]
    omega
/-- How many of the heard lie in an acting set, counted either way. -/
theorem heF_len {a : List Int} (h : actingF a = true) {l : List GNotice} (hl : noticesOkF l = true) : (heF a (fromsF l)).length = ((fromsF l).filter fun x => a.any fun z => decide (x = z)).length := by
  have h1 := nodup_heF h (fromsF l)
  have h2 := (nodup_froms hl).filter (fun x => a.any fun z => decide (x = z))
  have hm : ∀ x, x ∈ (fromsF l).filter (fun x => a.any fun z => decide (x = z)) ↔ x ∈ fromsF l ∧ x ∈ a := fun x => by
    rw [List.mem_filter]
    simp only [List.any_eq_true, decide_eq_true_eq]
    constructor
    · rintro ⟨h1, z, hz, rfl⟩; exact ⟨h1, hz⟩
    · rintro ⟨h1, h2⟩; exact ⟨h1, x, h2, rfl⟩
  refine Nat.le_antisymm ?_ ?_
  · exact nodup_le h1 (fun x hx => by obtain ⟨p, q, r⟩ := mem_heF.1 hx; exact (hm x).2 ⟨r, p⟩)
  · exact nodup_le h2 (fun x hx => by obtain ⟨p, q⟩ := (hm x).1 hx; exact mem_heF.2 ⟨q, by have := froms_nonneg hl p; omega, p⟩)
theorem in_len (a : List Int) (l : List GNotice) : (inBy a l).length = ((fromsF l).filter fun x => a.any fun z => decide (x = z)).length := by
  unfold inBy fromsF
  rw [List.filter_map, List.length_map]
  congr 1
  refine List.filter_congr fun x _ => ?_
  simp
theorem started_ge (l : List GNotice) : 0 ≤ startedF l ∧ (startedF l = 0 ∨ ∃ y ∈ l, y.State.Started = startedF l) := by
  unfold startedF
  suffices H : ∀ (l : List GNotice) (m : Int), 0 ≤ m → 0 ≤ l.foldl (fun m n => if n.State.Started > m then n.State.Started else m) m ∧ (l.foldl (fun m n => if n.State.Started > m then n.State.Started else m) m = m ∨ ∃ y ∈ l, y.State.Started = l.foldl (fun m n => if n.State.Started > m then n.State.Started else m) m) by
    obtain ⟨h1, h2⟩ := H l 0 (by omega)
    exact ⟨h1, h2⟩
  intro l
  induction l with
  | nil => intro m hm; exact ⟨hm, .inl rfl⟩
  | cons a r ih =>
    intro m hm
    simp only [List.foldl_cons]
    by_cases hq : a.State.Started > m
    · rw [if_pos hq]
      obtain ⟨h1, h2⟩ := ih a.State.Started (by omega)
      refine ⟨h1, ?_⟩
      rcases h2 with h2 | ⟨y, hy, h3⟩
      · exact .inr ⟨a, List.mem_cons_self .., h2.symm⟩
      · exact .inr ⟨y, List.mem_cons_of_mem _ hy, h3⟩
    · rw [if_neg hq]
      obtain ⟨h1, h2⟩ := ih m hm
      refine ⟨h1, ?_⟩
      rcases h2 with h2 | ⟨y, hy, h3⟩
      · exact .inl h2
      · exact .inr ⟨y, List.mem_cons_of_mem _ hy, h3⟩
theorem who_pos {l : List GNotice} (h : startedF l ≠ 0) : 1 ≤ (whoF l (startedF l)).length := by
  obtain ⟨_, h2⟩ := started_ge l
  rcases h2 with h2 | ⟨y, hy, h3⟩
  · exact absurd h2 h
  · exact List.length_pos_of_mem (a := y) (List.mem_filter.2 ⟨hy, by rw [h3]; simp⟩)
theorem hasFirst_at {ivs : List GInterval} {s : Int} (h : hasFirst ivs s = true) : ∃ (i : Nat) (x : GInterval), ixD (fun x : GInterval => x.First == s) ivs = (i : Int) ∧ i < ivs.length ∧ ivs[i]? = some x ∧ x.First = s ∧ actOf ivs s = x.Acting := by
  unfold hasFirst at h
  cases hf : ivs.findIdx? (fun x => x.First == s) with
  | none =>
    rw [List.findIdx?_eq_none_iff] at hf
    rw [List.any_eq_true] at h
    obtain ⟨x, hx, hp⟩ := h
    rw [hf x hx] at hp
    cases hp
  | some i =>
    obtain ⟨hi, h1, h2⟩ := List.findIdx?_eq_some_iff_getElem.1 hf
    refine ⟨i, ivs[i], by unfold ixD; rw [hf], hi, List.getElem?_eq_getElem hi, by simpa using h1, ?_⟩
    unfold actOf
    rw [hf]
    simp only
    rw [List.getElem?_eq_getElem hi]
theorem hen_pre {ivs : List GInterval} {k s : Int} {l : List GNotice} (hi : intervalsF ivs = true) (hl : noticesOkF l = true) (hs : s > 0) (h : henF ivs k s (fromsF l) = true) : hasFirst ivs s = true ∧ k ≤ (inF ivs s l).length := by
  unfold henF at h
  rw [decide_eq_true hs, Bool.true_and] at h
  cases hf : hasFirst ivs s with
  | false => rw [hf] at h; simp at h
  | true =>
    rw [hf] at h
    simp only [Bool.not_true, Bool.false_eq_true, if_false, Bool.not_eq_true', List.any_eq_false] at h
    obtain ⟨i, x, _, hil, hx, hxs, ha⟩ := hasFirst_at hf
    have hxm := List.mem_of_getElem? hx
    have h1 := h x hxm
    have hn : needF x s = true := by unfold needF; simp [hxs]
    unfold hBad at h1
    rw [hn, Bool.true_and] at h1
    simp only [decide_eq_true_eq] at h1
    refine ⟨rfl, ?_⟩
    unfold inF
    rw [ha, in_len, ← heF_len (intervals_at hi hxm) hl]
    omega
end Go.Proofs.YtoedjkeahjmpiaaGreat.Hlp
