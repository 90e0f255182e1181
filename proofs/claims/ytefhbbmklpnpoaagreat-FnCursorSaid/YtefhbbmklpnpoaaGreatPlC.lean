/- The ranges behind a cursor: they come to the end, in order. Plain. -/
import Derived.Test.YtefhbbmklpnpoaaGreatFunNA
namespace Go.Proofs.YtefhbbmklpnpoaaGreat.Hlp
open Go Go.RowKit Go.Proofs Go.Proofs.YtefhbbmklpnpoaaGreat.Lw
set_option linter.unusedVariables false
set_option linter.unusedSimpArgs false
theorem putF_sub {e : GEntry} {x : GHead} : ∀ {l : List GHead}, x ∈ putF e l → x ∈ l ∨ x ∈ newF e
  | [], h => .inr h
  | y :: r, h => by
    unfold putF at h
    split at h
    · rcases List.mem_cons.mp h with h | h
      · exact .inl (h ▸ List.mem_cons_self ..)
      · exact (putF_sub h).imp (List.mem_cons_of_mem _) id
    · rcases List.mem_append.mp h with h | h
      · exact .inr h
      · split at h
        · exact .inl (List.mem_cons_of_mem _ h)
        · exact .inl h
theorem logS_names : ∀ (r : List GEntry) (a : GVer) (l : List GHead) (k : Nat), (∀ x ∈ l, nameOkF x.Name = true) → logS a l r = true → ∀ x ∈ (r.take k).foldl (fun l e => putF e l) l, nameOkF x.Name = true
  | [], a, l, k, hl, h, x, hx => by simp at hx; exact hl x hx
  | e :: r, a, l, 0, hl, h, x, hx => by simp at hx; exact hl x hx
  | e :: r, a, l, k + 1, hl, h, x, hx => by
    simp only [logS, Bool.and_eq_true] at h
    rw [List.take_succ_cons, List.foldl_cons] at hx
    refine logS_names r e.Ver (putF e l) k (fun y hy => ?_) h.2.2 x hx
    rcases putF_sub hy with hy | hy
    · exact hl y hy
    · rw [(newF_mem hy).1]
      have he := h.1.1
      unfold entryOkF at he
      simp only [Bool.and_eq_true] at he
      exact he.1.1.1.2
theorem hds_names {s : GPgState} (hok : stateOkF s = true) (k : Nat) : ∀ x ∈ hdsTo s k, nameOkF x.Name = true := by
  obtain ⟨hb, _, hl, _⟩ := state_base hok
  refine logS_names s.Log s.Tail s.Base k (fun x hx => ?_) hl
  obtain ⟨j, hj, rfl⟩ := List.getElem_of_mem hx
  have := allR_get hb hj
  unfold headF at this
  rw [List.getElem?_eq_getElem hj] at this
  simp only [Bool.and_eq_true] at this
  exact this.1.1.1
theorem leS_iff (a b : ByteArray) : leS a b = true ↔ bl a b = true ∨ a = b := by
  unfold leS
  rw [ba_eq, Bool.or_eq_true, decide_eq_true_iff]
  rfl
def e0 : ByteArray := ⟨#[]⟩
theorem name_pos {a : ByteArray} (h : nameOkF a = true) : 1 ≤ a.size := by
  unfold nameOkF inR at h
  simp only [Bool.and_eq_true, decide_eq_true_eq] at h
  omega
theorem leS_e0 {a : ByteArray} (h : nameOkF a = true) : leS a e0 = false := by
  cases hc : leS a e0 with
  | false => rfl
  | true =>
    exfalso
    have hp := name_pos h
    rcases (leS_iff a e0).mp hc with h1 | h1
    · unfold bl at h1
      rw [show e0.toList = [] from by simp [e0]] at h1
      cases ha : a.toList with
      | nil => rw [ha] at h1; cases h1
      | cons x r => rw [ha] at h1; cases h1
    · rw [h1] at hp; cases hp
theorem lastNm_app (l r : List GHead) (d : ByteArray) : lastNm (l ++ r) d = lastNm r (lastNm l d) := by
  rcases List.eq_nil_or_concat r with rfl | ⟨r', x, rfl⟩
  · simp [lastNm]
  · unfold lastNm
    rw [List.concat_eq_append, ← List.append_assoc]
    simp
theorem lastNm_take {H : List GHead} {g : Nat} (hg : g < H.length) (d : ByteArray) : lastNm (H.take (g + 1)) d = H[g].Name := by
  rw [List.take_succ_eq_append_getElem hg, lastNm_app]
  rfl
theorem filter_drop {H : List GHead} (hs : SortedH H) (hn : ∀ x ∈ H, nameOkF x.Name = true) {g : Nat} (hg : g ≤ H.length) : H.filter (fun x => !leS x.Name (lastNm (H.take g) e0)) = H.drop g := by
  cases g with
  | zero =>
    rw [List.take_zero, List.drop_zero, List.filter_eq_self]
    intro x hx
    rw [show lastNm [] e0 = e0 from rfl, leS_e0 (hn x hx)]
    rfl
  | succ g =>
    have hgl : g < H.length := by omega
    rw [lastNm_take hgl]
    have hp := List.pairwise_iff_getElem.mp hs
    have e : H = H.take (g + 1) ++ H.drop (g + 1) := (List.take_append_drop ..).symm
    have h1 : (H.take (g + 1)).filter (fun x => !leS x.Name H[g].Name) = [] := by
      rw [List.filter_eq_nil_iff]
      intro x hx
      obtain ⟨j, hj, rfl⟩ := List.getElem_of_mem hx
      rw [List.length_take] at hj
      rw [List.getElem_take]
      have : leS H[j].Name H[g].Name = true := by
        rw [leS_iff]
        rcases Nat.lt_or_ge j g with h | h
        · exact .inl (hp j g (by omega) hgl h)
        · have : j = g := by omega
          subst this
          exact .inr rfl
      rw [this]
      decide
    have h2 : (H.drop (g + 1)).filter (fun x => !leS x.Name H[g].Name) = H.drop (g + 1) := by
      rw [List.filter_eq_self]
      intro x hx
      obtain ⟨j, hj, rfl⟩ := List.getElem_of_mem hx
      rw [List.length_drop] at hj
      rw [List.getElem_drop]
      have hb := hp g (g + 1 + j) hgl (by omega) (by omega)
      cases hc : leS H[g + 1 + j].Name H[g].Name with
      | false => rfl
      | true =>
        exfalso
        rcases (leS_iff _ _).mp hc with h | h
        · have := bl_trans hb h
          rw [bl_irrefl] at this
          cases this
        · exact bl_ne hb h.symm
    obtain ⟨nm, hnm⟩ : ∃ nm, nm = H[g].Name := ⟨_, rfl⟩
    rw [← hnm] at h1 h2 ⊢
    calc H.filter (fun x => !leS x.Name nm) = (H.take (g + 1) ++ H.drop (g + 1)).filter (fun x => !leS x.Name nm) := by rw [← e]
      _ = H.drop (g + 1) := by rw [List.filter_append, h1, h2, List.nil_append]
/-- A cursor behind so many heads. -/
structure CurI (s : GPgState) (g : Nat) (u : GCursor) : Prop where
  le : g ≤ (hdsTo s s.Log.length).length
  nm : u.Name = lastNm ((hdsTo s s.Log.length).take g) e0
theorem CurI.ok {s : GPgState} {g : Nat} {u : GCursor} (hok : stateOkF s = true) (h : CurI s g u) : curOkF u = true := by
  unfold curOkF
  cases g with
  | zero =>
    have : u.Name = e0 := h.nm
    rw [this]
    simp [e0]
  | succ g =>
    have hg : g < (hdsTo s s.Log.length).length := h.le
    rw [h.nm, lastNm_take hg, hds_names hok _ _ (List.getElem_mem hg), Bool.or_true]
theorem cur_step {s : GPgState} {g : Nat} {u : GCursor} (hok : stateOkF s = true) (h : CurI s g u) (hd : u.Done = false) {n : Int} (h1 : 1 ≤ n) (h3 : n ≤ 3) : nxC s u n = 0 ∧ nxRL s u n = ((hdsTo s s.Log.length).drop g).take n.toNat ∧ ∃ g', g' = min (g + n.toNat) (hdsTo s s.Log.length).length ∧ nxRU s u n = ⟨decide (g' = (hdsTo s s.Log.length).length), lastNm ((hdsTo s s.Log.length).take g') e0⟩ := by
  obtain ⟨H, hH⟩ : ∃ H, H = hdsTo s s.Log.length := ⟨_, rfl⟩
  have hin : inR n 1 16 = true := by unfold inR; simp only [Bool.and_eq_true, decide_eq_true_eq]; omega
  have hD : nxD u n = 0 := by unfold nxD; rw [if_pos hin, if_neg (by rw [hd]; decide)]
  have hC : nxC s u n = 0 := by unfold nxC; rw [if_pos hok, if_pos (h.ok hok), hD]
  have hA : nxA s u = H.drop g := by
    unfold nxA
    rw [h.nm, ← hH]
    exact filter_drop (hH ▸ hds_sorted hok _ (Nat.le_refl _)) (hH ▸ hds_names hok _) (hH ▸ h.le)
  have hO : nxO s u n = (H.drop g).take n.toNat := by unfold nxO; rw [hA]
  have hle : g ≤ H.length := hH ▸ h.le
  refine ⟨hC, ?_, min (g + n.toNat) H.length, by rw [← hH], ?_⟩
  · unfold nxRL
    rw [if_pos hC, hO, hH]
  · unfold nxRU
    rw [if_pos hC]
    unfold nxU
    rw [hO, hA, h.nm, ← hH, ← lastNm_app]
    have e : H.take (min (g + n.toNat) H.length) = H.take g ++ (H.drop g).take n.toNat := by
      rw [← List.take_add, Nat.min_comm, ← List.take_take, List.take_of_length_le (l := List.take (g + n.toNat) H) (by rw [List.length_take]; omega)]
    rw [e]
    congr 1
    rw [List.length_take, List.length_drop]
    apply decide_eq_decide.mpr
    omega
theorem logS_inc : ∀ (r : List GEntry) (a : GVer) (l : List GHead), logS a l r = true → (∀ e ∈ r, verLessF a e.Ver = true) ∧ r.Pairwise (fun x y => verLessF x.Ver y.Ver = true)
  | [], a, l, h => ⟨fun e he => (by cases he), List.Pairwise.nil⟩
  | x :: r, a, l, h => by
    simp only [logS, Bool.and_eq_true, decide_eq_true_eq] at h
    obtain ⟨h1, h2⟩ := logS_inc r x.Ver (putF x l) h.2.2
    have hx : verLessF a x.Ver = true := by
      have he := h.1.1
      unfold entryOkF at he
      simp only [Bool.and_eq_true] at he
      rw [← h.1.2]
      exact he.1.1.1.1.2
    refine ⟨fun e he => ?_, List.Pairwise.cons (fun e he => h1 e he) h2⟩
    rcases List.mem_cons.mp he with he | he
    · rw [he]; exact hx
    · have := h1 e he
      rw [verLess_iff] at this hx ⊢
      omega
theorem verLess_ne {a b : GVer} (h : verLessF a b = true) : a ≠ b := fun he => by
  rw [he, verLess_iff] at h
  omega
theorem cnt_last {s : GPgState} (hok : stateOkF s = true) : cntF s (lastVerF s) = s.Log.length := by
  obtain ⟨_, _, hl, _⟩ := state_base hok
  obtain ⟨h1, h2⟩ := logS_inc s.Log s.Tail s.Base hl
  rcases Nat.eq_zero_or_pos s.Log.length with h0 | h0
  · have hn : s.Log = [] := List.eq_nil_of_length_eq_zero h0
    have : lastVerF s = s.Tail := by unfold lastVerF; rw [hn]; rfl
    unfold cntF
    rw [if_pos this, h0]
    rfl
  · have hlt : s.Log.length - 1 < s.Log.length := by omega
    have hv : lastVerF s = s.Log[s.Log.length - 1].Ver := by unfold lastVerF; rw [List.getElem?_eq_getElem hlt]
    have hix : ixE s.Log (lastVerF s) = ((s.Log.length - 1 : Nat) : Int) := by
      refine ixE_at hlt (by rw [hv]; exact decide_eq_true rfl) fun j hj hjk => decide_eq_false ?_
      rw [hv]
      exact verLess_ne (List.pairwise_iff_getElem.mp h2 j _ hj hlt hjk)
    have hne : lastVerF s ≠ s.Tail := by
      rw [hv]
      exact Ne.symm (verLess_ne (h1 _ (List.getElem_mem hlt)))
    unfold cntF
    rw [if_neg hne, hix, if_neg (by omega)]
    omega
theorem ha_last {s : GPgState} (hok : stateOkF s = true) : haF s (lastVerF s) = hdsTo s s.Log.length ∧ vcF s (lastVerF s) = 0 := by
  have hc := cnt_last hok
  have hv : vcF s (lastVerF s) = 0 := by unfold vcF; rw [if_pos hok, hc, if_neg (by omega)]
  refine ⟨?_, hv⟩
  unfold haF
  rw [if_pos hv, hc, Int.toNat_natCast]
theorem cur_more {s : GPgState} {g : Nat} {u : GCursor} (hok : stateOkF s = true) (h : CurI s g u) {n : Int} (h1 : 1 ≤ n) : (∀ x ∈ ((hdsTo s s.Log.length).drop g).take n.toNat, leS x.Name u.Name = false) ∧ (∀ (x : GHead), (((hdsTo s s.Log.length).drop g).take n.toNat)[(((hdsTo s s.Log.length).drop g).take n.toNat).length - 1]? = some x → lastNm ((hdsTo s s.Log.length).take (min (g + n.toNat) (hdsTo s s.Log.length).length)) e0 = x.Name) ∧ g + (((hdsTo s s.Log.length).drop g).take n.toNat).length = min (g + n.toNat) (hdsTo s s.Log.length).length ∧ (hdsTo s s.Log.length).take (min (g + n.toNat) (hdsTo s s.Log.length).length) = (hdsTo s s.Log.length).take g ++ ((hdsTo s s.Log.length).drop g).take n.toNat := by
  obtain ⟨H, hH⟩ : ∃ H, H = hdsTo s s.Log.length := ⟨_, rfl⟩
  have hle : g ≤ H.length := hH ▸ h.le
  have hf := filter_drop (H := H) (hH ▸ hds_sorted hok _ (Nat.le_refl _)) (hH ▸ hds_names hok _) hle
  have e : H.take (min (g + n.toNat) H.length) = H.take g ++ (H.drop g).take n.toNat := by
    rw [← List.take_add, Nat.min_comm, ← List.take_take, List.take_of_length_le (l := List.take (g + n.toNat) H) (by rw [List.length_take]; omega)]
  rw [← hH]
  refine ⟨fun x hx => ?_, fun x hx => ?_, by rw [List.length_take, List.length_drop]; omega, e⟩
  · have hm := List.mem_of_mem_take hx
    rw [← hf, List.mem_filter] at hm
    have := hm.2
    rw [h.nm, ← hH]
    simpa using this
  · rw [e, lastNm_app]
    unfold lastNm
    rw [hx]
theorem CurI.sz {s : GPgState} {g : Nat} {u : GCursor} (hok : stateOkF s = true) (h : CurI s g u) : u.Name.size ≤ 8 := by
  cases g with
  | zero =>
    have : u.Name = e0 := h.nm
    rw [this]
    decide
  | succ g =>
    have hg : g < (hdsTo s s.Log.length).length := h.le
    rw [h.nm, lastNm_take hg]
    have := hds_names hok _ _ (List.getElem_mem hg)
    unfold nameOkF inR at this
    simp only [Bool.and_eq_true, decide_eq_true_eq] at this
    omega
end Go.Proofs.YtefhbbmklpnpoaaGreat.Hlp
