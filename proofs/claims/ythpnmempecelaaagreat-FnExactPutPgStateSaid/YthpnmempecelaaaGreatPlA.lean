/- The heads behind a log: a map of names, and heads in their order, agree in number. Plain: no program in sight. -/
import Derived.Test.YthpnmempecelaaaGreatFunG
namespace Go.Proofs.YthpnmempecelaaaGreat.Hlp
open Go Go.RowKit Go.Proofs Go.Proofs.YthpnmempecelaaaGreat.Lw
set_option linter.unusedVariables false
set_option linter.unusedSimpArgs false
theorem bLess_irrefl : ∀ (a : List UInt8), Op.bytesLess a a = false
  | [] => rfl
  | x :: a => by simp [Op.bytesLess, bLess_irrefl a, UInt8.lt_irrefl]
theorem bLess_trans : ∀ {a b c : List UInt8}, Op.bytesLess a b = true → Op.bytesLess b c = true → Op.bytesLess a c = true
  | [], [], _, h, _ => by simp [Op.bytesLess] at h
  | [], _ :: _, [], _, h => by simp [Op.bytesLess] at h
  | [], _ :: _, _ :: _, _, _ => rfl
  | _ :: _, [], _, h, _ => by simp [Op.bytesLess] at h
  | _ :: _, _ :: _, [], _, h => by simp [Op.bytesLess] at h
  | x :: a, y :: b, z :: c, h1, h2 => by
    simp only [Op.bytesLess, Bool.or_eq_true, decide_eq_true_eq, Bool.and_eq_true, beq_iff_eq] at *
    rcases h1 with h1 | ⟨rfl, h1⟩ <;> rcases h2 with h2 | ⟨rfl, h2⟩
    · exact .inl (UInt8.lt_trans h1 h2)
    · exact .inl h1
    · exact .inl h2
    · exact .inr ⟨rfl, bLess_trans h1 h2⟩
theorem bLess_tri : ∀ {a b : List UInt8}, Op.bytesLess a b = false → a ≠ b → Op.bytesLess b a = true
  | [], [], _, h => absurd rfl h
  | [], _ :: _, h, _ => by simp [Op.bytesLess] at h
  | _ :: _, [], _, _ => rfl
  | x :: a, y :: b, h, hn => by
    simp only [Op.bytesLess, Bool.or_eq_true, decide_eq_true_eq, Bool.and_eq_true, beq_iff_eq, Bool.or_eq_false_iff, decide_eq_false_iff_not, Bool.and_eq_false_iff, beq_eq_false_iff_ne] at *
    by_cases hxy : x = y
    · subst hxy
      refine .inr ⟨rfl, bLess_tri ?_ (fun h => hn (by rw [h]))⟩
      rcases h.2 with h | h
      · exact absurd rfl h
      · exact h
    · left
      rcases UInt8.lt_or_lt_of_ne hxy with h1 | h1
      · exact absurd h1 h.1
      · exact h1
def bl (a b : ByteArray) : Bool := Op.bytesLess a.toList b.toList
theorem bl_irrefl (a : ByteArray) : bl a a = false := bLess_irrefl _
theorem bl_trans {a b c : ByteArray} (h : bl a b = true) (k : bl b c = true) : bl a c = true := bLess_trans h k
theorem bl_tri {a b : ByteArray} (h : bl a b = false) (hn : a ≠ b) : bl b a = true := bLess_tri h fun he => hn (by
  have := ba_eq a b
  rw [he] at this
  simpa using this)
theorem bl_ne {a b : ByteArray} (h : bl a b = true) : a ≠ b := fun he => by rw [he, bl_irrefl] at h; cases h
theorem len_sub {α : Type} [DecidableEq α] : ∀ {a b : List α}, a.Nodup → (∀ x, x ∈ a → x ∈ b) → a.length ≤ b.length
  | [], b, _, _ => Nat.zero_le _
  | x :: a, b, hn, hs => by
    have hx := hs x (List.mem_cons_self ..)
    have h1 := len_sub (b := b.erase x) (List.nodup_cons.mp hn).2 (fun y hy => by
      have hne : y ≠ x := fun he => (List.nodup_cons.mp hn).1 (he ▸ hy)
      exact (List.mem_erase_of_ne hne).mpr (hs y (List.mem_cons_of_mem _ hy)))
    rw [List.length_erase_of_mem hx] at h1
    have : 0 < b.length := List.length_pos_of_mem hx
    simp only [List.length_cons]
    omega
theorem len_same {α : Type} [DecidableEq α] {a b : List α} (ha : a.Nodup) (hb : b.Nodup) (h : ∀ x, x ∈ a ↔ x ∈ b) : a.length = b.length :=
  Nat.le_antisymm (len_sub ha fun x hx => (h x).mp hx) (len_sub hb fun x hx => (h x).mpr hx)
theorem mem_mapU {l : MapD} {k x : ByteArray} {v : Value} : x ∈ (mapU l k v).map (·.1) ↔ x ∈ l.map (·.1) ∨ x = k := by
  unfold mapU
  split
  · rename_i hk
    have he : (l.map (fun q => if q.1 = k then (k, v) else q)).map (·.1) = l.map (·.1) := by
      rw [List.map_map]
      apply List.map_congr_left
      intro y _
      simp only [Function.comp]
      split
      · rename_i h; exact h.symm
      · rfl
    rw [he]
    constructor
    · exact .inl
    · rintro (h | rfl)
      · exact h
      · exact mem_any hk
  · simp
theorem mem_mapX {l : MapD} {k x : ByteArray} : x ∈ (mapX l k).map (·.1) ↔ x ∈ l.map (·.1) ∧ x ≠ k := by
  unfold mapX
  simp only [List.mem_map, List.mem_filter, Bool.not_eq_true', decide_eq_false_iff_not]
  constructor
  · rintro ⟨p, ⟨h1, h2⟩, rfl⟩
    exact ⟨⟨p, h1, rfl⟩, h2⟩
  · rintro ⟨⟨p, h1, rfl⟩, h2⟩
    exact ⟨p, ⟨h1, h2⟩, rfl⟩
theorem nodup_mapX {l : MapD} (h : (l.map (·.1)).Nodup) (k : ByteArray) : ((mapX l k).map (·.1)).Nodup := h.sublist (List.Sublist.map _ List.filter_sublist)
/-- An entry among heads in their order. -/
def newF (e : GEntry) : List GHead := if e.Gone then [] else [⟨e.Name, e.Ver, e.Size, e.Sum⟩]
def putF (e : GEntry) : List GHead → List GHead
  | [] => newF e
  | h :: r => if bl h.Name e.Name then h :: putF e r else newF e ++ (if h.Name = e.Name then r else h :: r)
def SortedH (l : List GHead) : Prop := l.Pairwise fun a b => bl a.Name b.Name = true
theorem newF_mem {e : GEntry} {y : GHead} (h : y ∈ newF e) : y.Name = e.Name ∧ e.Gone = false := by
  unfold newF at h
  split at h
  · simp at h
  · rename_i hg
    simp only [List.mem_singleton] at h
    subst h
    exact ⟨rfl, by simpa using hg⟩
theorem newF_has {e : GEntry} (h : e.Gone = false) : (⟨e.Name, e.Ver, e.Size, e.Sum⟩ : GHead) ∈ newF e := by
  unfold newF
  rw [h]
  simp
theorem put_from {e : GEntry} : ∀ {l : List GHead} {y : GHead}, y ∈ putF e l → y ∈ newF e ∨ y ∈ l
  | [], y, h => .inl h
  | x :: r, y, h => by
    simp only [putF] at h
    split at h
    · rcases List.mem_cons.mp h with rfl | h
      · exact .inr (List.mem_cons_self ..)
      · rcases put_from h with h | h
        · exact .inl h
        · exact .inr (List.mem_cons_of_mem _ h)
    · rcases List.mem_append.mp h with h | h
      · exact .inl h
      · split at h
        · exact .inr (List.mem_cons_of_mem _ h)
        · exact .inr h
theorem put_new {e : GEntry} : ∀ {l : List GHead} {y : GHead}, y ∈ newF e → y ∈ putF e l
  | [], y, h => h
  | x :: r, y, h => by
    simp only [putF]
    split
    · exact List.mem_cons_of_mem _ (put_new h)
    · exact List.mem_append_left _ h
theorem put_old {e : GEntry} : ∀ {l : List GHead} {y : GHead}, y ∈ l → y.Name ≠ e.Name → y ∈ putF e l
  | [], y, h, _ => by simp at h
  | x :: r, y, h, hn => by
    simp only [putF]
    split
    · rcases List.mem_cons.mp h with rfl | h
      · exact List.mem_cons_self ..
      · exact List.mem_cons_of_mem _ (put_old h hn)
    · refine List.mem_append_right _ ?_
      split
      · rename_i hx
        rcases List.mem_cons.mp h with rfl | h
        · exact absurd hx hn
        · exact h
      · exact h
theorem put_gone {e : GEntry} : ∀ {l : List GHead} {y : GHead}, SortedH l → y ∈ putF e l → y ∈ newF e ∨ y.Name ≠ e.Name
  | [], y, _, h => .inl h
  | x :: r, y, hs, h => by
    have hs' := List.pairwise_cons.mp hs
    simp only [putF] at h
    split at h
    · rename_i hx
      rcases List.mem_cons.mp h with rfl | h
      · exact .inr (bl_ne hx)
      · exact put_gone hs'.2 h
    · rename_i hx
      rcases List.mem_append.mp h with h | h
      · exact .inl h
      · split at h
        · rename_i he
          exact .inr (he ▸ (bl_ne (hs'.1 y h)).symm)
        · rename_i he
          have h1 : bl e.Name x.Name = true := bl_tri (by simpa using hx) he
          rcases List.mem_cons.mp h with rfl | h
          · exact .inr he
          · exact .inr (bl_ne (bl_trans h1 (hs'.1 y h))).symm
theorem put_sorted {e : GEntry} : ∀ {l : List GHead}, SortedH l → SortedH (putF e l)
  | [], _ => by
    unfold SortedH putF newF
    split <;> simp
  | x :: r, hs => by
    have hs' := List.pairwise_cons.mp hs
    simp only [putF]
    split
    · rename_i hx
      refine List.pairwise_cons.mpr ⟨fun y hy => ?_, put_sorted hs'.2⟩
      rcases put_from hy with h | h
      · rw [(newF_mem h).1]; exact hx
      · exact hs'.1 y h
    · rename_i hx
      have hn : (newF e).Pairwise fun a b => bl a.Name b.Name = true := by unfold newF; split <;> simp
      refine List.pairwise_append.mpr ⟨hn, ?_, fun a ha b hb => ?_⟩
      · split
        · exact hs'.2
        · exact hs
      · rw [(newF_mem ha).1]
        split at hb
        · rename_i he
          rw [← he]
          exact hs'.1 b hb
        · rename_i he
          have h1 : bl e.Name x.Name = true := bl_tri (by simpa using hx) he
          rcases List.mem_cons.mp hb with rfl | hb
          · exact h1
          · exact bl_trans h1 (hs'.1 b hb)
theorem put_mem {e : GEntry} {l : List GHead} (hs : SortedH l) (x : ByteArray) : x ∈ (putF e l).map (·.Name) ↔ (if e.Gone = true then x ∈ l.map (·.Name) ∧ x ≠ e.Name else x ∈ l.map (·.Name) ∨ x = e.Name) := by
  constructor
  · intro h
    obtain ⟨y, hy, rfl⟩ := List.mem_map.mp h
    split
    · rename_i hg
      have hnew : ¬ y ∈ newF e := fun h => by have := (newF_mem h).2; rw [hg] at this; cases this
      refine ⟨?_, ?_⟩
      · rcases put_from hy with h | h
        · exact absurd h hnew
        · exact List.mem_map.mpr ⟨y, h, rfl⟩
      · rcases put_gone hs hy with h | h
        · exact absurd h hnew
        · exact h
    · rcases put_from hy with h | h
      · exact .inr (newF_mem h).1
      · exact .inl (List.mem_map.mpr ⟨y, h, rfl⟩)
  · intro h
    split at h
    · obtain ⟨h1, h2⟩ := h
      obtain ⟨y, hy, rfl⟩ := List.mem_map.mp h1
      exact List.mem_map.mpr ⟨y, put_old hy h2, rfl⟩
    · rename_i hg
      by_cases hx : x = e.Name
      · subst hx
        exact List.mem_map.mpr ⟨_, put_new (newF_has (by simpa using hg)), rfl⟩
      · rcases h with h | h
        · obtain ⟨y, hy, rfl⟩ := List.mem_map.mp h
          exact List.mem_map.mpr ⟨y, put_old hy hx, rfl⟩
        · exact absurd h hx
theorem sorted_nodup {l : List GHead} (h : SortedH l) : (l.map (·.Name)).Nodup := by
  unfold List.Nodup
  rw [List.pairwise_map]
  exact h.imp fun h => bl_ne h
/-- The log as the program looks it through, and as the reference does. -/
def nextI (m : MapD) (e : GEntry) : MapD := if e.Gone then mapX m e.Name else mapU m e.Name (.bool true)
def logI : GVer → MapD → List GEntry → Bool
  | at_, m, [] => true
  | at_, m, e :: r => (entryOkF e && decide (e.Prior = at_)) && (decide (((nextI m e).length : Int) ≤ 16) && logI e.Ver (nextI m e) r)
def logS : GVer → List GHead → List GEntry → Bool
  | at_, l, [] => true
  | at_, l, e :: r => (entryOkF e && decide (e.Prior = at_)) && (decide (((putF e l).length : Int) ≤ 16) && logS e.Ver (putF e l) r)
theorem log_eq : ∀ (r : List GEntry) (at_ : GVer) (m : MapD) (l : List GHead), (m.map (·.1)).Nodup → SortedH l → (∀ x, x ∈ m.map (·.1) ↔ x ∈ l.map (·.Name)) → logI at_ m r = logS at_ l r
  | [], _, _, _, _, _, _ => rfl
  | e :: r, at_, m, l, hm, hl, hx => by
    have h1 : ((nextI m e).map (·.1)).Nodup := by unfold nextI; split; exact nodup_mapX hm _; exact nodup_mapU hm _ _
    have h2 : ∀ x, x ∈ (nextI m e).map (·.1) ↔ x ∈ (putF e l).map (·.Name) := by
      intro x
      rw [put_mem hl]
      unfold nextI
      split
      · rw [mem_mapX, hx]
      · rw [mem_mapU, hx]
    have h3 : (nextI m e).length = (putF e l).length := by
      have := len_same h1 (sorted_nodup (put_sorted hl)) h2
      simpa using this
    simp only [logI, logS]
    rw [h3, log_eq r e.Ver _ _ h1 (put_sorted hl) h2]
def names0 (l : List GHead) : MapD := l.foldl (fun m h => mapU m h.Name (.bool true)) []
theorem names0_step {l : List GHead} {k : Nat} (h : k < l.length) : names0 (l.take (k + 1)) = mapU (names0 (l.take k)) l[k].Name (.bool true) := by
  unfold names0
  rw [List.take_succ_eq_append_getElem h, List.foldl_append]
  rfl
theorem names0_ok (l : List GHead) : ((names0 l).map (·.1)).Nodup ∧ ∀ x, x ∈ (names0 l).map (·.1) ↔ x ∈ l.map (·.Name) := by
  have key : ∀ (l : List GHead) (m : MapD), (m.map (·.1)).Nodup → ((l.foldl (fun m h => mapU m h.Name (.bool true)) m).map (·.1)).Nodup ∧ ∀ x, x ∈ (l.foldl (fun m h => mapU m h.Name (.bool true)) m).map (·.1) ↔ x ∈ m.map (·.1) ∨ x ∈ l.map (·.Name) := by
    intro l
    induction l with
    | nil => intro m hm; exact ⟨hm, fun x => by simp⟩
    | cons h r ih =>
      intro m hm
      obtain ⟨h1, h2⟩ := ih (mapU m h.Name (.bool true)) (nodup_mapU hm _ _)
      refine ⟨h1, fun x => ?_⟩
      rw [List.foldl_cons, h2, mem_mapU]
      simp only [List.map_cons, List.mem_cons]
      constructor
      · rintro ((h | h) | h)
        · exact .inl h
        · exact .inr (.inl h)
        · exact .inr (.inr h)
      · rintro (h | h | h)
        · exact .inl (.inl h)
        · exact .inl (.inr h)
        · exact .inr h
  obtain ⟨h1, h2⟩ := key l [] (by simp)
  refine ⟨h1, fun x => ?_⟩
  have := h2 x
  simpa [names0] using this
theorem allR_get {n : Nat} {f : Nat → Bool} (h : allR n f = true) {j : Nat} (hj : j < n) : f j = true := by
  unfold allR at h
  rw [List.all_eq_true] at h
  exact h j (List.mem_range.mpr hj)
theorem leB_no {a b : ByteArray} (h : leB a b = false) : bl b a = true := by
  unfold leB at h
  simp only [Bool.or_eq_false_iff] at h
  refine bl_tri h.1 fun he => ?_
  subst he
  simp at h
theorem heads_sorted {most : GVer} {l : List GHead} (h : allR l.length (headF most l) = true) : SortedH l := by
  have step : ∀ k, (hk : k + 1 < l.length) → bl (l[k]'(by omega)).Name (l[k + 1]).Name = true := by
    intro k hk
    have h1 := allR_get h hk
    rw [headF_at (List.getElem?_eq_getElem hk) (y := l[k]'(by omega)) (by rw [show k + 1 - 1 = k by omega]; exact List.getElem?_eq_getElem (by omega))] at h1
    simp only [Bool.and_eq_true, Bool.not_eq_true', Bool.and_eq_false_iff, decide_eq_false_iff_not] at h1
    rcases h1.2 with h2 | h2
    · omega
    · exact leB_no h2
  have far : ∀ d i, (hd : i + (d + 1) < l.length) → bl (l[i]'(by omega)).Name (l[i + (d + 1)]).Name = true := by
    intro d
    induction d with
    | zero => intro i hd; exact step i hd
    | succ d ih => intro i hd; exact bl_trans (ih i (by omega)) (step (i + (d + 1)) hd)
  refine List.pairwise_iff_getElem.mpr fun i j hi hj hij => ?_
  obtain ⟨d, rfl⟩ : ∃ d, j = i + (d + 1) := ⟨j - i - 1, by omega⟩
  exact far d i hj
def logOkF (s : GPgState) : Bool := logI s.Tail (names0 s.Base) s.Log && decide ((s.Log.length : Int) ≤ 24)
theorem log_same {s : GPgState} (h : allR s.Base.length (headF s.Tail s.Base) = true) : logOkF s = (logS s.Tail s.Base s.Log && decide ((s.Log.length : Int) ≤ 24)) := by
  unfold logOkF
  rw [log_eq s.Log s.Tail (names0 s.Base) s.Base (names0_ok _).1 (heads_sorted h) (names0_ok _).2]
/-- The entry put at its place. -/
theorem putF_at {e : GEntry} : ∀ {l : List GHead} {k : Nat}, k ≤ l.length → (∀ j (hj : j < k) (hl : j < l.length), bl l[j].Name e.Name = true) → (∀ h, l[k]? = some h → bl h.Name e.Name = false) →
    putF e l = l.take k ++ (newF e ++ l.drop (if (match l[k]? with | some h => decide (h.Name = e.Name) | none => false) = true then k + 1 else k))
  | [], k, hk, _, _ => by
    have : k = 0 := by simpa using hk
    subst this
    simp [putF]
  | x :: r, 0, _, _, h => by
    have hx := h x rfl
    simp only [putF, hx, Bool.false_eq_true, if_false, List.take_zero, List.nil_append, List.getElem?_cons_zero, decide_eq_true_eq]
    congr 1
    split <;> rfl
  | x :: r, k + 1, hk, ha, h => by
    have hx := ha 0 (by omega) (by simp)
    simp only [List.getElem_cons_zero] at hx
    have ih := putF_at (e := e) (l := r) (k := k) (by simpa using hk) (fun j hj hl => by have := ha (j + 1) (by omega) (by simp; omega); simpa using this) (fun y hy => h y (by simpa using hy))
    simp only [putF, hx, if_true, ih, List.take_succ_cons, List.cons_append, List.getElem?_cons_succ]
    congr 2
    congr 1
    split <;> rfl
end Go.Proofs.YthpnmempecelaaaGreat.Hlp
