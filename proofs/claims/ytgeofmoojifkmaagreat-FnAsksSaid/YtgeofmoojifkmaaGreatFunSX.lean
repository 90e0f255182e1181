/- Texts of the light walk, joined: FunSL FunSN FunSM FunSO. -/
import Derived.Test.YtgeofmoojifkmaaGreatFunSC
namespace Go.Proofs.YtgeofmoojifkmaaGreat.Hlp
open Go Go.RowKit Go.Proofs Go.Proofs.YtgeofmoojifkmaaGreat.Lw
set_option linter.unusedVariables false
set_option linter.unusedSimpArgs false
set_option maxRecDepth 100000
set_option maxHeartbeats 4000000
def putI : List Int → Int → List Int
  | [], n => [n]
  | e :: r, n => if e ≥ n then (if e > n then n :: e :: r else e :: r) else e :: putI r n
theorem mem_putI : ∀ {l : List Int} {n x : Int}, x ∈ putI l n ↔ x ∈ l ∨ x = n
  | [], n, x => by simp [putI]
  | e :: r, n, x => by
    unfold putI
    split
    · split
      · simp only [List.mem_cons]
        constructor
        · rintro (h | h | h)
          · exact .inr h
          · exact .inl (.inl h)
          · exact .inl (.inr h)
        · rintro ((h | h) | h)
          · exact .inr (.inl h)
          · exact .inr (.inr h)
          · exact .inl h
      · have he : e = n := by omega
        simp only [List.mem_cons]
        constructor
        · exact fun h => .inl h
        · rintro (h | h)
          · exact h
          · exact .inl (by omega)
    · simp only [List.mem_cons, mem_putI]
      constructor
      · rintro (h | h | h)
        · exact .inl (.inl h)
        · exact .inl (.inr h)
        · exact .inr h
      · rintro ((h | h) | h)
        · exact .inl h
        · exact .inr (.inl h)
        · exact .inr (.inr h)
theorem si_putI : ∀ {l : List Int} {n : Int}, l.Pairwise (· < ·) → (putI l n).Pairwise (· < ·)
  | [], n, _ => by simp [putI]
  | e :: r, n, h => by
    rw [List.pairwise_cons] at h
    unfold putI
    split
    · split
      · refine List.pairwise_cons.2 ⟨fun x hx => ?_, List.pairwise_cons.2 h⟩
        rcases List.mem_cons.1 hx with rfl | hx
        · omega
        · have := h.1 x hx; omega
      · exact List.pairwise_cons.2 h
    · refine List.pairwise_cons.2 ⟨fun x hx => ?_, si_putI h.2⟩
      rcases mem_putI.1 hx with hx | rfl
      · exact h.1 x hx
      · omega
theorem putI_len : ∀ (l : List Int) (n : Int), (putI l n).length ≤ l.length + 1
  | [], n => by simp [putI]
  | e :: r, n => by
    have := putI_len r n
    unfold putI
    split
    · split <;> simp
    · simp only [List.length_cons]; omega
theorem si_ext : ∀ {a b : List Int}, a.Pairwise (· < ·) → b.Pairwise (· < ·) → (∀ x, x ∈ a ↔ x ∈ b) → a = b
  | [], [], _, _, _ => rfl
  | [], y :: b, _, _, h => absurd ((h y).2 (List.mem_cons_self ..)) (by simp)
  | x :: a, [], _, _, h => absurd ((h x).1 (List.mem_cons_self ..)) (by simp)
  | x :: a, y :: b, ha, hb, h => by
    rw [List.pairwise_cons] at ha hb
    have hxy : x = y := by
      have h1 := (h x).1 (List.mem_cons_self ..)
      have h2 := (h y).2 (List.mem_cons_self ..)
      rcases List.mem_cons.1 h1 with h1 | h1
      · exact h1
      · rcases List.mem_cons.1 h2 with h2 | h2
        · exact h2.symm
        · have := hb.1 x h1
          have := ha.1 y h2
          omega
    subst hxy
    rw [si_ext ha.2 hb.2 fun z => ?_]
    constructor
    · intro hz
      rcases List.mem_cons.1 ((h z).1 (List.mem_cons_of_mem _ hz)) with rfl | h3
      · have := ha.1 z hz; omega
      · exact h3
    · intro hz
      rcases List.mem_cons.1 ((h z).2 (List.mem_cons_of_mem _ hz)) with rfl | h3
      · have := hb.1 z hz; omega
      · exact h3
theorem cpU (d : Array Int) (hs : ∀ j, j + 1 < d.size → d[j]! ≤ d[j + 1]!) : ∀ m, m ≤ d.size → (Lib.compactUpTo d m).Pairwise (· < ·) ∧ (∀ x, x ∈ Lib.compactUpTo d m ↔ ∃ j, j < m ∧ d[j]! = x) ∧ ∀ x ∈ Lib.compactUpTo d m, x ≤ d[m - 1]!
  | 0, _ => ⟨by simp [Lib.compactUpTo], fun x => by simp [Lib.compactUpTo], fun x hx => by simp [Lib.compactUpTo] at hx⟩
  | m + 1, hm => by
    obtain ⟨h1, h2, h3⟩ := cpU d hs m (by omega)
    have hstep := Lib.compactUpTo_succ d m
    have hmono : ∀ x ∈ Lib.compactUpTo d m, x ≤ d[m]! := fun x hx => by
      have ha := h3 x hx
      have : 0 < m := by
        obtain ⟨j, hj, _⟩ := (h2 x).1 hx
        omega
      have hb := hs (m - 1) (by omega)
      rw [show m - 1 + 1 = m by omega] at hb
      omega
    cases hk : Lib.keeps d m with
    | true =>
      rw [hk, if_pos rfl] at hstep
      rw [hstep]
      have hlt : ∀ x ∈ Lib.compactUpTo d m, x < d[m]! := fun x hx => by
        have ha := h3 x hx
        have h0 : 0 < m := by
          obtain ⟨j, hj, _⟩ := (h2 x).1 hx
          omega
        have hb := hs (m - 1) (by omega)
        rw [show m - 1 + 1 = m by omega] at hb
        unfold Lib.keeps at hk
        simp only [decide_eq_true_eq] at hk
        rcases hk with hk | hk
        · omega
        · omega
      refine ⟨List.pairwise_append.2 ⟨h1, by simp, fun x hx y hy => by simp at hy; subst hy; exact hlt x hx⟩, fun x => ?_, fun x hx => ?_⟩
      · rw [List.mem_append, h2]
        constructor
        · rintro (⟨j, hj, he⟩ | h)
          · exact ⟨j, by omega, he⟩
          · simp at h; exact ⟨m, by omega, h.symm⟩
        · rintro ⟨j, hj, he⟩
          rcases Nat.lt_or_ge j m with h | h
          · exact .inl ⟨j, h, he⟩
          · have : j = m := by omega
            subst this
            exact .inr (by simp [he])
      · rcases List.mem_append.1 hx with h | h
        · exact hmono x h
        · simp at h; subst h; exact Int.le_refl _
    | false =>
      rw [hk, if_neg (by decide), List.append_nil] at hstep
      rw [hstep]
      unfold Lib.keeps at hk
      simp only [decide_eq_false_iff_not, not_or] at hk
      have he : d[m]! = d[m - 1]! := Decidable.not_not.1 hk.2
      refine ⟨h1, fun x => ?_, hmono⟩
      rw [h2]
      constructor
      · rintro ⟨j, hj, he⟩; exact ⟨j, by omega, he⟩
      · rintro ⟨j, hj, hx⟩
        rcases Nat.lt_or_ge j m with h | h
        · exact ⟨j, h, hx⟩
        · have : j = m := by omega
          subst this
          exact ⟨j - 1, by omega, by rw [← he]; exact hx⟩
theorem srt_pair (l : List Int) : (srt l).Pairwise (· ≤ ·) := by
  have h := List.pairwise_mergeSort (le := fun x y : Int => decide (x ≤ y)) (fun a b c h1 h2 => by simp at *; omega) (fun a b => by simp; omega) l
  exact h.imp (fun h => by simpa using h)
def outF (raw : List Int) : List Int := Lib.compact (srt raw)
theorem outF_ok (raw : List Int) : (outF raw).Pairwise (· < ·) ∧ ∀ x, x ∈ outF raw ↔ x ∈ raw := by
  have hp := srt_pair raw
  have hs : ∀ j, j + 1 < (srt raw).toArray.size → (srt raw).toArray[j]! ≤ (srt raw).toArray[j + 1]! := fun j hj => by
    have hj' : j + 1 < (srt raw).length := by simpa using hj
    have := (List.pairwise_iff_getElem.1 hp) j (j + 1) (by omega) hj' (by omega)
    rw [getB (List.getElem?_eq_getElem (by omega : j < (srt raw).length)), getB (List.getElem?_eq_getElem hj')]
    exact this
  obtain ⟨h1, h2, _⟩ := cpU (srt raw).toArray hs (srt raw).length (by simp)
  refine ⟨h1, fun x => ?_⟩
  show x ∈ Lib.compactUpTo (srt raw).toArray (srt raw).length ↔ _
  rw [h2]
  have hm : x ∈ srt raw ↔ x ∈ raw := (List.mergeSort_perm _ _).mem_iff
  rw [← hm, List.mem_iff_getElem]
  constructor
  · rintro ⟨j, hj, he⟩
    exact ⟨j, hj, by rw [getB (List.getElem?_eq_getElem hj)] at he; exact he⟩
  · rintro ⟨j, hj, he⟩
    exact ⟨j, hj, by rw [getB (List.getElem?_eq_getElem hj)]; exact he⟩
def memStep (o : List Int) (n : Int) : List Int := if n ≥ 0 then putI o n else o
def memTo (a : List Int) (k : Nat) : List Int := (a.take k).foldl memStep []
theorem memTo_step {a : List Int} {k : Nat} {n : Int} (h : a[k]? = some n) : memTo a (k + 1) = memStep (memTo a k) n := by
  unfold memTo
  rw [List.take_add_one, h, List.foldl_append]
  rfl
theorem memTo_ok {a : List Int} : ∀ k, k ≤ a.length → (memTo a k).Pairwise (· < ·) ∧ (∀ x, x ∈ memTo a k ↔ x ∈ a.take k ∧ 0 ≤ x) ∧ (memTo a k).length ≤ k
  | 0, _ => ⟨by simp [memTo], fun x => by simp [memTo], by simp [memTo]⟩
  | k + 1, hk => by
    obtain ⟨h1, h2, h3⟩ := memTo_ok (a := a) k (by omega)
    have hkl : k < a.length := by omega
    have hx := List.getElem?_eq_getElem hkl
    rw [memTo_step hx]
    unfold memStep
    have ht : a.take (k + 1) = a.take k ++ [a[k]] := by rw [List.take_add_one, hx]; rfl
    split
    · rename_i hn
      refine ⟨si_putI h1, fun x => ?_, by have := putI_len (memTo a k) a[k]; omega⟩
      rw [mem_putI, h2, ht, List.mem_append]
      constructor
      · rintro (⟨p, q⟩ | rfl)
        · exact ⟨.inl p, q⟩
        · exact ⟨.inr (by simp), hn⟩
      · rintro ⟨p | p, q⟩
        · exact .inl ⟨p, q⟩
        · exact .inr (by simpa using p)
    · rename_i hn
      refine ⟨h1, fun x => ?_, by omega⟩
      rw [h2, ht, List.mem_append]
      constructor
      · rintro ⟨p, q⟩; exact ⟨.inl p, q⟩
      · rintro ⟨p | p, q⟩
        · exact ⟨p, q⟩
        · have : x = a[k] := by simpa using p
          omega
def memS (a : List Int) : List Int := memTo a a.length
theorem memS_ok (a : List Int) : (memS a).Pairwise (· < ·) ∧ (∀ x, x ∈ memS a ↔ x ∈ a ∧ 0 ≤ x) ∧ (memS a).length ≤ a.length := by
  have h := memTo_ok (a := a) a.length (Nat.le_refl _)
  rwa [List.take_length] at h
theorem l00Put_f (M : Mem) (l : List Int) (A : Option Addr) (c : Nat) (h : SlR M RInt 1 8 A c l) (hn : l.length ≤ 1000) (n : Int) : AnsR Tryz.prog M 26 #[.slice A l.length c, .int .i64 n] (fun M' v => ∃ A' c', v = .slice A' (putI l n).length c' ∧ SlR M' RInt 1 8 A' c' (putI l n)) := by
  have hpl := putI_len l n
  refine ansR_of T (l := [.slice A l.length c, .int .i64 n]) mixed Tryz.func26 rfl (by kernel_rfl) (Nat.le_of_ble_eq_true rfl) ?_
  (conv => whnf)
  refine LoopK.sw 0 1 {q : Nat × Nat × List Int × Bool // q.1 ≤ l.length ∧ q.2.2.1.length ≤ q.2.1 ∧ putI l n = q.2.2.1 ++ (if q.2.2.2 = true then l.drop q.1 else putI (l.drop q.1) n)} (fun ⟨(k, cap, L, dn), _⟩ => [(0, .v (.slice A l.length c)), (1, .v (.int .i64 n)), (5, .s 0 L.length cap 1), (6, .v (.bool dn)), (7, .v (.int .i64 (k : Int)))]) (fun ⟨(k, cap, L, dn), _⟩ => [(0, cellsI L)]) (fun _ => M) (fun q => l.length - q.1.1) ⟨(0, 0, [], false), Nat.zero_le _, Nat.le_refl _, rfl⟩ 0 ⟨⟨⟨rfl, rfl, rfl, rfl, rfl, trivial⟩, ⟨rfl, trivial⟩, rfl, rfl⟩, rfl⟩ ?_
  rintro ⟨⟨k, cap, L, dn⟩, hk, hcap, hI⟩
  simp only at hk hcap hI
  have hLl : L.length ≤ 1001 := by
    have := congrArg List.length hI
    rw [List.length_append] at this
    omega
  have hal := allOneI L
  have c1 : ∀ z, cellsI (L ++ [z]) = cellsI L ++ [.int .i64 z] := fun z => by unfold cellsI; simp
  (conv => whnf)
  refine CondK.mk (fun h1 => ?_) (fun h1 => ?_)
  · have hlt : k < l.length := by simpa using h1
    obtain ⟨e, hek⟩ : ∃ e, l[k] = e := ⟨_, rfl⟩
    have he : l[k]? = some e := by rw [List.getElem?_eq_getElem hlt, hek]
    have hd : l.drop k = e :: l.drop (k + 1) := by rw [List.drop_eq_getElem_cons hlt, hek]
    obtain ⟨ad, rfl, _, x0⟩ := at_Int h he
    rw [hd] at hI
    cases dn with
    | true =>
      rw [if_pos rfl] at hI
      repeat' ((conv => whnf); first | with_reducible refine CondK.tt ?_ | with_reducible refine CondK.ff ?_ | refine IdxK.mk _ rfl (by omega) (by omega) ?_ | refine LdK.mk _ (by assumption) ?_ | refine AppK.mk (by show (2 * _ + 512) * 8 ≤ 281474976710656; omega) (by omega) (.inr rfl) (by first | exact hal | rfl) (fun cap3 hcap3 => ?_) | fail)
      exact ⟨⟨(k + 1, cap3, L ++ [e], true), hlt, by simp only [List.length_append, List.length_singleton]; exact hcap3, by simp only [if_true]; rw [hI]; simp⟩, 2, ⟨⟨rfl, rfl, congrArg (fun t => some (PV.s 2 t cap3 1)) (by simp), rfl, look_int (i64_succ (by omega)), trivial⟩, ⟨congrArg some (c1 e).symm, trivial⟩, rfl, rfl⟩, rfl, by simp only; omega⟩
    | false =>
      rw [if_neg (by decide)] at hI
      cases a1 : decide (e ≥ n) with
      | false =>
        have hlt2 : ¬ e ≥ n := by simpa using a1
        have e2 : putI (e :: l.drop (k + 1)) n = e :: putI (l.drop (k + 1)) n := by rw [putI, if_neg hlt2]
        rw [e2] at hI
        repeat' ((conv => whnf); first | with_reducible refine CondK.tt ?_ | with_reducible refine CondK.ff ?_ | refine IdxK.mk _ rfl (by omega) (by omega) ?_ | refine LdK.mk _ (by assumption) ?_ | refine CondK.no' a1 ?_ | refine AppK.mk (by show (2 * _ + 512) * 8 ≤ 281474976710656; omega) (by omega) (.inr rfl) (by first | exact hal | rfl) (fun cap3 hcap3 => ?_) | fail)
        exact ⟨⟨(k + 1, cap3, L ++ [e], false), hlt, by simp only [List.length_append, List.length_singleton]; exact hcap3, by simp only [Bool.false_eq_true, if_false]; rw [hI]; simp⟩, 2, ⟨⟨rfl, rfl, congrArg (fun t => some (PV.s 2 t cap3 1)) (by simp), rfl, look_int (i64_succ (by omega)), trivial⟩, ⟨congrArg some (c1 e).symm, trivial⟩, rfl, rfl⟩, rfl, by simp only; omega⟩
      | true =>
        have hge : e ≥ n := by simpa using a1
        cases a2 : decide (e > n) with
        | false =>
          have hngt : ¬ e > n := by simpa using a2
          have e2 : putI (e :: l.drop (k + 1)) n = e :: l.drop (k + 1) := by rw [putI, if_pos hge, if_neg hngt]
          rw [e2] at hI
          repeat' ((conv => whnf); first | with_reducible refine CondK.tt ?_ | with_reducible refine CondK.ff ?_ | refine IdxK.mk _ rfl (by omega) (by omega) ?_ | refine LdK.mk _ (by assumption) ?_ | refine CondK.yes' a1 ?_ | refine CondK.no' a2 ?_ | refine AppK.mk (by show (2 * _ + 512) * 8 ≤ 281474976710656; omega) (by omega) (.inr rfl) (by first | exact hal | rfl) (fun cap3 hcap3 => ?_) | fail)
          exact ⟨⟨(k + 1, cap3, L ++ [e], true), hlt, by simp only [List.length_append, List.length_singleton]; exact hcap3, by simp only [if_true]; rw [hI]; simp⟩, 2, ⟨⟨rfl, rfl, congrArg (fun t => some (PV.s 2 t cap3 1)) (by simp), rfl, look_int (i64_succ (by omega)), trivial⟩, ⟨congrArg some (c1 e).symm, trivial⟩, rfl, rfl⟩, rfl, by simp only; omega⟩
        | true =>
          have hgt : e > n := by simpa using a2
          have e2 : putI (e :: l.drop (k + 1)) n = n :: e :: l.drop (k + 1) := by rw [putI, if_pos hge, if_pos hgt]
          rw [e2] at hI
          have hal2 : allOne (cellsI L ++ [.int .i64 n]) = true := by rw [← c1]; exact allOneI _
          repeat' ((conv => whnf); first | with_reducible refine CondK.tt ?_ | with_reducible refine CondK.ff ?_ | refine IdxK.mk _ rfl (by omega) (by omega) ?_ | refine LdK.mk _ (by assumption) ?_ | refine CondK.yes' a1 ?_ | refine CondK.yes' a2 ?_ | refine AppK.mk (by show (2 * _ + 512) * 8 ≤ 281474976710656; omega) (by omega) (.inr rfl) (by first | exact hal | exact hal2 | rfl) (fun cap3 hcap3 => ?_) | fail)
          rename_i cap4 hcap4
          exact ⟨⟨(k + 1, cap3, L ++ [n] ++ [e], true), hlt, by simp only [List.length_append, List.length_singleton]; exact hcap3, by simp only [if_true]; rw [hI]; simp⟩, 4, ⟨⟨rfl, rfl, congrArg (fun t => some (PV.s 4 t cap3 1)) (by simp), rfl, look_int (i64_succ (by omega)), trivial⟩, ⟨congrArg some (by show _ = cellsI (L ++ [n] ++ [e]); unfold cellsI; simp), trivial⟩, rfl, rfl⟩, rfl, by simp only; omega⟩
  · have hkl : k = l.length := by
      have : ¬ k < l.length := by simpa using h1
      omega
    subst hkl
    rw [List.drop_length] at hI
    cases dn with
    | true =>
      rw [if_pos rfl, List.append_nil] at hI
      repeat' ((conv => whnf); first | with_reducible refine CondK.tt ?_ | with_reducible refine CondK.ff ?_ | fail)
      exact RetK.mk fun g M' hl hg => ⟨_, cap, slice_eq (by rw [hI]), row_out (rowI (M := M') (putI l n)) rfl (fun _ _ h => h) (fun o u hu => hg 0 _ rfl o u (by rw [← hI]; exact hu)) (by rw [hI]; exact hcap) (by omega)⟩
    | false =>
      rw [if_neg (by decide)] at hI
      replace hI : putI l n = L ++ [n] := hI
      repeat' ((conv => whnf); first | with_reducible refine CondK.tt ?_ | with_reducible refine CondK.ff ?_ | refine AppK.mk (by show (2 * _ + 512) * 8 ≤ 281474976710656; omega) (by omega) (.inr rfl) (by first | exact hal | rfl) (fun cap3 hcap3 => ?_) | fail)
      exact RetK.mk fun g M' hl hg => ⟨_, cap3, slice_eq (by rw [hI]; simp), row_out (rowI (M := M') (putI l n)) rfl (fun _ _ h => h) (fun o u hu => hg 2 _ rfl o u (by rw [← c1, ← hI]; exact hu)) (by rw [hI, List.length_append]; exact hcap3) (by omega)⟩
end Go.Proofs.YtgeofmoojifkmaaGreat.Hlp
namespace Go.Proofs.YtgeofmoojifkmaaGreat.Hlp
open Go Go.RowKit Go.Proofs Go.Proofs.YtgeofmoojifkmaaGreat.Lw
set_option linter.unusedVariables false
set_option linter.unusedSimpArgs false
set_option maxRecDepth 100000
set_option maxHeartbeats 4000000
/-- A list that is an own empty row at first, later what a call handed back. -/
def rowZ (r n : Nat) (o : Option (Option Addr × Nat)) : PV := match o with | none => .s r 0 0 1 | some (A, c) => .v (.slice A n c)
def boxZ (r : Nat) (o : Option (Option Addr × Nat)) (b : Bx) : Bx := match o with | none => (r, []) :: b | some _ => b
def RZ (N : Mem) (o : Option (Option Addr × Nat)) (V : List Int) : Prop := match o with | none => V = [] | some (A, c) => SlR N RInt 1 8 A c V
theorem l12Members_f (M : Mem) (a : List Int) (A : Option Addr) (c : Nat) (h : SlR M RInt 1 8 A c a) (hn : a.length ≤ 900) : AnsR Tryz.prog M 24 #[.slice A a.length c] (fun M' v => ∃ A' c', v = .slice A' (memS a).length c' ∧ SlR M' RInt 1 8 A' c' (memS a)) := by
  refine ansR_of T (l := [.slice A a.length c]) mixed Tryz.func24 rfl (by kernel_rfl) (Nat.le_of_ble_eq_true rfl) ?_
  (conv => whnf)
  refine LoopK.mk {q : (Nat × Option (Option Addr × Nat)) × Mem // q.1.1 ≤ a.length ∧ Le M q.2 ∧ RZ q.2 q.1.2 (memTo a q.1.1)} (fun ⟨⟨⟨k, o⟩, _⟩, _⟩ => [(0, .v (.slice A a.length c)), (3, rowZ 0 (memTo a k).length o), (4, .v (.int .i64 (k : Int)))]) (fun ⟨⟨⟨k, o⟩, _⟩, _⟩ => boxZ 0 o []) (fun q => q.1.2) (fun q => a.length - q.1.1.1) ⟨((0, none), M), Nat.zero_le _, Le.refl M, rfl⟩ ⟨⟨⟨rfl, rfl, rfl, trivial⟩, ⟨rfl, trivial⟩, rfl, rfl⟩, rfl⟩ ?_
  rintro ⟨⟨⟨k, o⟩, N⟩, hk, hle, hr⟩
  simp only at hk hle hr
  have hlen := (memTo_ok (a := a) k hk).2.2
  (conv => whnf)
  refine CondK.mk (fun h1 => ?_) (fun h1 => ?_)
  · have hlt : k < a.length := by simpa using h1
    obtain ⟨n, hnk⟩ : ∃ n, a[k] = n := ⟨_, rfl⟩
    have hx : a[k]? = some n := by rw [List.getElem?_eq_getElem hlt, hnk]
    have hst := memTo_step hx
    obtain ⟨ad, rfl, _, x0⟩ := at_Int (h.mono hle (fun _ _ h => h)) hx
    cases a1 : decide (n ≥ 0) with
    | false =>
      have hneg : ¬ n ≥ 0 := by simpa using a1
      unfold memStep at hst
      rw [if_neg hneg] at hst
      cases o with
      | none =>
        repeat' ((conv => whnf); first | with_reducible refine CondK.tt ?_ | with_reducible refine CondK.ff ?_ | refine IdxK.mk _ rfl (by omega) (by omega) ?_ | refine LdK.mk _ (by assumption) ?_ | refine CondK.no' a1 ?_ | fail)
        exact ⟨⟨((k + 1, none), N), hlt, hle, by show _ = _; rw [hst]; exact hr⟩, ⟨⟨rfl, rfl, look_int (i64_succ (by omega)), trivial⟩, ⟨rfl, trivial⟩, rfl, rfl⟩, rfl, by simp only; omega⟩
      | some p =>
        obtain ⟨A1, c1⟩ := p
        repeat' ((conv => whnf); first | with_reducible refine CondK.tt ?_ | with_reducible refine CondK.ff ?_ | refine IdxK.mk _ rfl (by omega) (by omega) ?_ | refine LdK.mk _ (by assumption) ?_ | refine CondK.no' a1 ?_ | fail)
        exact ⟨⟨((k + 1, some (A1, c1)), N), hlt, hle, by show SlR N RInt 1 8 A1 c1 _; rw [hst]; exact hr⟩, ⟨⟨rfl, congrArg (fun t : List Int => some (PV.v (Value.slice A1 t.length c1))) hst.symm, look_int (i64_succ (by omega)), trivial⟩, trivial, rfl, rfl⟩, rfl, by simp only; omega⟩
    | true =>
      have hpos : n ≥ 0 := by simpa using a1
      unfold memStep at hst
      rw [if_pos hpos] at hst
      cases o with
      | none =>
        have hr0 : memTo a k = [] := hr
        rw [hr0] at hst
        repeat' ((conv => whnf); first | with_reducible refine CondK.tt ?_ | with_reducible refine CondK.ff ?_ | refine IdxK.mk _ rfl (by omega) (by omega) ?_ | refine LdK.mk _ (by assumption) ?_ | refine CondK.yes' a1 ?_ | fail)
        refine PubK.mk fun a2 N2 hl2 hc2 => ?_
        (conv => whnf)
        refine CallK.mr _ (l00Put_f N2 [] (some a2) 0 SlR.nil (by decide) n) (fun v N3 hl3 hv => ?_)
        obtain ⟨A', c', rfl, hr'⟩ := hv
        (conv => whnf)
        exact ⟨⟨((k + 1, some (A', c')), N3), hlt, hle.trans (hl2.trans hl3), by show SlR N3 RInt 1 8 A' c' _; rw [hst]; exact hr'⟩, ⟨⟨rfl, congrArg (fun t : List Int => some (PV.v (Value.slice A' t.length c'))) hst.symm, look_int (i64_succ (by omega)), trivial⟩, trivial, rfl, rfl⟩, rfl, by simp only; omega⟩
      | some p =>
        obtain ⟨A1, c1⟩ := p
        replace hr : SlR N RInt 1 8 A1 c1 (memTo a k) := hr
        repeat' ((conv => whnf); first | with_reducible refine CondK.tt ?_ | with_reducible refine CondK.ff ?_ | refine IdxK.mk _ rfl (by omega) (by omega) ?_ | refine LdK.mk _ (by assumption) ?_ | refine CondK.yes' a1 ?_ | fail)
        refine CallK.mr _ (l00Put_f N (memTo a k) A1 c1 hr (by omega) n) (fun v N3 hl3 hv => ?_)
        obtain ⟨A', c', rfl, hr'⟩ := hv
        (conv => whnf)
        exact ⟨⟨((k + 1, some (A', c')), N3), hlt, hle.trans hl3, by show SlR N3 RInt 1 8 A' c' _; rw [hst]; exact hr'⟩, ⟨⟨rfl, congrArg (fun t : List Int => some (PV.v (Value.slice A' t.length c'))) hst.symm, look_int (i64_succ (by omega)), trivial⟩, trivial, rfl, rfl⟩, rfl, by simp only; omega⟩
  · have hkl : k = a.length := by
      have : ¬ k < a.length := by simpa using h1
      omega
    subst hkl
    cases o with
    | none =>
      have hr0 : memS a = [] := hr
      (conv => whnf)
      exact RetK.mk fun g M' hl hg => ⟨_, _, slice_eq (by rw [hr0]; rfl), by rw [hr0]; exact SlR.nil⟩
    | some p =>
      obtain ⟨A1, c1⟩ := p
      replace hr : SlR N RInt 1 8 A1 c1 (memTo a a.length) := hr
      (conv => whnf)
      exact RetK.mk fun g M' hl hg => ⟨A1, c1, rfl, hr.mono hl (fun _ _ h => h)⟩
def inStep (fr : List Int) (o : List Int) (n : Int) : List Int := if (fr.any fun z => decide (n = z)) = true then o else putI o n
def inTo (fr m : List Int) (o : List Int) (p : Nat) : List Int := (m.take p).foldl (inStep fr) o
theorem inTo_step {fr m o : List Int} {p : Nat} {n : Int} (h : m[p]? = some n) : inTo fr m o (p + 1) = inStep fr (inTo fr m o p) n := by
  unfold inTo
  rw [List.take_add_one, h, List.foldl_append]
  rfl
def spOne (fr : List Int) (k : Int) (o : List Int) (y : GInterval) : List Int := if ((heardIn y.Acting fr).length : Int) ≥ k then o else inTo fr (memS y.Acting) o (memS y.Acting).length
def spTo (nd : List GInterval) (fr : List Int) (k : Int) (i : Nat) : List Int := (nd.take i).foldl (spOne fr k) []
theorem spTo_step {nd : List GInterval} {fr : List Int} {k : Int} {i : Nat} {y : GInterval} (h : nd[i]? = some y) : spTo nd fr k (i + 1) = spOne fr k (spTo nd fr k i) y := by
  unfold spTo
  rw [List.take_add_one, h, List.foldl_append]
  rfl
theorem inTo_ok {fr m : List Int} {o : List Int} (ho : o.Pairwise (· < ·)) : ∀ p, p ≤ m.length → (inTo fr m o p).Pairwise (· < ·) ∧ (∀ x, x ∈ inTo fr m o p ↔ x ∈ o ∨ (x ∈ m.take p ∧ x ∉ fr)) ∧ (inTo fr m o p).length ≤ o.length + p
  | 0, _ => ⟨by simpa [inTo] using ho, fun x => by simp [inTo], by simp [inTo]⟩
  | p + 1, hp => by
    obtain ⟨h1, h2, h3⟩ := inTo_ok (fr := fr) (m := m) ho p (by omega)
    have hpl : p < m.length := by omega
    have hx := List.getElem?_eq_getElem hpl
    have ht : m.take (p + 1) = m.take p ++ [m[p]] := by rw [List.take_add_one, hx]; rfl
    rw [inTo_step hx]
    have ha : (fr.any fun z => decide (m[p] = z)) = true ↔ m[p] ∈ fr := by
      rw [List.any_eq_true]
      constructor
      · rintro ⟨z, hz, he⟩; simp only [decide_eq_true_eq] at he; rw [he]; exact hz
      · intro hz; exact ⟨_, hz, by simp⟩
    unfold inStep
    by_cases hc : (fr.any fun z => decide (m[p] = z)) = true
    · rw [if_pos hc]
      rw [ha] at hc
      refine ⟨h1, fun x => ?_, by omega⟩
      rw [h2, ht, List.mem_append]
      constructor
      · rintro (q | ⟨q, r⟩)
        · exact .inl q
        · exact .inr ⟨.inl q, r⟩
      · rintro (q | ⟨q | q, r⟩)
        · exact .inl q
        · exact .inr ⟨q, r⟩
        · have : x = m[p] := by simpa using q
          exact absurd (this ▸ hc) r
    · rw [if_neg hc]
      rw [ha] at hc
      refine ⟨si_putI h1, fun x => ?_, by have := putI_len (inTo fr m o p) m[p]; omega⟩
      rw [mem_putI, h2, ht, List.mem_append]
      constructor
      · rintro ((q | ⟨q, r⟩) | q)
        · exact .inl q
        · exact .inr ⟨.inl q, r⟩
        · exact .inr ⟨.inr (by simp [q]), by rw [q]; exact hc⟩
      · rintro (q | ⟨q | q, r⟩)
        · exact .inl (.inl q)
        · exact .inl (.inr ⟨q, r⟩)
        · exact .inr (by simpa using q)
theorem spTo_ok {nd : List GInterval} {fr : List Int} {k : Int} (h7 : ∀ y ∈ nd, y.Acting.length ≤ 7) : ∀ i, i ≤ nd.length → (spTo nd fr k i).Pairwise (· < ·) ∧ (∀ x, x ∈ spTo nd fr k i ↔ ∃ y ∈ nd.take i, ((heardIn y.Acting fr).length : Int) < k ∧ x ∈ memS y.Acting ∧ x ∉ fr) ∧ (spTo nd fr k i).length ≤ 7 * i
  | 0, _ => ⟨by simp [spTo], fun x => by simp [spTo], by simp [spTo]⟩
  | i + 1, hi => by
    obtain ⟨h1, h2, h3⟩ := spTo_ok (fr := fr) (k := k) h7 i (by omega)
    have hil : i < nd.length := by omega
    have hx := List.getElem?_eq_getElem hil
    have ht : nd.take (i + 1) = nd.take i ++ [nd[i]] := by rw [List.take_add_one, hx]; rfl
    rw [spTo_step hx]
    unfold spOne
    by_cases hc : ((heardIn nd[i].Acting fr).length : Int) ≥ k
    · rw [if_pos hc]
      refine ⟨h1, fun x => ?_, by omega⟩
      rw [h2, ht]
      constructor
      · rintro ⟨y, hy, q⟩; exact ⟨y, List.mem_append.2 (.inl hy), q⟩
      · rintro ⟨y, hy, q, r⟩
        rcases List.mem_append.1 hy with hy | hy
        · exact ⟨y, hy, q, r⟩
        · have : y = nd[i] := by simpa using hy
          rw [this] at q
          omega
    · rw [if_neg hc]
      have hm := memS_ok nd[i].Acting
      obtain ⟨g1, g2, g3⟩ := inTo_ok (fr := fr) (m := memS nd[i].Acting) h1 (memS nd[i].Acting).length (Nat.le_refl _)
      have := h7 nd[i] (List.getElem_mem hil)
      refine ⟨g1, fun x => ?_, by have := hm.2.2; omega⟩
      rw [g2, h2, ht, List.take_length]
      constructor
      · rintro (⟨y, hy, q⟩ | ⟨q, r⟩)
        · exact ⟨y, List.mem_append.2 (.inl hy), q⟩
        · exact ⟨nd[i], List.mem_append.2 (.inr (by simp)), by omega, q, r⟩
      · rintro ⟨y, hy, q, r⟩
        rcases List.mem_append.1 hy with hy | hy
        · exact .inl ⟨y, hy, q, r⟩
        · have : y = nd[i] := by simpa using hy
          rw [this] at r
          exact .inr r
end Go.Proofs.YtgeofmoojifkmaaGreat.Hlp
namespace Go.Proofs.YtgeofmoojifkmaaGreat.Hlp
open Go Go.RowKit Go.Proofs Go.Proofs.YtgeofmoojifkmaaGreat.Lw
set_option linter.unusedVariables false
set_option linter.unusedSimpArgs false
set_option maxRecDepth 100000
set_option maxHeartbeats 4000000
def lackF (fr m : List Int) : List Int := m.filter fun n => !(fr.any fun z => decide (n = z))
def rawOne (fr : List Int) (k s : Int) (y : GInterval) : List Int := if hBad fr k s y = true then lackF fr (memF y.Acting) else []
def rawTo (ivs : List GInterval) (fr : List Int) (k s : Int) (j : Nat) : List Int := (ivs.take j).flatMap (rawOne fr k s)
theorem rawTo_step {ivs : List GInterval} {fr : List Int} {k s : Int} {j : Nat} {y : GInterval} (h : ivs[j]? = some y) : rawTo ivs fr k s (j + 1) = rawTo ivs fr k s j ++ rawOne fr k s y := by
  unfold rawTo
  rw [List.take_add_one, h, List.flatMap_append]
  simp
theorem rawTo_len {ivs : List GInterval} {fr : List Int} {k s : Int} (hi : ∀ y ∈ ivs, y.Acting.length ≤ 7) : ∀ j, (rawTo ivs fr k s j).length ≤ 7 * j
  | 0 => by simp [rawTo]
  | j + 1 => by
    have ih := rawTo_len (fr := fr) (k := k) (s := s) hi j
    cases h : ivs[j]? with
    | none =>
      have : ivs.take (j + 1) = ivs.take j := by rw [List.take_add_one, h]; simp
      unfold rawTo at ih ⊢
      rw [this]; omega
    | some y =>
      rw [rawTo_step h, List.length_append]
      have h1 := hi y (List.mem_of_getElem? h)
      have h2 : (rawOne fr k s y).length ≤ y.Acting.length := by
        unfold rawOne lackF
        split
        · exact Nat.le_trans (List.length_filter_le _ _) (memF_len _)
        · exact Nat.zero_le _
      omega
theorem bad_not (fr : List Int) (k s : Int) (y : GInterval) : (!hBad fr k s y) = (!needF y s || decide (((heF y.Acting fr).length : Int) ≥ k)) := by
  unfold hBad
  rw [Bool.eq_iff_iff]
  simp only [Bool.not_eq_true', Bool.and_eq_false_iff, decide_eq_false_iff_not, Bool.or_eq_true, decide_eq_true_eq]
  cases needF y s <;> simp <;> omega
def rowPX (n : Nat) (o : Option Nat) : PV := match o with | none => .v (.slice none 0 0) | some c => .s 2 n c 1
def rowBX (V : List Int) (o : Option Nat) (b : Bx) : Bx := match o with | none => b | some _ => (2, cellsI V) :: b
def RowOX (V : List Int) (o : Option Nat) : Prop := match o with | none => V = [] | some c => V.length ≤ c
theorem RowN.slS' {α : Type} {M0 M M' : Mem} {R : Mem → α → List Value → Prop} {z by_ cap : Nat} {A : Option Addr} {l : List α} {ds : List Value} (h : RowN M0 M z A l.length cap ds) (r : RowR M' R z l ds) (hR : ∀ x cs, R M' x cs → R (sub M M0) x cs) (hl : l.length ≤ 9223372036854775807) : SlR (sub M M0) R z by_ A cap l := by
  rcases h with ⟨_, h1, _⟩ | ⟨ad, rfl, h1, h2⟩
  · rw [List.eq_nil_of_length_eq_zero h1]; exact SlR.nil
  · have hm : ∀ a u, M a = some u → a.block = ad.block → sub M M0 a = some u := fun a u hu hb => by
      unfold sub
      cases h0 : M0 a with
      | none => exact hu
      | some w => exact absurd hb (h2 a w h0)
    have h1' : RowC (sub M M0) ad z l.length cap ds := ⟨h1.len, h1.le, fun o u hu => hm _ _ (h1.el o u hu) (add_block _ _), fun o ho => let ⟨u, hu⟩ := h1.room o ho; ⟨u, hm _ _ hu (add_block _ _)⟩⟩
    exact h1'.sl r hR hl
theorem stillLacks_f (M : Mem) (ivs : List GInterval) (A : Option Addr) (c : Nat) (h : SlR M RInterval 4 48 A c ivs) (hiv : intervalsF ivs = true) (cd : GCode) (hk : 1 ≤ cd.K) (l : List GNotice) (B : Option Addr) (dc : Nat) (hl : SlR M RNotice 13 168 B dc l) (hno : noticesOkF l = true) : AnsR Tryz.prog M 19 #[.slice A ivs.length c, .agg #[.int .i64 cd.K, .int .i64 cd.M], .slice B l.length dc] (fun M' v => ∃ A' c', v = .slice A' (if (verF ivs cd.K l).2 = 8 then outF (rawTo ivs (fromsF l) cd.K (startedF l) ivs.length) else []).length c' ∧ SlR (sub M' M) RInt 1 8 A' c' (if (verF ivs cd.K l).2 = 8 then outF (rawTo ivs (fromsF l) cd.K (startedF l) ivs.length) else [])) := by
  have hln := notices_len hno
  have hil := intervals_len hiv
  have hac7 : ∀ y ∈ ivs, y.Acting.length ≤ 7 := fun y hy => acting_le (intervals_at hiv hy)
  have hvo := verOf_r M ivs A c h hiv cd hk l B dc hl hno
  refine ansR_of (T.at M) (l := [.slice A ivs.length c, .agg #[.int .i64 cd.K, .int .i64 cd.M], .slice B l.length dc]) mixed Tryz.func19 rfl (by kernel_rfl) (Nat.le_of_ble_eq_true rfl) ?_ (fun _ ad u h1 h2 => by rw [show M ad = none from h1] at h2; cases h2)
  generalize verF ivs cd.K l = vc at hvo ⊢
  obtain ⟨ver, code⟩ := vc
  simp only at hvo ⊢
  (conv => whnf)
  refine CallK.mr _ hvo (fun v N0 hl0 hv => ?_)
  subst hv
  (conv => whnf)
  by_cases hc8 : code = 8
  case neg =>
    rw [if_neg hc8]
    have q1 : (code != 8) = true := by simp [hc8]
    rw [q1]
    (conv => whnf)
    exact RetK.mk fun g M' hl hg => ⟨none, 0, rfl, SlR.nil⟩
  rw [if_pos hc8]
  have q1 : (code != 8) = false := by simp [hc8]
  rw [q1]
  (conv => whnf)
  refine CallK.mr _ (nodesOf_f N0 l B dc (hl.mono hl0 (RNotice.mono hl0)) hln) (fun v N1 hl1 hv => ?_)
  obtain ⟨Af, cf, rfl, hfr⟩ := hv
  have hst0 := fun N (hN : Le M N) => startedOf_a N l B dc (hl.mono hN (RNotice.mono hN))
  have e1 := hl0.trans hl1
  generalize hs : startedF l = s at hst0 ⊢
  have hfl : (fromsF l).length ≤ 16 := by rw [fromsF_len]; exact hln
  generalize hfrd : fromsF l = fr at hfr hfl ⊢
  (conv => whnf)
  refine LoopK.sw 2 3 {q : (Nat × Option Nat) × Mem // q.1.1 ≤ ivs.length ∧ RowOX (rawTo ivs fr cd.K s q.1.1) q.1.2 ∧ Le N1 q.2} (fun ⟨⟨⟨j, o⟩, _⟩, _⟩ => [(2, .v (.slice B l.length dc)), (4, .p 0 0), (9, .v (.slice Af fr.length cf)), (10, rowPX (rawTo ivs fr cd.K s j).length o), (26, .v (.slice A ivs.length c)), (27, .v (.int .i64 (ivs.length : Int))), (28, .v (.int .i64 (j : Int)))]) (fun ⟨⟨⟨j, o⟩, _⟩, _⟩ => rowBX (rawTo ivs fr cd.K s j) o [(0, [.int .i64 cd.K, .int .i64 cd.M])]) (fun q => q.1.2) (fun q => ivs.length - q.1.1.1) ⟨((0, none), N1), Nat.zero_le _, rfl, Le.refl N1⟩ 2 ⟨⟨⟨rfl, rfl, rfl, rfl, rfl, rfl, rfl, trivial⟩, ⟨rfl, trivial⟩, rfl, rfl⟩, rfl⟩ ?_
  rintro ⟨⟨⟨j, o⟩, N2⟩, hj, hro, hle2⟩
  simp only at hj hro hle2
  have hrl := rawTo_len (fr := fr) (k := cd.K) (s := s) hac7 j
  have e2 := e1.trans hle2
  (conv => whnf)
  refine CondK.mk (fun h1 => ?_) (fun h1 => ?_)
  · have hlt : j < ivs.length := by simpa using h1
    obtain ⟨y, hyk⟩ : ∃ y, ivs[j] = y := ⟨_, rfl⟩
    have hy : ivs[j]? = some y := by rw [List.getElem?_eq_getElem hlt, hyk]
    have hym := List.mem_of_getElem? hy
    have hy7 := hac7 y hym
    obtain ⟨ad, rfl, A0, c0, bny, s0, y0, y1, y2, y3⟩ := at_Interval (h.mono e2 (RInterval.mono e2)) hy
    have hst := rawTo_step (fr := fr) (k := cd.K) (s := s) hy
    have hsN := hst0 N2 e2
    have hnd := needs_a N2 y _ ⟨A0, c0, rfl, bny, s0⟩ s
    have hho := heardOf_f N2 y.Acting A0 c0 s0 (by omega) fr Af cf (hfr.mono hle2 (fun _ _ h => h))
    have hbn := bad_not fr cd.K s y
    cases o with
    | none =>
      replace hro : (rawTo ivs fr cd.K s j) = [] := hro
      repeat' ((conv => whnf); first | with_reducible refine CondK.tt ?_ | with_reducible refine CondK.ff ?_ | refine IdxK.mk _ rfl (by omega) (by omega) ?_ | refine LdK.mk _ (by assumption) ?_ | fail)
      have hz := Le.refl N2
      refine DrawN.h {N : Mem // Le N2 N} (fun _ => [(2, .v (.slice B l.length dc)), (4, .p 0 0), (9, .v (.slice Af fr.length cf)), (10, rowPX (rawTo ivs fr cd.K s j).length none), (12, .p 3 0), (26, .v (.slice (some ad) ivs.length c)), (27, .v (.int .i64 (ivs.length : Int))), (28, .v (.int .i64 (j : Int))), (46, .v (.bool (!hBad fr cd.K s y)))]) (fun _ => (3, [.int .i64 y.First, .int .i64 y.Last, .slice A0 y.Acting.length c0, .bool y.May]) :: rowBX (rawTo ivs fr cd.K s j) none [(0, [.int .i64 cd.K, .int .i64 cd.M])]) 4 (fun N => N.1) (by kernel_rfl) ?_ ?_
      · cases hq : needF y s with
        | false =>
          rw [hq] at hnd hbn
          repeat' ((conv => whnf); first | refine AndK.mk ?_ ?_ | refine HeldK.mk (by kernel_rfl) ?_ | refine LdK.mk _ (by assumption) ?_ | refine CallK.mk _ hsN ?_ | refine CallQ.mk _ hsN ?_ | refine CallK.mk _ hnd ?_ | refine CallQ.mk _ hnd ?_ | (refine CallK.mr _ hho (fun v M4 hl4 hv => ?_); obtain ⟨A4, c4, d4, rfl, r4, n4⟩ := hv; replace hz := hl4) | fail)
          all_goals exact ⟨⟨_, hz⟩, ⟨⟨rfl, rfl, rfl, rfl, rfl, rfl, rfl, rfl, congrArg (fun t => some (PV.v (Value.bool t))) hbn.symm, trivial⟩, ⟨rfl, rfl, trivial⟩, rfl, rfl⟩, rfl⟩
        | true =>
          rw [hq] at hnd hbn
          repeat' ((conv => whnf); first | refine AndK.mk ?_ ?_ | refine HeldK.mk (by kernel_rfl) ?_ | refine LdK.mk _ (by assumption) ?_ | refine CallK.mk _ hsN ?_ | refine CallQ.mk _ hsN ?_ | refine CallK.mk _ hnd ?_ | refine CallQ.mk _ hnd ?_ | (refine CallK.mr _ hho (fun v M4 hl4 hv => ?_); obtain ⟨A4, c4, d4, rfl, r4, n4⟩ := hv; replace hz := hl4) | fail)
          all_goals exact ⟨⟨_, hz⟩, ⟨⟨rfl, rfl, rfl, rfl, rfl, rfl, rfl, rfl, congrArg (fun t => some (PV.v (Value.bool t))) hbn.symm, trivial⟩, ⟨rfl, rfl, trivial⟩, rfl, rfl⟩, rfl⟩
      clear hz
      rintro ⟨N3, hl3⟩
      cases hb : hBad fr cd.K s y with
      | false =>
        have hst2 : rawTo ivs fr cd.K s (j + 1) = (rawTo ivs fr cd.K s j) := by rw [hst]; unfold rawOne; rw [hb, if_neg (by decide), List.append_nil]
        repeat' ((conv => whnf); first | with_reducible refine CondK.tt ?_ | with_reducible refine CondK.ff ?_ | refine IdxK.mk _ rfl (by omega) (by omega) ?_ | refine LdK.mk _ (by assumption) ?_ | fail)
        exact ⟨⟨((j + 1, none), N3), hlt, by show RowOX _ _; rw [hst2]; exact hro, hle2.trans hl3⟩, 2, ⟨⟨rfl, rfl, rfl, congrArg (fun t : List Int => some (rowPX t.length none)) hst2.symm, rfl, rfl, look_int (i64_succ (by omega)), trivial⟩, ⟨rfl, trivial⟩, rfl, rfl⟩, rfl, by simp only; omega⟩
      | true =>
        have hst2 : rawTo ivs fr cd.K s (j + 1) = (rawTo ivs fr cd.K s j) ++ lackF fr (memF y.Acting) := by rw [hst]; unfold rawOne; rw [hb, if_pos rfl]
        repeat' ((conv => whnf); first | with_reducible refine CondK.tt ?_ | with_reducible refine CondK.ff ?_ | refine IdxK.mk _ rfl (by omega) (by omega) ?_ | refine LdK.mk _ (by assumption) ?_ | fail)
        refine CallK.mr _ (members_f N3 y.Acting A0 c0 (s0.mono hl3 (fun _ _ h => h)) (by omega)) (fun v N4 hl4 hv => ?_)
        obtain ⟨Am, cm, dm, rfl, hmr, hmn⟩ := hv
        have hml := memF_len y.Acting
        have hms : SlR N4 RInt 1 8 Am cm (memF y.Acting) := hmn.sl hmr (fun _ _ h => h) (by omega)
        have e4 := hl3.trans hl4
        have hfr4 := hfr.mono (hle2.trans e4) (fun _ _ h => h)
        generalize hmm : memF y.Acting = m at hms hml hst2 ⊢
        (conv => whnf)
        refine LoopK.sw 2 4 {q : Nat × Option Nat // q.1 ≤ m.length ∧ RowOX ((rawTo ivs fr cd.K s j) ++ lackF fr (m.take q.1)) q.2} (fun ⟨(p, o), _⟩ => [(2, .v (.slice B l.length dc)), (4, .p 0 0), (9, .v (.slice Af fr.length cf)), (10, rowPX ((rawTo ivs fr cd.K s j) ++ lackF fr (m.take p)).length o), (26, .v (.slice (some ad) ivs.length c)), (27, .v (.int .i64 (ivs.length : Int))), (28, .v (.int .i64 (j : Int))), (49, .v (.slice Am m.length cm)), (50, .v (.int .i64 (m.length : Int))), (51, .v (.int .i64 (p : Int)))]) (fun ⟨(p, o), _⟩ => rowBX ((rawTo ivs fr cd.K s j) ++ lackF fr (m.take p)) o [(0, [.int .i64 cd.K, .int .i64 cd.M])]) (fun _ => N4) (fun q => m.length - q.1.1) ⟨(0, none), Nat.zero_le _, by show (rawTo ivs fr cd.K s j) ++ _ = []; rw [hro]; rfl⟩ 2 ⟨⟨⟨rfl, rfl, rfl, rfl, rfl, rfl, rfl, rfl, rfl, rfl, trivial⟩, ⟨rfl, trivial⟩, rfl, rfl⟩, rfl⟩ ?_
        rintro ⟨⟨p, o⟩, hp, hri⟩
        simp only at hp hri
        (conv => whnf)
        refine CondK.mk (fun h6 => ?_) (fun h6 => ?_)
        · have hlt6 : p < m.length := by simpa using h6
          obtain ⟨n, hnk⟩ : ∃ n, m[p] = n := ⟨_, rfl⟩
          have hn : m[p]? = some n := by rw [List.getElem?_eq_getElem hlt6, hnk]
          obtain ⟨am, hae, _, z0⟩ := at_Int hms hn
          have hct := containsInt_a N4 fr Af cf hfr4 n
          have hfs : lackF fr (m.take (p + 1)) = lackF fr (m.take p) ++ (if (!(fr.any fun z => decide (n = z))) = true then [n] else []) := fil_step (p := fun n => !(fr.any fun z => decide (n = z))) hn
          have hll : (lackF fr (m.take p)).length ≤ 7 := by
            have := List.length_filter_le (fun n => !(fr.any fun z => decide (n = z))) (m.take p)
            rw [List.length_take] at this
            show ((m.take p).filter _).length ≤ 7
            omega
          have hvl : ((rawTo ivs fr cd.K s j) ++ lackF fr (m.take p)).length ≤ 430 := by rw [List.length_append]; omega
          cases hh : fr.any (fun z => decide (n = z)) with
          | true =>
            rw [hh] at hct hfs
            have hfs2 : (rawTo ivs fr cd.K s j) ++ lackF fr (m.take (p + 1)) = (rawTo ivs fr cd.K s j) ++ lackF fr (m.take p) := by rw [hfs]; simp
            repeat' ((conv => whnf); first | with_reducible refine CondK.tt ?_ | with_reducible refine CondK.ff ?_ | refine IdxK.mk am hae (by omega) (by omega) ?_ | refine LdK.mk _ (by assumption) ?_ | refine CallK.mk _ hct ?_ | fail)
            cases o with
            | none => exact ⟨⟨(p + 1, none), hlt6, by show RowOX _ _; rw [hfs2]; exact hri⟩, 2, ⟨⟨rfl, rfl, rfl, congrArg (fun t : List Int => some (rowPX t.length none)) hfs2.symm, rfl, rfl, rfl, rfl, rfl, look_int (i64_succ (by omega)), trivial⟩, ⟨rfl, trivial⟩, rfl, rfl⟩, rfl, by simp only; omega⟩
            | some cp => exact ⟨⟨(p + 1, some cp), hlt6, by show RowOX _ _; rw [hfs2]; exact hri⟩, 2, ⟨⟨rfl, rfl, rfl, congrArg (fun t : List Int => some (rowPX t.length (some cp))) hfs2.symm, rfl, rfl, rfl, rfl, rfl, look_int (i64_succ (by omega)), trivial⟩, ⟨congrArg (fun t : List Int => some (cellsI t)) hfs2.symm, rfl, trivial⟩, rfl, rfl⟩, rfl, by simp only; omega⟩
          | false =>
            rw [hh] at hct hfs
            have hfs2 : (rawTo ivs fr cd.K s j) ++ lackF fr (m.take (p + 1)) = ((rawTo ivs fr cd.K s j) ++ lackF fr (m.take p)) ++ [n] := by rw [hfs]; simp
            cases o with
            | none =>
              have hri0 : (rawTo ivs fr cd.K s j) ++ lackF fr (m.take p) = [] := hri
              rw [hri0, List.nil_append] at hfs2
              repeat' ((conv => whnf); first | with_reducible refine CondK.tt ?_ | with_reducible refine CondK.ff ?_ | refine IdxK.mk am hae (by omega) (by omega) ?_ | refine LdK.mk _ (by assumption) ?_ | refine CallK.mk _ hct ?_ | refine AppK.mk (by decide) (by decide) (.inl (by decide)) rfl (fun cap3 hcap3 => ?_) | fail)
              exact ⟨⟨(p + 1, some cap3), hlt6, by show List.length _ ≤ _; rw [hfs2]; exact hcap3⟩, 5, ⟨⟨rfl, rfl, rfl, congrArg (fun t : List Int => some (PV.s 5 t.length cap3 1)) hfs2.symm, rfl, rfl, rfl, rfl, rfl, look_int (i64_succ (by omega)), trivial⟩, ⟨congrArg (fun t : List Int => some (cellsI t)) hfs2.symm, rfl, trivial⟩, rfl, rfl⟩, rfl, by simp only; omega⟩
            | some cp =>
              have hri0 : ((rawTo ivs fr cd.K s j) ++ lackF fr (m.take p)).length ≤ cp := hri
              have hal6 := allOneI ((rawTo ivs fr cd.K s j) ++ lackF fr (m.take p))
              have hce : cellsI (((rawTo ivs fr cd.K s j) ++ lackF fr (m.take p)) ++ [n]) = cellsI ((rawTo ivs fr cd.K s j) ++ lackF fr (m.take p)) ++ [.int .i64 n] := by unfold cellsI; simp
              repeat' ((conv => whnf); first | with_reducible refine CondK.tt ?_ | with_reducible refine CondK.ff ?_ | refine IdxK.mk am hae (by omega) (by omega) ?_ | refine LdK.mk _ (by assumption) ?_ | refine CallK.mk _ hct ?_ | refine AppK.mk (by show (2 * _ + 512) * 8 ≤ 281474976710656; omega) (by omega) (.inr rfl) (by first | exact hal6 | rfl) (fun cap3 hcap3 => ?_) | fail)
              exact ⟨⟨(p + 1, some cap3), hlt6, by show List.length _ ≤ _; rw [hfs2, List.length_append]; exact hcap3⟩, 5, ⟨⟨rfl, rfl, rfl, congrArg (fun t => some (PV.s 5 t cap3 1)) (by rw [hfs2]; simp only [List.length_append, List.length_cons, List.length_nil]), rfl, rfl, rfl, rfl, rfl, look_int (i64_succ (by omega)), trivial⟩, ⟨congrArg some (by rw [hfs2, hce]), rfl, trivial⟩, rfl, rfl⟩, rfl, by simp only; omega⟩
        · have hpl : p = m.length := by
            have : ¬ p < m.length := by simpa using h6
            omega
          subst hpl
          have hfin : rawTo ivs fr cd.K s (j + 1) = (rawTo ivs fr cd.K s j) ++ lackF fr (m.take m.length) := by rw [hst2, List.take_length]
          (conv => whnf)
          cases o with
          | none => exact ⟨⟨((j + 1, none), N4), hlt, by show RowOX _ _; rw [hfin]; exact hri, hle2.trans e4⟩, 2, ⟨⟨rfl, rfl, rfl, congrArg (fun t : List Int => some (rowPX t.length none)) hfin.symm, rfl, rfl, look_int (i64_succ (by omega)), trivial⟩, ⟨rfl, trivial⟩, rfl, rfl⟩, rfl, by simp only; omega⟩
          | some cp => exact ⟨⟨((j + 1, some cp), N4), hlt, by show RowOX _ _; rw [hfin]; exact hri, hle2.trans e4⟩, 2, ⟨⟨rfl, rfl, rfl, congrArg (fun t : List Int => some (rowPX t.length (some cp))) hfin.symm, rfl, rfl, look_int (i64_succ (by omega)), trivial⟩, ⟨congrArg (fun t : List Int => some (cellsI t)) hfin.symm, rfl, trivial⟩, rfl, rfl⟩, rfl, by simp only; omega⟩
    | some cap =>
      replace hro : (rawTo ivs fr cd.K s j).length ≤ cap := hro
      have hal := allOneI (rawTo ivs fr cd.K s j)
      repeat' ((conv => whnf); first | with_reducible refine CondK.tt ?_ | with_reducible refine CondK.ff ?_ | refine IdxK.mk _ rfl (by omega) (by omega) ?_ | refine LdK.mk _ (by assumption) ?_ | fail)
      have hz := Le.refl N2
      refine DrawN.h {N : Mem // Le N2 N} (fun _ => [(2, .v (.slice B l.length dc)), (4, .p 0 0), (9, .v (.slice Af fr.length cf)), (10, rowPX (rawTo ivs fr cd.K s j).length (some cap)), (12, .p 3 0), (26, .v (.slice (some ad) ivs.length c)), (27, .v (.int .i64 (ivs.length : Int))), (28, .v (.int .i64 (j : Int))), (46, .v (.bool (!hBad fr cd.K s y)))]) (fun _ => (3, [.int .i64 y.First, .int .i64 y.Last, .slice A0 y.Acting.length c0, .bool y.May]) :: rowBX (rawTo ivs fr cd.K s j) (some cap) [(0, [.int .i64 cd.K, .int .i64 cd.M])]) 4 (fun N => N.1) (by kernel_rfl) ?_ ?_
      · cases hq : needF y s with
        | false =>
          rw [hq] at hnd hbn
          repeat' ((conv => whnf); first | refine AndK.mk ?_ ?_ | refine HeldK.mk (by kernel_rfl) ?_ | refine LdK.mk _ (by assumption) ?_ | refine CallK.mk _ hsN ?_ | refine CallQ.mk _ hsN ?_ | refine CallK.mk _ hnd ?_ | refine CallQ.mk _ hnd ?_ | (refine CallK.mr _ hho (fun v M4 hl4 hv => ?_); obtain ⟨A4, c4, d4, rfl, r4, n4⟩ := hv; replace hz := hl4) | fail)
          all_goals exact ⟨⟨_, hz⟩, ⟨⟨rfl, rfl, rfl, rfl, rfl, rfl, rfl, rfl, congrArg (fun t => some (PV.v (Value.bool t))) hbn.symm, trivial⟩, ⟨rfl, rfl, rfl, trivial⟩, rfl, rfl⟩, rfl⟩
        | true =>
          rw [hq] at hnd hbn
          repeat' ((conv => whnf); first | refine AndK.mk ?_ ?_ | refine HeldK.mk (by kernel_rfl) ?_ | refine LdK.mk _ (by assumption) ?_ | refine CallK.mk _ hsN ?_ | refine CallQ.mk _ hsN ?_ | refine CallK.mk _ hnd ?_ | refine CallQ.mk _ hnd ?_ | (refine CallK.mr _ hho (fun v M4 hl4 hv => ?_); obtain ⟨A4, c4, d4, rfl, r4, n4⟩ := hv; replace hz := hl4) | fail)
          all_goals exact ⟨⟨_, hz⟩, ⟨⟨rfl, rfl, rfl, rfl, rfl, rfl, rfl, rfl, congrArg (fun t => some (PV.v (Value.bool t))) hbn.symm, trivial⟩, ⟨rfl, rfl, rfl, trivial⟩, rfl, rfl⟩, rfl⟩
      clear hz
      rintro ⟨N3, hl3⟩
      cases hb : hBad fr cd.K s y with
      | false =>
        have hst2 : rawTo ivs fr cd.K s (j + 1) = (rawTo ivs fr cd.K s j) := by rw [hst]; unfold rawOne; rw [hb, if_neg (by decide), List.append_nil]
        repeat' ((conv => whnf); first | with_reducible refine CondK.tt ?_ | with_reducible refine CondK.ff ?_ | refine IdxK.mk _ rfl (by omega) (by omega) ?_ | refine LdK.mk _ (by assumption) ?_ | fail)
        exact ⟨⟨((j + 1, (some cap)), N3), hlt, by show RowOX _ _; rw [hst2]; exact hro, hle2.trans hl3⟩, 2, ⟨⟨rfl, rfl, rfl, congrArg (fun t : List Int => some (rowPX t.length (some cap))) hst2.symm, rfl, rfl, look_int (i64_succ (by omega)), trivial⟩, ⟨congrArg (fun t : List Int => some (cellsI t)) hst2.symm, rfl, trivial⟩, rfl, rfl⟩, rfl, by simp only; omega⟩
      | true =>
        have hst2 : rawTo ivs fr cd.K s (j + 1) = (rawTo ivs fr cd.K s j) ++ lackF fr (memF y.Acting) := by rw [hst]; unfold rawOne; rw [hb, if_pos rfl]
        repeat' ((conv => whnf); first | with_reducible refine CondK.tt ?_ | with_reducible refine CondK.ff ?_ | refine IdxK.mk _ rfl (by omega) (by omega) ?_ | refine LdK.mk _ (by assumption) ?_ | fail)
        refine CallK.mr _ (members_f N3 y.Acting A0 c0 (s0.mono hl3 (fun _ _ h => h)) (by omega)) (fun v N4 hl4 hv => ?_)
        obtain ⟨Am, cm, dm, rfl, hmr, hmn⟩ := hv
        have hml := memF_len y.Acting
        have hms : SlR N4 RInt 1 8 Am cm (memF y.Acting) := hmn.sl hmr (fun _ _ h => h) (by omega)
        have e4 := hl3.trans hl4
        have hfr4 := hfr.mono (hle2.trans e4) (fun _ _ h => h)
        generalize hmm : memF y.Acting = m at hms hml hst2 ⊢
        (conv => whnf)
        refine LoopK.sw 2 4 {q : Nat × Option Nat // q.1 ≤ m.length ∧ RowOX ((rawTo ivs fr cd.K s j) ++ lackF fr (m.take q.1)) q.2} (fun ⟨(p, o), _⟩ => [(2, .v (.slice B l.length dc)), (4, .p 0 0), (9, .v (.slice Af fr.length cf)), (10, rowPX ((rawTo ivs fr cd.K s j) ++ lackF fr (m.take p)).length o), (26, .v (.slice (some ad) ivs.length c)), (27, .v (.int .i64 (ivs.length : Int))), (28, .v (.int .i64 (j : Int))), (49, .v (.slice Am m.length cm)), (50, .v (.int .i64 (m.length : Int))), (51, .v (.int .i64 (p : Int)))]) (fun ⟨(p, o), _⟩ => rowBX ((rawTo ivs fr cd.K s j) ++ lackF fr (m.take p)) o [(0, [.int .i64 cd.K, .int .i64 cd.M])]) (fun _ => N4) (fun q => m.length - q.1.1) ⟨(0, (some cap)), Nat.zero_le _, by show List.length _ ≤ _; simpa [lackF] using hro⟩ 2 ⟨⟨⟨rfl, rfl, rfl, congrArg (fun t : List Int => some (rowPX t.length (some cap))) (show (rawTo ivs fr cd.K s j) = (rawTo ivs fr cd.K s j) ++ lackF fr (m.take 0) by simp [lackF]), rfl, rfl, rfl, rfl, rfl, rfl, trivial⟩, ⟨congrArg (fun t : List Int => some (cellsI t)) (show (rawTo ivs fr cd.K s j) = (rawTo ivs fr cd.K s j) ++ lackF fr (m.take 0) by simp [lackF]), rfl, trivial⟩, rfl, rfl⟩, rfl⟩ ?_
        rintro ⟨⟨p, o⟩, hp, hri⟩
        simp only at hp hri
        (conv => whnf)
        refine CondK.mk (fun h6 => ?_) (fun h6 => ?_)
        · have hlt6 : p < m.length := by simpa using h6
          obtain ⟨n, hnk⟩ : ∃ n, m[p] = n := ⟨_, rfl⟩
          have hn : m[p]? = some n := by rw [List.getElem?_eq_getElem hlt6, hnk]
          obtain ⟨am, hae, _, z0⟩ := at_Int hms hn
          have hct := containsInt_a N4 fr Af cf hfr4 n
          have hfs : lackF fr (m.take (p + 1)) = lackF fr (m.take p) ++ (if (!(fr.any fun z => decide (n = z))) = true then [n] else []) := fil_step (p := fun n => !(fr.any fun z => decide (n = z))) hn
          have hll : (lackF fr (m.take p)).length ≤ 7 := by
            have := List.length_filter_le (fun n => !(fr.any fun z => decide (n = z))) (m.take p)
            rw [List.length_take] at this
            show ((m.take p).filter _).length ≤ 7
            omega
          have hvl : ((rawTo ivs fr cd.K s j) ++ lackF fr (m.take p)).length ≤ 430 := by rw [List.length_append]; omega
          cases hh : fr.any (fun z => decide (n = z)) with
          | true =>
            rw [hh] at hct hfs
            have hfs2 : (rawTo ivs fr cd.K s j) ++ lackF fr (m.take (p + 1)) = (rawTo ivs fr cd.K s j) ++ lackF fr (m.take p) := by rw [hfs]; simp
            repeat' ((conv => whnf); first | with_reducible refine CondK.tt ?_ | with_reducible refine CondK.ff ?_ | refine IdxK.mk am hae (by omega) (by omega) ?_ | refine LdK.mk _ (by assumption) ?_ | refine CallK.mk _ hct ?_ | fail)
            cases o with
            | none => exact ⟨⟨(p + 1, none), hlt6, by show RowOX _ _; rw [hfs2]; exact hri⟩, 2, ⟨⟨rfl, rfl, rfl, congrArg (fun t : List Int => some (rowPX t.length none)) hfs2.symm, rfl, rfl, rfl, rfl, rfl, look_int (i64_succ (by omega)), trivial⟩, ⟨rfl, trivial⟩, rfl, rfl⟩, rfl, by simp only; omega⟩
            | some cp => exact ⟨⟨(p + 1, some cp), hlt6, by show RowOX _ _; rw [hfs2]; exact hri⟩, 2, ⟨⟨rfl, rfl, rfl, congrArg (fun t : List Int => some (rowPX t.length (some cp))) hfs2.symm, rfl, rfl, rfl, rfl, rfl, look_int (i64_succ (by omega)), trivial⟩, ⟨congrArg (fun t : List Int => some (cellsI t)) hfs2.symm, rfl, trivial⟩, rfl, rfl⟩, rfl, by simp only; omega⟩
          | false =>
            rw [hh] at hct hfs
            have hfs2 : (rawTo ivs fr cd.K s j) ++ lackF fr (m.take (p + 1)) = ((rawTo ivs fr cd.K s j) ++ lackF fr (m.take p)) ++ [n] := by rw [hfs]; simp
            cases o with
            | none =>
              have hri0 : (rawTo ivs fr cd.K s j) ++ lackF fr (m.take p) = [] := hri
              rw [hri0, List.nil_append] at hfs2
              repeat' ((conv => whnf); first | with_reducible refine CondK.tt ?_ | with_reducible refine CondK.ff ?_ | refine IdxK.mk am hae (by omega) (by omega) ?_ | refine LdK.mk _ (by assumption) ?_ | refine CallK.mk _ hct ?_ | refine AppK.mk (by decide) (by decide) (.inl (by decide)) rfl (fun cap3 hcap3 => ?_) | fail)
              exact ⟨⟨(p + 1, some cap3), hlt6, by show List.length _ ≤ _; rw [hfs2]; exact hcap3⟩, 5, ⟨⟨rfl, rfl, rfl, congrArg (fun t : List Int => some (PV.s 5 t.length cap3 1)) hfs2.symm, rfl, rfl, rfl, rfl, rfl, look_int (i64_succ (by omega)), trivial⟩, ⟨congrArg (fun t : List Int => some (cellsI t)) hfs2.symm, rfl, trivial⟩, rfl, rfl⟩, rfl, by simp only; omega⟩
            | some cp =>
              have hri0 : ((rawTo ivs fr cd.K s j) ++ lackF fr (m.take p)).length ≤ cp := hri
              have hal6 := allOneI ((rawTo ivs fr cd.K s j) ++ lackF fr (m.take p))
              have hce : cellsI (((rawTo ivs fr cd.K s j) ++ lackF fr (m.take p)) ++ [n]) = cellsI ((rawTo ivs fr cd.K s j) ++ lackF fr (m.take p)) ++ [.int .i64 n] := by unfold cellsI; simp
              repeat' ((conv => whnf); first | with_reducible refine CondK.tt ?_ | with_reducible refine CondK.ff ?_ | refine IdxK.mk am hae (by omega) (by omega) ?_ | refine LdK.mk _ (by assumption) ?_ | refine CallK.mk _ hct ?_ | refine AppK.mk (by show (2 * _ + 512) * 8 ≤ 281474976710656; omega) (by omega) (.inr rfl) (by first | exact hal6 | rfl) (fun cap3 hcap3 => ?_) | fail)
              exact ⟨⟨(p + 1, some cap3), hlt6, by show List.length _ ≤ _; rw [hfs2, List.length_append]; exact hcap3⟩, 5, ⟨⟨rfl, rfl, rfl, congrArg (fun t => some (PV.s 5 t cap3 1)) (by rw [hfs2]; simp only [List.length_append, List.length_cons, List.length_nil]), rfl, rfl, rfl, rfl, rfl, look_int (i64_succ (by omega)), trivial⟩, ⟨congrArg some (by rw [hfs2, hce]), rfl, trivial⟩, rfl, rfl⟩, rfl, by simp only; omega⟩
        · have hpl : p = m.length := by
            have : ¬ p < m.length := by simpa using h6
            omega
          subst hpl
          have hfin : rawTo ivs fr cd.K s (j + 1) = (rawTo ivs fr cd.K s j) ++ lackF fr (m.take m.length) := by rw [hst2, List.take_length]
          (conv => whnf)
          cases o with
          | none => exact ⟨⟨((j + 1, none), N4), hlt, by show RowOX _ _; rw [hfin]; exact hri, hle2.trans e4⟩, 2, ⟨⟨rfl, rfl, rfl, congrArg (fun t : List Int => some (rowPX t.length none)) hfin.symm, rfl, rfl, look_int (i64_succ (by omega)), trivial⟩, ⟨rfl, trivial⟩, rfl, rfl⟩, rfl, by simp only; omega⟩
          | some cp => exact ⟨⟨((j + 1, some cp), N4), hlt, by show RowOX _ _; rw [hfin]; exact hri, hle2.trans e4⟩, 2, ⟨⟨rfl, rfl, rfl, congrArg (fun t : List Int => some (rowPX t.length (some cp))) hfin.symm, rfl, rfl, look_int (i64_succ (by omega)), trivial⟩, ⟨congrArg (fun t : List Int => some (cellsI t)) hfin.symm, rfl, trivial⟩, rfl, rfl⟩, rfl, by simp only; omega⟩
  · have hjl : j = ivs.length := by
      have : ¬ j < ivs.length := by simpa using h1
      omega
    subst hjl
    have hrl2 : (rawTo ivs fr cd.K s ivs.length).length ≤ 420 := by omega
    cases o with
    | none =>
      have hr0 : rawTo ivs fr cd.K s ivs.length = [] := hro
      have ho : outF (rawTo ivs fr cd.K s ivs.length) = [] := by
        rw [hr0]
        refine List.eq_nil_of_length_eq_zero ?_
        have h1 := compact_le (srt [])
        rw [srt_len] at h1
        exact Nat.le_zero.1 h1
      rw [ho]
      (conv => whnf)
      refine CallK.mk _ (sortInts_0 _ none 0) ?_
      (conv => whnf)
      refine CallK.mk _ (compactInts_0 _ none 0) ?_
      (conv => whnf)
      exact RetK.mk fun g M' hl hg => ⟨none, 0, rfl, SlR.nil⟩
    | some cap =>
      have hcap : (rawTo ivs fr cd.K s ivs.length).length ≤ cap := hro
      (conv => whnf)
      refine PubK.fr fun av N3 hl3 hc3 hroom3 hfresh3 hdom3 => ?_
      (conv => whnf)
      have hrow : RowN M N3 1 (some av) (rawTo ivs fr cd.K s ivs.length).length cap (cellsI (rawTo ivs fr cd.K s ivs.length)) := .inr ⟨av, rfl, ⟨by rw [cellsI_len]; omega, hcap, fun o u hu => hc3 o u hu, fun o ho => hroom3 o ho⟩, fun a u hu => hfresh3 a u (e2 a u hu)⟩
      refine sortInts_k rfl hrow (rowI _) (by omega) (e2.trans hl3) (fun N4 ds4 hM4 hrow4 hr4 => ?_)
      (conv => whnf)
      have hsl : (srt (rawTo ivs fr cd.K s ivs.length)).length = (rawTo ivs fr cd.K s ivs.length).length := srt_len _
      have hk2 := fun (K : Value → Mem → Prop) (k : ∀ N' ds', Le M N' → RowN M N' 1 (some av) (Lib.compact (srt (rawTo ivs fr cd.K s ivs.length))).length cap ds' → RowR N' RInt 1 (Lib.compact (srt (rawTo ivs fr cd.K s ivs.length))) ds' → K (.slice (some av) (Lib.compact (srt (rawTo ivs fr cd.K s ivs.length))).length cap) N') => compactInts_k (wr := true) rfl hrow4 hr4 (by rw [hsl]; omega) hM4 k
      rw [hsl] at hk2
      refine hk2 _ (fun N5 ds5 hM5 hrow5 hr5 => ?_)
      (conv => whnf)
      have hol : (outF (rawTo ivs fr cd.K s ivs.length)).length ≤ 9223372036854775807 := by
        have h1 := compact_le (srt (rawTo ivs fr cd.K s ivs.length))
        rw [hsl] at h1
        show (Lib.compact _).length ≤ _
        omega
      exact RetK.mk fun g M' hl hg => ⟨some av, cap, rfl, (hrow5.slS' hr5 (fun _ _ h => h) hol).mono (sub_mono _ hl) (fun _ _ h => h)⟩
end Go.Proofs.YtgeofmoojifkmaaGreat.Hlp
namespace Go.Proofs.YtgeofmoojifkmaaGreat.Hlp
open Go Go.RowKit Go.Proofs Go.Proofs.YtgeofmoojifkmaaGreat.Lw
set_option linter.unusedVariables false
set_option linter.unusedSimpArgs false
set_option maxRecDepth 100000
set_option maxHeartbeats 4000000
theorem mem_heardIn_len {ivs : List GInterval} (hi : intervalsF ivs = true) {l : List GNotice} (hl : noticesOkF l = true) {y : GInterval} (hy : y ∈ ivs) : (heardIn y.Acting (fromsF l)).length = (heF y.Acting (fromsF l)).length := (heF_len (intervals_at hi hy) hl).symm
/-- The spec's list is the implementation's. -/
theorem lacks_eq {ivs : List GInterval} (hi : intervalsF ivs = true) {l : List GNotice} (hl : noticesOkF l = true) (k s : Int) : spTo (ivs.filter fun y => needF y s) (fromsF l) k (ivs.filter fun y => needF y s).length = outF (rawTo ivs (fromsF l) k s ivs.length) := by
  have h7 : ∀ y ∈ ivs.filter (fun y => needF y s), y.Acting.length ≤ 7 := fun y hy => acting_le (intervals_at hi (List.mem_filter.1 hy).1)
  obtain ⟨g1, g2, _⟩ := spTo_ok (fr := fromsF l) (k := k) h7 _ (Nat.le_refl _)
  obtain ⟨f1, f2⟩ := outF_ok (rawTo ivs (fromsF l) k s ivs.length)
  refine si_ext g1 f1 fun x => ?_
  rw [g2, f2, List.take_length]
  unfold rawTo
  rw [List.take_length, List.mem_flatMap]
  have hlk : ∀ (m : List Int), x ∈ lackF (fromsF l) m ↔ x ∈ m ∧ x ∉ fromsF l := fun m => by
    unfold lackF
    rw [List.mem_filter]
    simp only [Bool.not_eq_true', List.any_eq_false, decide_eq_true_eq]
    constructor
    · rintro ⟨p, q⟩; exact ⟨p, fun h => q x h rfl⟩
    · rintro ⟨p, q⟩; exact ⟨p, fun z hz he => q (he ▸ hz)⟩
  constructor
  · rintro ⟨y, hy, hk, hm, hx⟩
    obtain ⟨hy1, hy2⟩ := List.mem_filter.1 hy
    refine ⟨y, hy1, ?_⟩
    have hb : hBad (fromsF l) k s y = true := by
      unfold hBad
      rw [hy2, Bool.true_and]
      rw [mem_heardIn_len hi hl hy1] at hk
      exact decide_eq_true hk
    unfold rawOne
    rw [if_pos hb, hlk, mem_memF]
    obtain ⟨p, q⟩ := ((memS_ok y.Acting).2.1 x).1 hm
    exact ⟨⟨p, by omega⟩, hx⟩
  · rintro ⟨y, hy, hx⟩
    unfold rawOne at hx
    split at hx
    · rename_i hb
      rw [hlk, mem_memF] at hx
      unfold hBad at hb
      simp only [Bool.and_eq_true, decide_eq_true_eq] at hb
      refine ⟨y, List.mem_filter.2 ⟨hy, hb.1⟩, by rw [mem_heardIn_len hi hl hy]; exact hb.2, ((memS_ok y.Acting).2.1 x).2 ⟨hx.1.1, ?_⟩, hx.2⟩
      obtain ⟨j, hj⟩ := List.getElem?_of_mem hx.1.1
      have h1 := (acting_at (intervals_at hi hy) hj).1
      have := hx.1.2
      omega
    · cases hx
def slF (ivs : List GInterval) (c : GCode) (l : List GNotice) : List Int := if (voF ivs c l).2 = 8 then outF (rawTo ivs (fromsF l) c.K (startedF l) ivs.length) else []
theorem slF_len (ivs : List GInterval) (c : GCode) (l : List GNotice) : (slF ivs c l).length ≤ 420 := by
  unfold slF
  split
  · rename_i h
    unfold voF at h
    split at h
    · rename_i hp
      obtain ⟨hi, _, _⟩ := peer_in hp
      have h7 : ∀ y ∈ ivs, y.Acting.length ≤ 7 := fun y hy => acting_le (intervals_at hi hy)
      have h1 := rawTo_len (fr := fromsF l) (k := c.K) (s := startedF l) h7 ivs.length
      have h2 := intervals_len hi
      have h3 := compact_le (srt (rawTo ivs (fromsF l) c.K (startedF l) ivs.length))
      rw [srt_len] at h3
      show (Lib.compact _).length ≤ _
      omega
    · simp at h
  · exact Nat.zero_le _
theorem iStillLacks_f (M : Mem) (ivs : List GInterval) (A : Option Addr) (c : Nat) (h : SlR M RInterval 4 48 A c ivs) (cd : GCode) (l : List GNotice) (B : Option Addr) (dc : Nat) (hl : SlR M RNotice 13 168 B dc l) : AnsR Tryz.prog M 6 #[.slice A ivs.length c, .agg #[.int .i64 cd.K, .int .i64 cd.M], .slice B l.length dc] (fun M' v => ∃ A' c', v = .slice A' (slF ivs cd l).length c' ∧ SlR (sub M' M) RInt 1 8 A' c' (slF ivs cd l)) := by
  have g1 := peeringOk_a M ivs A c h cd l B dc hl
  have g2 := fun h1 h2 h3 => stillLacks_f M ivs A c h h1 cd h2 l B dc hl h3
  refine ansR_of T (l := [.slice A ivs.length c, .agg #[.int .i64 cd.K, .int .i64 cd.M], .slice B l.length dc]) mixed Tryz.func6 rfl (by kernel_rfl) (Nat.le_of_ble_eq_true rfl) ?_
  unfold slF voF
  cases q1 : peerF ivs cd l with
  | false =>
    rw [q1] at g1
    rw [if_neg (by simp : ¬ ((if (false = true) then verF ivs cd.K l else ((⟨0, 0⟩ : GVer), (1 : Int))).2 = 8))]
    repeat' ((conv => whnf); first | with_reducible refine CondK.tt ?_ | with_reducible refine CondK.ff ?_ | refine CallK.mk _ g1 ?_ | fail)
    exact RetK.mk fun _ _ _ _ => ⟨none, 0, rfl, SlR.nil⟩
  | true =>
    rw [q1] at g1
    rw [if_pos rfl]
    obtain ⟨h1, h2, h3⟩ := peer_in q1
    repeat' ((conv => whnf); first | with_reducible refine CondK.tt ?_ | with_reducible refine CondK.ff ?_ | refine CallK.mk _ g1 ?_ | (refine CallK.mr _ (g2 h1 h2 h3) (fun v N hl1 hv => ?_); obtain ⟨A', c', rfl, hr⟩ := hv) | fail)
    exact RetK.mk fun g M' hl' hg => ⟨A', c', rfl, hr.mono (sub_mono _ hl') (fun _ _ h => h)⟩
theorem sStillLacks_a (M : Mem) (ivs : List GInterval) (A : Option Addr) (c : Nat) (h : SlR M RInterval 4 48 A c ivs) (cd : GCode) (l : List GNotice) (B : Option Addr) (dc : Nat) (hl : SlR M RNotice 13 168 B dc l) : AnsR Tryz.prog M 8 #[.slice A ivs.length c, .agg #[.int .i64 cd.K, .int .i64 cd.M], .slice B l.length dc] (fun M' v => ∃ A' c', v = .slice A' (slF ivs cd l).length c' ∧ SlR M' RInt 1 8 A' c' (slF ivs cd l)) := by
  have hvo := sVerOf_r M ivs A c h cd l B dc hl
  refine ansR_of T (l := [.slice A ivs.length c, .agg #[.int .i64 cd.K, .int .i64 cd.M], .slice B l.length dc]) mixed Tryz.func8 rfl (by kernel_rfl) (Nat.le_of_ble_eq_true rfl) ?_
  have hpeer : (voF ivs cd l).2 = 8 → peerF ivs cd l = true := fun h8 => by
    unfold voF at h8
    split at h8
    · assumption
    · simp at h8
  have hsl : slF ivs cd l = if (voF ivs cd l).2 = 8 then outF (rawTo ivs (fromsF l) cd.K (startedF l) ivs.length) else [] := rfl
  generalize voF ivs cd l = vc at hvo hpeer hsl
  obtain ⟨ver, code⟩ := vc
  simp only at hvo hpeer hsl
  rw [hsl]
  (conv => whnf)
  refine CallK.mr _ hvo (fun v N0 hl0 hv => ?_)
  subst hv
  (conv => whnf)
  by_cases hc8 : code = 8
  case neg =>
    rw [if_neg hc8]
    have q1 : (code != 8) = true := by simp [hc8]
    rw [q1]
    (conv => whnf)
    exact RetK.mk fun g M' hl' hg => ⟨_, _, rfl, SlR.nil⟩
  rw [if_pos hc8]
  have q1 : (code != 8) = false := by simp [hc8]
  obtain ⟨hiv, hk1, hno⟩ := peer_in (hpeer hc8)
  have hln := notices_len hno
  have hil := intervals_len hiv
  have hac7 : ∀ y ∈ ivs, y.Acting.length ≤ 7 := fun y hy => acting_le (intervals_at hiv hy)
  rw [← lacks_eq hiv hno]
  have hps : ∀ y ∈ fromsF l, 0 ≤ y := fun y hy => froms_nonneg hno hy
  have hst := fun N (hN : Le M N) => l22Started_a N l B dc (hl.mono hN (RNotice.mono hN))
  generalize startedF l = s at hst ⊢
  have hfl : (fromsF l).length ≤ 16 := by rw [fromsF_len]; exact hln
  rw [q1]
  (conv => whnf)
  refine CallK.mr _ (l22Froms_f N0 l B dc (hl.mono hl0 (RNotice.mono hl0)) hln) (fun v N1 hl1 hv => ?_)
  obtain ⟨Af, cf, rfl, hfr⟩ := hv
  have e1 := hl0.trans hl1
  (conv => whnf)
  refine CallK.mk _ (hst N1 e1) ?_
  (conv => whnf)
  refine CallK.mr _ (l13Need_f N1 ivs A c (h.mono e1 (RInterval.mono e1)) hil (fun y hy => by have := hac7 y hy; omega) s) (fun v N2 hl2 hv => ?_)
  obtain ⟨An, cn, rfl, hnd⟩ := hv
  have hnd7 : ∀ y ∈ ivs.filter (fun y => needF y s), y.Acting.length ≤ 7 := fun y hy => hac7 y (List.mem_filter.1 hy).1
  have hndl : (ivs.filter fun y => needF y s).length ≤ 60 := Nat.le_trans (List.length_filter_le _ _) hil
  generalize (ivs.filter fun y => needF y s) = nd at hnd hnd7 hndl ⊢
  generalize fromsF l = fr at hfr hfl hps ⊢
  replace hfr := hfr.mono hl2 (fun _ _ h => h)
  (conv => whnf)
  refine LoopK.mk {q : (Nat × Option (Option Addr × Nat)) × Mem // q.1.1 ≤ nd.length ∧ Le N2 q.2 ∧ RZ q.2 q.1.2 (spTo nd fr cd.K q.1.1)} (fun ⟨⟨⟨i, o⟩, _⟩, _⟩ => [(4, .p 0 0), (7, rowZ 1 (spTo nd fr cd.K i).length o), (10, .v (.slice Af fr.length cf)), (11, .v (.slice An nd.length cn)), (12, .v (.int .i64 (i : Int)))]) (fun ⟨⟨⟨i, o⟩, _⟩, _⟩ => boxZ 1 o [(0, [.int .i64 cd.K, .int .i64 cd.M])]) (fun q => q.1.2) (fun q => nd.length - q.1.1.1) ⟨((0, none), N2), Nat.zero_le _, Le.refl N2, rfl⟩ ⟨⟨⟨rfl, rfl, rfl, rfl, rfl, trivial⟩, ⟨rfl, rfl, trivial⟩, rfl, rfl⟩, rfl⟩ ?_
  rintro ⟨⟨⟨i, o⟩, N3⟩, hi, hle3, hro⟩
  simp only at hi hle3 hro
  have hspl := (spTo_ok (fr := fr) (k := cd.K) hnd7 i hi).2.2
  (conv => whnf)
  refine CondK.mk (fun h1 => ?_) (fun h1 => ?_)
  · have hlt : i < nd.length := by simpa using h1
    obtain ⟨y, hyk⟩ : ∃ y, nd[i] = y := ⟨_, rfl⟩
    have hy : nd[i]? = some y := by rw [List.getElem?_eq_getElem hlt, hyk]
    have hy7 := hnd7 y (List.mem_of_getElem? hy)
    obtain ⟨ad, rfl, A0, c0, bny, s0, y0, y1, y2, y3⟩ := at_Interval (hnd.mono hle3 (RInterval.mono hle3)) hy
    have hfr3 := hfr.mono hle3 (fun _ _ h => h)
    have hhd := l13Heard_f N3 fr Af cf hfr3 hfl hps y _ ⟨A0, c0, rfl, bny, s0⟩
    have hst2 := spTo_step (fr := fr) (k := cd.K) hy
    have hms := memS_ok y.Acting
    cases o with
    | none =>
      replace hro : (spTo nd fr cd.K i) = [] := hro
      (conv => whnf)
      have hz := Le.refl N3
      refine DrawN.h {N : Mem // Le N3 N} (fun _ => [(4, .p 0 0), (7, rowZ 1 (spTo nd fr cd.K i).length none), (10, .v (.slice Af fr.length cf)), (11, .v (.slice (some ad) nd.length cn)), (12, .v (.int .i64 (i : Int))), (47, .v (.bool (decide (((heardIn y.Acting fr).length : Int) ≥ cd.K))))]) (fun _ => boxZ 1 none [(0, [.int .i64 cd.K, .int .i64 cd.M])]) 3 (fun N => N.1) (by kernel_rfl) ?_ ?_
      · repeat' ((conv => whnf); first | refine AndK.mk ?_ ?_ | refine HeldK.mk (by kernel_rfl) ?_ | refine IdxK.mk _ rfl (by omega) (by omega) ?_ | refine LdK.mk _ (by assumption) ?_ | (refine CallK.mr _ hhd (fun v M4 hl4 hv => ?_); obtain ⟨A4, c4, rfl, r4⟩ := hv; replace hz := hl4) | fail)
        all_goals exact ⟨⟨_, hz⟩, ⟨⟨rfl, rfl, rfl, rfl, rfl, rfl, trivial⟩, ⟨rfl, rfl, trivial⟩, rfl, rfl⟩, rfl⟩
      clear hz
      rintro ⟨N4, hl4⟩
      by_cases hc : ((heardIn y.Acting fr).length : Int) ≥ cd.K
      · have hst3 : spTo nd fr cd.K (i + 1) = (spTo nd fr cd.K i) := by rw [hst2]; unfold spOne; rw [if_pos hc]
        have hcd := decide_eq_true hc
        repeat' ((conv => whnf); first | refine CondK.yes' hcd ?_ | fail)
        exact ⟨⟨((i + 1, none), N4), hlt, hle3.trans hl4, by show _ = _; rw [hst3]; exact hro⟩, ⟨⟨rfl, rfl, rfl, rfl, look_int (i64_succ (by omega)), trivial⟩, ⟨rfl, rfl, trivial⟩, rfl, rfl⟩, rfl, by simp only; omega⟩
      · have hst3 : spTo nd fr cd.K (i + 1) = inTo fr (memS y.Acting) (spTo nd fr cd.K i) (memS y.Acting).length := by rw [hst2]; unfold spOne; rw [if_neg hc]
        have hcd := decide_eq_false hc
        have w2 := hl4 _ _ y2
        repeat' ((conv => whnf); first | refine CondK.no' hcd ?_ | refine IdxK.mk _ rfl (by omega) (by omega) ?_ | refine LdK.mk _ (by assumption) ?_ | fail)
        refine CallK.mr _ (l12Members_f N4 y.Acting A0 c0 (s0.mono hl4 (fun _ _ h => h)) (by omega)) (fun v N5 hl5 hv => ?_)
        obtain ⟨Am, cm, rfl, hmm⟩ := hv
        have e5 := hl4.trans hl5
        have hsi := (spTo_ok (fr := fr) (k := cd.K) hnd7 i hi).1
        have hml : (memS y.Acting).length ≤ 7 := by have := hms.2.2; omega
        have hno0 : (spTo nd fr cd.K i) = inTo fr (memS y.Acting) (spTo nd fr cd.K i) 0 := by unfold inTo; simp
        generalize hmd : memS y.Acting = m at hmm hml hst3 hno0
        (conv => whnf)
        refine LoopK.mk {q : (Nat × Option (Option Addr × Nat)) × Mem // q.1.1 ≤ m.length ∧ Le N5 q.2 ∧ RZ q.2 q.1.2 (inTo fr m (spTo nd fr cd.K i) q.1.1)} (fun ⟨⟨⟨p, o⟩, _⟩, _⟩ => [(4, .p 0 0), (7, rowZ 1 (inTo fr m (spTo nd fr cd.K i) p).length o), (10, .v (.slice Af fr.length cf)), (11, .v (.slice (some ad) nd.length cn)), (12, .v (.int .i64 (i : Int))), (13, .v (.slice Am m.length cm)), (14, .v (.int .i64 (p : Int)))]) (fun ⟨⟨⟨p, o⟩, _⟩, _⟩ => boxZ 1 o [(0, [.int .i64 cd.K, .int .i64 cd.M])]) (fun q => q.1.2) (fun q => m.length - q.1.1.1) ⟨((0, none), N5), Nat.zero_le _, Le.refl N5, by show _ = _; rw [← hno0]; exact hro⟩ ⟨⟨⟨rfl, rfl, rfl, rfl, rfl, rfl, rfl, trivial⟩, ⟨rfl, rfl, trivial⟩, rfl, rfl⟩, rfl⟩ ?_
        rintro ⟨⟨⟨p, o⟩, N6⟩, hp, hle6, hri⟩
        simp only at hp hle6 hri
        have hinl := (inTo_ok (fr := fr) (m := m) hsi p hp).2.2
        (conv => whnf)
        refine CondK.mk (fun h6 => ?_) (fun h6 => ?_)
        · have hlt6 : p < m.length := by simpa using h6
          obtain ⟨n, hnk⟩ : ∃ n, m[p] = n := ⟨_, rfl⟩
          have hn : m[p]? = some n := by rw [List.getElem?_eq_getElem hlt6, hnk]
          obtain ⟨am, hae, _, z0⟩ := at_Int (hmm.mono hle6 (fun _ _ h => h)) hn
          have hct := l00Has_a N6 fr Af cf (hfr3.mono (e5.trans hle6) (fun _ _ h => h)) n
          have hps2 : inTo fr m (spTo nd fr cd.K i) (p + 1) = inStep fr (inTo fr m (spTo nd fr cd.K i) p) n := inTo_step hn
          cases hh : fr.any (fun z => decide (n = z)) with
          | true =>
            rw [hh] at hct
            have hps3 : inTo fr m (spTo nd fr cd.K i) (p + 1) = inTo fr m (spTo nd fr cd.K i) p := by rw [hps2]; unfold inStep; rw [if_pos hh]
            cases o with
            | none =>
              repeat' ((conv => whnf); first | with_reducible refine CondK.tt ?_ | with_reducible refine CondK.ff ?_ | refine IdxK.mk am hae (by omega) (by omega) ?_ | refine LdK.mk _ (by assumption) ?_ | refine CallK.mk _ hct ?_ | fail)
              exact ⟨⟨((p + 1, none), N6), hlt6, hle6, by show _ = _; rw [hps3]; exact hri⟩, ⟨⟨rfl, rfl, rfl, rfl, rfl, rfl, look_int (i64_succ (by omega)), trivial⟩, ⟨rfl, rfl, trivial⟩, rfl, rfl⟩, rfl, by simp only; omega⟩
            | some q =>
              obtain ⟨Ap, cp⟩ := q
              repeat' ((conv => whnf); first | with_reducible refine CondK.tt ?_ | with_reducible refine CondK.ff ?_ | refine IdxK.mk am hae (by omega) (by omega) ?_ | refine LdK.mk _ (by assumption) ?_ | refine CallK.mk _ hct ?_ | fail)
              exact ⟨⟨((p + 1, some (Ap, cp)), N6), hlt6, hle6, by show SlR N6 RInt 1 8 Ap cp _; rw [hps3]; exact hri⟩, ⟨⟨rfl, congrArg (fun t : List Int => some (PV.v (Value.slice Ap t.length cp))) hps3.symm, rfl, rfl, rfl, rfl, look_int (i64_succ (by omega)), trivial⟩, ⟨rfl, trivial⟩, rfl, rfl⟩, rfl, by simp only; omega⟩
          | false =>
            rw [hh] at hct
            have hps3 : inTo fr m (spTo nd fr cd.K i) (p + 1) = putI (inTo fr m (spTo nd fr cd.K i) p) n := by rw [hps2]; unfold inStep; rw [if_neg (by rw [hh]; decide)]
            cases o with
            | none =>
              have hri0 : inTo fr m (spTo nd fr cd.K i) p = [] := hri
              rw [hri0] at hps3
              repeat' ((conv => whnf); first | with_reducible refine CondK.tt ?_ | with_reducible refine CondK.ff ?_ | refine IdxK.mk am hae (by omega) (by omega) ?_ | refine LdK.mk _ (by assumption) ?_ | refine CallK.mk _ hct ?_ | fail)
              refine PubK.mk fun a2 N7 hl7 hc7 => ?_
              (conv => whnf)
              refine CallK.mr _ (l00Put_f N7 [] (some a2) 0 SlR.nil (by decide) n) (fun v N8 hl8 hv => ?_)
              obtain ⟨A', c', rfl, hr'⟩ := hv
              (conv => whnf)
              exact ⟨⟨((p + 1, some (A', c')), N8), hlt6, hle6.trans (hl7.trans hl8), by show SlR N8 RInt 1 8 A' c' _; rw [hps3]; exact hr'⟩, ⟨⟨rfl, congrArg (fun t : List Int => some (PV.v (Value.slice A' t.length c'))) hps3.symm, rfl, rfl, rfl, rfl, look_int (i64_succ (by omega)), trivial⟩, ⟨rfl, trivial⟩, rfl, rfl⟩, rfl, by simp only; omega⟩
            | some q =>
              obtain ⟨Ap, cp⟩ := q
              replace hri : SlR N6 RInt 1 8 Ap cp (inTo fr m (spTo nd fr cd.K i) p) := hri
              repeat' ((conv => whnf); first | with_reducible refine CondK.tt ?_ | with_reducible refine CondK.ff ?_ | refine IdxK.mk am hae (by omega) (by omega) ?_ | refine LdK.mk _ (by assumption) ?_ | refine CallK.mk _ hct ?_ | fail)
              refine CallK.mr _ (l00Put_f N6 (inTo fr m (spTo nd fr cd.K i) p) Ap cp hri (by omega) n) (fun v N8 hl8 hv => ?_)
              obtain ⟨A', c', rfl, hr'⟩ := hv
              (conv => whnf)
              exact ⟨⟨((p + 1, some (A', c')), N8), hlt6, hle6.trans hl8, by show SlR N8 RInt 1 8 A' c' _; rw [hps3]; exact hr'⟩, ⟨⟨rfl, congrArg (fun t : List Int => some (PV.v (Value.slice A' t.length c'))) hps3.symm, rfl, rfl, rfl, rfl, look_int (i64_succ (by omega)), trivial⟩, ⟨rfl, trivial⟩, rfl, rfl⟩, rfl, by simp only; omega⟩
        · have hpl : p = m.length := by
            have : ¬ p < m.length := by simpa using h6
            omega
          subst hpl
          (conv => whnf)
          cases o with
          | none => exact ⟨⟨((i + 1, none), N6), hlt, hle3.trans (e5.trans hle6), by show _ = _; rw [hst3]; exact hri⟩, ⟨⟨rfl, rfl, rfl, rfl, look_int (i64_succ (by omega)), trivial⟩, ⟨rfl, rfl, trivial⟩, rfl, rfl⟩, rfl, by simp only; omega⟩
          | some q =>
            obtain ⟨Ap, cp⟩ := q
            exact ⟨⟨((i + 1, some (Ap, cp)), N6), hlt, hle3.trans (e5.trans hle6), by show SlR N6 RInt 1 8 Ap cp _; rw [hst3]; exact hri⟩, ⟨⟨rfl, congrArg (fun t : List Int => some (PV.v (Value.slice Ap t.length cp))) hst3.symm, rfl, rfl, look_int (i64_succ (by omega)), trivial⟩, ⟨rfl, trivial⟩, rfl, rfl⟩, rfl, by simp only; omega⟩
    | some q =>
      obtain ⟨Ao, co⟩ := q
      replace hro : SlR N3 RInt 1 8 Ao co (spTo nd fr cd.K i) := hro
      (conv => whnf)
      have hz := Le.refl N3
      refine DrawN.h {N : Mem // Le N3 N} (fun _ => [(4, .p 0 0), (7, rowZ 1 (spTo nd fr cd.K i).length (some (Ao, co))), (10, .v (.slice Af fr.length cf)), (11, .v (.slice (some ad) nd.length cn)), (12, .v (.int .i64 (i : Int))), (47, .v (.bool (decide (((heardIn y.Acting fr).length : Int) ≥ cd.K))))]) (fun _ => boxZ 1 (some (Ao, co)) [(0, [.int .i64 cd.K, .int .i64 cd.M])]) 3 (fun N => N.1) (by kernel_rfl) ?_ ?_
      · repeat' ((conv => whnf); first | refine AndK.mk ?_ ?_ | refine HeldK.mk (by kernel_rfl) ?_ | refine IdxK.mk _ rfl (by omega) (by omega) ?_ | refine LdK.mk _ (by assumption) ?_ | (refine CallK.mr _ hhd (fun v M4 hl4 hv => ?_); obtain ⟨A4, c4, rfl, r4⟩ := hv; replace hz := hl4) | fail)
        all_goals exact ⟨⟨_, hz⟩, ⟨⟨rfl, rfl, rfl, rfl, rfl, rfl, trivial⟩, ⟨rfl, trivial⟩, rfl, rfl⟩, rfl⟩
      clear hz
      rintro ⟨N4, hl4⟩
      by_cases hc : ((heardIn y.Acting fr).length : Int) ≥ cd.K
      · have hst3 : spTo nd fr cd.K (i + 1) = (spTo nd fr cd.K i) := by rw [hst2]; unfold spOne; rw [if_pos hc]
        have hcd := decide_eq_true hc
        repeat' ((conv => whnf); first | refine CondK.yes' hcd ?_ | fail)
        exact ⟨⟨((i + 1, some (Ao, co)), N4), hlt, hle3.trans hl4, by show SlR N4 RInt 1 8 Ao co _; rw [hst3]; exact hro.mono hl4 (fun _ _ h => h)⟩, ⟨⟨rfl, congrArg (fun t : List Int => some (PV.v (Value.slice Ao t.length co))) hst3.symm, rfl, rfl, look_int (i64_succ (by omega)), trivial⟩, ⟨rfl, trivial⟩, rfl, rfl⟩, rfl, by simp only; omega⟩
      · have hst3 : spTo nd fr cd.K (i + 1) = inTo fr (memS y.Acting) (spTo nd fr cd.K i) (memS y.Acting).length := by rw [hst2]; unfold spOne; rw [if_neg hc]
        have hcd := decide_eq_false hc
        have w2 := hl4 _ _ y2
        repeat' ((conv => whnf); first | refine CondK.no' hcd ?_ | refine IdxK.mk _ rfl (by omega) (by omega) ?_ | refine LdK.mk _ (by assumption) ?_ | fail)
        refine CallK.mr _ (l12Members_f N4 y.Acting A0 c0 (s0.mono hl4 (fun _ _ h => h)) (by omega)) (fun v N5 hl5 hv => ?_)
        obtain ⟨Am, cm, rfl, hmm⟩ := hv
        have e5 := hl4.trans hl5
        have hsi := (spTo_ok (fr := fr) (k := cd.K) hnd7 i hi).1
        have hml : (memS y.Acting).length ≤ 7 := by have := hms.2.2; omega
        have hno0 : (spTo nd fr cd.K i) = inTo fr (memS y.Acting) (spTo nd fr cd.K i) 0 := by unfold inTo; simp
        generalize hmd : memS y.Acting = m at hmm hml hst3 hno0
        (conv => whnf)
        refine LoopK.mk {q : (Nat × Option (Option Addr × Nat)) × Mem // q.1.1 ≤ m.length ∧ Le N5 q.2 ∧ RZ q.2 q.1.2 (inTo fr m (spTo nd fr cd.K i) q.1.1)} (fun ⟨⟨⟨p, o⟩, _⟩, _⟩ => [(4, .p 0 0), (7, rowZ 1 (inTo fr m (spTo nd fr cd.K i) p).length o), (10, .v (.slice Af fr.length cf)), (11, .v (.slice (some ad) nd.length cn)), (12, .v (.int .i64 (i : Int))), (13, .v (.slice Am m.length cm)), (14, .v (.int .i64 (p : Int)))]) (fun ⟨⟨⟨p, o⟩, _⟩, _⟩ => boxZ 1 o [(0, [.int .i64 cd.K, .int .i64 cd.M])]) (fun q => q.1.2) (fun q => m.length - q.1.1.1) ⟨((0, (some (Ao, co))), N5), Nat.zero_le _, Le.refl N5, by show SlR N5 RInt 1 8 Ao co _; rw [← hno0]; exact hro.mono e5 (fun _ _ h => h)⟩ ⟨⟨⟨rfl, congrArg (fun t : List Int => some (PV.v (Value.slice Ao t.length co))) hno0, rfl, rfl, rfl, rfl, rfl, trivial⟩, ⟨rfl, trivial⟩, rfl, rfl⟩, rfl⟩ ?_
        rintro ⟨⟨⟨p, o⟩, N6⟩, hp, hle6, hri⟩
        simp only at hp hle6 hri
        have hinl := (inTo_ok (fr := fr) (m := m) hsi p hp).2.2
        (conv => whnf)
        refine CondK.mk (fun h6 => ?_) (fun h6 => ?_)
        · have hlt6 : p < m.length := by simpa using h6
          obtain ⟨n, hnk⟩ : ∃ n, m[p] = n := ⟨_, rfl⟩
          have hn : m[p]? = some n := by rw [List.getElem?_eq_getElem hlt6, hnk]
          obtain ⟨am, hae, _, z0⟩ := at_Int (hmm.mono hle6 (fun _ _ h => h)) hn
          have hct := l00Has_a N6 fr Af cf (hfr3.mono (e5.trans hle6) (fun _ _ h => h)) n
          have hps2 : inTo fr m (spTo nd fr cd.K i) (p + 1) = inStep fr (inTo fr m (spTo nd fr cd.K i) p) n := inTo_step hn
          cases hh : fr.any (fun z => decide (n = z)) with
          | true =>
            rw [hh] at hct
            have hps3 : inTo fr m (spTo nd fr cd.K i) (p + 1) = inTo fr m (spTo nd fr cd.K i) p := by rw [hps2]; unfold inStep; rw [if_pos hh]
            cases o with
            | none =>
              repeat' ((conv => whnf); first | with_reducible refine CondK.tt ?_ | with_reducible refine CondK.ff ?_ | refine IdxK.mk am hae (by omega) (by omega) ?_ | refine LdK.mk _ (by assumption) ?_ | refine CallK.mk _ hct ?_ | fail)
              exact ⟨⟨((p + 1, none), N6), hlt6, hle6, by show _ = _; rw [hps3]; exact hri⟩, ⟨⟨rfl, rfl, rfl, rfl, rfl, rfl, look_int (i64_succ (by omega)), trivial⟩, ⟨rfl, rfl, trivial⟩, rfl, rfl⟩, rfl, by simp only; omega⟩
            | some q =>
              obtain ⟨Ap, cp⟩ := q
              repeat' ((conv => whnf); first | with_reducible refine CondK.tt ?_ | with_reducible refine CondK.ff ?_ | refine IdxK.mk am hae (by omega) (by omega) ?_ | refine LdK.mk _ (by assumption) ?_ | refine CallK.mk _ hct ?_ | fail)
              exact ⟨⟨((p + 1, some (Ap, cp)), N6), hlt6, hle6, by show SlR N6 RInt 1 8 Ap cp _; rw [hps3]; exact hri⟩, ⟨⟨rfl, congrArg (fun t : List Int => some (PV.v (Value.slice Ap t.length cp))) hps3.symm, rfl, rfl, rfl, rfl, look_int (i64_succ (by omega)), trivial⟩, ⟨rfl, trivial⟩, rfl, rfl⟩, rfl, by simp only; omega⟩
          | false =>
            rw [hh] at hct
            have hps3 : inTo fr m (spTo nd fr cd.K i) (p + 1) = putI (inTo fr m (spTo nd fr cd.K i) p) n := by rw [hps2]; unfold inStep; rw [if_neg (by rw [hh]; decide)]
            cases o with
            | none =>
              have hri0 : inTo fr m (spTo nd fr cd.K i) p = [] := hri
              rw [hri0] at hps3
              repeat' ((conv => whnf); first | with_reducible refine CondK.tt ?_ | with_reducible refine CondK.ff ?_ | refine IdxK.mk am hae (by omega) (by omega) ?_ | refine LdK.mk _ (by assumption) ?_ | refine CallK.mk _ hct ?_ | fail)
              refine PubK.mk fun a2 N7 hl7 hc7 => ?_
              (conv => whnf)
              refine CallK.mr _ (l00Put_f N7 [] (some a2) 0 SlR.nil (by decide) n) (fun v N8 hl8 hv => ?_)
              obtain ⟨A', c', rfl, hr'⟩ := hv
              (conv => whnf)
              exact ⟨⟨((p + 1, some (A', c')), N8), hlt6, hle6.trans (hl7.trans hl8), by show SlR N8 RInt 1 8 A' c' _; rw [hps3]; exact hr'⟩, ⟨⟨rfl, congrArg (fun t : List Int => some (PV.v (Value.slice A' t.length c'))) hps3.symm, rfl, rfl, rfl, rfl, look_int (i64_succ (by omega)), trivial⟩, ⟨rfl, trivial⟩, rfl, rfl⟩, rfl, by simp only; omega⟩
            | some q =>
              obtain ⟨Ap, cp⟩ := q
              replace hri : SlR N6 RInt 1 8 Ap cp (inTo fr m (spTo nd fr cd.K i) p) := hri
              repeat' ((conv => whnf); first | with_reducible refine CondK.tt ?_ | with_reducible refine CondK.ff ?_ | refine IdxK.mk am hae (by omega) (by omega) ?_ | refine LdK.mk _ (by assumption) ?_ | refine CallK.mk _ hct ?_ | fail)
              refine CallK.mr _ (l00Put_f N6 (inTo fr m (spTo nd fr cd.K i) p) Ap cp hri (by omega) n) (fun v N8 hl8 hv => ?_)
              obtain ⟨A', c', rfl, hr'⟩ := hv
              (conv => whnf)
              exact ⟨⟨((p + 1, some (A', c')), N8), hlt6, hle6.trans hl8, by show SlR N8 RInt 1 8 A' c' _; rw [hps3]; exact hr'⟩, ⟨⟨rfl, congrArg (fun t : List Int => some (PV.v (Value.slice A' t.length c'))) hps3.symm, rfl, rfl, rfl, rfl, look_int (i64_succ (by omega)), trivial⟩, ⟨rfl, trivial⟩, rfl, rfl⟩, rfl, by simp only; omega⟩
        · have hpl : p = m.length := by
            have : ¬ p < m.length := by simpa using h6
            omega
          subst hpl
          (conv => whnf)
          cases o with
          | none => exact ⟨⟨((i + 1, none), N6), hlt, hle3.trans (e5.trans hle6), by show _ = _; rw [hst3]; exact hri⟩, ⟨⟨rfl, rfl, rfl, rfl, look_int (i64_succ (by omega)), trivial⟩, ⟨rfl, rfl, trivial⟩, rfl, rfl⟩, rfl, by simp only; omega⟩
          | some q =>
            obtain ⟨Ap, cp⟩ := q
            exact ⟨⟨((i + 1, some (Ap, cp)), N6), hlt, hle3.trans (e5.trans hle6), by show SlR N6 RInt 1 8 Ap cp _; rw [hst3]; exact hri⟩, ⟨⟨rfl, congrArg (fun t : List Int => some (PV.v (Value.slice Ap t.length cp))) hst3.symm, rfl, rfl, look_int (i64_succ (by omega)), trivial⟩, ⟨rfl, trivial⟩, rfl, rfl⟩, rfl, by simp only; omega⟩
  · have hil2 : i = nd.length := by
      have : ¬ i < nd.length := by simpa using h1
      omega
    subst hil2
    (conv => whnf)
    cases o with
    | none =>
      have hr0 : spTo nd fr cd.K nd.length = [] := hro
      exact RetK.mk fun g M' hl' hg => ⟨_, _, slice_eq (by rw [hr0]; rfl), by rw [hr0]; exact SlR.nil⟩
    | some q =>
      obtain ⟨Ap, cp⟩ := q
      replace hro : SlR N3 RInt 1 8 Ap cp (spTo nd fr cd.K nd.length) := hro
      exact RetK.mk fun g M' hl' hg => ⟨Ap, cp, rfl, hro.mono hl' (fun _ _ h => h)⟩
end Go.Proofs.YtgeofmoojifkmaaGreat.Hlp
