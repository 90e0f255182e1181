/- Strictly rising lists of ints: put, sorted and compacted; spec.l00Put, spec.l12Members. -/
import Derived.Test.YtoedjkeahjmpiaaGreatFunSC
namespace Go.Proofs.YtoedjkeahjmpiaaGreat.Hlp
open Go Go.RowKit Go.Proofs Go.Proofs.YtoedjkeahjmpiaaGreat.Lw
set_option linter.unusedVariables false
set_option linter.unusedSimpArgs false
set_option maxRecDepth 100000
set_option maxHeartbeats 4000000
def putI : List Int → Int → List Int
  | [], n => [n]
  | e :: r, n => if e ≥ n then (if e > n then n :: e :: r else e :: r) else e :: putI r n
theorem mem_putI : ∀ {l : List Int} {n x : Int}, x ∈ putI l n ↔ x ∈ l ∨ x = n
  | [], n, x => by simp [putI]
  | e :: r, n, x => by
    unfold putI
    split
    · split
      · simp only [List.mem_cons]
        constructor
        · rintro (h | h | h)
          · exact .inr h
          · exact .inl (.inl h)
          · exact .inl (.inr h)
        · rintro ((h | h) | h)
          · exact .inr (.inl h)
          · exact .inr (.inr h)
          · exact .inl h
      · have he : e = n := by omega
        simp only [List.mem_cons]
        constructor
        · exact fun h => .inl h
        · rintro (h | h)
          · exact h
          · exact .inl (by omega)
    · simp only [List.mem_cons, mem_putI]
      constructor
      · rintro (h | h | h)
        · exact .inl (.inl h)
        · exact .inl (.inr h)
        · exact .inr h
      · rintro ((h | h) | h)
        · exact .inl h
        · exact .inr (.inl h)
        · exact .inr (.inr h)
theorem si_putI : ∀ {l : List Int} {n : Int}, l.Pairwise (· < ·) → (putI l n).Pairwise (· < ·)
  | [], n, _ => by simp [putI]
  | e :: r, n, h => by
    rw [List.pairwise_cons] at h
    unfold putI
    split
    · split
      · refine List.pairwise_cons.2 ⟨fun x hx => ?_, List.pairwise_cons.2 h⟩
        rcases List.mem_cons.1 hx with rfl | hx
        · omega
        · have := h.1 x hx; omega
      · exact List.pairwise_cons.2 h
    · refine List.pairwise_cons.2 ⟨fun x hx => ?_, si_putI h.2⟩
      rcases mem_putI.1 hx with hx | rfl
      · exact h.1 x hx
      · omega
theorem putI_len : ∀ (l : List Int) (n : Int), (putI l n).length ≤ l.length + 1
  | [], n => by simp [putI]
  | e :: r, n => by
    have := putI_len r n
    unfold putI
    split
    · split <;> simp
    · simp only [List.length_cons]; omega
theorem si_ext : ∀ {a b : List Int}, a.Pairwise (· < ·) → b.Pairwise (· < ·) → (∀ x, x ∈ a ↔ x ∈ b) → a = b
  | [], [], _, _, _ => rfl
  | [], y :: b, _, _, h => absurd ((h y).2 (List.mem_cons_self ..)) (by simp)
  | x :: a, [], _, _, h => absurd ((h x).1 (List.mem_cons_self ..)) (by simp)
  | x :: a, y :: b, ha, hb, h => by
    rw [List.pairwise_cons] at ha hb
    have hxy : x = y := by
      have h1 := (h x).1 (List.mem_cons_self ..)
      have h2 := (h y).2 (List.mem_cons_self ..)
      rcases List.mem_cons.1 h1 with h1 | h1
      · exact h1
      · rcases List.mem_cons.1 h2 with h2 | h2
        · exact h2.symm
        · have := hb.1 x h1
          have := ha.1 y h2
          omega
    subst hxy
    rw [si_ext ha.2 hb.2 fun z => ?_]
    constructor
    · intro hz
      rcases List.mem_cons.1 ((h z).1 (List.mem_cons_of_mem _ hz)) with rfl | h3
      · have := ha.1 z hz; omega
      · exact h3
    · intro hz
      rcases List.mem_cons.1 ((h z).2 (List.mem_cons_of_mem _ hz)) with rfl | h3
      · have := hb.1 z hz; omega
      · exact h3
theorem cpU (d : Array Int) (hs : ∀ j, j + 1 < d.size → d[j]! ≤ d[j + 1]!) : ∀ m, m ≤ d.size → (Lib.compactUpTo d m).Pairwise (· < ·) ∧ (∀ x, x ∈ Lib.compactUpTo d m ↔ ∃ j, j < m ∧ d[j]! = x) ∧ ∀ x ∈ Lib.compactUpTo d m, x ≤ d[m - 1]!
  | 0, _ => ⟨by simp [Lib.compactUpTo], fun x => by simp [Lib.compactUpTo], fun x hx => by simp [Lib.compactUpTo] at hx⟩
  | m + 1, hm => by
    obtain ⟨h1, h2, h3⟩ := cpU d hs m (by omega)
    have hstep := Lib.compactUpTo_succ d m
    have hmono : ∀ x ∈ Lib.compactUpTo d m, x ≤ d[m]! := fun x hx => by
      have ha := h3 x hx
      have : 0 < m := by
        obtain ⟨j, hj, _⟩ := (h2 x).1 hx
        omega
      have hb := hs (m - 1) (by omega)
      rw [show m - 1 + 1 = m by omega] at hb
      omega
    cases hk : Lib.keeps d m with
    | true =>
      rw [hk, if_pos rfl] at hstep
      rw [hstep]
      have hlt : ∀ x ∈ Lib.compactUpTo d m, x < d[m]! := fun x hx => by
        have ha := h3 x hx
        have h0 : 0 < m := by
          obtain ⟨j, hj, _⟩ := (h2 x).1 hx
          omega
        have hb := hs (m - 1) (by omega)
        rw [show m - 1 + 1 = m by omega] at hb
        unfold Lib.keeps at hk
        simp only [decide_eq_true_eq] at hk
        rcases hk with hk | hk
        · omega
        · omega
      refine ⟨List.pairwise_append.2 ⟨h1, by simp, fun x hx y hy => by simp at hy; subst hy; exact hlt x hx⟩, fun x => ?_, fun x hx => ?_⟩
      · rw [List.mem_append, h2]
        constructor
        · rintro (⟨j, hj, he⟩ | h)
          · exact ⟨j, by omega, he⟩
          · simp at h; exact ⟨m, by omega, h.symm⟩
        · rintro ⟨j, hj, he⟩
          rcases Nat.lt_or_ge j m with h | h
          · exact .inl ⟨j, h, he⟩
          · have : j = m := by omega
            subst this
            exact .inr (by simp [he])
      · rcases List.mem_append.1 hx with h | h
        · exact hmono x h
        · simp at h; subst h; exact Int.le_refl _
    | false =>
      rw [hk, if_neg (by decide), List.append_nil] at hstep
      rw [hstep]
      unfold Lib.keeps at hk
      simp only [decide_eq_false_iff_not, not_or] at hk
      have he : d[m]! = d[m - 1]! := Decidable.not_not.1 hk.2
      refine ⟨h1, fun x => ?_, hmono⟩
      rw [h2]
      constructor
      · rintro ⟨j, hj, he⟩; exact ⟨j, by omega, he⟩
      · rintro ⟨j, hj, hx⟩
        rcases Nat.lt_or_ge j m with h | h
        · exact ⟨j, h, hx⟩
        · have : j = m := by omega
          subst this
          exact ⟨j - 1, by omega, by rw [← he]; exact hx⟩
theorem srt_pair (l : List Int) : (srt l).Pairwise (· ≤ ·) := by
  have h := List.pairwise_mergeSort (le := fun x y : Int => decide (x ≤ y)) (fun a b c h1 h2 => by simp at *; omega) (fun a b => by simp; omega) l
  exact h.imp (fun h => by simpa using h)
def outF (raw : List Int) : List Int := Lib.compact (srt raw)
theorem outF_ok (raw : List Int) : (outF raw).Pairwise (· < ·) ∧ ∀ x, x ∈ outF raw ↔ x ∈ raw := by
  have hp := srt_pair raw
  have hs : ∀ j, j + 1 < (srt raw).toArray.size → (srt raw).toArray[j]! ≤ (srt raw).toArray[j + 1]! := fun j hj => by
    have hj' : j + 1 < (srt raw).length := by simpa using hj
    have := (List.pairwise_iff_getElem.1 hp) j (j + 1) (by omega) hj' (by omega)
    rw [getB (List.getElem?_eq_getElem (by omega : j < (srt raw).length)), getB (List.getElem?_eq_getElem hj')]
    exact this
  obtain ⟨h1, h2, _⟩ := cpU (srt raw).toArray hs (srt raw).length (by simp)
  refine ⟨h1, fun x => ?_⟩
  show x ∈ Lib.compactUpTo (srt raw).toArray (srt raw).length ↔ _
  rw [h2]
  have hm : x ∈ srt raw ↔ x ∈ raw := (List.mergeSort_perm _ _).mem_iff
  rw [← hm, List.mem_iff_getElem]
  constructor
  · rintro ⟨j, hj, he⟩
    exact ⟨j, hj, by rw [getB (List.getElem?_eq_getElem hj)] at he; exact he⟩
  · rintro ⟨j, hj, he⟩
    exact ⟨j, hj, by rw [getB (List.getElem?_eq_getElem hj)]; exact he⟩
def memStep (o : List Int) (n : Int) : List Int := if n ≥ 0 then putI o n else o
def memTo (a : List Int) (k : Nat) : List Int := (a.take k).foldl memStep []
theorem memTo_step {a : List Int} {k : Nat} {n : Int} (h : a[k]? = some n) : memTo a (k + 1) = memStep (memTo a k) n := by
  unfold memTo
  rw [List.take_add_one, h, List.foldl_append]
  rfl
theorem memTo_ok {a : List Int} : ∀ k, k ≤ a.length → (memTo a k).Pairwise (· < ·) ∧ (∀ x, x ∈ memTo a k ↔ x ∈ a.take k ∧ 0 ≤ x) ∧ (memTo a k).length ≤ k
  | 0, _ => ⟨by simp [memTo], fun x => by simp [memTo], by simp [memTo]⟩
  | k + 1, hk => by
    obtain ⟨h1, h2, h3⟩ := memTo_ok (a := a) k (by omega)
    have hkl : k < a.length := by omega
    have hx := List.getElem?_eq_getElem hkl
    rw [memTo_step hx]
    unfold memStep
    have ht : a.take (k + 1) = a.take k ++ [a[k]] := by rw [List.take_add_one, hx]; rfl
    split
    · rename_i hn
      refine ⟨si_putI h1, fun x => ?_, by have := putI_len (memTo a k) a[k]; omega⟩
      rw [mem_putI, h2, ht, List.mem_append]
      constructor
      · rintro (⟨p, q⟩ | rfl)
        · exact ⟨.inl p, q⟩
        · exact ⟨.inr (by simp), hn⟩
      · rintro ⟨p | p, q⟩
        · exact .inl ⟨p, q⟩
        · exact .inr (by simpa using p)
    · rename_i hn
      refine ⟨h1, fun x => ?_, by omega⟩
      rw [h2, ht, List.mem_append]
      constructor
      · rintro ⟨p, q⟩; exact ⟨.inl p, q⟩
      · rintro ⟨p | p, q⟩
        · exact ⟨p, q⟩
        · have : x = a[k] := by simpa using p
          omega
def memS (a : List Int) : List Int := memTo a a.length
theorem memS_ok (a : List Int) : (memS a).Pairwise (· < ·) ∧ (∀ x, x ∈ memS a ↔ x ∈ a ∧ 0 ≤ x) ∧ (memS a).length ≤ a.length := by
  have h := memTo_ok (a := a) a.length (Nat.le_refl _)
  rwa [List.take_length] at h
theorem l00Put_f (M : Mem) (l : List Int) (A : Option Addr) (c : Nat) (h : SlR M RInt 1 8 A c l) (hn : l.length ≤ 1000) (n : Int) : AnsR Tryz.prog M 38 #[.slice A l.length c, .int .i64 n] (fun M' v => ∃ A' c', v = .slice A' (putI l n).length c' ∧ SlR M' RInt 1 8 A' c' (putI l n)) := by
  have hpl := putI_len l n
  refine ansR_of T (l := [.slice A l.length c, .int .i64 n]) mixed Tryz.func38 rfl (by kernel_rfl) (Nat.le_of_ble_eq_true rfl) ?_
  (conv => whnf)
  refine LoopK.sw 0 1 {q : Nat × Nat × List Int × Bool // q.1 ≤ l.length ∧ q.2.2.1.length ≤ q.2.1 ∧ putI l n = q.2.2.1 ++ (if q.2.2.2 = true then l.drop q.1 else putI (l.drop q.1) n)} (fun ⟨(k, cap, L, dn), _⟩ => [(0, .v (.slice A l.length c)), (1, .v (.int .i64 n)), (5, .s 0 L.length cap 1), (6, .v (.bool dn)), (7, .v (.int .i64 (k : Int)))]) (fun ⟨(k, cap, L, dn), _⟩ => [(0, cellsI L)]) (fun _ => M) (fun q => l.length - q.1.1) ⟨(0, 0, [], false), Nat.zero_le _, Nat.le_refl _, rfl⟩ 0 ⟨⟨⟨rfl, rfl, rfl, rfl, rfl, trivial⟩, ⟨rfl, trivial⟩, rfl, rfl⟩, rfl⟩ ?_
  rintro ⟨⟨k, cap, L, dn⟩, hk, hcap, hI⟩
  simp only at hk hcap hI
  have hLl : L.length ≤ 1001 := by
    have := congrArg List.length hI
    rw [List.length_append] at this
    omega
  have hal := allOneI L
  have c1 : ∀ z, cellsI (L ++ [z]) = cellsI L ++ [.int .i64 z] := fun z => by unfold cellsI; simp
  (conv => whnf)
  refine CondK.mk (fun h1 => ?_) (fun h1 => ?_)
  · have hlt : k < l.length := by simpa using h1
    obtain ⟨e, hek⟩ : ∃ e, l[k] = e := ⟨_, rfl⟩
    have he : l[k]? = some e := by rw [List.getElem?_eq_getElem hlt, hek]
    have hd : l.drop k = e :: l.drop (k + 1) := by rw [List.drop_eq_getElem_cons hlt, hek]
    obtain ⟨ad, rfl, _, x0⟩ := at_Int h he
    rw [hd] at hI
    cases dn with
    | true =>
      rw [if_pos rfl] at hI
      repeat' ((conv => whnf); first | with_reducible refine CondK.tt ?_ | with_reducible refine CondK.ff ?_ | refine IdxK.mk _ rfl (by omega) (by omega) ?_ | refine LdK.mk _ (by assumption) ?_ | refine AppK.mk (by show (2 * _ + 512) * 8 ≤ 281474976710656; omega) (by omega) (.inr rfl) (by first | exact hal | rfl) (fun cap3 hcap3 => ?_) | fail)
      exact ⟨⟨(k + 1, cap3, L ++ [e], true), hlt, by simp only [List.length_append, List.length_singleton]; exact hcap3, by simp only [if_true]; rw [hI]; simp⟩, 2, ⟨⟨rfl, rfl, congrArg (fun t => some (PV.s 2 t cap3 1)) (by simp), rfl, look_int (i64_succ (by omega)), trivial⟩, ⟨congrArg some (c1 e).symm, trivial⟩, rfl, rfl⟩, rfl, by simp only; omega⟩
    | false =>
      rw [if_neg (by decide)] at hI
      cases a1 : decide (e ≥ n) with
      | false =>
        have hlt2 : ¬ e ≥ n := by simpa using a1
        have e2 : putI (e :: l.drop (k + 1)) n = e :: putI (l.drop (k + 1)) n := by rw [putI, if_neg hlt2]
        rw [e2] at hI
        repeat' ((conv => whnf); first | with_reducible refine CondK.tt ?_ | with_reducible refine CondK.ff ?_ | refine IdxK.mk _ rfl (by omega) (by omega) ?_ | refine LdK.mk _ (by assumption) ?_ | refine CondK.no' a1 ?_ | refine AppK.mk (by show (2 * _ + 512) * 8 ≤ 281474976710656; omega) (by omega) (.inr rfl) (by first | exact hal | rfl) (fun cap3 hcap3 => ?_) | fail)
        exact ⟨⟨(k + 1, cap3, L ++ [e], false), hlt, by simp only [List.length_append, List.length_singleton]; exact hcap3, by simp only [Bool.false_eq_true, if_false]; rw [hI]; simp⟩, 2, ⟨⟨rfl, rfl, congrArg (fun t => some (PV.s 2 t cap3 1)) (by simp), rfl, look_int (i64_succ (by omega)), trivial⟩, ⟨congrArg some (c1 e).symm, trivial⟩, rfl, rfl⟩, rfl, by simp only; omega⟩
      | true =>
        have hge : e ≥ n := by simpa using a1
        cases a2 : decide (e > n) with
        | false =>
          have hngt : ¬ e > n := by simpa using a2
          have e2 : putI (e :: l.drop (k + 1)) n = e :: l.drop (k + 1) := by rw [putI, if_pos hge, if_neg hngt]
          rw [e2] at hI
          repeat' ((conv => whnf); first | with_reducible refine CondK.tt ?_ | with_reducible refine CondK.ff ?_ | refine IdxK.mk _ rfl (by omega) (by omega) ?_ | refine LdK.mk _ (by assumption) ?_ | refine CondK.yes' a1 ?_ | refine CondK.no' a2 ?_ | refine AppK.mk (by show (2 * _ + 512) * 8 ≤ 281474976710656; omega) (by omega) (.inr rfl) (by first | exact hal | rfl) (fun cap3 hcap3 => ?_) | fail)
          exact ⟨⟨(k + 1, cap3, L ++ [e], true), hlt, by simp only [List.length_append, List.length_singleton]; exact hcap3, by simp only [if_true]; rw [hI]; simp⟩, 2, ⟨⟨rfl, rfl, congrArg (fun t => some (PV.s 2 t cap3 1)) (by simp), rfl, look_int (i64_succ (by omega)), trivial⟩, ⟨congrArg some (c1 e).symm, trivial⟩, rfl, rfl⟩, rfl, by simp only; omega⟩
        | true =>
          have hgt : e > n := by simpa using a2
          have e2 : putI (e :: l.drop (k + 1)) n = n :: e :: l.drop (k + 1) := by rw [putI, if_pos hge, if_pos hgt]
          rw [e2] at hI
          have hal2 : allOne (cellsI L ++ [.int .i64 n]) = true := by rw [← c1]; exact allOneI _
          repeat' ((conv => whnf); first | with_reducible refine CondK.tt ?_ | with_reducible refine CondK.ff ?_ | refine IdxK.mk _ rfl (by omega) (by omega) ?_ | refine LdK.mk _ (by assumption) ?_ | refine CondK.yes' a1 ?_ | refine CondK.yes' a2 ?_ | refine AppK.mk (by show (2 * _ + 512) * 8 ≤ 281474976710656; omega) (by omega) (.inr rfl) (by first | exact hal | exact hal2 | rfl) (fun cap3 hcap3 => ?_) | fail)
          rename_i cap4 hcap4
          exact ⟨⟨(k + 1, cap3, L ++ [n] ++ [e], true), hlt, by simp only [List.length_append, List.length_singleton]; exact hcap3, by simp only [if_true]; rw [hI]; simp⟩, 4, ⟨⟨rfl, rfl, congrArg (fun t => some (PV.s 4 t cap3 1)) (by simp), rfl, look_int (i64_succ (by omega)), trivial⟩, ⟨congrArg some (by show _ = cellsI (L ++ [n] ++ [e]); unfold cellsI; simp), trivial⟩, rfl, rfl⟩, rfl, by simp only; omega⟩
  · have hkl : k = l.length := by
      have : ¬ k < l.length := by simpa using h1
      omega
    subst hkl
    rw [List.drop_length] at hI
    cases dn with
    | true =>
      rw [if_pos rfl, List.append_nil] at hI
      repeat' ((conv => whnf); first | with_reducible refine CondK.tt ?_ | with_reducible refine CondK.ff ?_ | fail)
      exact RetK.mk fun g M' hl hg => ⟨_, cap, slice_eq (by rw [hI]), row_out (rowI (M := M') (putI l n)) rfl (fun _ _ h => h) (fun o u hu => hg 0 _ rfl o u (by rw [← hI]; exact hu)) (by rw [hI]; exact hcap) (by omega)⟩
    | false =>
      rw [if_neg (by decide)] at hI
      replace hI : putI l n = L ++ [n] := hI
      repeat' ((conv => whnf); first | with_reducible refine CondK.tt ?_ | with_reducible refine CondK.ff ?_ | refine AppK.mk (by show (2 * _ + 512) * 8 ≤ 281474976710656; omega) (by omega) (.inr rfl) (by first | exact hal | rfl) (fun cap3 hcap3 => ?_) | fail)
      exact RetK.mk fun g M' hl hg => ⟨_, cap3, slice_eq (by rw [hI]; simp), row_out (rowI (M := M') (putI l n)) rfl (fun _ _ h => h) (fun o u hu => hg 2 _ rfl o u (by rw [← c1, ← hI]; exact hu)) (by rw [hI, List.length_append]; exact hcap3) (by omega)⟩
end Go.Proofs.YtoedjkeahjmpiaaGreat.Hlp
