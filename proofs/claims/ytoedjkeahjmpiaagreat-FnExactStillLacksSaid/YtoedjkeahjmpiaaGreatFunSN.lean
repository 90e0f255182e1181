/- spec.l12Members, spec.StillLacks. -/
import Derived.Test.YtoedjkeahjmpiaaGreatFunSL
namespace Go.Proofs.YtoedjkeahjmpiaaGreat.Hlp
open Go Go.RowKit Go.Proofs Go.Proofs.YtoedjkeahjmpiaaGreat.Lw
set_option linter.unusedVariables false
set_option linter.unusedSimpArgs false
set_option maxRecDepth 100000
set_option maxHeartbeats 4000000
/-- A list that is an own empty row at first, later what a call handed back. -/
def rowZ (r n : Nat) (o : Option (Option Addr × Nat)) : PV := match o with | none => .s r 0 0 1 | some (A, c) => .v (.slice A n c)
def boxZ (r : Nat) (o : Option (Option Addr × Nat)) (b : Bx) : Bx := match o with | none => (r, []) :: b | some _ => b
def RZ (N : Mem) (o : Option (Option Addr × Nat)) (V : List Int) : Prop := match o with | none => V = [] | some (A, c) => SlR N RInt 1 8 A c V
theorem l12Members_f (M : Mem) (a : List Int) (A : Option Addr) (c : Nat) (h : SlR M RInt 1 8 A c a) (hn : a.length ≤ 900) : AnsR Tryz.prog M 36 #[.slice A a.length c] (fun M' v => ∃ A' c', v = .slice A' (memS a).length c' ∧ SlR M' RInt 1 8 A' c' (memS a)) := by
  refine ansR_of T (l := [.slice A a.length c]) mixed Tryz.func36 rfl (by kernel_rfl) (Nat.le_of_ble_eq_true rfl) ?_
  (conv => whnf)
  refine LoopK.mk {q : (Nat × Option (Option Addr × Nat)) × Mem // q.1.1 ≤ a.length ∧ Le M q.2 ∧ RZ q.2 q.1.2 (memTo a q.1.1)} (fun ⟨⟨⟨k, o⟩, _⟩, _⟩ => [(0, .v (.slice A a.length c)), (3, rowZ 0 (memTo a k).length o), (4, .v (.int .i64 (k : Int)))]) (fun ⟨⟨⟨k, o⟩, _⟩, _⟩ => boxZ 0 o []) (fun q => q.1.2) (fun q => a.length - q.1.1.1) ⟨((0, none), M), Nat.zero_le _, Le.refl M, rfl⟩ ⟨⟨⟨rfl, rfl, rfl, trivial⟩, ⟨rfl, trivial⟩, rfl, rfl⟩, rfl⟩ ?_
  rintro ⟨⟨⟨k, o⟩, N⟩, hk, hle, hr⟩
  simp only at hk hle hr
  have hlen := (memTo_ok (a := a) k hk).2.2
  (conv => whnf)
  refine CondK.mk (fun h1 => ?_) (fun h1 => ?_)
  · have hlt : k < a.length := by simpa using h1
    obtain ⟨n, hnk⟩ : ∃ n, a[k] = n := ⟨_, rfl⟩
    have hx : a[k]? = some n := by rw [List.getElem?_eq_getElem hlt, hnk]
    have hst := memTo_step hx
    obtain ⟨ad, rfl, _, x0⟩ := at_Int (h.mono hle (fun _ _ h => h)) hx
    cases a1 : decide (n ≥ 0) with
    | false =>
      have hneg : ¬ n ≥ 0 := by simpa using a1
      unfold memStep at hst
      rw [if_neg hneg] at hst
      cases o with
      | none =>
        repeat' ((conv => whnf); first | with_reducible refine CondK.tt ?_ | with_reducible refine CondK.ff ?_ | refine IdxK.mk _ rfl (by omega) (by omega) ?_ | refine LdK.mk _ (by assumption) ?_ | refine CondK.no' a1 ?_ | fail)
        exact ⟨⟨((k + 1, none), N), hlt, hle, by show _ = _; rw [hst]; exact hr⟩, ⟨⟨rfl, rfl, look_int (i64_succ (by omega)), trivial⟩, ⟨rfl, trivial⟩, rfl, rfl⟩, rfl, by simp only; omega⟩
      | some p =>
        obtain ⟨A1, c1⟩ := p
        repeat' ((conv => whnf); first | with_reducible refine CondK.tt ?_ | with_reducible refine CondK.ff ?_ | refine IdxK.mk _ rfl (by omega) (by omega) ?_ | refine LdK.mk _ (by assumption) ?_ | refine CondK.no' a1 ?_ | fail)
        exact ⟨⟨((k + 1, some (A1, c1)), N), hlt, hle, by show SlR N RInt 1 8 A1 c1 _; rw [hst]; exact hr⟩, ⟨⟨rfl, congrArg (fun t : List Int => some (PV.v (Value.slice A1 t.length c1))) hst.symm, look_int (i64_succ (by omega)), trivial⟩, trivial, rfl, rfl⟩, rfl, by simp only; omega⟩
    | true =>
      have hpos : n ≥ 0 := by simpa using a1
      unfold memStep at hst
      rw [if_pos hpos] at hst
      cases o with
      | none =>
        have hr0 : memTo a k = [] := hr
        rw [hr0] at hst
        repeat' ((conv => whnf); first | with_reducible refine CondK.tt ?_ | with_reducible refine CondK.ff ?_ | refine IdxK.mk _ rfl (by omega) (by omega) ?_ | refine LdK.mk _ (by assumption) ?_ | refine CondK.yes' a1 ?_ | fail)
        refine PubK.mk fun a2 N2 hl2 hc2 => ?_
        (conv => whnf)
        refine CallK.mr _ (l00Put_f N2 [] (some a2) 0 SlR.nil (by decide) n) (fun v N3 hl3 hv => ?_)
        obtain ⟨A', c', rfl, hr'⟩ := hv
        (conv => whnf)
        exact ⟨⟨((k + 1, some (A', c')), N3), hlt, hle.trans (hl2.trans hl3), by show SlR N3 RInt 1 8 A' c' _; rw [hst]; exact hr'⟩, ⟨⟨rfl, congrArg (fun t : List Int => some (PV.v (Value.slice A' t.length c'))) hst.symm, look_int (i64_succ (by omega)), trivial⟩, trivial, rfl, rfl⟩, rfl, by simp only; omega⟩
      | some p =>
        obtain ⟨A1, c1⟩ := p
        replace hr : SlR N RInt 1 8 A1 c1 (memTo a k) := hr
        repeat' ((conv => whnf); first | with_reducible refine CondK.tt ?_ | with_reducible refine CondK.ff ?_ | refine IdxK.mk _ rfl (by omega) (by omega) ?_ | refine LdK.mk _ (by assumption) ?_ | refine CondK.yes' a1 ?_ | fail)
        refine CallK.mr _ (l00Put_f N (memTo a k) A1 c1 hr (by omega) n) (fun v N3 hl3 hv => ?_)
        obtain ⟨A', c', rfl, hr'⟩ := hv
        (conv => whnf)
        exact ⟨⟨((k + 1, some (A', c')), N3), hlt, hle.trans hl3, by show SlR N3 RInt 1 8 A' c' _; rw [hst]; exact hr'⟩, ⟨⟨rfl, congrArg (fun t : List Int => some (PV.v (Value.slice A' t.length c'))) hst.symm, look_int (i64_succ (by omega)), trivial⟩, trivial, rfl, rfl⟩, rfl, by simp only; omega⟩
  · have hkl : k = a.length := by
      have : ¬ k < a.length := by simpa using h1
      omega
    subst hkl
    cases o with
    | none =>
      have hr0 : memS a = [] := hr
      (conv => whnf)
      exact RetK.mk fun g M' hl hg => ⟨_, _, slice_eq (by rw [hr0]; rfl), by rw [hr0]; exact SlR.nil⟩
    | some p =>
      obtain ⟨A1, c1⟩ := p
      replace hr : SlR N RInt 1 8 A1 c1 (memTo a a.length) := hr
      (conv => whnf)
      exact RetK.mk fun g M' hl hg => ⟨A1, c1, rfl, hr.mono hl (fun _ _ h => h)⟩
def inStep (fr : List Int) (o : List Int) (n : Int) : List Int := if (fr.any fun z => decide (n = z)) = true then o else putI o n
def inTo (fr m : List Int) (o : List Int) (p : Nat) : List Int := (m.take p).foldl (inStep fr) o
theorem inTo_step {fr m o : List Int} {p : Nat} {n : Int} (h : m[p]? = some n) : inTo fr m o (p + 1) = inStep fr (inTo fr m o p) n := by
  unfold inTo
  rw [List.take_add_one, h, List.foldl_append]
  rfl
def spOne (fr : List Int) (k : Int) (o : List Int) (y : GInterval) : List Int := if ((heardIn y.Acting fr).length : Int) ≥ k then o else inTo fr (memS y.Acting) o (memS y.Acting).length
def spTo (nd : List GInterval) (fr : List Int) (k : Int) (i : Nat) : List Int := (nd.take i).foldl (spOne fr k) []
theorem spTo_step {nd : List GInterval} {fr : List Int} {k : Int} {i : Nat} {y : GInterval} (h : nd[i]? = some y) : spTo nd fr k (i + 1) = spOne fr k (spTo nd fr k i) y := by
  unfold spTo
  rw [List.take_add_one, h, List.foldl_append]
  rfl
theorem inTo_ok {fr m : List Int} {o : List Int} (ho : o.Pairwise (· < ·)) : ∀ p, p ≤ m.length → (inTo fr m o p).Pairwise (· < ·) ∧ (∀ x, x ∈ inTo fr m o p ↔ x ∈ o ∨ (x ∈ m.take p ∧ x ∉ fr)) ∧ (inTo fr m o p).length ≤ o.length + p
  | 0, _ => ⟨by simpa [inTo] using ho, fun x => by simp [inTo], by simp [inTo]⟩
  | p + 1, hp => by
    obtain ⟨h1, h2, h3⟩ := inTo_ok (fr := fr) (m := m) ho p (by omega)
    have hpl : p < m.length := by omega
    have hx := List.getElem?_eq_getElem hpl
    have ht : m.take (p + 1) = m.take p ++ [m[p]] := by rw [List.take_add_one, hx]; rfl
    rw [inTo_step hx]
    have ha : (fr.any fun z => decide (m[p] = z)) = true ↔ m[p] ∈ fr := by
      rw [List.any_eq_true]
      constructor
      · rintro ⟨z, hz, he⟩; simp only [decide_eq_true_eq] at he; rw [he]; exact hz
      · intro hz; exact ⟨_, hz, by simp⟩
    unfold inStep
    by_cases hc : (fr.any fun z => decide (m[p] = z)) = true
    · rw [if_pos hc]
      rw [ha] at hc
      refine ⟨h1, fun x => ?_, by omega⟩
      rw [h2, ht, List.mem_append]
      constructor
      · rintro (q | ⟨q, r⟩)
        · exact .inl q
        · exact .inr ⟨.inl q, r⟩
      · rintro (q | ⟨q | q, r⟩)
        · exact .inl q
        · exact .inr ⟨q, r⟩
        · have : x = m[p] := by simpa using q
          exact absurd (this ▸ hc) r
    · rw [if_neg hc]
      rw [ha] at hc
      refine ⟨si_putI h1, fun x => ?_, by have := putI_len (inTo fr m o p) m[p]; omega⟩
      rw [mem_putI, h2, ht, List.mem_append]
      constructor
      · rintro ((q | ⟨q, r⟩) | q)
        · exact .inl q
        · exact .inr ⟨.inl q, r⟩
        · exact .inr ⟨.inr (by simp [q]), by rw [q]; exact hc⟩
      · rintro (q | ⟨q | q, r⟩)
        · exact .inl (.inl q)
        · exact .inl (.inr ⟨q, r⟩)
        · exact .inr (by simpa using q)
theorem spTo_ok {nd : List GInterval} {fr : List Int} {k : Int} (h7 : ∀ y ∈ nd, y.Acting.length ≤ 7) : ∀ i, i ≤ nd.length → (spTo nd fr k i).Pairwise (· < ·) ∧ (∀ x, x ∈ spTo nd fr k i ↔ ∃ y ∈ nd.take i, ((heardIn y.Acting fr).length : Int) < k ∧ x ∈ memS y.Acting ∧ x ∉ fr) ∧ (spTo nd fr k i).length ≤ 7 * i
  | 0, _ => ⟨by simp [spTo], fun x => by simp [spTo], by simp [spTo]⟩
  | i + 1, hi => by
    obtain ⟨h1, h2, h3⟩ := spTo_ok (fr := fr) (k := k) h7 i (by omega)
    have hil : i < nd.length := by omega
    have hx := List.getElem?_eq_getElem hil
    have ht : nd.take (i + 1) = nd.take i ++ [nd[i]] := by rw [List.take_add_one, hx]; rfl
    rw [spTo_step hx]
    unfold spOne
    by_cases hc : ((heardIn nd[i].Acting fr).length : Int) ≥ k
    · rw [if_pos hc]
      refine ⟨h1, fun x => ?_, by omega⟩
      rw [h2, ht]
      constructor
      · rintro ⟨y, hy, q⟩; exact ⟨y, List.mem_append.2 (.inl hy), q⟩
      · rintro ⟨y, hy, q, r⟩
        rcases List.mem_append.1 hy with hy | hy
        · exact ⟨y, hy, q, r⟩
        · have : y = nd[i] := by simpa using hy
          rw [this] at q
          omega
    · rw [if_neg hc]
      have hm := memS_ok nd[i].Acting
      obtain ⟨g1, g2, g3⟩ := inTo_ok (fr := fr) (m := memS nd[i].Acting) h1 (memS nd[i].Acting).length (Nat.le_refl _)
      have := h7 nd[i] (List.getElem_mem hil)
      refine ⟨g1, fun x => ?_, by have := hm.2.2; omega⟩
      rw [g2, h2, ht, List.take_length]
      constructor
      · rintro (⟨y, hy, q⟩ | ⟨q, r⟩)
        · exact ⟨y, List.mem_append.2 (.inl hy), q⟩
        · exact ⟨nd[i], List.mem_append.2 (.inr (by simp)), by omega, q, r⟩
      · rintro ⟨y, hy, q, r⟩
        rcases List.mem_append.1 hy with hy | hy
        · exact .inl ⟨y, hy, q, r⟩
        · have : y = nd[i] := by simpa using hy
          rw [this] at r
          exact .inr r
end Go.Proofs.YtoedjkeahjmpiaaGreat.Hlp
