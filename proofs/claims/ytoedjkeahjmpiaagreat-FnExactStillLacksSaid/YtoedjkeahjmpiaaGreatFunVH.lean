/- The spec's l13Need, l13Enough. -/
import Derived.Test.YtoedjkeahjmpiaaGreatFunVG
namespace Go.Proofs.YtoedjkeahjmpiaaGreat.Hlp
open Go Go.RowKit Go.Proofs Go.Proofs.YtoedjkeahjmpiaaGreat.Lw
set_option linter.unusedVariables false
set_option linter.unusedSimpArgs false
set_option maxRecDepth 100000
set_option maxHeartbeats 4000000
theorem l00Own_f (M : Mem) (l : List Int) (A : Option Addr) (c : Nat) (h : SlR M RInt 1 8 A c l) (hn : l.length ≤ 1000) : AnsR Tryz.prog M 115 #[.slice A l.length c] (fun M' v => ∃ A' c', v = .slice A' l.length c' ∧ SlR M' RInt 1 8 A' c' l) := by
  refine ansR_of T (l := [.slice A l.length c]) mixed Tryz.func115 rfl (by kernel_rfl) (Nat.le_of_ble_eq_true rfl) ?_
  obtain ⟨ds, h1, h2, h3⟩ := h.row (fun x cs hx => (RInt.one x cs hx).1)
  (conv => whnf)
  refine SrcK.mk ds h2 h3 ?_
  (conv => whnf)
  refine AppK.mk (by show (2 * _ + 512) * 8 ≤ 281474976710656; omega) (by omega) (.inr rfl) h1.all (fun cap3 hcap3 => ?_)
  (conv => whnf)
  exact RetK.mk fun g M' hl hg => ⟨_, cap3, slice_eq (by omega), row_out h1 rfl (fun _ _ h => h) (hg 1 _ rfl) (by omega) (by omega)⟩
theorem l13Own_f (M : Mem) (y : GInterval) (cs : List Value) (h : RInterval M y cs) (hn : y.Acting.length ≤ 1000) : AnsR Tryz.prog M 71 #[.agg cs.toArray] (fun M' v => ∃ cs' : List Value, v = .agg cs'.toArray ∧ RInterval M' y cs') := by
  obtain ⟨A0, c0, rfl, _, s0⟩ := h
  refine ansR_of T (l := [.agg (List.toArray _)]) mixed Tryz.func71 rfl (by kernel_rfl) (Nat.le_of_ble_eq_true rfl) ?_
  (conv => whnf)
  refine CallK.mr _ (l00Own_f M y.Acting A0 c0 s0 hn) (fun v M1 hl1 hv => ?_)
  obtain ⟨A1, c1, rfl, r1⟩ := hv
  (conv => whnf)
  exact RetK.mk fun g M' hl hg => ⟨_, rfl, A1, c1, rfl, trivial, r1.mono hl (fun _ _ h => h)⟩
def needTo (ivs : List GInterval) (s : Int) (k : Nat) : List GInterval := (ivs.take k).filter fun y => needF y s
theorem l13Need_f (M : Mem) (l : List GInterval) (A : Option Addr) (c : Nat) (h : SlR M RInterval 4 48 A c l) (hn : l.length ≤ 60) (hac : ∀ y ∈ l, y.Acting.length ≤ 1000) (s : Int) : AnsR Tryz.prog M 33 #[.slice A l.length c, .int .i64 s] (fun M' v => ∃ A' c', v = .slice A' (l.filter fun y => needF y s).length c' ∧ SlR M' RInterval 4 48 A' c' (l.filter fun y => needF y s)) := by
  refine ansR_of T (l := [.slice A l.length c, .int .i64 s]) mixed Tryz.func33 rfl (by kernel_rfl) (Nat.le_of_ble_eq_true rfl) ?_
  (conv => whnf)
  refine LoopK.sw 0 1 {q : (Nat × Nat × List Value) × Mem // q.1.1 ≤ l.length ∧ (needTo l s q.1.1).length ≤ q.1.2.1 ∧ RowR q.2 RInterval 4 (needTo l s q.1.1) q.1.2.2 ∧ Le M q.2} (fun ⟨⟨⟨k, cap, ds⟩, _⟩, _⟩ => [(0, .v (.slice A l.length c)), (1, .v (.int .i64 s)), (5, .s 0 (needTo l s k).length cap 4), (6, .v (.int .i64 (k : Int)))]) (fun ⟨⟨⟨k, cap, ds⟩, _⟩, _⟩ => [(0, ds)]) (fun q => q.1.2) (fun q => l.length - q.1.1.1) ⟨((0, 0, []), M), Nat.zero_le _, Nat.le_refl _, RowR.nil, Le.refl M⟩ 0 ⟨⟨⟨rfl, rfl, rfl, rfl, trivial⟩, ⟨rfl, trivial⟩, rfl, rfl⟩, rfl⟩ ?_
  rintro ⟨⟨⟨k, cap, ds⟩, N⟩, hk, hcap, hr2, hle2⟩
  simp only at hk hcap hr2 hle2
  have hle := fil_le (fun y => needF y s) l k
  (conv => whnf)
  refine CondK.mk (fun h5 => ?_) (fun h5 => ?_)
  · have hlt : k < l.length := by simpa using h5
    obtain ⟨y, hyk⟩ : ∃ y, l[k] = y := ⟨_, rfl⟩
    have hy : l[k]? = some y := by rw [List.getElem?_eq_getElem hlt, hyk]
    have hst : needTo l s (k + 1) = needTo l s k ++ (if needF y s = true then [y] else []) := fil_step (p := fun y => needF y s) hy
    have hle' : (needTo l s k).length ≤ k := hle
    obtain ⟨ad, rfl, A0, c0, bny, s0, y0, y1, y2, y3⟩ := at_Interval (h.mono hle2 (RInterval.mono hle2)) hy
    have hown := l13Own_f N y _ ⟨A0, c0, rfl, bny, s0⟩ (hac y (List.mem_of_getElem? hy))
    have yes : needF y s = true → ∀ {X : Prop}, (∀ (cap3 : Nat) (ds3 : List Value) (N3 : Mem), X) → True := fun _ _ _ => trivial
    cases a1 : (y.First == s) with
    | true =>
      have hc : needF y s = true := by unfold needF; simp only [beq_iff_eq] at a1; simp [a1]
      rw [hc, if_pos rfl] at hst
      repeat' ((conv => whnf); first | with_reducible refine CondK.tt ?_ | with_reducible refine CondK.ff ?_ | refine IdxK.mk _ rfl (by omega) (by omega) ?_ | refine LdK.mk _ (by assumption) ?_ | rw [a1] | fail)
      (refine CallK.mr _ hown (fun v N3 hl3 hv => ?_); obtain ⟨cs3, rfl, r3⟩ := hv)
      have r3' := r3
      obtain ⟨B0, d0, rfl, _⟩ := r3'
      repeat' ((conv => whnf); first | refine AppK.mk (by show (2 * _ + 512) * 48 ≤ 281474976710656; omega) (by omega) (.inr rfl) (by first | exact hr2.all | rfl) (fun cap3 hcap3 => ?_) | fail)
      refine ⟨⟨((k + 1, cap3, ds ++ [.int .i64 y.First, .int .i64 y.Last, .slice B0 y.Acting.length d0, .bool y.May]), N3), hlt, ?_, ?_, hle2.trans hl3⟩, 2, ⟨⟨rfl, rfl, congrArg (fun t => some (PV.s 2 t cap3 4)) ?_, look_int (i64_succ (by omega)), trivial⟩, ⟨rfl, trivial⟩, rfl, rfl⟩, rfl, by simp only; omega⟩
      · simp only
        rw [hst, List.length_append]
        exact hcap3
      · simp only
        rw [hst]
        exact (hr2.mono (fun x cs h => RInterval.mono hl3 _ _ h)).app (RowR.one (x := y) r3 rfl rfl)
      · rw [hst]
        simp only [List.length_append, List.length_singleton]
    | false =>
      cases a2 : y.May with
      | false =>
        have hc : needF y s = false := by unfold needF; simp only [beq_eq_false_iff_ne] at a1; simp [a1, a2]
        rw [hc, if_neg (by decide), List.append_nil] at hst
        rw [a2] at y3
        repeat' ((conv => whnf); first | with_reducible refine CondK.tt ?_ | with_reducible refine CondK.ff ?_ | refine IdxK.mk _ rfl (by omega) (by omega) ?_ | refine LdK.mk _ (by assumption) ?_ | rw [a1] | fail)
        exact ⟨⟨((k + 1, cap, ds), N), hlt, by simp only; rw [hst]; exact hcap, by simp only; rw [hst]; exact hr2, hle2⟩, 0, ⟨⟨rfl, rfl, congrArg (fun t : List GInterval => some (PV.s 0 t.length cap 4)) hst.symm, look_int (i64_succ (by omega)), trivial⟩, ⟨rfl, trivial⟩, rfl, rfl⟩, rfl, by simp only; omega⟩
      | true =>
        rw [a2] at y3 hown
        cases a3 : decide (y.First ≥ s) with
        | false =>
          have hc : needF y s = false := by unfold needF; simp only [beq_eq_false_iff_ne] at a1; rw [a3]; simp [a1]
          rw [hc, if_neg (by decide), List.append_nil] at hst
          repeat' ((conv => whnf); first | with_reducible refine CondK.tt ?_ | with_reducible refine CondK.ff ?_ | refine IdxK.mk _ rfl (by omega) (by omega) ?_ | refine LdK.mk _ (by assumption) ?_ | rw [a1] | rw [a3] | fail)
          exact ⟨⟨((k + 1, cap, ds), N), hlt, by simp only; rw [hst]; exact hcap, by simp only; rw [hst]; exact hr2, hle2⟩, 0, ⟨⟨rfl, rfl, congrArg (fun t : List GInterval => some (PV.s 0 t.length cap 4)) hst.symm, look_int (i64_succ (by omega)), trivial⟩, ⟨rfl, trivial⟩, rfl, rfl⟩, rfl, by simp only; omega⟩
        | true =>
          have hc : needF y s = true := by unfold needF; rw [a2, a3]; rfl
          rw [hc, if_pos rfl] at hst
          repeat' ((conv => whnf); first | with_reducible refine CondK.tt ?_ | with_reducible refine CondK.ff ?_ | refine IdxK.mk _ rfl (by omega) (by omega) ?_ | refine LdK.mk _ (by assumption) ?_ | rw [a1] | rw [a3] | fail)
          (refine CallK.mr _ hown (fun v N3 hl3 hv => ?_); obtain ⟨cs3, rfl, r3⟩ := hv)
          have r3' := r3
          obtain ⟨B0, d0, rfl, _⟩ := r3'
          repeat' ((conv => whnf); first | refine AppK.mk (by show (2 * _ + 512) * 48 ≤ 281474976710656; omega) (by omega) (.inr rfl) (by first | exact hr2.all | rfl) (fun cap3 hcap3 => ?_) | fail)
          refine ⟨⟨((k + 1, cap3, ds ++ [.int .i64 y.First, .int .i64 y.Last, .slice B0 y.Acting.length d0, .bool y.May]), N3), hlt, ?_, ?_, hle2.trans hl3⟩, 2, ⟨⟨rfl, rfl, congrArg (fun t => some (PV.s 2 t cap3 4)) ?_, look_int (i64_succ (by omega)), trivial⟩, ⟨rfl, trivial⟩, rfl, rfl⟩, rfl, by simp only; omega⟩
          · simp only
            rw [hst, List.length_append]
            exact hcap3
          · simp only
            rw [hst]
            exact (hr2.mono (fun x cs h => RInterval.mono hl3 _ _ h)).app (RowR.one (x := y) r3 rfl rfl)
          · rw [hst]
            simp only [List.length_append, List.length_singleton]
  · have he : k = l.length := by
      have : ¬ k < l.length := by simpa using h5
      omega
    subst he
    have hle' : (needTo l s l.length).length ≤ l.length := hle
    have ef : needTo l s l.length = l.filter fun y => needF y s := by unfold needTo; rw [List.take_length]
    exact RetK.mk fun g M' hl' hg => ⟨_, _, congrArg (fun t : List GInterval => Value.slice _ t.length _) ef, row_out hr2 ef.symm (fun x cs h => RInterval.mono hl' _ _ h) (hg 0 _ rfl) (by rw [← ef]; exact hcap) (by rw [← ef]; omega)⟩
def heardIn (a l : List Int) : List Int := l.filter fun x => a.any fun z => decide (x = z)
def henS (ivs : List GInterval) (k s : Int) (l : List Int) : Bool := if decide (s > 0) && decide (ixD (fun x : GInterval => x.First == s) ivs < 0) then false else (ivs.filter fun y => needF y s).all fun y => !decide (((heardIn y.Acting l).length : Int) < k)
theorem l13Enough_r (M : Mem) (ivs : List GInterval) (A : Option Addr) (c : Nat) (h : SlR M RInterval 4 48 A c ivs) (hn : ivs.length ≤ 60) (hac : ∀ y ∈ ivs, y.Acting.length ≤ 1000) (k s : Int) (l : List Int) (B : Option Addr) (dc : Nat) (hl : SlR M RInt 1 8 B dc l) (hln : l.length ≤ 16) (hp : ∀ y ∈ l, 0 ≤ y) : AnsR Tryz.prog M 49 #[.slice A ivs.length c, .int .i64 k, .int .i64 s, .slice B l.length dc] (fun _ v => v = .bool (henS ivs k s l)) := by
  have hat := l13At_a M ivs A c h s
  have hnd := l13Need_f M ivs A c h hn hac s
  refine ansR_of T (l := [.slice A ivs.length c, .int .i64 k, .int .i64 s, .slice B l.length dc]) mixed Tryz.func49 rfl (by kernel_rfl) (Nat.le_of_ble_eq_true rfl) ?_
  unfold henS
  have hnl : (ivs.filter fun y => needF y s).length ≤ 60 := Nat.le_trans (List.length_filter_le _ _) hn
  generalize (ivs.filter fun y => needF y s) = nd at hnd hnl ⊢
  generalize ixD (fun x : GInterval => x.First == s) ivs = ix at hat ⊢
  have rest : ∀ (b : Bool), b = (decide (s > 0) && decide (ix < 0)) → b = false → True := fun _ _ _ => trivial
  have main : ∀ (K : Prop), K → K := fun _ h => h
  cases a1 : decide (s > 0) with
  | true =>
    cases a2 : decide (ix < 0) with
    | true =>
      repeat' ((conv => whnf); first | with_reducible refine CondK.tt ?_ | with_reducible refine CondK.ff ?_ | refine CallK.mk _ hat ?_ | rw [a1] | refine CondK.yes' a2 ?_ | fail)
      exact RetK.mk fun _ _ _ _ => rfl
    | false =>
      repeat' ((conv => whnf); first | with_reducible refine CondK.tt ?_ | with_reducible refine CondK.ff ?_ | refine CallK.mk _ hat ?_ | rw [a1] | refine CondK.no' a2 ?_ | (refine CallK.mr _ hnd (fun v M1 hl1 hv => ?_); obtain ⟨A1, c1, rfl, r1⟩ := hv) | fail)
      refine LoopK.mk {q : Nat × Mem // q.1 ≤ nd.length ∧ Le M1 q.2 ∧ ∀ (j : Nat) (hj : j < nd.length), j < q.1 → decide (((heardIn (nd[j]'hj).Acting l).length : Int) < k) = false} (fun ⟨⟨i, _⟩, _⟩ => [(1, .v (.int .i64 k)), (3, .v (.slice B l.length dc)), (9, .v (.slice A1 nd.length c1)), (10, .v (.int .i64 (i : Int)))]) (fun _ => []) (fun q => q.1.2) (fun q => nd.length - q.1.1) ⟨(0, M1), Nat.zero_le _, Le.refl M1, fun j hj h => absurd h (by omega)⟩ ⟨⟨⟨rfl, rfl, rfl, rfl, trivial⟩, trivial, rfl, rfl⟩, rfl⟩ ?_
      rintro ⟨⟨i, N⟩, hi, hle, ha⟩
      simp only at hi hle ha
      (conv => whnf)
      refine CondK.mk (fun h5 => ?_) (fun h5 => ?_)
      · have hlt : i < nd.length := by simpa using h5
        obtain ⟨y, hyk⟩ : ∃ y, nd[i] = y := ⟨_, rfl⟩
        have hy : nd[i]? = some y := by rw [List.getElem?_eq_getElem hlt, hyk]
        obtain ⟨ad, rfl, A0, c0, bny, s0, y0, y1, y2, y3⟩ := at_Interval (r1.mono hle (RInterval.mono hle)) hy
        have e := hl1.trans hle
        have hhd := l13Heard_f N l B dc (hl.mono e (fun _ _ h => h)) hln hp y _ ⟨A0, c0, rfl, bny, s0⟩
        repeat' ((conv => whnf); first | refine IdxK.mk _ rfl (by omega) (by omega) ?_ | refine LdK.mk _ (by assumption) ?_ | (refine CallK.mr _ hhd (fun v N3 hl3 hv => ?_); obtain ⟨A3, c3, rfl, r3⟩ := hv) | fail)
        refine CondK.mk (fun hc => ?_) (fun hc => ?_)
        · (conv => whnf)
          have ef : (nd.all fun y => !decide (((heardIn y.Acting l).length : Int) < k)) = false := by
            rw [List.all_eq_false]
            refine ⟨y, List.mem_of_getElem? hy, ?_⟩
            have hc' : decide (((heardIn y.Acting l).length : Int) < k) = true := hc
            rw [hc']
            decide
          exact RetK.mk fun _ _ _ _ => congrArg Value.bool (by rw [ef]; rfl)
        · (conv => whnf)
          exact ⟨⟨(i + 1, N3), hlt, hle.trans hl3, fun j hj hj' => by rcases Nat.lt_succ_iff_lt_or_eq.mp hj' with hj' | rfl; exact ha j hj hj'; rw [hyk]; exact hc⟩, ⟨⟨rfl, rfl, rfl, look_int (i64_succ (by omega)), trivial⟩, trivial, rfl, rfl⟩, rfl, by simp only; omega⟩
      · have he : i = nd.length := by
          have : ¬ i < nd.length := by simpa using h5
          omega
        subst he
        (conv => whnf)
        have ef : (nd.all fun y => !decide (((heardIn y.Acting l).length : Int) < k)) = true := by
          rw [List.all_eq_true]
          intro y hy
          obtain ⟨j, hj, rfl⟩ := List.getElem_of_mem hy
          rw [ha j hj hj]
          rfl
        exact RetK.mk fun _ _ _ _ => congrArg Value.bool (by rw [ef]; rfl)
  | false =>
    repeat' ((conv => whnf); first | with_reducible refine CondK.tt ?_ | with_reducible refine CondK.ff ?_ | rw [a1] | (refine CallK.mr _ hnd (fun v M1 hl1 hv => ?_); obtain ⟨A1, c1, rfl, r1⟩ := hv) | fail)
    refine LoopK.mk {q : Nat × Mem // q.1 ≤ nd.length ∧ Le M1 q.2 ∧ ∀ (j : Nat) (hj : j < nd.length), j < q.1 → decide (((heardIn (nd[j]'hj).Acting l).length : Int) < k) = false} (fun ⟨⟨i, _⟩, _⟩ => [(1, .v (.int .i64 k)), (3, .v (.slice B l.length dc)), (9, .v (.slice A1 nd.length c1)), (10, .v (.int .i64 (i : Int)))]) (fun _ => []) (fun q => q.1.2) (fun q => nd.length - q.1.1) ⟨(0, M1), Nat.zero_le _, Le.refl M1, fun j hj h => absurd h (by omega)⟩ ⟨⟨⟨rfl, rfl, rfl, rfl, trivial⟩, trivial, rfl, rfl⟩, rfl⟩ ?_
    rintro ⟨⟨i, N⟩, hi, hle, ha⟩
    simp only at hi hle ha
    (conv => whnf)
    refine CondK.mk (fun h5 => ?_) (fun h5 => ?_)
    · have hlt : i < nd.length := by simpa using h5
      obtain ⟨y, hyk⟩ : ∃ y, nd[i] = y := ⟨_, rfl⟩
      have hy : nd[i]? = some y := by rw [List.getElem?_eq_getElem hlt, hyk]
      obtain ⟨ad, rfl, A0, c0, bny, s0, y0, y1, y2, y3⟩ := at_Interval (r1.mono hle (RInterval.mono hle)) hy
      have e := hl1.trans hle
      have hhd := l13Heard_f N l B dc (hl.mono e (fun _ _ h => h)) hln hp y _ ⟨A0, c0, rfl, bny, s0⟩
      repeat' ((conv => whnf); first | refine IdxK.mk _ rfl (by omega) (by omega) ?_ | refine LdK.mk _ (by assumption) ?_ | (refine CallK.mr _ hhd (fun v N3 hl3 hv => ?_); obtain ⟨A3, c3, rfl, r3⟩ := hv) | fail)
      refine CondK.mk (fun hc => ?_) (fun hc => ?_)
      · (conv => whnf)
        have ef : (nd.all fun y => !decide (((heardIn y.Acting l).length : Int) < k)) = false := by
          rw [List.all_eq_false]
          refine ⟨y, List.mem_of_getElem? hy, ?_⟩
          have hc' : decide (((heardIn y.Acting l).length : Int) < k) = true := hc
          rw [hc']
          decide
        exact RetK.mk fun _ _ _ _ => congrArg Value.bool (by rw [ef]; rfl)
      · (conv => whnf)
        exact ⟨⟨(i + 1, N3), hlt, hle.trans hl3, fun j hj hj' => by rcases Nat.lt_succ_iff_lt_or_eq.mp hj' with hj' | rfl; exact ha j hj hj'; rw [hyk]; exact hc⟩, ⟨⟨rfl, rfl, rfl, look_int (i64_succ (by omega)), trivial⟩, trivial, rfl, rfl⟩, rfl, by simp only; omega⟩
    · have he : i = nd.length := by
        have : ¬ i < nd.length := by simpa using h5
        omega
      subst he
      (conv => whnf)
      have ef : (nd.all fun y => !decide (((heardIn y.Acting l).length : Int) < k)) = true := by
        rw [List.all_eq_true]
        intro y hy
        obtain ⟨j, hj, rfl⟩ := List.getElem_of_mem hy
        rw [ha j hj hj]
        rfl
      exact RetK.mk fun _ _ _ _ => congrArg Value.bool (by rw [ef]; rfl)
end Go.Proofs.YtoedjkeahjmpiaaGreat.Hlp
