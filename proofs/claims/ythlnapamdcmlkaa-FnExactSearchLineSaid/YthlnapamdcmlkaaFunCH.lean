/- SearchLine: the reference's search with marks. -/
import Derived.Test.YthlnapamdcmlkaaFunCG
namespace Go.Proofs.Ythlnapamdcmlkaa.Hlp
open Go Go.RowKit Go.Proofs Go.Proofs.Ythlnapamdcmlkaa.Lw Go.Proofs.Ythlnapamdcmlkaa.SL
set_option linter.unusedVariables false
set_option linter.unusedSimpArgs false
set_option maxRecDepth 100000
set_option maxHeartbeats 4000000
/-- Memory without a block. -/
def off (M : Mem) (k : Nat) : Mem := fun a => if a.block = k then none else M a
theorem off_le (M : Mem) (k : Nat) : Le (off M k) M := fun a u h => by unfold off at h; split at h; cases h; exact h
theorem off_none {M : Mem} {k : Nat} {a : Addr} (h : a.block = k) : off M k a = none := if_pos h
theorem off_ne {M : Mem} {k : Nat} {a : Addr} {u : Value} (h : off M k a = some u) : a.block ≠ k := fun he => by rw [off_none he] at h; cases h
theorem off_of {M : Mem} {k : Nat} {a : Addr} {u : Value} (h : M a = some u) (hn : a.block ≠ k) : off M k a = some u := by unfold off; rw [if_neg hn]; exact h
theorem off_blk {M : Mem} {k : Nat} {a : Addr} {u : Value} (h : M a = some u) (hn : off M k a = none) : a.block = k := by
  by_cases hk : a.block = k
  · exact hk
  · rw [off_of h hk] at hn; cases hn
theorem off_dj (M : Mem) (k : Nat) : ∀ ad u ad' u', M ad = some u → off M k ad = none → off M k ad' = some u' → ad.block ≠ ad'.block := fun ad u ad' u' h hn h' he => off_ne h' (he ▸ off_blk h hn)
def InvS (s : ByteArray × Bool) : Prop := s.1.size ≤ 64 ∧ (s.2 = false → s.1 = eB)
theorem inv_step {x : GCall} {s : ByteArray × Bool} (hs : InvS s) (hx : callOkF x = true) (hk : kindOk x) : InvS (applyF x.Op s.1 s.2) := by
  obtain ⟨h1, h2⟩ := hs
  have hb := op_bytes (callOk_op hx).1
  unfold applyF
  split
  · cases hs2 : s.2
    · exact ⟨by show (0 : Nat) ≤ 64; omega, fun _ => rfl⟩
    · exact ⟨h1, fun h => by cases h⟩
  · split
    · exact ⟨hb, fun h => by cases h⟩
    · exact ⟨by show (0 : Nat) ≤ 64; omega, fun _ => rfl⟩
theorem step_wr {x : GCall} {s : ByteArray × Bool} (hr : rdF x = false) : stepC x s = some (applyF x.Op s.1 s.2) := by
  have h1 : ¬ x.Op.Kind = 1 := of_decide_eq_false hr
  unfold stepC fitsV applyF
  rw [if_neg h1, if_neg h1]
  split <;> rfl
theorem step_rd {x : GCall} {s : ByteArray × Bool} (hs : InvS s) (hx : callOkF x = true) (hr : rdF x = true) (hc : countsF x = true) : stepC x s = if (s.2 == (x.Code == 0)) && (x.Body.toList == s.1.toList) then some (applyF x.Op s.1 s.2) else none := by
  have h1 : x.Op.Kind = 1 := of_decide_eq_true hr
  have hbody := (callOk_op hx).2.2.2.1
  obtain ⟨hs1, hs2⟩ := hs
  obtain ⟨body, there⟩ := s
  simp only at hs1 hs2
  rw [ba_eq]
  have hcode : x.Code = 0 ∨ x.Code = 3 := by
    unfold countsF at hc
    simp only [Bool.and_eq_true, Bool.or_eq_true, decide_eq_true_eq] at hc
    omega
  unfold stepC fitsV applyF
  rw [if_pos h1, if_pos h1]
  cases there with
  | true =>
    simp only [if_true]
    rcases hcode with hc0 | hc0
    · rw [hc0]; simp
    · rw [hc0]; simp
  | false =>
    have := hs2 rfl
    subst this
    rcases hcode with hc0 | hc0
    · rw [hc0]; simp
    · have hb := hbody.resolve_left (by omega)
      rw [hc0, hb]; simp
/-- The search's own memory: the marks' row lies apart from the rest. -/
structure SeO (M : Mem) (ad ua : Addr) (A : Option Addr) (c cu : Nat) (l : List GCall) (us : List Bool) : Prop where
  f0 : off M ua.block (ad.add 0) = some (.slice A l.length c)
  f1 : off M ua.block (ad.add 1) = some (.slice (some ua) l.length cu)
  sl : SlR (off M ua.block) RCall 14 136 A c l
  len : us.length = l.length
  us : ∀ i (h : i < us.length), M (ua.add (i * 1)) = some (.bool us[i])
theorem SeO.to {M N : Mem} {ad ua : Addr} {A : Option Addr} {c cu : Nat} {l : List GCall} {us vs : List Bool} (h : SeO M ad ua A c cu l us) (hl : Le (off M ua.block) N) (hv : vs.length = us.length) (hr : ∀ i (h : i < vs.length), N (ua.add (i * 1)) = some (.bool vs[i])) : SeO N ad ua A c cu l vs := by
  have hlo : Le (off M ua.block) (off N ua.block) := fun a u hu => off_of (hl a u hu) (off_ne hu)
  exact ⟨hlo _ _ h.f0, hlo _ _ h.f1, h.sl.mono hlo (RCall.mono hlo), hv.trans h.len, hr⟩
theorem SeO.se {M : Mem} {ad ua : Addr} {A : Option Addr} {c cu : Nat} {l : List GCall} {us : List Bool} (h : SeO M ad ua A c cu l us) : SeR M ad ua A c cu l us :=
  ⟨off_le _ _ _ _ h.f0, off_le _ _ _ _ h.f1, h.sl.mono (off_le _ _) (RCall.mono (off_le _ _)), h.len, h.us⟩
theorem find_b (n : Nat) : ∀ {M : Mem} {ad ua : Addr} {A : Option Addr} {c cu : Nat} {l : List GCall} {us : List Bool} (h : SeO M ad ua A c cu l us) (hn : (left l us).length = n) (h6 : l.length ≤ 6) (hok : ∀ x ∈ l, callOkF x = true) (hk : ∀ x ∈ l, kindOk x) (body : ByteArray) (there : Bool) (hi : InvS (body, there)), AnsB Try.prog (off M ua.block) M 11 #[.pointer (some ad), .string body, .bool there] (fun v M' => ∃ b, v = .bool b ∧ (b = true ↔ FindI befF rdF countsF stepC l us (body, there)) ∧ ∀ i (h : i < us.length), M' (ua.add (i * 1)) = some (.bool us[i])) := by
  induction n using Nat.strongRecOn with
  | _ n IH =>
  intro M ad ua A c cu l us h hn h6 hok hk body there hi
  have hno : ∀ i, off M ua.block (ua.add i) = none := fun i => off_none (add_block _ _)
  refine ansB_of T (l := [.pointer (some ad), .string body, .bool there]) (Mb := off M ua.block) mixed Try.func11 rfl (by kernel_rfl) (Nat.le_of_ble_eq_true rfl) (off_le _ _) (off_dj _ _) ?_
  have hse := h.se
  obtain ⟨f0, f1, sl, hlen, hus⟩ := hse
  obtain ⟨Q, hQ⟩ : ∃ Q : Nat → Bool → Prop, Q = fun k a => a = true ↔ ∀ (j : Nat) (hj : j < us.length) (hj' : j < l.length), j < k → us[j] = false → countsF l[j] = false := ⟨_, rfl⟩
  (conv => whnf)
  refine LoopK.mk {q : Nat × Bool // q.1 ≤ l.length ∧ Q q.1 q.2} (fun ⟨⟨k, a⟩, _⟩ => [(0, .v (.pointer (some ad))), (1, .v (.string body)), (2, .v (.bool there)), (7, .v (.bool a)), (8, .v (.int .i64 (k : Int)))]) (fun _ => []) (fun _ => M) (fun q => l.length - q.1.1) ⟨(0, true), Nat.zero_le _, by rw [hQ]; exact ⟨fun _ j _ _ hj => absurd hj (by simp), fun _ => rfl⟩⟩ ⟨⟨⟨rfl, rfl, rfl, rfl, rfl, trivial⟩, trivial, rfl, rfl⟩, rfl⟩ ?_
  rintro ⟨⟨k, a⟩, hkl, hq⟩
  replace hkl : k ≤ l.length := hkl
  replace hq : Q k a := hq
  have hq' := hq
  rw [hQ] at hq'
  repeat' ((conv => whnf); first | refine LdK.mk _ f0 ?_ | fail)
  refine CondK.mk (fun h1 => ?_) (fun h1 => ?_)
  · have hlt : k < l.length := by have := of_decide_eq_true h1; omega
    have hltu : k < us.length := by omega
    have hui := hus k hltu
    obtain ⟨a0, rfl, bnx, x0, x1, x2, x3, x4, x5, x6, x7, x8, x9, x10, x11, x12, x13⟩ := at_Call sl (List.getElem?_eq_getElem hlt)
    have hxe := (callOk_op (hok l[k] (List.getElem_mem hlt))).2.1
    have g1 := l29Counts_a M l[k] hxe
    cases q0 : us[k] with
    | true =>
      rw [q0] at hui
      repeat' ((conv => whnf); first | with_reducible refine CondK.tt ?_ | with_reducible refine CondK.ff ?_ | refine LdK.mk _ f0 ?_ | refine LdK.mk _ f1 ?_ | refine LdK.mk _ hui ?_ | refine IdxK.mk _ rfl (by omega) (by omega) ?_ | refine LdK.mk _ (by assumption) ?_ | fail)
      (conv => whnf)
      exact ⟨⟨(k + 1, a), hlt, by rw [hQ]; exact hq'.trans ⟨fun g j hj hj' hjk hjf => (by rcases Nat.lt_succ_iff_lt_or_eq.mp hjk with hjk | rfl; exact g j hj hj' hjk hjf; rw [q0] at hjf; cases hjf), fun g j hj hj' hjk hjf => g j hj hj' (by omega) hjf⟩⟩, ⟨⟨rfl, rfl, rfl, rfl, look_int (i64_succ (by omega)), trivial⟩, trivial, rfl, rfl⟩, rfl, by simp; omega⟩
    | false =>
      rw [q0] at hui
      cases q1 : countsF l[k] with
      | true =>
        rw [q1] at g1
        repeat' ((conv => whnf); first | with_reducible refine CondK.tt ?_ | with_reducible refine CondK.ff ?_ | refine LdK.mk _ f0 ?_ | refine LdK.mk _ f1 ?_ | refine LdK.mk _ hui ?_ | refine IdxK.mk _ rfl (by omega) (by omega) ?_ | refine LdK.mk _ (by assumption) ?_ | refine CallK.mk _ g1 ?_ | fail)
        (conv => whnf)
        exact ⟨⟨(k + 1, false), hlt, by rw [hQ]; simp only [Bool.false_eq_true, false_iff]; intro g; have := g k hltu hlt (by omega) q0; rw [q1] at this; cases this⟩, ⟨⟨rfl, rfl, rfl, rfl, look_int (i64_succ (by omega)), trivial⟩, trivial, rfl, rfl⟩, rfl, by simp; omega⟩
      | false =>
        rw [q1] at g1
        repeat' ((conv => whnf); first | with_reducible refine CondK.tt ?_ | with_reducible refine CondK.ff ?_ | refine LdK.mk _ f0 ?_ | refine LdK.mk _ f1 ?_ | refine LdK.mk _ hui ?_ | refine IdxK.mk _ rfl (by omega) (by omega) ?_ | refine LdK.mk _ (by assumption) ?_ | refine CallK.mk _ g1 ?_ | fail)
        (conv => whnf)
        exact ⟨⟨(k + 1, a), hlt, by rw [hQ]; exact hq'.trans ⟨fun g j hj hj' hjk hjf => by rcases Nat.lt_succ_iff_lt_or_eq.mp hjk with hjk | rfl; exact g j hj hj' hjk hjf; exact q1, fun g j hj hj' hjk hjf => g j hj hj' (by omega) hjf⟩⟩, ⟨⟨rfl, rfl, rfl, rfl, look_int (i64_succ (by omega)), trivial⟩, trivial, rfl, rfl⟩, rfl, by simp; omega⟩
  have hke : k = l.length := by have := of_decide_eq_false h1; omega
  subst hke
  cases a with
  | true =>
    have hall := hq'.1 rfl
    repeat' ((conv => whnf); first | with_reducible refine CondK.tt ?_ | with_reducible refine CondK.ff ?_ | refine LdK.mk _ f0 ?_ | refine LdK.mk _ f1 ?_ | refine LdK.mk _ hui ?_ | refine IdxK.mk _ rfl (by omega) (by omega) ?_ | refine LdK.mk _ (by assumption) ?_ | fail)
    (conv => whnf)
    refine RetK.mk fun g M' hl hg => ⟨true, rfl, ?_, fun i hi => hl _ _ (hus i hi)⟩
    simp only [true_iff]
    refine .all us _ fun o ho => ?_
    obtain ⟨j, hj, hj1, rfl⟩ := mem_left l us o ho
    have hju : j < us.length := by omega
    rw [List.getElem?_eq_getElem hju, Option.some.injEq] at hj1
    exact hall j hju hj hj hj1
  | false =>
    have hall : ¬ ∀ o ∈ left l us, countsF o = false := fun g => by
      have := hq'.2 (fun j hj hj' _ hjf => g _ (left_of l us j hj' (by rw [List.getElem?_eq_getElem hj, hjf])))
      cases this
    repeat' ((conv => whnf); first | with_reducible refine CondK.tt ?_ | with_reducible refine CondK.ff ?_ | refine LdK.mk _ f0 ?_ | refine LdK.mk _ f1 ?_ | refine LdK.mk _ hui ?_ | refine IdxK.mk _ rfl (by omega) (by omega) ?_ | refine LdK.mk _ (by assumption) ?_ | fail)
    (conv => whnf)
    obtain ⟨W, hW⟩ : ∃ W : Nat → Prop, W = fun j => ∀ (hj : j < l.length), ¬ (us[j]? = some false ∧ (∀ o ∈ placed l us, befF (l[j]'hj) o = false) ∧ (countsF (l[j]'hj) = true ∨ rdF (l[j]'hj) = false) ∧ ∃ s', stepC (l[j]'hj) (body, there) = some s' ∧ FindI befF rdF countsF stepC l (us.set j true) s') := ⟨_, rfl⟩
    obtain ⟨V, hV⟩ : ∃ V : Mem → Prop, V = fun N => Le (off M ua.block) N ∧ ∀ i (h : i < us.length), N (ua.add (i * 1)) = some (.bool us[i]) := ⟨_, rfl⟩
    refine LoopK.mk {q : Nat × Mem // q.1 ≤ l.length ∧ V q.2 ∧ ∀ j, j < q.1 → W j} (fun ⟨⟨k, _⟩, _⟩ => [(0, .v (.pointer (some ad))), (1, .v (.string body)), (2, .v (.bool there)), (10, .v (.int .i64 (k : Int)))]) (fun _ => []) (fun q => q.1.2) (fun q => l.length - q.1.1) ⟨(0, M), Nat.zero_le _, by rw [hV]; exact ⟨off_le _ _, hus⟩, fun j hj => absurd hj (by simp)⟩ ⟨⟨⟨rfl, rfl, rfl, rfl, trivial⟩, trivial, rfl, rfl⟩, rfl⟩ ?_
    rintro ⟨⟨k, N⟩, hkl2, hN, hp⟩
    replace hkl2 : k ≤ l.length := hkl2
    replace hN : V N := hN
    replace hp : ∀ j, j < k → W j := hp
    have hN' := hN
    rw [hV] at hN'
    obtain ⟨hNl, hNr⟩ := hN'
    have hO := h.to hNl rfl hNr
    have hse := hO.se
    have e0 := hse.f0
    have e1 := hse.f1
    repeat' ((conv => whnf); first | refine LdK.mk _ e0 ?_ | fail)
    refine CondK.mk (fun h2 => ?_) (fun h2 => ?_)
    · have hlt : k < l.length := by have := of_decide_eq_true h2; omega
      have hltu : k < us.length := by omega
      have hmem : l[k] ∈ l := List.getElem_mem hlt
      have hokk := hok l[k] hmem
      have hxe := (callOk_op hokk).2.1
      obtain ⟨a0, rfl, bnx, x0, x1, x2, x3, x4, x5, x6, x7, x8, x9, x10, x11, x12, x13⟩ := at_Call hse.sl (List.getElem?_eq_getElem hlt)
      have g3 := l29May_a hse h6 (fun x hx => (callOk_op (hok x hx)).2.1) k hlt hltu
      have g4 := sReads_a N l[k].Op
      have huk : us[k]? = some us[k] := List.getElem?_eq_getElem hltu
      cases q3 : mayF l us l[k] us[k] with
      | false =>
        rw [q3] at g3
        repeat' ((conv => whnf); first | with_reducible refine CondK.tt ?_ | with_reducible refine CondK.ff ?_ | refine LdK.mk _ e0 ?_ | refine LdK.mk _ e1 ?_ | refine IdxK.mk _ rfl (by omega) (by omega) ?_ | refine LdK.mk _ (by assumption) ?_ | refine CallK.mk _ g3 ?_ | fail)
        (conv => whnf)
        refine ⟨⟨(k + 1, N), hlt, hN, fun j hj => ?_⟩, ⟨⟨rfl, rfl, rfl, look_int (i64_succ (by omega)), trivial⟩, trivial, rfl, rfl⟩, rfl, by simp; omega⟩
        rcases Nat.lt_succ_iff_lt_or_eq.mp hj with hj | rfl
        · exact hp j hj
        · rw [hW]
          rintro hj ⟨g1, g2, g5, _⟩
          rw [huk, Option.some.injEq] at g1
          unfold mayF at q3
          rw [List.any_eq_false.2 (fun o ho => by rw [g2 o ho]; decide), g1] at q3
          rcases g5 with g5 | g5 <;> rw [g5] at q3 <;> simp at q3
      | true =>
        rw [q3] at g3
        unfold mayF at q3
        simp only [Bool.and_eq_true, Bool.not_eq_true', Bool.or_eq_true] at q3
        obtain ⟨q4, q5, q6⟩ := q3
        have hpl : ∀ o ∈ placed l us, befF l[k] o = false := fun o ho => by simpa using List.any_eq_false.1 q4 o ho
        have g5 := sApply_a N l[k].Op body there (hk l[k] hmem) (callOk_op hokk).1 hi.1
        have hit := inv_step hi hokk (hk l[k] hmem)
        generalize hr : applyF l[k].Op body there = r at g5
        replace hit : InvS r := by have := hit; simp only [hr] at this; exact this
        cases q7 : rdF l[k] with
        | true =>
          have q8 := q6.resolve_right (by rw [q7]; decide)
          have hst := step_rd hi hokk q7 q8
          simp only [hr] at hst
          have hq7 : decide (l[k].Op.Kind = 1) = true := q7
          rw [hq7] at g4
          cases q9 : (there == (l[k].Code == 0)) with
          | false =>
            repeat' ((conv => whnf); first | with_reducible refine CondK.tt ?_ | with_reducible refine CondK.ff ?_ | refine LdK.mk _ e0 ?_ | refine LdK.mk _ e1 ?_ | refine IdxK.mk _ rfl (by omega) (by omega) ?_ | refine LdK.mk _ (by assumption) ?_ | refine CallK.mk _ g3 ?_ | refine CallK.mk _ g4 ?_ | rw [q9] | fail)
            (conv => whnf)
            refine ⟨⟨(k + 1, N), hlt, hN, fun j hj => ?_⟩, ⟨⟨rfl, rfl, rfl, look_int (i64_succ (by omega)), trivial⟩, trivial, rfl, rfl⟩, rfl, by simp; omega⟩
            rcases Nat.lt_succ_iff_lt_or_eq.mp hj with hj | rfl
            · exact hp j hj
            · rw [hW]
              rintro hj ⟨_, _, _, s', hs, _⟩
              rw [hst, q9] at hs
              cases hs
          | true =>
            cases q10 : (l[k].Body.toList == body.toList) with
            | false =>
              repeat' ((conv => whnf); first | with_reducible refine CondK.tt ?_ | with_reducible refine CondK.ff ?_ | refine LdK.mk _ e0 ?_ | refine LdK.mk _ e1 ?_ | refine IdxK.mk _ rfl (by omega) (by omega) ?_ | refine LdK.mk _ (by assumption) ?_ | refine CallK.mk _ g3 ?_ | refine CallK.mk _ g4 ?_ | rw [q9] | rw [q10] | fail)
              (conv => whnf)
              refine ⟨⟨(k + 1, N), hlt, hN, fun j hj => ?_⟩, ⟨⟨rfl, rfl, rfl, look_int (i64_succ (by omega)), trivial⟩, trivial, rfl, rfl⟩, rfl, by simp; omega⟩
              rcases Nat.lt_succ_iff_lt_or_eq.mp hj with hj | rfl
              · exact hp j hj
              · rw [hW]
                rintro hj ⟨_, _, _, s', hs, _⟩
                rw [hst, q9, q10] at hs
                cases hs
            | true =>
              repeat' ((conv => whnf); first | with_reducible refine CondK.tt ?_ | with_reducible refine CondK.ff ?_ | refine LdK.mk _ e0 ?_ | refine LdK.mk _ e1 ?_ | refine IdxK.mk _ rfl (by omega) (by omega) ?_ | refine LdK.mk _ (by assumption) ?_ | refine CallK.mk _ g3 ?_ | refine CallK.mk _ g4 ?_ | refine CallK.mk _ g5 ?_ | rw [q9] | rw [q10] | fail)
              (conv => whnf)
              rw [q9, q10, Bool.and_self, if_pos rfl] at hst
              refine WrK.mk rfl (by show (N ((ua.add (k * 1)).add 0)).isSome = true; rw [add0, hNr k hltu]; rfl) (by show off M ua.block ((ua.add (k * 1)).add 0) = none; exact off_none (by rw [add_block, add_block])) (fun N1 k1 k2 => ?_)
              replace k1 : N1 ((ua.add (k * 1)).add 0) = some (.bool true) := k1
              replace k2 : ∀ a, a ≠ (ua.add (k * 1)).add 0 → N1 a = N a := k2
              rw [add0] at k1 k2
              have hN1l : Le (off M ua.block) N1 := fun a u hu => by rw [k2 a (fun he => off_ne hu (by rw [he, add_block]))]; exact hNl a u hu
              have hN1r : ∀ i (h : i < (us.set k true).length), N1 (ua.add (i * 1)) = some (.bool (us.set k true)[i]) := fun i hi2 => by
                have hil : i < us.length := by simpa using hi2
                by_cases hik : i = k
                · subst hik; rw [k1, List.getElem_set_self]
                · rw [k2 _ (fun he => by have := add_inj he; omega), hNr i hil, List.getElem_set_ne (fun he => hik he.symm)]
              have hO1 := h.to hN1l (by simp) hN1r
              have hlt2 : (left l (us.set k true)).length < n := by
                have := (left_set l us k hlt (by rw [huk, q5])).1.length_eq
                rw [List.length_cons] at this
                omega
              have ih := IH _ hlt2 hO1 rfl h6 hok hk r.1 r.2 hit
              repeat' ((conv => whnf); first | with_reducible refine CondK.tt ?_ | with_reducible refine CondK.ff ?_ | fail)
              (conv => whnf)
              refine CallK.mb (off N1 ua.block) _ rfl ih (off_le _ _) (fun a u h1 h2 => off_none (off_blk h1 h2)) (off_dj _ _) (fun v Mx N2 hR hl2 hlb2 _ => ?_)
              obtain ⟨b, rfl, hb, hrow⟩ := hR
              have hN2l : Le (off M ua.block) N2 := fun a u hu => hlb2 a u (off_of (hN1l a u hu) (off_ne hu))
              have hN2r : ∀ i (h : i < (us.set k true).length), N2 (ua.add (i * 1)) = some (.bool (us.set k true)[i]) := fun i hi2 => hl2 _ _ (hrow i hi2)
              have w0 := hN2l _ _ h.f0
              have w1 := hN2l _ _ h.f1
              repeat' ((conv => whnf); first | with_reducible refine CondK.tt ?_ | with_reducible refine CondK.ff ?_ | refine LdK.mk _ w0 ?_ | refine LdK.mk _ w1 ?_ | refine IdxK.mk _ rfl (by omega) (by omega) ?_ | fail)
              (conv => whnf)
              refine WrK.mk rfl (by show (N2 ((ua.add (k * 1)).add 0)).isSome = true; rw [add0, hN2r k (by simpa using hltu)]; rfl) (by show off M ua.block ((ua.add (k * 1)).add 0) = none; exact off_none (by rw [add_block, add_block])) (fun N3 k3 k4 => ?_)
              replace k3 : N3 ((ua.add (k * 1)).add 0) = some (.bool false) := k3
              replace k4 : ∀ a, a ≠ (ua.add (k * 1)).add 0 → N3 a = N2 a := k4
              rw [add0] at k3 k4
              have hN3l : Le (off M ua.block) N3 := fun a u hu => by rw [k4 a (fun he => off_ne hu (by rw [he, add_block]))]; exact hN2l a u hu
              have hN3r : ∀ i (h : i < us.length), N3 (ua.add (i * 1)) = some (.bool us[i]) := fun i hil => by
                by_cases hik : i = k
                · subst hik; rw [k3, q5]
                · rw [k4 _ (fun he => by have := add_inj he; omega), hN2r i (by simpa using hil), List.getElem_set_ne (fun he => hik he.symm)]
              cases b with
              | true =>
                repeat' ((conv => whnf); first | with_reducible refine CondK.tt ?_ | with_reducible refine CondK.ff ?_ | fail)
                (conv => whnf)
                refine RetK.mk fun g M' hl hg => ⟨true, rfl, ?_, fun i hi => hl _ _ (hN3r i hi)⟩
                simp only [true_iff]
                exact .step us _ r k hlt (by rw [huk, q5]) hpl q6 hst (hb.1 rfl)
              | false =>
                repeat' ((conv => whnf); first | with_reducible refine CondK.tt ?_ | with_reducible refine CondK.ff ?_ | fail)
                (conv => whnf)
                refine ⟨⟨(k + 1, N3), hlt, by rw [hV]; exact ⟨hN3l, hN3r⟩, fun j hj => ?_⟩, ⟨⟨rfl, rfl, rfl, look_int (i64_succ (by omega)), trivial⟩, trivial, rfl, rfl⟩, rfl, by simp; omega⟩
                rcases Nat.lt_succ_iff_lt_or_eq.mp hj with hj | rfl
                · exact hp j hj
                · rw [hW]
                  rintro hj ⟨_, _, _, s', hs, hf⟩
                  rw [hst, Option.some.injEq] at hs
                  subst hs
                  have := hb.2 hf
                  cases this
        | false =>
          have hst := step_wr (s := (body, there)) q7
          simp only [hr] at hst
          have hq7 : decide (l[k].Op.Kind = 1) = false := q7
          rw [hq7] at g4
          repeat' ((conv => whnf); first | with_reducible refine CondK.tt ?_ | with_reducible refine CondK.ff ?_ | refine LdK.mk _ e0 ?_ | refine LdK.mk _ e1 ?_ | refine IdxK.mk _ rfl (by omega) (by omega) ?_ | refine LdK.mk _ (by assumption) ?_ | refine CallK.mk _ g3 ?_ | refine CallK.mk _ g4 ?_ | refine CallK.mk _ g5 ?_ | fail)
          (conv => whnf)
          refine WrK.mk rfl (by show (N ((ua.add (k * 1)).add 0)).isSome = true; rw [add0, hNr k hltu]; rfl) (by show off M ua.block ((ua.add (k * 1)).add 0) = none; exact off_none (by rw [add_block, add_block])) (fun N1 k1 k2 => ?_)
          replace k1 : N1 ((ua.add (k * 1)).add 0) = some (.bool true) := k1
          replace k2 : ∀ a, a ≠ (ua.add (k * 1)).add 0 → N1 a = N a := k2
          rw [add0] at k1 k2
          have hN1l : Le (off M ua.block) N1 := fun a u hu => by rw [k2 a (fun he => off_ne hu (by rw [he, add_block]))]; exact hNl a u hu
          have hN1r : ∀ i (h : i < (us.set k true).length), N1 (ua.add (i * 1)) = some (.bool (us.set k true)[i]) := fun i hi2 => by
            have hil : i < us.length := by simpa using hi2
            by_cases hik : i = k
            · subst hik; rw [k1, List.getElem_set_self]
            · rw [k2 _ (fun he => by have := add_inj he; omega), hNr i hil, List.getElem_set_ne (fun he => hik he.symm)]
          have hO1 := h.to hN1l (by simp) hN1r
          have hlt2 : (left l (us.set k true)).length < n := by
            have := (left_set l us k hlt (by rw [huk, q5])).1.length_eq
            rw [List.length_cons] at this
            omega
          have ih := IH _ hlt2 hO1 rfl h6 hok hk r.1 r.2 hit
          repeat' ((conv => whnf); first | with_reducible refine CondK.tt ?_ | with_reducible refine CondK.ff ?_ | fail)
          (conv => whnf)
          refine CallK.mb (off N1 ua.block) _ rfl ih (off_le _ _) (fun a u h1 h2 => off_none (off_blk h1 h2)) (off_dj _ _) (fun v Mx N2 hR hl2 hlb2 _ => ?_)
          obtain ⟨b, rfl, hb, hrow⟩ := hR
          have hN2l : Le (off M ua.block) N2 := fun a u hu => hlb2 a u (off_of (hN1l a u hu) (off_ne hu))
          have hN2r : ∀ i (h : i < (us.set k true).length), N2 (ua.add (i * 1)) = some (.bool (us.set k true)[i]) := fun i hi2 => hl2 _ _ (hrow i hi2)
          have w0 := hN2l _ _ h.f0
          have w1 := hN2l _ _ h.f1
          repeat' ((conv => whnf); first | with_reducible refine CondK.tt ?_ | with_reducible refine CondK.ff ?_ | refine LdK.mk _ w0 ?_ | refine LdK.mk _ w1 ?_ | refine IdxK.mk _ rfl (by omega) (by omega) ?_ | fail)
          (conv => whnf)
          refine WrK.mk rfl (by show (N2 ((ua.add (k * 1)).add 0)).isSome = true; rw [add0, hN2r k (by simpa using hltu)]; rfl) (by show off M ua.block ((ua.add (k * 1)).add 0) = none; exact off_none (by rw [add_block, add_block])) (fun N3 k3 k4 => ?_)
          replace k3 : N3 ((ua.add (k * 1)).add 0) = some (.bool false) := k3
          replace k4 : ∀ a, a ≠ (ua.add (k * 1)).add 0 → N3 a = N2 a := k4
          rw [add0] at k3 k4
          have hN3l : Le (off M ua.block) N3 := fun a u hu => by rw [k4 a (fun he => off_ne hu (by rw [he, add_block]))]; exact hN2l a u hu
          have hN3r : ∀ i (h : i < us.length), N3 (ua.add (i * 1)) = some (.bool us[i]) := fun i hil => by
            by_cases hik : i = k
            · subst hik; rw [k3, q5]
            · rw [k4 _ (fun he => by have := add_inj he; omega), hN2r i (by simpa using hil), List.getElem_set_ne (fun he => hik he.symm)]
          cases b with
          | true =>
            repeat' ((conv => whnf); first | with_reducible refine CondK.tt ?_ | with_reducible refine CondK.ff ?_ | fail)
            (conv => whnf)
            refine RetK.mk fun g M' hl hg => ⟨true, rfl, ?_, fun i hi => hl _ _ (hN3r i hi)⟩
            simp only [true_iff]
            exact .step us _ r k hlt (by rw [huk, q5]) hpl q6 hst (hb.1 rfl)
          | false =>
            repeat' ((conv => whnf); first | with_reducible refine CondK.tt ?_ | with_reducible refine CondK.ff ?_ | fail)
            (conv => whnf)
            refine ⟨⟨(k + 1, N3), hlt, by rw [hV]; exact ⟨hN3l, hN3r⟩, fun j hj => ?_⟩, ⟨⟨rfl, rfl, rfl, look_int (i64_succ (by omega)), trivial⟩, trivial, rfl, rfl⟩, rfl, by simp; omega⟩
            rcases Nat.lt_succ_iff_lt_or_eq.mp hj with hj | rfl
            · exact hp j hj
            · rw [hW]
              rintro hj ⟨_, _, _, s', hs, hf⟩
              rw [hst, Option.some.injEq] at hs
              subst hs
              have := hb.2 hf
              cases this
    · have hke : ¬ k < l.length := by have := of_decide_eq_false h2; omega
      repeat' ((conv => whnf); first | with_reducible refine CondK.tt ?_ | with_reducible refine CondK.ff ?_ | refine LdK.mk _ e0 ?_ | refine LdK.mk _ e1 ?_ | refine IdxK.mk _ rfl (by omega) (by omega) ?_ | refine LdK.mk _ (by assumption) ?_ | fail)
      (conv => whnf)
      refine RetK.mk fun g M' hl hg => ⟨false, rfl, ?_, fun i hi => hl _ _ (hNr i hi)⟩
      simp only [Bool.false_eq_true, false_iff]
      intro hs
      cases hs with
      | all _ _ h => exact hall h
      | step _ _ s' i hi hu hb hm h1 h2 =>
        have := hp i (by omega)
        rw [hW] at this
        exact this hi ⟨hu, hb, hm, s', h1, h2⟩
end Go.Proofs.Ythlnapamdcmlkaa.Hlp
