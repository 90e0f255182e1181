/- SearchLine: the program's side; the reference's check of one call. -/
import Derived.Test.YthlnapamdcmlkaaFunCF
namespace Go.Proofs.Ythlnapamdcmlkaa.Hlp
open Go Go.RowKit Go.Proofs Go.Proofs.Ythlnapamdcmlkaa.Lw Go.Proofs.Ythlnapamdcmlkaa.SL
set_option linter.unusedVariables false
set_option linter.unusedSimpArgs false
set_option maxRecDepth 100000
set_option maxHeartbeats 4000000
theorem searchF_kind {l : List GCall} (h : searchF l = true) : l.length ≤ 6 ∧ callsOkF l = true ∧ ∀ x ∈ l, kindOk x := by
  unfold searchF at h
  simp only [Bool.and_eq_true, decide_eq_true_eq] at h
  obtain ⟨h1, h2, h3⟩ := h
  refine ⟨h1, h2, fun x hx => ?_⟩
  cases l with
  | nil => cases hx
  | cons y r =>
    have h4 : ((y :: r).any (badF y)) = false := by simpa using h3
    exact badF_kind (by simpa using List.any_eq_false.1 h4 x hx)
theorem iSearch_a (M : Mem) (l : List GCall) (A : Option Addr) (c : Nat) (h : SlR M RCall 14 136 A c l) : AnsR Try.prog M 7 #[.slice A l.length c] (fun _ v => ∃ b, v = .bool b ∧ (b = true ↔ searchF l = true ∧ ChoI befF rdF countsF stepC (eB, false) [] l)) := by
  refine ansR_of T (l := [.slice A l.length c]) mixed Try.func7 rfl (by kernel_rfl) (Nat.le_of_ble_eq_true rfl) ?_
  (conv => whnf)
  refine CallK.mr _ (searchable_a M l A c h) (fun v M1 hl1 hv => ?_)
  cases q : searchF l with
  | false =>
    rw [q] at hv
    subst hv
    (conv => whnf)
    exact RetK.mk fun g M' hl hg => ⟨false, rfl, by simp⟩
  | true =>
    rw [q] at hv
    subst hv
    obtain ⟨h6, _, hk⟩ := searchF_kind q
    (conv => whnf)
    refine CallK.mr _ (choose_r l M1 [] none 0 A c SlR.nil (h.mono hl1 (RCall.mono hl1)) (by simp; omega) (fun x hx => absurd hx (by simp)) hk) (fun v M2 hl2 hv => ?_)
    obtain ⟨b, rfl, hb⟩ := hv
    (conv => whnf)
    exact RetK.mk fun g M' hl hg => ⟨b, rfl, by simp [hb]⟩
/-- What the reference's search has at hand: the calls, and a mark for each of them. -/
structure SeR (M : Mem) (ad ua : Addr) (A : Option Addr) (c cu : Nat) (l : List GCall) (us : List Bool) : Prop where
  f0 : M (ad.add 0) = some (.slice A l.length c)
  f1 : M (ad.add 1) = some (.slice (some ua) l.length cu)
  sl : SlR M RCall 14 136 A c l
  len : us.length = l.length
  us : ∀ i (h : i < us.length), M (ua.add (i * 1)) = some (.bool us[i])
theorem SeR.mono {M M' : Mem} {ad ua : Addr} {A : Option Addr} {c cu : Nat} {l : List GCall} {us : List Bool} (h : SeR M ad ua A c cu l us) (hl : Le M M') : SeR M' ad ua A c cu l us :=
  ⟨hl _ _ h.f0, hl _ _ h.f1, h.sl.mono hl (RCall.mono hl), h.len, fun i hi => hl _ _ (h.us i hi)⟩
def mayF (l : List GCall) (us : List Bool) (x : GCall) (u : Bool) : Bool := !((placed l us).any (befF x)) && (!u && (countsF x || !rdF x))
theorem l29May_a {M : Mem} {ad ua : Addr} {A : Option Addr} {c cu : Nat} {l : List GCall} {us : List Bool} (h : SeR M ad ua A c cu l us) (h6 : l.length ≤ 6) (he : ∀ x ∈ l, 0 ≤ x.End) (at_ : Nat) (hat : at_ < l.length) (hat' : at_ < us.length) : Ans Try.prog M 19 #[.pointer (some ad), .int .i64 (at_ : Int)] (.bool (mayF l us l[at_] us[at_])) := by
  obtain ⟨f0, f1, sl, hlen, hus⟩ := h
  obtain ⟨x, hx⟩ : ∃ x, x = l[at_] := ⟨_, rfl⟩
  obtain ⟨u, hu⟩ : ∃ u, u = us[at_] := ⟨_, rfl⟩
  have hxl : l[at_]? = some x := by rw [hx]; exact List.getElem?_eq_getElem hat
  have hul := hus at_ hat'
  rw [← hu] at hul
  rw [← hx, ← hu]
  have hxe := he x (by rw [hx]; exact List.getElem_mem hat)
  obtain ⟨a0, rfl, bnx, x0, x1, x2, x3, x4, x5, x6, x7, x8, x9, x10, x11, x12, x13⟩ := at_Call sl hxl
  refine ans_of T (l := [.pointer (some ad), .int .i64 (at_ : Int)]) mixed Try.func19 rfl (by kernel_rfl) (Nat.le_of_ble_eq_true rfl) ?_
  obtain ⟨Q, hQ⟩ : ∃ Q : Nat → Prop, Q = fun i => ∀ (j : Nat) (hj : j < us.length) (hj' : j < l.length), j < i → us[j] = true → befF x l[j] = false := ⟨_, rfl⟩
  (conv => whnf)
  refine LoopK.mk {i : Nat // i ≤ l.length ∧ Q i} (fun ⟨i, _⟩ => [(0, .v (.pointer (some ad))), (1, .v (.int .i64 (at_ : Int))), (5, .v (.int .i64 (i : Int)))]) (fun _ => []) (fun _ => M) (fun i => l.length - i.1) ⟨0, Nat.zero_le _, by rw [hQ]; exact fun j _ _ hj => absurd hj (by omega)⟩ ⟨⟨⟨rfl, rfl, rfl, trivial⟩, trivial, rfl, rfl⟩, rfl⟩ ?_
  rintro ⟨i, hi, hq⟩
  have hq' := hq
  rw [hQ] at hq'
  repeat' ((conv => whnf); first | refine LdK.mk _ f0 ?_ | fail)
  refine CondK.mk (fun h1 => ?_) (fun h1 => ?_)
  · have hlt : i < l.length := by have := of_decide_eq_true h1; omega
    have hltu : i < us.length := by omega
    have hui := hus i hltu
    obtain ⟨a0', ha', bny, y0, y1, y2, y3, y4, y5, y6, y7, y8, y9, y10, y11, y12, y13⟩ := at_Call sl (List.getElem?_eq_getElem hlt)
    cases ha'
    cases q0 : us[i] with
    | false =>
      rw [q0] at hui
      repeat' ((conv => whnf); first | with_reducible refine CondK.tt ?_ | with_reducible refine CondK.ff ?_ | refine DrawN.q (by kernel_rfl) ?_ | refine LdK.mk _ f0 ?_ | refine LdK.mk _ f1 ?_ | refine LdK.mk _ hui ?_ | refine IdxK.mk _ rfl (by omega) (by omega) ?_ | refine LdK.mk _ (by assumption) ?_ | fail)
      (conv => whnf)
      exact ⟨⟨i + 1, hlt, by rw [hQ]; exact fun j hj hj' hji hjt => by rcases Nat.lt_succ_iff_lt_or_eq.mp hji with hji | rfl; exact hq' j hj hj' hji hjt; rw [q0] at hjt; cases hjt⟩, ⟨⟨rfl, rfl, look_int (i64_succ (by omega)), trivial⟩, trivial, rfl, rfl⟩, rfl, by simp; omega⟩
    | true =>
      rw [q0] at hui
      cases q1 : decide (x.End > 0) with
      | false =>
        have hbf : befF x l[i] = false := by unfold befF; rw [decide_eq_false (by have := of_decide_eq_false q1; omega)]; rfl
        repeat' ((conv => whnf); first | with_reducible refine CondK.tt ?_ | with_reducible refine CondK.ff ?_ | refine DrawN.q (by kernel_rfl) ?_ | refine LdK.mk _ f0 ?_ | refine LdK.mk _ f1 ?_ | refine LdK.mk _ hui ?_ | refine IdxK.mk _ rfl (by omega) (by omega) ?_ | refine LdK.mk _ (by assumption) ?_ | rw [q1] | fail)
        (conv => whnf)
        exact ⟨⟨i + 1, hlt, by rw [hQ]; exact fun j hj hj' hji hjt => by rcases Nat.lt_succ_iff_lt_or_eq.mp hji with hji | rfl; exact hq' j hj hj' hji hjt; exact hbf⟩, ⟨⟨rfl, rfl, look_int (i64_succ (by omega)), trivial⟩, trivial, rfl, rfl⟩, rfl, by simp; omega⟩
      | true =>
        cases q2 : decide (x.End < l[i].Begin) with
        | false =>
          have hbf : befF x l[i] = false := by unfold befF; rw [q2, Bool.and_false]
          repeat' ((conv => whnf); first | with_reducible refine CondK.tt ?_ | with_reducible refine CondK.ff ?_ | refine DrawN.q (by kernel_rfl) ?_ | refine LdK.mk _ f0 ?_ | refine LdK.mk _ f1 ?_ | refine LdK.mk _ hui ?_ | refine IdxK.mk _ rfl (by omega) (by omega) ?_ | refine LdK.mk _ (by assumption) ?_ | rw [q1] | rw [q2] | refine CondK.no' q2 ?_ | fail)
          (conv => whnf)
          exact ⟨⟨i + 1, hlt, by rw [hQ]; exact fun j hj hj' hji hjt => by rcases Nat.lt_succ_iff_lt_or_eq.mp hji with hji | rfl; exact hq' j hj hj' hji hjt; exact hbf⟩, ⟨⟨rfl, rfl, look_int (i64_succ (by omega)), trivial⟩, trivial, rfl, rfl⟩, rfl, by simp; omega⟩
        | true =>
          have hbf : befF x l[i] = true := by unfold befF; rw [q2, decide_eq_true (by have := of_decide_eq_true q1; omega)]; rfl
          repeat' ((conv => whnf); first | with_reducible refine CondK.tt ?_ | with_reducible refine CondK.ff ?_ | refine DrawN.q (by kernel_rfl) ?_ | refine LdK.mk _ f0 ?_ | refine LdK.mk _ f1 ?_ | refine LdK.mk _ hui ?_ | refine IdxK.mk _ rfl (by omega) (by omega) ?_ | refine LdK.mk _ (by assumption) ?_ | rw [q1] | rw [q2] | refine CondK.yes' q2 ?_ | fail)
          (conv => whnf)
          have ha : (placed l us).any (befF x) = true := List.any_eq_true.2 ⟨l[i], placed_of l us i hlt (by rw [List.getElem?_eq_getElem hltu, q0]), hbf⟩
          exact ret_bool (by unfold mayF; rw [ha]; rfl)
  · have hie : i = l.length := by have := of_decide_eq_false h1; omega
    subst hie
    have ha : (placed l us).any (befF x) = false := by
      rw [List.any_eq_false]
      intro o ho
      obtain ⟨j, hj, hj1, hj2⟩ := mem_placed l us o ho
      subst hj2
      have hjl : j < us.length := by omega
      rw [List.getElem?_eq_getElem hjl, Option.some.injEq] at hj1
      rw [hq' j hjl hj hj hj1]
      decide
    unfold mayF
    rw [ha]
    have g1 := l29Counts_a M x hxe
    have g2 := sReads_a M x.Op
    cases u with
    | true =>
      repeat' ((conv => whnf); first | with_reducible refine CondK.tt ?_ | with_reducible refine CondK.ff ?_ | refine LdK.mk _ f0 ?_ | refine LdK.mk _ f1 ?_ | refine LdK.mk _ hul ?_ | refine IdxK.mk _ rfl (by omega) (by omega) ?_ | refine LdK.mk _ (by assumption) ?_ | refine CallK.mk _ g1 ?_ | refine CallK.mk _ g2 ?_ | fail)
      (conv => whnf)
      exact rfl
    | false =>
      cases q3 : countsF x with
      | true =>
        rw [q3] at g1
        repeat' ((conv => whnf); first | with_reducible refine CondK.tt ?_ | with_reducible refine CondK.ff ?_ | refine LdK.mk _ f0 ?_ | refine LdK.mk _ f1 ?_ | refine LdK.mk _ hul ?_ | refine IdxK.mk _ rfl (by omega) (by omega) ?_ | refine LdK.mk _ (by assumption) ?_ | refine CallK.mk _ g1 ?_ | refine CallK.mk _ g2 ?_ | fail)
        (conv => whnf)
        exact rfl
      | false =>
        rw [q3] at g1
        repeat' ((conv => whnf); first | with_reducible refine CondK.tt ?_ | with_reducible refine CondK.ff ?_ | refine LdK.mk _ f0 ?_ | refine LdK.mk _ f1 ?_ | refine LdK.mk _ hul ?_ | refine IdxK.mk _ rfl (by omega) (by omega) ?_ | refine LdK.mk _ (by assumption) ?_ | refine CallK.mk _ g1 ?_ | refine CallK.mk _ g2 ?_ | fail)
        (conv => whnf)
        exact rfl
end Go.Proofs.Ythlnapamdcmlkaa.Hlp
