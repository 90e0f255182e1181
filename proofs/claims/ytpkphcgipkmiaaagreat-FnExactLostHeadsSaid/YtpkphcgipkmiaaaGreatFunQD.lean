/- Heads that no source can fill: both doors. -/
import Derived.Test.YtpkphcgipkmiaaaGreatFunQC
import Derived.Test.YtpkphcgipkmiaaaGreatFunV
namespace Go.Proofs.YtpkphcgipkmiaaaGreat.Hlp
open Go Go.RowKit Go.Proofs Go.Proofs.YtpkphcgipkmiaaaGreat.Lw
set_option linter.unusedVariables false
set_option linter.unusedSimpArgs false
set_option maxRecDepth 100000
set_option maxHeartbeats 4000000
def codeOkQ (c : GCode) : Bool := inR c.K 1 4 && inR c.M 0 3
theorem codeQ_in {c : GCode} (h : codeOkQ c = true) : (0 ≤ c.K ∧ c.K ≤ 100) ∧ (0 ≤ c.M ∧ c.M ≤ 100) := by
  unfold codeOkQ inR at h
  simp only [Bool.and_eq_true, decide_eq_true_eq] at h
  omega
theorem codeOkQ_a (M : Mem) (c : GCode) : Ans Tryz.prog M 43 #[.agg #[.int .i64 c.K, .int .i64 c.M]] (.bool (codeOkQ c)) := by
  refine ans_of T (l := [.agg #[.int .i64 c.K, .int .i64 c.M]]) mixed Tryz.func43 rfl (by kernel_rfl) (Nat.le_of_ble_eq_true rfl) ?_
  repeat' ((conv => whnf); first | with_reducible refine CondK.tt ?_ | with_reducible refine CondK.ff ?_ | refine CallK.mk _ (between_a _ _ _ _) ?_ | refine CondK.mk (fun h => ?_) (fun h => ?_) | fail)
  all_goals refine ret_bool ?_
  all_goals (unfold codeOkQ; simp_all)
theorem l04CodeQ_a (M : Mem) (c : GCode) : Ans Tryz.prog M 32 #[.agg #[.int .i64 c.K, .int .i64 c.M]] (.bool (codeOkQ c)) := by
  refine ans_of T (l := [.agg #[.int .i64 c.K, .int .i64 c.M]]) mixed Tryz.func32 rfl (by kernel_rfl) (Nat.le_of_ble_eq_true rfl) ?_
  repeat' ((conv => whnf); first | with_reducible refine CondK.tt ?_ | with_reducible refine CondK.ff ?_ | refine CallK.mk _ (l00In_a _ _ _ _) ?_ | refine CondK.mk (fun h => ?_) (fun h => ?_) | fail)
  all_goals refine ret_bool ?_
  all_goals (unfold codeOkQ; simp_all)
theorem lost1_r (M : Mem) (x : GHead) (c : GCode) (hK : 0 ≤ c.K ∧ c.K ≤ 100) (hM : 0 ≤ c.M ∧ c.M ≤ 100) (l : List GNotice) (A : Option Addr) (ca : Nat) (hl : SlR M RNotice 13 168 A ca l) (hn : l.length ≤ 16) (hok : ∀ y ∈ l, y.State.Chunks.length ≤ 1048576 ∧ SortedC y.State.Chunks) (a b : Addr) (h0 : M (a.add 0) = some (.int .i64 c.K)) (h1 : M (a.add 1) = some (.int .i64 c.M)) (h2 : M (b.add 0) = some (.slice A l.length ca)) : AnsR Tryz.prog M 48 #[.agg #[.string x.Name, .int .i64 x.Ver.Epoch, .int .i64 x.Ver.Seq, .int .i64 x.Size, .int .i64 x.Sum], .pointer (some a), .pointer (some b)] (fun _ v => v = .bool (canF l x c)) := by
  refine ansRC_of T (l := [.agg #[.string x.Name, .int .i64 x.Ver.Epoch, .int .i64 x.Ver.Seq, .int .i64 x.Size, .int .i64 x.Sum], .pointer (some a), .pointer (some b)]) mixed Tryz.func48 rfl (by kernel_rfl) (Nat.le_of_ble_eq_true rfl) ?_
  repeat' ((conv => whnf); first | refine LdK.mk _ (by assumption) ?_ | (refine CallK.mr _ (pulls_a M c hK hM l A ca hl hn hok x) (fun v M3 hl3 hv => ?_); obtain ⟨Ap, cp, rfl, _⟩ := hv) | fail)
  exact RetK.mk fun _ _ _ _ => rfl
def lhOkF (c : GCode) (s : GPgState) (l : List GNotice) : Bool := codeOkQ c && (stateOkF s && belF l s.Pg)
def lhF (c : GCode) (s : GPgState) (l : List GNotice) : List GHead := if lhOkF c s l = true then (hdsTo s s.Log.length).filter (fun x => !canF l x c) else []
theorem lhF_len (c : GCode) (s : GPgState) (l : List GNotice) : (lhF c s l).length ≤ 16 := by
  unfold lhF
  split
  · rename_i h
    unfold lhOkF at h
    simp only [Bool.and_eq_true] at h
    exact Nat.le_trans (List.length_filter_le _ _) (hds_len h.2.1 (Nat.le_refl _))
  · simp
theorem lh_cases (c : GCode) (s : GPgState) (l : List GNotice) : (codeOkQ c = false ∧ lhOkF c s l = false ∧ lhF c s l = []) ∨ (codeOkQ c = true ∧ stateOkF s = false ∧ lhOkF c s l = false ∧ lhF c s l = []) ∨ (codeOkQ c = true ∧ stateOkF s = true ∧ belF l s.Pg = false ∧ lhOkF c s l = false ∧ lhF c s l = []) ∨ (codeOkQ c = true ∧ stateOkF s = true ∧ belF l s.Pg = true ∧ lhOkF c s l = true ∧ lhF c s l = (hdsTo s s.Log.length).filter (fun x => !canF l x c)) := by
  unfold lhF lhOkF
  cases codeOkQ c <;> cases stateOkF s <;> cases belF l s.Pg <;> simp
theorem iLostHeads_f (M : Mem) (c : GCode) (s : GPgState) (cs : List Value) (h : RPgState M s cs) (l : List GNotice) (B : Option Addr) (d : Nat) (hl : SlR M RNotice 13 168 B d l) : AnsR Tryz.prog M 11 #[.agg #[.int .i64 c.K, .int .i64 c.M], .agg cs.toArray, .slice B l.length d] (fun M' v => ∃ A' c', v = .tuple #[.slice A' (lhF c s l).length c', .bool (lhOkF c s l)] ∧ SlR (sub M' M) RHead 5 48 A' c' (lhF c s l)) := by
  have hcd := codeOkQ_a M c
  have hso := stateOk_a M s cs h
  have hbe := belong_a M l B d hl s.Pg
  have hh := heads_n M s cs h
  obtain ⟨A0, c0, A1, c1, A2, c2, A3, c3, rfl, hb, s0, s1, s2, s3⟩ := h
  refine ansR_of (T.at M) (l := [.agg #[.int .i64 c.K, .int .i64 c.M], .agg (List.toArray _), .slice B l.length d]) mixed Tryz.func11 rfl (by kernel_rfl) (Nat.le_of_ble_eq_true rfl) ?_ (fun _ ad u h1 h2 => by rw [show M ad = none from h1] at h2; cases h2)
  rcases lh_cases c s l with ⟨h1, e1, e2⟩ | ⟨h1, h2, e1, e2⟩ | ⟨h1, h2, h3, e1, e2⟩ | ⟨h1, h2, h3, e1, e2⟩
  · rw [e1, e2]
    repeat' ((conv => whnf); first | with_reducible refine CondK.tt ?_ | with_reducible refine CondK.ff ?_ | refine CallK.mk (.bool false) (h1 ▸ hcd) ?_ | fail)
    exact RetK.mk fun g M' hl hg => ⟨none, 0, rfl, SlR.nil⟩
  · rw [e1, e2]
    repeat' ((conv => whnf); first | with_reducible refine CondK.tt ?_ | with_reducible refine CondK.ff ?_ | refine CallK.mk (.bool true) (h1 ▸ hcd) ?_ | refine CallK.mk (.bool false) (h2 ▸ hso) ?_ | fail)
    exact RetK.mk fun g M' hl hg => ⟨none, 0, rfl, SlR.nil⟩
  · rw [e1, e2]
    repeat' ((conv => whnf); first | with_reducible refine CondK.tt ?_ | with_reducible refine CondK.ff ?_ | refine CallK.mk (.bool true) (h1 ▸ hcd) ?_ | refine CallK.mk (.bool true) (h2 ▸ hso) ?_ | refine CallK.mk (.bool false) (h3 ▸ hbe) ?_ | fail)
    exact RetK.mk fun g M' hl hg => ⟨none, 0, rfl, SlR.nil⟩
  · rw [e1, e2]
    have h4 : noticesOkF l = true := by unfold belF at h3; simp only [Bool.and_eq_true] at h3; exact h3.1
    have hh := hh h2
    have hlen := hds_len h2 (Nat.le_refl s.Log.length)
    obtain ⟨hK, hM⟩ := codeQ_in h1
    have hn16 := notices_len h4
    have hok := notices_chunks h4
    generalize hdsTo s s.Log.length = L at hh hlen
    repeat' ((conv => whnf); first | with_reducible refine CondK.tt ?_ | with_reducible refine CondK.ff ?_ | refine CallK.mk (.bool true) (h1 ▸ hcd) ?_ | refine CallK.mk (.bool true) (h2 ▸ hso) ?_ | refine CallK.mk (.bool true) (h3 ▸ hbe) ?_ | (refine CallK.mr _ hh (fun u M1 hl1 hv => ?_); obtain ⟨Ag, cg, dg, rfl, hr, hn⟩ := hv) | fail)
    refine PubK.fr fun av N2 hl2 hc2 hroom2 hfresh2 hdom2 => ?_
    (conv => whnf)
    refine PubK.fr fun bv N3 hl3 hc3 hroom3 hfresh3 hdom3 => ?_
    (conv => whnf)
    have hn3 := (hn.mono hl2).mono hl3
    refine delHeadB_k rfl hn3 (by omega) (hl1.trans (hl2.trans hl3)) _ av bv (fun x => canF l x c) (fun a => if M a = none then (if a.block = av.block ∨ a.block = bv.block then N3 a else none) else M a) (fun a u hu => ?_) (fun a u ad had hpos hu => ?_) (hr.mono (fun _ _ h => h)) (fun M1 hM1 x => ?_) (fun N' ds' hN' hrow' hr' hlc => ?_)
    · simp only at hu
      split at hu
      · split at hu
        · exact hu
        · cases hu
      · exact hl3 a u (hl2 a u (hl1 a u hu))
    · obtain ⟨o, w, ho⟩ : ∃ o w, M1 (ad.add o) = some w := by
        rcases hn with ⟨h5, h6, _⟩ | ⟨ad1, h5, hrc, _⟩
        · omega
        · rw [had] at h5
          cases h5
          obtain ⟨w, hw⟩ := hrc.room 0 (by have := hrc.le; omega)
          exact ⟨0, w, hw⟩
      have f2 := hfresh2 _ w ho
      have f3 := hfresh3 _ w (hl2 _ w ho)
      rw [add_block] at f2 f3
      split at hu
      · split at hu
        · rename_i hbk
          rcases hbk with hbk | hbk
          · rw [hbk]; exact f2.symm
          · rw [hbk]; exact f3.symm
        · cases hu
      · rcases hn with ⟨h5, h6, _⟩ | ⟨ad1, h5, _, hf⟩
        · omega
        · rw [had] at h5
          cases h5
          exact hf a u hu
    · have hMm : Le M M1 := fun a u hu => hM1 a u (by simp only; rw [if_neg (by rw [hu]; simp)]; exact hu)
      have hav : ∀ o u, N3 (av.add o) = some u → N2 (av.add o) = some u → M1 (av.add o) = some u := fun o u hu _ => hM1 _ u (by
        have hn : M (av.add o) = none := by
          cases hm : M (av.add o) with
          | none => rfl
          | some w => exact absurd (add_block _ _) (hfresh2 _ w (hl1 _ w hm))
        simp only
        rw [if_pos hn, if_pos (.inl (add_block _ _))]
        exact hu)
      have hbv : ∀ o u, N3 (bv.add o) = some u → M1 (bv.add o) = some u := fun o u hu => hM1 _ u (by
        have hn : M (bv.add o) = none := by
          cases hm : M (bv.add o) with
          | none => rfl
          | some w => exact absurd (add_block _ _) (hfresh3 _ w (hl2 _ w (hl1 _ w hm)))
        simp only
        rw [if_pos hn, if_pos (.inr (add_block _ _))]
        exact hu)
      have q0 := hc2 0 _ rfl
      have q1 := hc2 1 _ rfl
      have q2 := hc3 0 _ rfl
      exact lost1_r M1 x c hK hM l B d (hl.mono hMm (RNotice.mono hMm)) hn16 hok av bv (hav 0 _ (hl3 _ _ q0) q0) (hav 1 _ (hl3 _ _ q1) q1) (hbv 0 _ q2)
    (conv => whnf)
    have hfl := List.length_filter_le (fun x : GHead => !canF l x c) L
    exact RetK.mk fun g M' hl hg => ⟨_, _, rfl, (hrow'.mono hl).slS hr' (fun _ _ h => h) (by omega)⟩
def lhTo (c : GCode) (l : List GNotice) (L : List GHead) (k : Nat) : List GHead := (L.take k).filter (fun x => !canF l x c)
theorem lhTo_step {c : GCode} {l : List GNotice} {L : List GHead} {k : Nat} (h : k < L.length) : lhTo c l L (k + 1) = lhTo c l L k ++ (if canF l L[k] c = true then [] else [L[k]]) := by
  unfold lhTo
  rw [List.take_succ_eq_append_getElem h, List.filter_append]
  congr 1
  cases hc : canF l L[k] c <;> simp [hc]
theorem lhTo_len (c : GCode) (l : List GNotice) (L : List GHead) (k : Nat) : (lhTo c l L k).length ≤ L.length := by
  unfold lhTo
  refine Nat.le_trans (List.length_filter_le _ _) ?_
  rw [List.length_take]; omega
theorem sLostHeads_a (M : Mem) (c : GCode) (s : GPgState) (cs : List Value) (h : RPgState M s cs) (l : List GNotice) (B : Option Addr) (d : Nat) (hl : SlR M RNotice 13 168 B d l) : AnsR Tryz.prog M 7 #[.agg #[.int .i64 c.K, .int .i64 c.M], .agg cs.toArray, .slice B l.length d] (fun M' v => ∃ A' c', v = .tuple #[.slice A' (lhF c s l).length c', .bool (lhOkF c s l)] ∧ SlR M' RHead 5 48 A' c' (lhF c s l)) := by
  have hcd := l04CodeQ_a M c
  have hof := l23Of_a M s cs h l B d hl
  have hh := l23All_a M s cs h
  obtain ⟨A0, c0, A1, c1, A2, c2, A3, c3, rfl, hb, s0, s1, s2, s3⟩ := h
  refine ansR_of T (l := [.agg #[.int .i64 c.K, .int .i64 c.M], .agg (List.toArray _), .slice B l.length d]) mixed Tryz.func7 rfl (by kernel_rfl) (Nat.le_of_ble_eq_true rfl) ?_
  rcases lh_cases c s l with ⟨h1, e1, e2⟩ | ⟨h1, h2, e1, e2⟩ | ⟨h1, h2, h3, e1, e2⟩ | ⟨h1, h2, h3, e1, e2⟩
  · rw [e1, e2]
    repeat' ((conv => whnf); first | with_reducible refine CondK.tt ?_ | with_reducible refine CondK.ff ?_ | refine CallK.mk (.bool false) (h1 ▸ hcd) ?_ | fail)
    exact RetK.mk fun g M' hl hg => ⟨_, _, rfl, SlR.nil⟩
  · rw [e1, e2]
    rw [h2] at hof
    repeat' ((conv => whnf); first | with_reducible refine CondK.tt ?_ | with_reducible refine CondK.ff ?_ | refine CallK.mk (.bool true) (h1 ▸ hcd) ?_ | refine CallK.mk (.bool false) hof ?_ | fail)
    exact RetK.mk fun g M' hl hg => ⟨_, _, rfl, SlR.nil⟩
  · rw [e1, e2]
    rw [h2, h3] at hof
    repeat' ((conv => whnf); first | with_reducible refine CondK.tt ?_ | with_reducible refine CondK.ff ?_ | refine CallK.mk (.bool true) (h1 ▸ hcd) ?_ | refine CallK.mk (.bool false) hof ?_ | fail)
    exact RetK.mk fun g M' hl hg => ⟨_, _, rfl, SlR.nil⟩
  · rw [e1, e2]
    rw [h2, h3] at hof
    have h4 : noticesOkF l = true := by unfold belF at h3; simp only [Bool.and_eq_true] at h3; exact h3.1
    have hh := hh h2
    have hlen := hds_len h2 (Nat.le_refl s.Log.length)
    obtain ⟨hK, hM⟩ := codeQ_in h1
    have hn16 := notices_len h4
    generalize hdsTo s s.Log.length = L at hh hlen
    repeat' ((conv => whnf); first | with_reducible refine CondK.tt ?_ | with_reducible refine CondK.ff ?_ | refine CallK.mk (.bool true) (h1 ▸ hcd) ?_ | refine CallK.mk (.bool true) hof ?_ | (refine CallK.mr _ hh (fun u N1 hl1 hv => ?_); obtain ⟨Ag, cg, rfl, hsL⟩ := hv) | fail)
    refine LoopK.sw 2 3 {q : (Nat × Nat × List Value) × Mem // q.1.1 ≤ L.length ∧ (lhTo c l L q.1.1).length ≤ q.1.2.1 ∧ RowR N1 RHead 5 (lhTo c l L q.1.1) q.1.2.2 ∧ Le N1 q.2} (fun ⟨⟨⟨k, cap, ds⟩, _⟩, _⟩ => [(2, .v (.slice B l.length d)), (3, .p 0 0), (8, .s 2 (lhTo c l L k).length cap 5), (9, .v (.slice Ag L.length cg)), (10, .v (.int .i64 (k : Int)))]) (fun ⟨⟨⟨k, cap, ds⟩, _⟩, _⟩ => [(2, ds), (0, [.int .i64 c.K, .int .i64 c.M])]) (fun q => q.1.2) (fun q => L.length - q.1.1.1) ⟨((0, 0, []), N1), Nat.zero_le _, Nat.le_refl _, RowR.nil, Le.refl N1⟩ 2 ⟨⟨⟨rfl, rfl, rfl, rfl, rfl, trivial⟩, ⟨rfl, rfl, trivial⟩, rfl, rfl⟩, rfl⟩ ?_
    rintro ⟨⟨⟨k, cap, ds⟩, N2⟩, hk, hcap, hr2, hle2⟩
    simp only at hk hcap hr2 hle2
    have hsl := lhTo_len c l L k
    (conv => whnf)
    refine CondK.mk (fun h5 => ?_) (fun h5 => ?_)
    · have hlt : k < L.length := by simpa using h5
      obtain ⟨x, hxk⟩ : ∃ x, L[k] = x := ⟨_, rfl⟩
      have hx : L[k]? = some x := by rw [List.getElem?_eq_getElem hlt, hxk]
      have hl2 := hl.mono (hl1.trans hle2) (RNotice.mono (hl1.trans hle2))
      have hst : lhTo c l L (k + 1) = lhTo c l L k ++ (if canF l x c = true then [] else [x]) := by rw [lhTo_step hlt, hxk]
      obtain ⟨ad, rfl, bny, y0, y1, y2, y3, y4⟩ := at_Head (hsL.mono hle2 (fun _ _ h => h)) hx
      (conv => whnf)
      refine DrawN.h {N3 : Mem // Le N2 N3} (fun _ => [(2, .v (.slice B l.length d)), (3, .p 0 0), (8, .s 2 (lhTo c l L k).length cap 5), (9, .v (.slice (some ad) L.length cg)), (10, .v (.int .i64 (k : Int))), (37, .v (.bool (!canF l x c)))]) (fun _ => [(2, ds), (0, [.int .i64 c.K, .int .i64 c.M])]) 3 (fun N3 => N3.1) (by kernel_rfl) ?_ ?_
      · repeat' ((conv => whnf); first | refine AndK.mk ?_ ?_ | refine HeldK.mk (by kernel_rfl) ?_ | refine IdxK.mk _ rfl (by omega) (by omega) ?_ | refine LdK.mk _ (by assumption) ?_ | (refine CallK.mr _ (l23Can_a N2 c hK hM l B d hl2 hn16 x) (fun v M3 hl3 hv => ?_); subst hv) | fail)
        all_goals exact ⟨⟨M3, hl3⟩, ⟨⟨rfl, rfl, rfl, rfl, rfl, rfl, trivial⟩, ⟨rfl, rfl, trivial⟩, rfl, rfl⟩, rfl⟩
      rintro ⟨N3, hl3⟩
      have z0 := hl3 _ _ y0
      have z1 := hl3 _ _ y1
      have z2 := hl3 _ _ y2
      have z3 := hl3 _ _ y3
      have z4 := hl3 _ _ y4
      clear y0 y1 y2 y3 y4
      (conv => whnf)
      cases hc : canF l x c with
      | true =>
        rw [hc, if_pos rfl, List.append_nil] at hst
        repeat' ((conv => whnf); first | with_reducible refine CondK.tt ?_ | with_reducible refine CondK.ff ?_ | refine CondK.no' (by rfl) ?_ | fail)
        exact ⟨⟨((k + 1, cap, ds), N3), hlt, by simp only; rw [hst]; exact hcap, by simp only; rw [hst]; exact hr2, hle2.trans hl3⟩, 2, ⟨⟨rfl, rfl, congrArg (fun t : List GHead => some (PV.s 2 t.length cap 5)) hst.symm, rfl, look_int (i64_succ (by omega)), trivial⟩, ⟨rfl, rfl, trivial⟩, rfl, rfl⟩, rfl, by simp only; omega⟩
      | false =>
        rw [hc, if_neg (by decide)] at hst
        repeat' ((conv => whnf); first | with_reducible refine CondK.tt ?_ | with_reducible refine CondK.ff ?_ | refine IdxK.mk _ rfl (by omega) (by omega) ?_ | refine LdK.mk _ (by assumption) ?_ | refine AppK.mk (by show (2 * _ + 512) * 48 ≤ 281474976710656; omega) (by omega) (.inr rfl) (by first | exact hr2.all | rfl) (fun cap3 hcap3 => ?_) | fail)
        refine ⟨⟨((k + 1, cap3, ds ++ [.string x.Name, .int .i64 x.Ver.Epoch, .int .i64 x.Ver.Seq, .int .i64 x.Size, .int .i64 x.Sum]), N3), hlt, ?_, ?_, hle2.trans hl3⟩, 4, ⟨⟨rfl, rfl, congrArg (fun t => some (PV.s 4 t cap3 5)) ?_, rfl, look_int (i64_succ (by omega)), trivial⟩, ⟨rfl, rfl, trivial⟩, rfl, rfl⟩, rfl, by simp only; omega⟩
        · simp only
          rw [hst, List.length_append]
          exact hcap3
        · simp only
          rw [hst]
          exact hr2.app (RowR.one (x := x) ⟨rfl, bny⟩ rfl rfl)
        · rw [hst]
          simp only [List.length_append, List.length_singleton]
    · have he : k = L.length := by have : ¬ k < L.length := by simpa using h5
                                   omega
      subst he
      have ef : lhTo c l L L.length = L.filter (fun x => !canF l x c) := by unfold lhTo; rw [List.take_length]
      exact RetK.mk fun g M' hl hg => ⟨_, _, congrArg (fun t : List GHead => Value.tuple #[.slice _ t.length _, .bool true]) ef, row_out hr2 ef.symm (fun _ _ h => h) (hg 2 _ rfl) (by rw [← ef]; exact hcap) (by rw [← ef]; omega)⟩
end Go.Proofs.YtpkphcgipkmiaaaGreat.Hlp
