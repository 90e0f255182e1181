/- impl.stillLacks. -/
import Derived.Test.YtoedjkeahjmpiaaGreatFunSL
namespace Go.Proofs.YtoedjkeahjmpiaaGreat.Hlp
open Go Go.RowKit Go.Proofs Go.Proofs.YtoedjkeahjmpiaaGreat.Lw
set_option linter.unusedVariables false
set_option linter.unusedSimpArgs false
set_option maxRecDepth 100000
set_option maxHeartbeats 4000000
def lackF (fr m : List Int) : List Int := m.filter fun n => !(fr.any fun z => decide (n = z))
def rawOne (fr : List Int) (k s : Int) (y : GInterval) : List Int := if hBad fr k s y = true then lackF fr (memF y.Acting) else []
def rawTo (ivs : List GInterval) (fr : List Int) (k s : Int) (j : Nat) : List Int := (ivs.take j).flatMap (rawOne fr k s)
theorem rawTo_step {ivs : List GInterval} {fr : List Int} {k s : Int} {j : Nat} {y : GInterval} (h : ivs[j]? = some y) : rawTo ivs fr k s (j + 1) = rawTo ivs fr k s j ++ rawOne fr k s y := by
  unfold rawTo
  rw [List.take_add_one, h, List.flatMap_append]
  simp
theorem rawTo_len {ivs : List GInterval} {fr : List Int} {k s : Int} (hi : ∀ y ∈ ivs, y.Acting.length ≤ 7) : ∀ j, (rawTo ivs fr k s j).length ≤ 7 * j
  | 0 => by simp [rawTo]
  | j + 1 => by
    have ih := rawTo_len (fr := fr) (k := k) (s := s) hi j
    cases h : ivs[j]? with
    | none =>
      have : ivs.take (j + 1) = ivs.take j := by rw [List.take_add_one, h]; simp
      unfold rawTo at ih ⊢
      rw [this]; omega
    | some y =>
      rw [rawTo_step h, List.length_append]
      have h1 := hi y (List.mem_of_getElem? h)
      have h2 : (rawOne fr k s y).length ≤ y.Acting.length := by
        unfold rawOne lackF
        split
        · exact Nat.le_trans (List.length_filter_le _ _) (memF_len _)
        · exact Nat.zero_le _
      omega
theorem bad_not (fr : List Int) (k s : Int) (y : GInterval) : (!hBad fr k s y) = (!needF y s || decide (((heF y.Acting fr).length : Int) ≥ k)) := by
  unfold hBad
  rw [Bool.eq_iff_iff]
  simp only [Bool.not_eq_true', Bool.and_eq_false_iff, decide_eq_false_iff_not, Bool.or_eq_true, decide_eq_true_eq]
  cases needF y s <;> simp <;> omega
def rowPX (n : Nat) (o : Option Nat) : PV := match o with | none => .v (.slice none 0 0) | some c => .s 2 n c 1
def rowBX (V : List Int) (o : Option Nat) (b : Bx) : Bx := match o with | none => b | some _ => (2, cellsI V) :: b
def RowOX (V : List Int) (o : Option Nat) : Prop := match o with | none => V = [] | some c => V.length ≤ c
theorem RowN.slS' {α : Type} {M0 M M' : Mem} {R : Mem → α → List Value → Prop} {z by_ cap : Nat} {A : Option Addr} {l : List α} {ds : List Value} (h : RowN M0 M z A l.length cap ds) (r : RowR M' R z l ds) (hR : ∀ x cs, R M' x cs → R (sub M M0) x cs) (hl : l.length ≤ 9223372036854775807) : SlR (sub M M0) R z by_ A cap l := by
  rcases h with ⟨_, h1, _⟩ | ⟨ad, rfl, h1, h2⟩
  · rw [List.eq_nil_of_length_eq_zero h1]; exact SlR.nil
  · have hm : ∀ a u, M a = some u → a.block = ad.block → sub M M0 a = some u := fun a u hu hb => by
      unfold sub
      cases h0 : M0 a with
      | none => exact hu
      | some w => exact absurd hb (h2 a w h0)
    have h1' : RowC (sub M M0) ad z l.length cap ds := ⟨h1.len, h1.le, fun o u hu => hm _ _ (h1.el o u hu) (add_block _ _), fun o ho => let ⟨u, hu⟩ := h1.room o ho; ⟨u, hm _ _ hu (add_block _ _)⟩⟩
    exact h1'.sl r hR hl
theorem stillLacks_f (M : Mem) (ivs : List GInterval) (A : Option Addr) (c : Nat) (h : SlR M RInterval 4 48 A c ivs) (hiv : intervalsF ivs = true) (cd : GCode) (hk : 1 ≤ cd.K) (l : List GNotice) (B : Option Addr) (dc : Nat) (hl : SlR M RNotice 13 168 B dc l) (hno : noticesOkF l = true) : AnsR Tryz.prog M 39 #[.slice A ivs.length c, .agg #[.int .i64 cd.K, .int .i64 cd.M], .slice B l.length dc] (fun M' v => ∃ A' c', v = .slice A' (if (verF ivs cd.K l).2 = 8 then outF (rawTo ivs (fromsF l) cd.K (startedF l) ivs.length) else []).length c' ∧ SlR (sub M' M) RInt 1 8 A' c' (if (verF ivs cd.K l).2 = 8 then outF (rawTo ivs (fromsF l) cd.K (startedF l) ivs.length) else [])) := by
  have hln := notices_len hno
  have hil := intervals_len hiv
  have hac7 : ∀ y ∈ ivs, y.Acting.length ≤ 7 := fun y hy => acting_le (intervals_at hiv hy)
  have hvo := verOf_r M ivs A c h hiv cd hk l B dc hl hno
  refine ansR_of (T.at M) (l := [.slice A ivs.length c, .agg #[.int .i64 cd.K, .int .i64 cd.M], .slice B l.length dc]) mixed Tryz.func39 rfl (by kernel_rfl) (Nat.le_of_ble_eq_true rfl) ?_ (fun _ ad u h1 h2 => by rw [show M ad = none from h1] at h2; cases h2)
  generalize verF ivs cd.K l = vc at hvo ⊢
  obtain ⟨ver, code⟩ := vc
  simp only at hvo ⊢
  (conv => whnf)
  refine CallK.mr _ hvo (fun v N0 hl0 hv => ?_)
  subst hv
  (conv => whnf)
  by_cases hc8 : code = 8
  case neg =>
    rw [if_neg hc8]
    have q1 : (code != 8) = true := by simp [hc8]
    rw [q1]
    (conv => whnf)
    exact RetK.mk fun g M' hl hg => ⟨none, 0, rfl, SlR.nil⟩
  rw [if_pos hc8]
  have q1 : (code != 8) = false := by simp [hc8]
  rw [q1]
  (conv => whnf)
  refine CallK.mr _ (nodesOf_f N0 l B dc (hl.mono hl0 (RNotice.mono hl0)) hln) (fun v N1 hl1 hv => ?_)
  obtain ⟨Af, cf, rfl, hfr⟩ := hv
  have hst0 := fun N (hN : Le M N) => startedOf_a N l B dc (hl.mono hN (RNotice.mono hN))
  have e1 := hl0.trans hl1
  generalize hs : startedF l = s at hst0 ⊢
  have hfl : (fromsF l).length ≤ 16 := by rw [fromsF_len]; exact hln
  generalize hfrd : fromsF l = fr at hfr hfl ⊢
  (conv => whnf)
  refine LoopK.sw 2 3 {q : (Nat × Option Nat) × Mem // q.1.1 ≤ ivs.length ∧ RowOX (rawTo ivs fr cd.K s q.1.1) q.1.2 ∧ Le N1 q.2} (fun ⟨⟨⟨j, o⟩, _⟩, _⟩ => [(2, .v (.slice B l.length dc)), (4, .p 0 0), (9, .v (.slice Af fr.length cf)), (10, rowPX (rawTo ivs fr cd.K s j).length o), (26, .v (.slice A ivs.length c)), (27, .v (.int .i64 (ivs.length : Int))), (28, .v (.int .i64 (j : Int)))]) (fun ⟨⟨⟨j, o⟩, _⟩, _⟩ => rowBX (rawTo ivs fr cd.K s j) o [(0, [.int .i64 cd.K, .int .i64 cd.M])]) (fun q => q.1.2) (fun q => ivs.length - q.1.1.1) ⟨((0, none), N1), Nat.zero_le _, rfl, Le.refl N1⟩ 2 ⟨⟨⟨rfl, rfl, rfl, rfl, rfl, rfl, rfl, trivial⟩, ⟨rfl, trivial⟩, rfl, rfl⟩, rfl⟩ ?_
  rintro ⟨⟨⟨j, o⟩, N2⟩, hj, hro, hle2⟩
  simp only at hj hro hle2
  have hrl := rawTo_len (fr := fr) (k := cd.K) (s := s) hac7 j
  have e2 := e1.trans hle2
  (conv => whnf)
  refine CondK.mk (fun h1 => ?_) (fun h1 => ?_)
  · have hlt : j < ivs.length := by simpa using h1
    obtain ⟨y, hyk⟩ : ∃ y, ivs[j] = y := ⟨_, rfl⟩
    have hy : ivs[j]? = some y := by rw [List.getElem?_eq_getElem hlt, hyk]
    have hym := List.mem_of_getElem? hy
    have hy7 := hac7 y hym
    obtain ⟨ad, rfl, A0, c0, bny, s0, y0, y1, y2, y3⟩ := at_Interval (h.mono e2 (RInterval.mono e2)) hy
    have hst := rawTo_step (fr := fr) (k := cd.K) (s := s) hy
    have hsN := hst0 N2 e2
    have hnd := needs_a N2 y _ ⟨A0, c0, rfl, bny, s0⟩ s
    have hho := heardOf_f N2 y.Acting A0 c0 s0 (by omega) fr Af cf (hfr.mono hle2 (fun _ _ h => h))
    have hbn := bad_not fr cd.K s y
    cases o with
    | none =>
      replace hro : (rawTo ivs fr cd.K s j) = [] := hro
      repeat' ((conv => whnf); first | with_reducible refine CondK.tt ?_ | with_reducible refine CondK.ff ?_ | refine IdxK.mk _ rfl (by omega) (by omega) ?_ | refine LdK.mk _ (by assumption) ?_ | fail)
      have hz := Le.refl N2
      refine DrawN.h {N : Mem // Le N2 N} (fun _ => [(2, .v (.slice B l.length dc)), (4, .p 0 0), (9, .v (.slice Af fr.length cf)), (10, rowPX (rawTo ivs fr cd.K s j).length none), (12, .p 3 0), (26, .v (.slice (some ad) ivs.length c)), (27, .v (.int .i64 (ivs.length : Int))), (28, .v (.int .i64 (j : Int))), (46, .v (.bool (!hBad fr cd.K s y)))]) (fun _ => (3, [.int .i64 y.First, .int .i64 y.Last, .slice A0 y.Acting.length c0, .bool y.May]) :: rowBX (rawTo ivs fr cd.K s j) none [(0, [.int .i64 cd.K, .int .i64 cd.M])]) 4 (fun N => N.1) (by kernel_rfl) ?_ ?_
      · cases hq : needF y s with
        | false =>
          rw [hq] at hnd hbn
          repeat' ((conv => whnf); first | refine AndK.mk ?_ ?_ | refine HeldK.mk (by kernel_rfl) ?_ | refine LdK.mk _ (by assumption) ?_ | refine CallK.mk _ hsN ?_ | refine CallQ.mk _ hsN ?_ | refine CallK.mk _ hnd ?_ | refine CallQ.mk _ hnd ?_ | (refine CallK.mr _ hho (fun v M4 hl4 hv => ?_); obtain ⟨A4, c4, d4, rfl, r4, n4⟩ := hv; replace hz := hl4) | fail)
          all_goals exact ⟨⟨_, hz⟩, ⟨⟨rfl, rfl, rfl, rfl, rfl, rfl, rfl, rfl, congrArg (fun t => some (PV.v (Value.bool t))) hbn.symm, trivial⟩, ⟨rfl, rfl, trivial⟩, rfl, rfl⟩, rfl⟩
        | true =>
          rw [hq] at hnd hbn
          repeat' ((conv => whnf); first | refine AndK.mk ?_ ?_ | refine HeldK.mk (by kernel_rfl) ?_ | refine LdK.mk _ (by assumption) ?_ | refine CallK.mk _ hsN ?_ | refine CallQ.mk _ hsN ?_ | refine CallK.mk _ hnd ?_ | refine CallQ.mk _ hnd ?_ | (refine CallK.mr _ hho (fun v M4 hl4 hv => ?_); obtain ⟨A4, c4, d4, rfl, r4, n4⟩ := hv; replace hz := hl4) | fail)
          all_goals exact ⟨⟨_, hz⟩, ⟨⟨rfl, rfl, rfl, rfl, rfl, rfl, rfl, rfl, congrArg (fun t => some (PV.v (Value.bool t))) hbn.symm, trivial⟩, ⟨rfl, rfl, trivial⟩, rfl, rfl⟩, rfl⟩
      clear hz
      rintro ⟨N3, hl3⟩
      cases hb : hBad fr cd.K s y with
      | false =>
        have hst2 : rawTo ivs fr cd.K s (j + 1) = (rawTo ivs fr cd.K s j) := by rw [hst]; unfold rawOne; rw [hb, if_neg (by decide), List.append_nil]
        repeat' ((conv => whnf); first | with_reducible refine CondK.tt ?_ | with_reducible refine CondK.ff ?_ | refine IdxK.mk _ rfl (by omega) (by omega) ?_ | refine LdK.mk _ (by assumption) ?_ | fail)
        exact ⟨⟨((j + 1, none), N3), hlt, by show RowOX _ _; rw [hst2]; exact hro, hle2.trans hl3⟩, 2, ⟨⟨rfl, rfl, rfl, congrArg (fun t : List Int => some (rowPX t.length none)) hst2.symm, rfl, rfl, look_int (i64_succ (by omega)), trivial⟩, ⟨rfl, trivial⟩, rfl, rfl⟩, rfl, by simp only; omega⟩
      | true =>
        have hst2 : rawTo ivs fr cd.K s (j + 1) = (rawTo ivs fr cd.K s j) ++ lackF fr (memF y.Acting) := by rw [hst]; unfold rawOne; rw [hb, if_pos rfl]
        repeat' ((conv => whnf); first | with_reducible refine CondK.tt ?_ | with_reducible refine CondK.ff ?_ | refine IdxK.mk _ rfl (by omega) (by omega) ?_ | refine LdK.mk _ (by assumption) ?_ | fail)
        refine CallK.mr _ (members_f N3 y.Acting A0 c0 (s0.mono hl3 (fun _ _ h => h)) (by omega)) (fun v N4 hl4 hv => ?_)
        obtain ⟨Am, cm, dm, rfl, hmr, hmn⟩ := hv
        have hml := memF_len y.Acting
        have hms : SlR N4 RInt 1 8 Am cm (memF y.Acting) := hmn.sl hmr (fun _ _ h => h) (by omega)
        have e4 := hl3.trans hl4
        have hfr4 := hfr.mono (hle2.trans e4) (fun _ _ h => h)
        generalize hmm : memF y.Acting = m at hms hml hst2 ⊢
        (conv => whnf)
        refine LoopK.sw 2 4 {q : Nat × Option Nat // q.1 ≤ m.length ∧ RowOX ((rawTo ivs fr cd.K s j) ++ lackF fr (m.take q.1)) q.2} (fun ⟨(p, o), _⟩ => [(2, .v (.slice B l.length dc)), (4, .p 0 0), (9, .v (.slice Af fr.length cf)), (10, rowPX ((rawTo ivs fr cd.K s j) ++ lackF fr (m.take p)).length o), (26, .v (.slice (some ad) ivs.length c)), (27, .v (.int .i64 (ivs.length : Int))), (28, .v (.int .i64 (j : Int))), (49, .v (.slice Am m.length cm)), (50, .v (.int .i64 (m.length : Int))), (51, .v (.int .i64 (p : Int)))]) (fun ⟨(p, o), _⟩ => rowBX ((rawTo ivs fr cd.K s j) ++ lackF fr (m.take p)) o [(0, [.int .i64 cd.K, .int .i64 cd.M])]) (fun _ => N4) (fun q => m.length - q.1.1) ⟨(0, none), Nat.zero_le _, by show (rawTo ivs fr cd.K s j) ++ _ = []; rw [hro]; rfl⟩ 2 ⟨⟨⟨rfl, rfl, rfl, rfl, rfl, rfl, rfl, rfl, rfl, rfl, trivial⟩, ⟨rfl, trivial⟩, rfl, rfl⟩, rfl⟩ ?_
        rintro ⟨⟨p, o⟩, hp, hri⟩
        simp only at hp hri
        (conv => whnf)
        refine CondK.mk (fun h6 => ?_) (fun h6 => ?_)
        · have hlt6 : p < m.length := by simpa using h6
          obtain ⟨n, hnk⟩ : ∃ n, m[p] = n := ⟨_, rfl⟩
          have hn : m[p]? = some n := by rw [List.getElem?_eq_getElem hlt6, hnk]
          obtain ⟨am, hae, _, z0⟩ := at_Int hms hn
          have hct := containsInt_a N4 fr Af cf hfr4 n
          have hfs : lackF fr (m.take (p + 1)) = lackF fr (m.take p) ++ (if (!(fr.any fun z => decide (n = z))) = true then [n] else []) := fil_step (p := fun n => !(fr.any fun z => decide (n = z))) hn
          have hll : (lackF fr (m.take p)).length ≤ 7 := by
            have := List.length_filter_le (fun n => !(fr.any fun z => decide (n = z))) (m.take p)
            rw [List.length_take] at this
            show ((m.take p).filter _).length ≤ 7
            omega
          have hvl : ((rawTo ivs fr cd.K s j) ++ lackF fr (m.take p)).length ≤ 430 := by rw [List.length_append]; omega
          cases hh : fr.any (fun z => decide (n = z)) with
          | true =>
            rw [hh] at hct hfs
            have hfs2 : (rawTo ivs fr cd.K s j) ++ lackF fr (m.take (p + 1)) = (rawTo ivs fr cd.K s j) ++ lackF fr (m.take p) := by rw [hfs]; simp
            repeat' ((conv => whnf); first | with_reducible refine CondK.tt ?_ | with_reducible refine CondK.ff ?_ | refine IdxK.mk am hae (by omega) (by omega) ?_ | refine LdK.mk _ (by assumption) ?_ | refine CallK.mk _ hct ?_ | fail)
            cases o with
            | none => exact ⟨⟨(p + 1, none), hlt6, by show RowOX _ _; rw [hfs2]; exact hri⟩, 2, ⟨⟨rfl, rfl, rfl, congrArg (fun t : List Int => some (rowPX t.length none)) hfs2.symm, rfl, rfl, rfl, rfl, rfl, look_int (i64_succ (by omega)), trivial⟩, ⟨rfl, trivial⟩, rfl, rfl⟩, rfl, by simp only; omega⟩
            | some cp => exact ⟨⟨(p + 1, some cp), hlt6, by show RowOX _ _; rw [hfs2]; exact hri⟩, 2, ⟨⟨rfl, rfl, rfl, congrArg (fun t : List Int => some (rowPX t.length (some cp))) hfs2.symm, rfl, rfl, rfl, rfl, rfl, look_int (i64_succ (by omega)), trivial⟩, ⟨congrArg (fun t : List Int => some (cellsI t)) hfs2.symm, rfl, trivial⟩, rfl, rfl⟩, rfl, by simp only; omega⟩
          | false =>
            rw [hh] at hct hfs
            have hfs2 : (rawTo ivs fr cd.K s j) ++ lackF fr (m.take (p + 1)) = ((rawTo ivs fr cd.K s j) ++ lackF fr (m.take p)) ++ [n] := by rw [hfs]; simp
            cases o with
            | none =>
              have hri0 : (rawTo ivs fr cd.K s j) ++ lackF fr (m.take p) = [] := hri
              rw [hri0, List.nil_append] at hfs2
              repeat' ((conv => whnf); first | with_reducible refine CondK.tt ?_ | with_reducible refine CondK.ff ?_ | refine IdxK.mk am hae (by omega) (by omega) ?_ | refine LdK.mk _ (by assumption) ?_ | refine CallK.mk _ hct ?_ | refine AppK.mk (by decide) (by decide) (.inl (by decide)) rfl (fun cap3 hcap3 => ?_) | fail)
              exact ⟨⟨(p + 1, some cap3), hlt6, by show List.length _ ≤ _; rw [hfs2]; exact hcap3⟩, 5, ⟨⟨rfl, rfl, rfl, congrArg (fun t : List Int => some (PV.s 5 t.length cap3 1)) hfs2.symm, rfl, rfl, rfl, rfl, rfl, look_int (i64_succ (by omega)), trivial⟩, ⟨congrArg (fun t : List Int => some (cellsI t)) hfs2.symm, rfl, trivial⟩, rfl, rfl⟩, rfl, by simp only; omega⟩
            | some cp =>
              have hri0 : ((rawTo ivs fr cd.K s j) ++ lackF fr (m.take p)).length ≤ cp := hri
              have hal6 := allOneI ((rawTo ivs fr cd.K s j) ++ lackF fr (m.take p))
              have hce : cellsI (((rawTo ivs fr cd.K s j) ++ lackF fr (m.take p)) ++ [n]) = cellsI ((rawTo ivs fr cd.K s j) ++ lackF fr (m.take p)) ++ [.int .i64 n] := by unfold cellsI; simp
              repeat' ((conv => whnf); first | with_reducible refine CondK.tt ?_ | with_reducible refine CondK.ff ?_ | refine IdxK.mk am hae (by omega) (by omega) ?_ | refine LdK.mk _ (by assumption) ?_ | refine CallK.mk _ hct ?_ | refine AppK.mk (by show (2 * _ + 512) * 8 ≤ 281474976710656; omega) (by omega) (.inr rfl) (by first | exact hal6 | rfl) (fun cap3 hcap3 => ?_) | fail)
              exact ⟨⟨(p + 1, some cap3), hlt6, by show List.length _ ≤ _; rw [hfs2, List.length_append]; exact hcap3⟩, 5, ⟨⟨rfl, rfl, rfl, congrArg (fun t => some (PV.s 5 t cap3 1)) (by rw [hfs2]; simp only [List.length_append, List.length_cons, List.length_nil]), rfl, rfl, rfl, rfl, rfl, look_int (i64_succ (by omega)), trivial⟩, ⟨congrArg some (by rw [hfs2, hce]), rfl, trivial⟩, rfl, rfl⟩, rfl, by simp only; omega⟩
        · have hpl : p = m.length := by
            have : ¬ p < m.length := by simpa using h6
            omega
          subst hpl
          have hfin : rawTo ivs fr cd.K s (j + 1) = (rawTo ivs fr cd.K s j) ++ lackF fr (m.take m.length) := by rw [hst2, List.take_length]
          (conv => whnf)
          cases o with
          | none => exact ⟨⟨((j + 1, none), N4), hlt, by show RowOX _ _; rw [hfin]; exact hri, hle2.trans e4⟩, 2, ⟨⟨rfl, rfl, rfl, congrArg (fun t : List Int => some (rowPX t.length none)) hfin.symm, rfl, rfl, look_int (i64_succ (by omega)), trivial⟩, ⟨rfl, trivial⟩, rfl, rfl⟩, rfl, by simp only; omega⟩
          | some cp => exact ⟨⟨((j + 1, some cp), N4), hlt, by show RowOX _ _; rw [hfin]; exact hri, hle2.trans e4⟩, 2, ⟨⟨rfl, rfl, rfl, congrArg (fun t : List Int => some (rowPX t.length (some cp))) hfin.symm, rfl, rfl, look_int (i64_succ (by omega)), trivial⟩, ⟨congrArg (fun t : List Int => some (cellsI t)) hfin.symm, rfl, trivial⟩, rfl, rfl⟩, rfl, by simp only; omega⟩
    | some cap =>
      replace hro : (rawTo ivs fr cd.K s j).length ≤ cap := hro
      have hal := allOneI (rawTo ivs fr cd.K s j)
      repeat' ((conv => whnf); first | with_reducible refine CondK.tt ?_ | with_reducible refine CondK.ff ?_ | refine IdxK.mk _ rfl (by omega) (by omega) ?_ | refine LdK.mk _ (by assumption) ?_ | fail)
      have hz := Le.refl N2
      refine DrawN.h {N : Mem // Le N2 N} (fun _ => [(2, .v (.slice B l.length dc)), (4, .p 0 0), (9, .v (.slice Af fr.length cf)), (10, rowPX (rawTo ivs fr cd.K s j).length (some cap)), (12, .p 3 0), (26, .v (.slice (some ad) ivs.length c)), (27, .v (.int .i64 (ivs.length : Int))), (28, .v (.int .i64 (j : Int))), (46, .v (.bool (!hBad fr cd.K s y)))]) (fun _ => (3, [.int .i64 y.First, .int .i64 y.Last, .slice A0 y.Acting.length c0, .bool y.May]) :: rowBX (rawTo ivs fr cd.K s j) (some cap) [(0, [.int .i64 cd.K, .int .i64 cd.M])]) 4 (fun N => N.1) (by kernel_rfl) ?_ ?_
      · cases hq : needF y s with
        | false =>
          rw [hq] at hnd hbn
          repeat' ((conv => whnf); first | refine AndK.mk ?_ ?_ | refine HeldK.mk (by kernel_rfl) ?_ | refine LdK.mk _ (by assumption) ?_ | refine CallK.mk _ hsN ?_ | refine CallQ.mk _ hsN ?_ | refine CallK.mk _ hnd ?_ | refine CallQ.mk _ hnd ?_ | (refine CallK.mr _ hho (fun v M4 hl4 hv => ?_); obtain ⟨A4, c4, d4, rfl, r4, n4⟩ := hv; replace hz := hl4) | fail)
          all_goals exact ⟨⟨_, hz⟩, ⟨⟨rfl, rfl, rfl, rfl, rfl, rfl, rfl, rfl, congrArg (fun t => some (PV.v (Value.bool t))) hbn.symm, trivial⟩, ⟨rfl, rfl, rfl, trivial⟩, rfl, rfl⟩, rfl⟩
        | true =>
          rw [hq] at hnd hbn
          repeat' ((conv => whnf); first | refine AndK.mk ?_ ?_ | refine HeldK.mk (by kernel_rfl) ?_ | refine LdK.mk _ (by assumption) ?_ | refine CallK.mk _ hsN ?_ | refine CallQ.mk _ hsN ?_ | refine CallK.mk _ hnd ?_ | refine CallQ.mk _ hnd ?_ | (refine CallK.mr _ hho (fun v M4 hl4 hv => ?_); obtain ⟨A4, c4, d4, rfl, r4, n4⟩ := hv; replace hz := hl4) | fail)
          all_goals exact ⟨⟨_, hz⟩, ⟨⟨rfl, rfl, rfl, rfl, rfl, rfl, rfl, rfl, congrArg (fun t => some (PV.v (Value.bool t))) hbn.symm, trivial⟩, ⟨rfl, rfl, rfl, trivial⟩, rfl, rfl⟩, rfl⟩
      clear hz
      rintro ⟨N3, hl3⟩
      cases hb : hBad fr cd.K s y with
      | false =>
        have hst2 : rawTo ivs fr cd.K s (j + 1) = (rawTo ivs fr cd.K s j) := by rw [hst]; unfold rawOne; rw [hb, if_neg (by decide), List.append_nil]
        repeat' ((conv => whnf); first | with_reducible refine CondK.tt ?_ | with_reducible refine CondK.ff ?_ | refine IdxK.mk _ rfl (by omega) (by omega) ?_ | refine LdK.mk _ (by assumption) ?_ | fail)
        exact ⟨⟨((j + 1, (some cap)), N3), hlt, by show RowOX _ _; rw [hst2]; exact hro, hle2.trans hl3⟩, 2, ⟨⟨rfl, rfl, rfl, congrArg (fun t : List Int => some (rowPX t.length (some cap))) hst2.symm, rfl, rfl, look_int (i64_succ (by omega)), trivial⟩, ⟨congrArg (fun t : List Int => some (cellsI t)) hst2.symm, rfl, trivial⟩, rfl, rfl⟩, rfl, by simp only; omega⟩
      | true =>
        have hst2 : rawTo ivs fr cd.K s (j + 1) = (rawTo ivs fr cd.K s j) ++ lackF fr (memF y.Acting) := by rw [hst]; unfold rawOne; rw [hb, if_pos rfl]
        repeat' ((conv => whnf); first | with_reducible refine CondK.tt ?_ | with_reducible refine CondK.ff ?_ | refine IdxK.mk _ rfl (by omega) (by omega) ?_ | refine LdK.mk _ (by assumption) ?_ | fail)
        refine CallK.mr _ (members_f N3 y.Acting A0 c0 (s0.mono hl3 (fun _ _ h => h)) (by omega)) (fun v N4 hl4 hv => ?_)
        obtain ⟨Am, cm, dm, rfl, hmr, hmn⟩ := hv
        have hml := memF_len y.Acting
        have hms : SlR N4 RInt 1 8 Am cm (memF y.Acting) := hmn.sl hmr (fun _ _ h => h) (by omega)
        have e4 := hl3.trans hl4
        have hfr4 := hfr.mono (hle2.trans e4) (fun _ _ h => h)
        generalize hmm : memF y.Acting = m at hms hml hst2 ⊢
        (conv => whnf)
        refine LoopK.sw 2 4 {q : Nat × Option Nat // q.1 ≤ m.length ∧ RowOX ((rawTo ivs fr cd.K s j) ++ lackF fr (m.take q.1)) q.2} (fun ⟨(p, o), _⟩ => [(2, .v (.slice B l.length dc)), (4, .p 0 0), (9, .v (.slice Af fr.length cf)), (10, rowPX ((rawTo ivs fr cd.K s j) ++ lackF fr (m.take p)).length o), (26, .v (.slice (some ad) ivs.length c)), (27, .v (.int .i64 (ivs.length : Int))), (28, .v (.int .i64 (j : Int))), (49, .v (.slice Am m.length cm)), (50, .v (.int .i64 (m.length : Int))), (51, .v (.int .i64 (p : Int)))]) (fun ⟨(p, o), _⟩ => rowBX ((rawTo ivs fr cd.K s j) ++ lackF fr (m.take p)) o [(0, [.int .i64 cd.K, .int .i64 cd.M])]) (fun _ => N4) (fun q => m.length - q.1.1) ⟨(0, (some cap)), Nat.zero_le _, by show List.length _ ≤ _; simpa [lackF] using hro⟩ 2 ⟨⟨⟨rfl, rfl, rfl, congrArg (fun t : List Int => some (rowPX t.length (some cap))) (show (rawTo ivs fr cd.K s j) = (rawTo ivs fr cd.K s j) ++ lackF fr (m.take 0) by simp [lackF]), rfl, rfl, rfl, rfl, rfl, rfl, trivial⟩, ⟨congrArg (fun t : List Int => some (cellsI t)) (show (rawTo ivs fr cd.K s j) = (rawTo ivs fr cd.K s j) ++ lackF fr (m.take 0) by simp [lackF]), rfl, trivial⟩, rfl, rfl⟩, rfl⟩ ?_
        rintro ⟨⟨p, o⟩, hp, hri⟩
        simp only at hp hri
        (conv => whnf)
        refine CondK.mk (fun h6 => ?_) (fun h6 => ?_)
        · have hlt6 : p < m.length := by simpa using h6
          obtain ⟨n, hnk⟩ : ∃ n, m[p] = n := ⟨_, rfl⟩
          have hn : m[p]? = some n := by rw [List.getElem?_eq_getElem hlt6, hnk]
          obtain ⟨am, hae, _, z0⟩ := at_Int hms hn
          have hct := containsInt_a N4 fr Af cf hfr4 n
          have hfs : lackF fr (m.take (p + 1)) = lackF fr (m.take p) ++ (if (!(fr.any fun z => decide (n = z))) = true then [n] else []) := fil_step (p := fun n => !(fr.any fun z => decide (n = z))) hn
          have hll : (lackF fr (m.take p)).length ≤ 7 := by
            have := List.length_filter_le (fun n => !(fr.any fun z => decide (n = z))) (m.take p)
            rw [List.length_take] at this
            show ((m.take p).filter _).length ≤ 7
            omega
          have hvl : ((rawTo ivs fr cd.K s j) ++ lackF fr (m.take p)).length ≤ 430 := by rw [List.length_append]; omega
          cases hh : fr.any (fun z => decide (n = z)) with
          | true =>
            rw [hh] at hct hfs
            have hfs2 : (rawTo ivs fr cd.K s j) ++ lackF fr (m.take (p + 1)) = (rawTo ivs fr cd.K s j) ++ lackF fr (m.take p) := by rw [hfs]; simp
            repeat' ((conv => whnf); first | with_reducible refine CondK.tt ?_ | with_reducible refine CondK.ff ?_ | refine IdxK.mk am hae (by omega) (by omega) ?_ | refine LdK.mk _ (by assumption) ?_ | refine CallK.mk _ hct ?_ | fail)
            cases o with
            | none => exact ⟨⟨(p + 1, none), hlt6, by show RowOX _ _; rw [hfs2]; exact hri⟩, 2, ⟨⟨rfl, rfl, rfl, congrArg (fun t : List Int => some (rowPX t.length none)) hfs2.symm, rfl, rfl, rfl, rfl, rfl, look_int (i64_succ (by omega)), trivial⟩, ⟨rfl, trivial⟩, rfl, rfl⟩, rfl, by simp only; omega⟩
            | some cp => exact ⟨⟨(p + 1, some cp), hlt6, by show RowOX _ _; rw [hfs2]; exact hri⟩, 2, ⟨⟨rfl, rfl, rfl, congrArg (fun t : List Int => some (rowPX t.length (some cp))) hfs2.symm, rfl, rfl, rfl, rfl, rfl, look_int (i64_succ (by omega)), trivial⟩, ⟨congrArg (fun t : List Int => some (cellsI t)) hfs2.symm, rfl, trivial⟩, rfl, rfl⟩, rfl, by simp only; omega⟩
          | false =>
            rw [hh] at hct hfs
            have hfs2 : (rawTo ivs fr cd.K s j) ++ lackF fr (m.take (p + 1)) = ((rawTo ivs fr cd.K s j) ++ lackF fr (m.take p)) ++ [n] := by rw [hfs]; simp
            cases o with
            | none =>
              have hri0 : (rawTo ivs fr cd.K s j) ++ lackF fr (m.take p) = [] := hri
              rw [hri0, List.nil_append] at hfs2
              repeat' ((conv => whnf); first | with_reducible refine CondK.tt ?_ | with_reducible refine CondK.ff ?_ | refine IdxK.mk am hae (by omega) (by omega) ?_ | refine LdK.mk _ (by assumption) ?_ | refine CallK.mk _ hct ?_ | refine AppK.mk (by decide) (by decide) (.inl (by decide)) rfl (fun cap3 hcap3 => ?_) | fail)
              exact ⟨⟨(p + 1, some cap3), hlt6, by show List.length _ ≤ _; rw [hfs2]; exact hcap3⟩, 5, ⟨⟨rfl, rfl, rfl, congrArg (fun t : List Int => some (PV.s 5 t.length cap3 1)) hfs2.symm, rfl, rfl, rfl, rfl, rfl, look_int (i64_succ (by omega)), trivial⟩, ⟨congrArg (fun t : List Int => some (cellsI t)) hfs2.symm, rfl, trivial⟩, rfl, rfl⟩, rfl, by simp only; omega⟩
            | some cp =>
              have hri0 : ((rawTo ivs fr cd.K s j) ++ lackF fr (m.take p)).length ≤ cp := hri
              have hal6 := allOneI ((rawTo ivs fr cd.K s j) ++ lackF fr (m.take p))
              have hce : cellsI (((rawTo ivs fr cd.K s j) ++ lackF fr (m.take p)) ++ [n]) = cellsI ((rawTo ivs fr cd.K s j) ++ lackF fr (m.take p)) ++ [.int .i64 n] := by unfold cellsI; simp
              repeat' ((conv => whnf); first | with_reducible refine CondK.tt ?_ | with_reducible refine CondK.ff ?_ | refine IdxK.mk am hae (by omega) (by omega) ?_ | refine LdK.mk _ (by assumption) ?_ | refine CallK.mk _ hct ?_ | refine AppK.mk (by show (2 * _ + 512) * 8 ≤ 281474976710656; omega) (by omega) (.inr rfl) (by first | exact hal6 | rfl) (fun cap3 hcap3 => ?_) | fail)
              exact ⟨⟨(p + 1, some cap3), hlt6, by show List.length _ ≤ _; rw [hfs2, List.length_append]; exact hcap3⟩, 5, ⟨⟨rfl, rfl, rfl, congrArg (fun t => some (PV.s 5 t cap3 1)) (by rw [hfs2]; simp only [List.length_append, List.length_cons, List.length_nil]), rfl, rfl, rfl, rfl, rfl, look_int (i64_succ (by omega)), trivial⟩, ⟨congrArg some (by rw [hfs2, hce]), rfl, trivial⟩, rfl, rfl⟩, rfl, by simp only; omega⟩
        · have hpl : p = m.length := by
            have : ¬ p < m.length := by simpa using h6
            omega
          subst hpl
          have hfin : rawTo ivs fr cd.K s (j + 1) = (rawTo ivs fr cd.K s j) ++ lackF fr (m.take m.length) := by rw [hst2, List.take_length]
          (conv => whnf)
          cases o with
          | none => exact ⟨⟨((j + 1, none), N4), hlt, by show RowOX _ _; rw [hfin]; exact hri, hle2.trans e4⟩, 2, ⟨⟨rfl, rfl, rfl, congrArg (fun t : List Int => some (rowPX t.length none)) hfin.symm, rfl, rfl, look_int (i64_succ (by omega)), trivial⟩, ⟨rfl, trivial⟩, rfl, rfl⟩, rfl, by simp only; omega⟩
          | some cp => exact ⟨⟨((j + 1, some cp), N4), hlt, by show RowOX _ _; rw [hfin]; exact hri, hle2.trans e4⟩, 2, ⟨⟨rfl, rfl, rfl, congrArg (fun t : List Int => some (rowPX t.length (some cp))) hfin.symm, rfl, rfl, look_int (i64_succ (by omega)), trivial⟩, ⟨congrArg (fun t : List Int => some (cellsI t)) hfin.symm, rfl, trivial⟩, rfl, rfl⟩, rfl, by simp only; omega⟩
  · have hjl : j = ivs.length := by
      have : ¬ j < ivs.length := by simpa using h1
      omega
    subst hjl
    have hrl2 : (rawTo ivs fr cd.K s ivs.length).length ≤ 420 := by omega
    cases o with
    | none =>
      have hr0 : rawTo ivs fr cd.K s ivs.length = [] := hro
      have ho : outF (rawTo ivs fr cd.K s ivs.length) = [] := by
        rw [hr0]
        refine List.eq_nil_of_length_eq_zero ?_
        have h1 := compact_le (srt [])
        rw [srt_len] at h1
        exact Nat.le_zero.1 h1
      rw [ho]
      (conv => whnf)
      refine CallK.mk _ (sortInts_0 _ none 0) ?_
      (conv => whnf)
      refine CallK.mk _ (compactInts_0 _ none 0) ?_
      (conv => whnf)
      exact RetK.mk fun g M' hl hg => ⟨none, 0, rfl, SlR.nil⟩
    | some cap =>
      have hcap : (rawTo ivs fr cd.K s ivs.length).length ≤ cap := hro
      (conv => whnf)
      refine PubK.fr fun av N3 hl3 hc3 hroom3 hfresh3 hdom3 => ?_
      (conv => whnf)
      have hrow : RowN M N3 1 (some av) (rawTo ivs fr cd.K s ivs.length).length cap (cellsI (rawTo ivs fr cd.K s ivs.length)) := .inr ⟨av, rfl, ⟨by rw [cellsI_len]; omega, hcap, fun o u hu => hc3 o u hu, fun o ho => hroom3 o ho⟩, fun a u hu => hfresh3 a u (e2 a u hu)⟩
      refine sortInts_k rfl hrow (rowI _) (by omega) (e2.trans hl3) (fun N4 ds4 hM4 hrow4 hr4 => ?_)
      (conv => whnf)
      have hsl : (srt (rawTo ivs fr cd.K s ivs.length)).length = (rawTo ivs fr cd.K s ivs.length).length := srt_len _
      have hk2 := fun (K : Value → Mem → Prop) (k : ∀ N' ds', Le M N' → RowN M N' 1 (some av) (Lib.compact (srt (rawTo ivs fr cd.K s ivs.length))).length cap ds' → RowR N' RInt 1 (Lib.compact (srt (rawTo ivs fr cd.K s ivs.length))) ds' → K (.slice (some av) (Lib.compact (srt (rawTo ivs fr cd.K s ivs.length))).length cap) N') => compactInts_k (wr := true) rfl hrow4 hr4 (by rw [hsl]; omega) hM4 k
      rw [hsl] at hk2
      refine hk2 _ (fun N5 ds5 hM5 hrow5 hr5 => ?_)
      (conv => whnf)
      have hol : (outF (rawTo ivs fr cd.K s ivs.length)).length ≤ 9223372036854775807 := by
        have h1 := compact_le (srt (rawTo ivs fr cd.K s ivs.length))
        rw [hsl] at h1
        show (Lib.compact _).length ≤ _
        omega
      exact RetK.mk fun g M' hl hg => ⟨some av, cap, rfl, (hrow5.slS' hr5 (fun _ _ h => h) hol).mono (sub_mono _ hl) (fun _ _ h => h)⟩
end Go.Proofs.YtoedjkeahjmpiaaGreat.Hlp
