/- spec.StillLacks by the light walk; what both compute is one list. -/
import Derived.Test.YtoedjkeahjmpiaaGreatFunSN
import Derived.Test.YtoedjkeahjmpiaaGreatFunSM
namespace Go.Proofs.YtoedjkeahjmpiaaGreat.Hlp
open Go Go.RowKit Go.Proofs Go.Proofs.YtoedjkeahjmpiaaGreat.Lw
set_option linter.unusedVariables false
set_option linter.unusedSimpArgs false
set_option maxRecDepth 100000
set_option maxHeartbeats 4000000
theorem mem_heardIn_len {ivs : List GInterval} (hi : intervalsF ivs = true) {l : List GNotice} (hl : noticesOkF l = true) {y : GInterval} (hy : y ∈ ivs) : (heardIn y.Acting (fromsF l)).length = (heF y.Acting (fromsF l)).length := (heF_len (intervals_at hi hy) hl).symm
/-- The spec's list is the implementation's. -/
theorem lacks_eq {ivs : List GInterval} (hi : intervalsF ivs = true) {l : List GNotice} (hl : noticesOkF l = true) (k s : Int) : spTo (ivs.filter fun y => needF y s) (fromsF l) k (ivs.filter fun y => needF y s).length = outF (rawTo ivs (fromsF l) k s ivs.length) := by
  have h7 : ∀ y ∈ ivs.filter (fun y => needF y s), y.Acting.length ≤ 7 := fun y hy => acting_le (intervals_at hi (List.mem_filter.1 hy).1)
  obtain ⟨g1, g2, _⟩ := spTo_ok (fr := fromsF l) (k := k) h7 _ (Nat.le_refl _)
  obtain ⟨f1, f2⟩ := outF_ok (rawTo ivs (fromsF l) k s ivs.length)
  refine si_ext g1 f1 fun x => ?_
  rw [g2, f2, List.take_length]
  unfold rawTo
  rw [List.take_length, List.mem_flatMap]
  have hlk : ∀ (m : List Int), x ∈ lackF (fromsF l) m ↔ x ∈ m ∧ x ∉ fromsF l := fun m => by
    unfold lackF
    rw [List.mem_filter]
    simp only [Bool.not_eq_true', List.any_eq_false, decide_eq_true_eq]
    constructor
    · rintro ⟨p, q⟩; exact ⟨p, fun h => q x h rfl⟩
    · rintro ⟨p, q⟩; exact ⟨p, fun z hz he => q (he ▸ hz)⟩
  constructor
  · rintro ⟨y, hy, hk, hm, hx⟩
    obtain ⟨hy1, hy2⟩ := List.mem_filter.1 hy
    refine ⟨y, hy1, ?_⟩
    have hb : hBad (fromsF l) k s y = true := by
      unfold hBad
      rw [hy2, Bool.true_and]
      rw [mem_heardIn_len hi hl hy1] at hk
      exact decide_eq_true hk
    unfold rawOne
    rw [if_pos hb, hlk, mem_memF]
    obtain ⟨p, q⟩ := ((memS_ok y.Acting).2.1 x).1 hm
    exact ⟨⟨p, by omega⟩, hx⟩
  · rintro ⟨y, hy, hx⟩
    unfold rawOne at hx
    split at hx
    · rename_i hb
      rw [hlk, mem_memF] at hx
      unfold hBad at hb
      simp only [Bool.and_eq_true, decide_eq_true_eq] at hb
      refine ⟨y, List.mem_filter.2 ⟨hy, hb.1⟩, by rw [mem_heardIn_len hi hl hy]; exact hb.2, ((memS_ok y.Acting).2.1 x).2 ⟨hx.1.1, ?_⟩, hx.2⟩
      obtain ⟨j, hj⟩ := List.getElem?_of_mem hx.1.1
      have h1 := (acting_at (intervals_at hi hy) hj).1
      have := hx.1.2
      omega
    · cases hx
def slF (ivs : List GInterval) (c : GCode) (l : List GNotice) : List Int := if (voF ivs c l).2 = 8 then outF (rawTo ivs (fromsF l) c.K (startedF l) ivs.length) else []
theorem slF_len (ivs : List GInterval) (c : GCode) (l : List GNotice) : (slF ivs c l).length ≤ 420 := by
  unfold slF
  split
  · rename_i h
    unfold voF at h
    split at h
    · rename_i hp
      obtain ⟨hi, _, _⟩ := peer_in hp
      have h7 : ∀ y ∈ ivs, y.Acting.length ≤ 7 := fun y hy => acting_le (intervals_at hi hy)
      have h1 := rawTo_len (fr := fromsF l) (k := c.K) (s := startedF l) h7 ivs.length
      have h2 := intervals_len hi
      have h3 := compact_le (srt (rawTo ivs (fromsF l) c.K (startedF l) ivs.length))
      rw [srt_len] at h3
      show (Lib.compact _).length ≤ _
      omega
    · simp at h
  · exact Nat.zero_le _
theorem iStillLacks_f (M : Mem) (ivs : List GInterval) (A : Option Addr) (c : Nat) (h : SlR M RInterval 4 48 A c ivs) (cd : GCode) (l : List GNotice) (B : Option Addr) (dc : Nat) (hl : SlR M RNotice 13 168 B dc l) : AnsR Tryz.prog M 16 #[.slice A ivs.length c, .agg #[.int .i64 cd.K, .int .i64 cd.M], .slice B l.length dc] (fun M' v => ∃ A' c', v = .slice A' (slF ivs cd l).length c' ∧ SlR (sub M' M) RInt 1 8 A' c' (slF ivs cd l)) := by
  have g1 := peeringOk_a M ivs A c h cd l B dc hl
  have g2 := fun h1 h2 h3 => stillLacks_f M ivs A c h h1 cd h2 l B dc hl h3
  refine ansR_of T (l := [.slice A ivs.length c, .agg #[.int .i64 cd.K, .int .i64 cd.M], .slice B l.length dc]) mixed Tryz.func16 rfl (by kernel_rfl) (Nat.le_of_ble_eq_true rfl) ?_
  unfold slF voF
  cases q1 : peerF ivs cd l with
  | false =>
    rw [q1] at g1
    rw [if_neg (by simp : ¬ ((if (false = true) then verF ivs cd.K l else ((⟨0, 0⟩ : GVer), (1 : Int))).2 = 8))]
    repeat' ((conv => whnf); first | with_reducible refine CondK.tt ?_ | with_reducible refine CondK.ff ?_ | refine CallK.mk _ g1 ?_ | fail)
    exact RetK.mk fun _ _ _ _ => ⟨none, 0, rfl, SlR.nil⟩
  | true =>
    rw [q1] at g1
    rw [if_pos rfl]
    obtain ⟨h1, h2, h3⟩ := peer_in q1
    repeat' ((conv => whnf); first | with_reducible refine CondK.tt ?_ | with_reducible refine CondK.ff ?_ | refine CallK.mk _ g1 ?_ | (refine CallK.mr _ (g2 h1 h2 h3) (fun v N hl1 hv => ?_); obtain ⟨A', c', rfl, hr⟩ := hv) | fail)
    exact RetK.mk fun g M' hl' hg => ⟨A', c', rfl, hr.mono (sub_mono _ hl') (fun _ _ h => h)⟩
theorem sStillLacks_a (M : Mem) (ivs : List GInterval) (A : Option Addr) (c : Nat) (h : SlR M RInterval 4 48 A c ivs) (cd : GCode) (l : List GNotice) (B : Option Addr) (dc : Nat) (hl : SlR M RNotice 13 168 B dc l) : AnsR Tryz.prog M 15 #[.slice A ivs.length c, .agg #[.int .i64 cd.K, .int .i64 cd.M], .slice B l.length dc] (fun M' v => ∃ A' c', v = .slice A' (slF ivs cd l).length c' ∧ SlR M' RInt 1 8 A' c' (slF ivs cd l)) := by
  have hvo := sVerOf_r M ivs A c h cd l B dc hl
  refine ansR_of T (l := [.slice A ivs.length c, .agg #[.int .i64 cd.K, .int .i64 cd.M], .slice B l.length dc]) mixed Tryz.func15 rfl (by kernel_rfl) (Nat.le_of_ble_eq_true rfl) ?_
  have hpeer : (voF ivs cd l).2 = 8 → peerF ivs cd l = true := fun h8 => by
    unfold voF at h8
    split at h8
    · assumption
    · simp at h8
  have hsl : slF ivs cd l = if (voF ivs cd l).2 = 8 then outF (rawTo ivs (fromsF l) cd.K (startedF l) ivs.length) else [] := rfl
  generalize voF ivs cd l = vc at hvo hpeer hsl
  obtain ⟨ver, code⟩ := vc
  simp only at hvo hpeer hsl
  rw [hsl]
  (conv => whnf)
  refine CallK.mr _ hvo (fun v N0 hl0 hv => ?_)
  subst hv
  (conv => whnf)
  by_cases hc8 : code = 8
  case neg =>
    rw [if_neg hc8]
    have q1 : (code != 8) = true := by simp [hc8]
    rw [q1]
    (conv => whnf)
    exact RetK.mk fun g M' hl' hg => ⟨_, _, rfl, SlR.nil⟩
  rw [if_pos hc8]
  have q1 : (code != 8) = false := by simp [hc8]
  obtain ⟨hiv, hk1, hno⟩ := peer_in (hpeer hc8)
  have hln := notices_len hno
  have hil := intervals_len hiv
  have hac7 : ∀ y ∈ ivs, y.Acting.length ≤ 7 := fun y hy => acting_le (intervals_at hiv hy)
  rw [← lacks_eq hiv hno]
  have hps : ∀ y ∈ fromsF l, 0 ≤ y := fun y hy => froms_nonneg hno hy
  have hst := fun N (hN : Le M N) => l22Started_a N l B dc (hl.mono hN (RNotice.mono hN))
  generalize startedF l = s at hst ⊢
  have hfl : (fromsF l).length ≤ 16 := by rw [fromsF_len]; exact hln
  rw [q1]
  (conv => whnf)
  refine CallK.mr _ (l22Froms_f N0 l B dc (hl.mono hl0 (RNotice.mono hl0)) hln) (fun v N1 hl1 hv => ?_)
  obtain ⟨Af, cf, rfl, hfr⟩ := hv
  have e1 := hl0.trans hl1
  (conv => whnf)
  refine CallK.mk _ (hst N1 e1) ?_
  (conv => whnf)
  refine CallK.mr _ (l13Need_f N1 ivs A c (h.mono e1 (RInterval.mono e1)) hil (fun y hy => by have := hac7 y hy; omega) s) (fun v N2 hl2 hv => ?_)
  obtain ⟨An, cn, rfl, hnd⟩ := hv
  have hnd7 : ∀ y ∈ ivs.filter (fun y => needF y s), y.Acting.length ≤ 7 := fun y hy => hac7 y (List.mem_filter.1 hy).1
  have hndl : (ivs.filter fun y => needF y s).length ≤ 60 := Nat.le_trans (List.length_filter_le _ _) hil
  generalize (ivs.filter fun y => needF y s) = nd at hnd hnd7 hndl ⊢
  generalize fromsF l = fr at hfr hfl hps ⊢
  replace hfr := hfr.mono hl2 (fun _ _ h => h)
  (conv => whnf)
  refine LoopK.mk {q : (Nat × Option (Option Addr × Nat)) × Mem // q.1.1 ≤ nd.length ∧ Le N2 q.2 ∧ RZ q.2 q.1.2 (spTo nd fr cd.K q.1.1)} (fun ⟨⟨⟨i, o⟩, _⟩, _⟩ => [(4, .p 0 0), (7, rowZ 1 (spTo nd fr cd.K i).length o), (10, .v (.slice Af fr.length cf)), (11, .v (.slice An nd.length cn)), (12, .v (.int .i64 (i : Int)))]) (fun ⟨⟨⟨i, o⟩, _⟩, _⟩ => boxZ 1 o [(0, [.int .i64 cd.K, .int .i64 cd.M])]) (fun q => q.1.2) (fun q => nd.length - q.1.1.1) ⟨((0, none), N2), Nat.zero_le _, Le.refl N2, rfl⟩ ⟨⟨⟨rfl, rfl, rfl, rfl, rfl, trivial⟩, ⟨rfl, rfl, trivial⟩, rfl, rfl⟩, rfl⟩ ?_
  rintro ⟨⟨⟨i, o⟩, N3⟩, hi, hle3, hro⟩
  simp only at hi hle3 hro
  have hspl := (spTo_ok (fr := fr) (k := cd.K) hnd7 i hi).2.2
  (conv => whnf)
  refine CondK.mk (fun h1 => ?_) (fun h1 => ?_)
  · have hlt : i < nd.length := by simpa using h1
    obtain ⟨y, hyk⟩ : ∃ y, nd[i] = y := ⟨_, rfl⟩
    have hy : nd[i]? = some y := by rw [List.getElem?_eq_getElem hlt, hyk]
    have hy7 := hnd7 y (List.mem_of_getElem? hy)
    obtain ⟨ad, rfl, A0, c0, bny, s0, y0, y1, y2, y3⟩ := at_Interval (hnd.mono hle3 (RInterval.mono hle3)) hy
    have hfr3 := hfr.mono hle3 (fun _ _ h => h)
    have hhd := l13Heard_f N3 fr Af cf hfr3 hfl hps y _ ⟨A0, c0, rfl, bny, s0⟩
    have hst2 := spTo_step (fr := fr) (k := cd.K) hy
    have hms := memS_ok y.Acting
    cases o with
    | none =>
      replace hro : (spTo nd fr cd.K i) = [] := hro
      (conv => whnf)
      have hz := Le.refl N3
      refine DrawN.h {N : Mem // Le N3 N} (fun _ => [(4, .p 0 0), (7, rowZ 1 (spTo nd fr cd.K i).length none), (10, .v (.slice Af fr.length cf)), (11, .v (.slice (some ad) nd.length cn)), (12, .v (.int .i64 (i : Int))), (47, .v (.bool (decide (((heardIn y.Acting fr).length : Int) ≥ cd.K))))]) (fun _ => boxZ 1 none [(0, [.int .i64 cd.K, .int .i64 cd.M])]) 3 (fun N => N.1) (by kernel_rfl) ?_ ?_
      · repeat' ((conv => whnf); first | refine AndK.mk ?_ ?_ | refine HeldK.mk (by kernel_rfl) ?_ | refine IdxK.mk _ rfl (by omega) (by omega) ?_ | refine LdK.mk _ (by assumption) ?_ | (refine CallK.mr _ hhd (fun v M4 hl4 hv => ?_); obtain ⟨A4, c4, rfl, r4⟩ := hv; replace hz := hl4) | fail)
        all_goals exact ⟨⟨_, hz⟩, ⟨⟨rfl, rfl, rfl, rfl, rfl, rfl, trivial⟩, ⟨rfl, rfl, trivial⟩, rfl, rfl⟩, rfl⟩
      clear hz
      rintro ⟨N4, hl4⟩
      by_cases hc : ((heardIn y.Acting fr).length : Int) ≥ cd.K
      · have hst3 : spTo nd fr cd.K (i + 1) = (spTo nd fr cd.K i) := by rw [hst2]; unfold spOne; rw [if_pos hc]
        have hcd := decide_eq_true hc
        repeat' ((conv => whnf); first | refine CondK.yes' hcd ?_ | fail)
        exact ⟨⟨((i + 1, none), N4), hlt, hle3.trans hl4, by show _ = _; rw [hst3]; exact hro⟩, ⟨⟨rfl, rfl, rfl, rfl, look_int (i64_succ (by omega)), trivial⟩, ⟨rfl, rfl, trivial⟩, rfl, rfl⟩, rfl, by simp only; omega⟩
      · have hst3 : spTo nd fr cd.K (i + 1) = inTo fr (memS y.Acting) (spTo nd fr cd.K i) (memS y.Acting).length := by rw [hst2]; unfold spOne; rw [if_neg hc]
        have hcd := decide_eq_false hc
        have w2 := hl4 _ _ y2
        repeat' ((conv => whnf); first | refine CondK.no' hcd ?_ | refine IdxK.mk _ rfl (by omega) (by omega) ?_ | refine LdK.mk _ (by assumption) ?_ | fail)
        refine CallK.mr _ (l12Members_f N4 y.Acting A0 c0 (s0.mono hl4 (fun _ _ h => h)) (by omega)) (fun v N5 hl5 hv => ?_)
        obtain ⟨Am, cm, rfl, hmm⟩ := hv
        have e5 := hl4.trans hl5
        have hsi := (spTo_ok (fr := fr) (k := cd.K) hnd7 i hi).1
        have hml : (memS y.Acting).length ≤ 7 := by have := hms.2.2; omega
        have hno0 : (spTo nd fr cd.K i) = inTo fr (memS y.Acting) (spTo nd fr cd.K i) 0 := by unfold inTo; simp
        generalize hmd : memS y.Acting = m at hmm hml hst3 hno0
        (conv => whnf)
        refine LoopK.mk {q : (Nat × Option (Option Addr × Nat)) × Mem // q.1.1 ≤ m.length ∧ Le N5 q.2 ∧ RZ q.2 q.1.2 (inTo fr m (spTo nd fr cd.K i) q.1.1)} (fun ⟨⟨⟨p, o⟩, _⟩, _⟩ => [(4, .p 0 0), (7, rowZ 1 (inTo fr m (spTo nd fr cd.K i) p).length o), (10, .v (.slice Af fr.length cf)), (11, .v (.slice (some ad) nd.length cn)), (12, .v (.int .i64 (i : Int))), (13, .v (.slice Am m.length cm)), (14, .v (.int .i64 (p : Int)))]) (fun ⟨⟨⟨p, o⟩, _⟩, _⟩ => boxZ 1 o [(0, [.int .i64 cd.K, .int .i64 cd.M])]) (fun q => q.1.2) (fun q => m.length - q.1.1.1) ⟨((0, none), N5), Nat.zero_le _, Le.refl N5, by show _ = _; rw [← hno0]; exact hro⟩ ⟨⟨⟨rfl, rfl, rfl, rfl, rfl, rfl, rfl, trivial⟩, ⟨rfl, rfl, trivial⟩, rfl, rfl⟩, rfl⟩ ?_
        rintro ⟨⟨⟨p, o⟩, N6⟩, hp, hle6, hri⟩
        simp only at hp hle6 hri
        have hinl := (inTo_ok (fr := fr) (m := m) hsi p hp).2.2
        (conv => whnf)
        refine CondK.mk (fun h6 => ?_) (fun h6 => ?_)
        · have hlt6 : p < m.length := by simpa using h6
          obtain ⟨n, hnk⟩ : ∃ n, m[p] = n := ⟨_, rfl⟩
          have hn : m[p]? = some n := by rw [List.getElem?_eq_getElem hlt6, hnk]
          obtain ⟨am, hae, _, z0⟩ := at_Int (hmm.mono hle6 (fun _ _ h => h)) hn
          have hct := l00Has_a N6 fr Af cf (hfr3.mono (e5.trans hle6) (fun _ _ h => h)) n
          have hps2 : inTo fr m (spTo nd fr cd.K i) (p + 1) = inStep fr (inTo fr m (spTo nd fr cd.K i) p) n := inTo_step hn
          cases hh : fr.any (fun z => decide (n = z)) with
          | true =>
            rw [hh] at hct
            have hps3 : inTo fr m (spTo nd fr cd.K i) (p + 1) = inTo fr m (spTo nd fr cd.K i) p := by rw [hps2]; unfold inStep; rw [if_pos hh]
            cases o with
            | none =>
              repeat' ((conv => whnf); first | with_reducible refine CondK.tt ?_ | with_reducible refine CondK.ff ?_ | refine IdxK.mk am hae (by omega) (by omega) ?_ | refine LdK.mk _ (by assumption) ?_ | refine CallK.mk _ hct ?_ | fail)
              exact ⟨⟨((p + 1, none), N6), hlt6, hle6, by show _ = _; rw [hps3]; exact hri⟩, ⟨⟨rfl, rfl, rfl, rfl, rfl, rfl, look_int (i64_succ (by omega)), trivial⟩, ⟨rfl, rfl, trivial⟩, rfl, rfl⟩, rfl, by simp only; omega⟩
            | some q =>
              obtain ⟨Ap, cp⟩ := q
              repeat' ((conv => whnf); first | with_reducible refine CondK.tt ?_ | with_reducible refine CondK.ff ?_ | refine IdxK.mk am hae (by omega) (by omega) ?_ | refine LdK.mk _ (by assumption) ?_ | refine CallK.mk _ hct ?_ | fail)
              exact ⟨⟨((p + 1, some (Ap, cp)), N6), hlt6, hle6, by show SlR N6 RInt 1 8 Ap cp _; rw [hps3]; exact hri⟩, ⟨⟨rfl, congrArg (fun t : List Int => some (PV.v (Value.slice Ap t.length cp))) hps3.symm, rfl, rfl, rfl, rfl, look_int (i64_succ (by omega)), trivial⟩, ⟨rfl, trivial⟩, rfl, rfl⟩, rfl, by simp only; omega⟩
          | false =>
            rw [hh] at hct
            have hps3 : inTo fr m (spTo nd fr cd.K i) (p + 1) = putI (inTo fr m (spTo nd fr cd.K i) p) n := by rw [hps2]; unfold inStep; rw [if_neg (by rw [hh]; decide)]
            cases o with
            | none =>
              have hri0 : inTo fr m (spTo nd fr cd.K i) p = [] := hri
              rw [hri0] at hps3
              repeat' ((conv => whnf); first | with_reducible refine CondK.tt ?_ | with_reducible refine CondK.ff ?_ | refine IdxK.mk am hae (by omega) (by omega) ?_ | refine LdK.mk _ (by assumption) ?_ | refine CallK.mk _ hct ?_ | fail)
              refine PubK.mk fun a2 N7 hl7 hc7 => ?_
              (conv => whnf)
              refine CallK.mr _ (l00Put_f N7 [] (some a2) 0 SlR.nil (by decide) n) (fun v N8 hl8 hv => ?_)
              obtain ⟨A', c', rfl, hr'⟩ := hv
              (conv => whnf)
              exact ⟨⟨((p + 1, some (A', c')), N8), hlt6, hle6.trans (hl7.trans hl8), by show SlR N8 RInt 1 8 A' c' _; rw [hps3]; exact hr'⟩, ⟨⟨rfl, congrArg (fun t : List Int => some (PV.v (Value.slice A' t.length c'))) hps3.symm, rfl, rfl, rfl, rfl, look_int (i64_succ (by omega)), trivial⟩, ⟨rfl, trivial⟩, rfl, rfl⟩, rfl, by simp only; omega⟩
            | some q =>
              obtain ⟨Ap, cp⟩ := q
              replace hri : SlR N6 RInt 1 8 Ap cp (inTo fr m (spTo nd fr cd.K i) p) := hri
              repeat' ((conv => whnf); first | with_reducible refine CondK.tt ?_ | with_reducible refine CondK.ff ?_ | refine IdxK.mk am hae (by omega) (by omega) ?_ | refine LdK.mk _ (by assumption) ?_ | refine CallK.mk _ hct ?_ | fail)
              refine CallK.mr _ (l00Put_f N6 (inTo fr m (spTo nd fr cd.K i) p) Ap cp hri (by omega) n) (fun v N8 hl8 hv => ?_)
              obtain ⟨A', c', rfl, hr'⟩ := hv
              (conv => whnf)
              exact ⟨⟨((p + 1, some (A', c')), N8), hlt6, hle6.trans hl8, by show SlR N8 RInt 1 8 A' c' _; rw [hps3]; exact hr'⟩, ⟨⟨rfl, congrArg (fun t : List Int => some (PV.v (Value.slice A' t.length c'))) hps3.symm, rfl, rfl, rfl, rfl, look_int (i64_succ (by omega)), trivial⟩, ⟨rfl, trivial⟩, rfl, rfl⟩, rfl, by simp only; omega⟩
        · have hpl : p = m.length := by
            have : ¬ p < m.length := by simpa using h6
            omega
          subst hpl
          (conv => whnf)
          cases o with
          | none => exact ⟨⟨((i + 1, none), N6), hlt, hle3.trans (e5.trans hle6), by show _ = _; rw [hst3]; exact hri⟩, ⟨⟨rfl, rfl, rfl, rfl, look_int (i64_succ (by omega)), trivial⟩, ⟨rfl, rfl, trivial⟩, rfl, rfl⟩, rfl, by simp only; omega⟩
          | some q =>
            obtain ⟨Ap, cp⟩ := q
            exact ⟨⟨((i + 1, some (Ap, cp)), N6), hlt, hle3.trans (e5.trans hle6), by show SlR N6 RInt 1 8 Ap cp _; rw [hst3]; exact hri⟩, ⟨⟨rfl, congrArg (fun t : List Int => some (PV.v (Value.slice Ap t.length cp))) hst3.symm, rfl, rfl, look_int (i64_succ (by omega)), trivial⟩, ⟨rfl, trivial⟩, rfl, rfl⟩, rfl, by simp only; omega⟩
    | some q =>
      obtain ⟨Ao, co⟩ := q
      replace hro : SlR N3 RInt 1 8 Ao co (spTo nd fr cd.K i) := hro
      (conv => whnf)
      have hz := Le.refl N3
      refine DrawN.h {N : Mem // Le N3 N} (fun _ => [(4, .p 0 0), (7, rowZ 1 (spTo nd fr cd.K i).length (some (Ao, co))), (10, .v (.slice Af fr.length cf)), (11, .v (.slice (some ad) nd.length cn)), (12, .v (.int .i64 (i : Int))), (47, .v (.bool (decide (((heardIn y.Acting fr).length : Int) ≥ cd.K))))]) (fun _ => boxZ 1 (some (Ao, co)) [(0, [.int .i64 cd.K, .int .i64 cd.M])]) 3 (fun N => N.1) (by kernel_rfl) ?_ ?_
      · repeat' ((conv => whnf); first | refine AndK.mk ?_ ?_ | refine HeldK.mk (by kernel_rfl) ?_ | refine IdxK.mk _ rfl (by omega) (by omega) ?_ | refine LdK.mk _ (by assumption) ?_ | (refine CallK.mr _ hhd (fun v M4 hl4 hv => ?_); obtain ⟨A4, c4, rfl, r4⟩ := hv; replace hz := hl4) | fail)
        all_goals exact ⟨⟨_, hz⟩, ⟨⟨rfl, rfl, rfl, rfl, rfl, rfl, trivial⟩, ⟨rfl, trivial⟩, rfl, rfl⟩, rfl⟩
      clear hz
      rintro ⟨N4, hl4⟩
      by_cases hc : ((heardIn y.Acting fr).length : Int) ≥ cd.K
      · have hst3 : spTo nd fr cd.K (i + 1) = (spTo nd fr cd.K i) := by rw [hst2]; unfold spOne; rw [if_pos hc]
        have hcd := decide_eq_true hc
        repeat' ((conv => whnf); first | refine CondK.yes' hcd ?_ | fail)
        exact ⟨⟨((i + 1, some (Ao, co)), N4), hlt, hle3.trans hl4, by show SlR N4 RInt 1 8 Ao co _; rw [hst3]; exact hro.mono hl4 (fun _ _ h => h)⟩, ⟨⟨rfl, congrArg (fun t : List Int => some (PV.v (Value.slice Ao t.length co))) hst3.symm, rfl, rfl, look_int (i64_succ (by omega)), trivial⟩, ⟨rfl, trivial⟩, rfl, rfl⟩, rfl, by simp only; omega⟩
      · have hst3 : spTo nd fr cd.K (i + 1) = inTo fr (memS y.Acting) (spTo nd fr cd.K i) (memS y.Acting).length := by rw [hst2]; unfold spOne; rw [if_neg hc]
        have hcd := decide_eq_false hc
        have w2 := hl4 _ _ y2
        repeat' ((conv => whnf); first | refine CondK.no' hcd ?_ | refine IdxK.mk _ rfl (by omega) (by omega) ?_ | refine LdK.mk _ (by assumption) ?_ | fail)
        refine CallK.mr _ (l12Members_f N4 y.Acting A0 c0 (s0.mono hl4 (fun _ _ h => h)) (by omega)) (fun v N5 hl5 hv => ?_)
        obtain ⟨Am, cm, rfl, hmm⟩ := hv
        have e5 := hl4.trans hl5
        have hsi := (spTo_ok (fr := fr) (k := cd.K) hnd7 i hi).1
        have hml : (memS y.Acting).length ≤ 7 := by have := hms.2.2; omega
        have hno0 : (spTo nd fr cd.K i) = inTo fr (memS y.Acting) (spTo nd fr cd.K i) 0 := by unfold inTo; simp
        generalize hmd : memS y.Acting = m at hmm hml hst3 hno0
        (conv => whnf)
        refine LoopK.mk {q : (Nat × Option (Option Addr × Nat)) × Mem // q.1.1 ≤ m.length ∧ Le N5 q.2 ∧ RZ q.2 q.1.2 (inTo fr m (spTo nd fr cd.K i) q.1.1)} (fun ⟨⟨⟨p, o⟩, _⟩, _⟩ => [(4, .p 0 0), (7, rowZ 1 (inTo fr m (spTo nd fr cd.K i) p).length o), (10, .v (.slice Af fr.length cf)), (11, .v (.slice (some ad) nd.length cn)), (12, .v (.int .i64 (i : Int))), (13, .v (.slice Am m.length cm)), (14, .v (.int .i64 (p : Int)))]) (fun ⟨⟨⟨p, o⟩, _⟩, _⟩ => boxZ 1 o [(0, [.int .i64 cd.K, .int .i64 cd.M])]) (fun q => q.1.2) (fun q => m.length - q.1.1.1) ⟨((0, (some (Ao, co))), N5), Nat.zero_le _, Le.refl N5, by show SlR N5 RInt 1 8 Ao co _; rw [← hno0]; exact hro.mono e5 (fun _ _ h => h)⟩ ⟨⟨⟨rfl, congrArg (fun t : List Int => some (PV.v (Value.slice Ao t.length co))) hno0, rfl, rfl, rfl, rfl, rfl, trivial⟩, ⟨rfl, trivial⟩, rfl, rfl⟩, rfl⟩ ?_
        rintro ⟨⟨⟨p, o⟩, N6⟩, hp, hle6, hri⟩
        simp only at hp hle6 hri
        have hinl := (inTo_ok (fr := fr) (m := m) hsi p hp).2.2
        (conv => whnf)
        refine CondK.mk (fun h6 => ?_) (fun h6 => ?_)
        · have hlt6 : p < m.length := by simpa using h6
          obtain ⟨n, hnk⟩ : ∃ n, m[p] = n := ⟨_, rfl⟩
          have hn : m[p]? = some n := by rw [List.getElem?_eq_getElem hlt6, hnk]
          obtain ⟨am, hae, _, z0⟩ := at_Int (hmm.mono hle6 (fun _ _ h => h)) hn
          have hct := l00Has_a N6 fr Af cf (hfr3.mono (e5.trans hle6) (fun _ _ h => h)) n
          have hps2 : inTo fr m (spTo nd fr cd.K i) (p + 1) = inStep fr (inTo fr m (spTo nd fr cd.K i) p) n := inTo_step hn
          cases hh : fr.any (fun z => decide (n = z)) with
          | true =>
            rw [hh] at hct
            have hps3 : inTo fr m (spTo nd fr cd.K i) (p + 1) = inTo fr m (spTo nd fr cd.K i) p := by rw [hps2]; unfold inStep; rw [if_pos hh]
            cases o with
            | none =>
              repeat' ((conv => whnf); first | with_reducible refine CondK.tt ?_ | with_reducible refine CondK.ff ?_ | refine IdxK.mk am hae (by omega) (by omega) ?_ | refine LdK.mk _ (by assumption) ?_ | refine CallK.mk _ hct ?_ | fail)
              exact ⟨⟨((p + 1, none), N6), hlt6, hle6, by show _ = _; rw [hps3]; exact hri⟩, ⟨⟨rfl, rfl, rfl, rfl, rfl, rfl, look_int (i64_succ (by omega)), trivial⟩, ⟨rfl, rfl, trivial⟩, rfl, rfl⟩, rfl, by simp only; omega⟩
            | some q =>
              obtain ⟨Ap, cp⟩ := q
              repeat' ((conv => whnf); first | with_reducible refine CondK.tt ?_ | with_reducible refine CondK.ff ?_ | refine IdxK.mk am hae (by omega) (by omega) ?_ | refine LdK.mk _ (by assumption) ?_ | refine CallK.mk _ hct ?_ | fail)
              exact ⟨⟨((p + 1, some (Ap, cp)), N6), hlt6, hle6, by show SlR N6 RInt 1 8 Ap cp _; rw [hps3]; exact hri⟩, ⟨⟨rfl, congrArg (fun t : List Int => some (PV.v (Value.slice Ap t.length cp))) hps3.symm, rfl, rfl, rfl, rfl, look_int (i64_succ (by omega)), trivial⟩, ⟨rfl, trivial⟩, rfl, rfl⟩, rfl, by simp only; omega⟩
          | false =>
            rw [hh] at hct
            have hps3 : inTo fr m (spTo nd fr cd.K i) (p + 1) = putI (inTo fr m (spTo nd fr cd.K i) p) n := by rw [hps2]; unfold inStep; rw [if_neg (by rw [hh]; decide)]
            cases o with
            | none =>
              have hri0 : inTo fr m (spTo nd fr cd.K i) p = [] := hri
              rw [hri0] at hps3
              repeat' ((conv => whnf); first | with_reducible refine CondK.tt ?_ | with_reducible refine CondK.ff ?_ | refine IdxK.mk am hae (by omega) (by omega) ?_ | refine LdK.mk _ (by assumption) ?_ | refine CallK.mk _ hct ?_ | fail)
              refine PubK.mk fun a2 N7 hl7 hc7 => ?_
              (conv => whnf)
              refine CallK.mr _ (l00Put_f N7 [] (some a2) 0 SlR.nil (by decide) n) (fun v N8 hl8 hv => ?_)
              obtain ⟨A', c', rfl, hr'⟩ := hv
              (conv => whnf)
              exact ⟨⟨((p + 1, some (A', c')), N8), hlt6, hle6.trans (hl7.trans hl8), by show SlR N8 RInt 1 8 A' c' _; rw [hps3]; exact hr'⟩, ⟨⟨rfl, congrArg (fun t : List Int => some (PV.v (Value.slice A' t.length c'))) hps3.symm, rfl, rfl, rfl, rfl, look_int (i64_succ (by omega)), trivial⟩, ⟨rfl, trivial⟩, rfl, rfl⟩, rfl, by simp only; omega⟩
            | some q =>
              obtain ⟨Ap, cp⟩ := q
              replace hri : SlR N6 RInt 1 8 Ap cp (inTo fr m (spTo nd fr cd.K i) p) := hri
              repeat' ((conv => whnf); first | with_reducible refine CondK.tt ?_ | with_reducible refine CondK.ff ?_ | refine IdxK.mk am hae (by omega) (by omega) ?_ | refine LdK.mk _ (by assumption) ?_ | refine CallK.mk _ hct ?_ | fail)
              refine CallK.mr _ (l00Put_f N6 (inTo fr m (spTo nd fr cd.K i) p) Ap cp hri (by omega) n) (fun v N8 hl8 hv => ?_)
              obtain ⟨A', c', rfl, hr'⟩ := hv
              (conv => whnf)
              exact ⟨⟨((p + 1, some (A', c')), N8), hlt6, hle6.trans hl8, by show SlR N8 RInt 1 8 A' c' _; rw [hps3]; exact hr'⟩, ⟨⟨rfl, congrArg (fun t : List Int => some (PV.v (Value.slice A' t.length c'))) hps3.symm, rfl, rfl, rfl, rfl, look_int (i64_succ (by omega)), trivial⟩, ⟨rfl, trivial⟩, rfl, rfl⟩, rfl, by simp only; omega⟩
        · have hpl : p = m.length := by
            have : ¬ p < m.length := by simpa using h6
            omega
          subst hpl
          (conv => whnf)
          cases o with
          | none => exact ⟨⟨((i + 1, none), N6), hlt, hle3.trans (e5.trans hle6), by show _ = _; rw [hst3]; exact hri⟩, ⟨⟨rfl, rfl, rfl, rfl, look_int (i64_succ (by omega)), trivial⟩, ⟨rfl, rfl, trivial⟩, rfl, rfl⟩, rfl, by simp only; omega⟩
          | some q =>
            obtain ⟨Ap, cp⟩ := q
            exact ⟨⟨((i + 1, some (Ap, cp)), N6), hlt, hle3.trans (e5.trans hle6), by show SlR N6 RInt 1 8 Ap cp _; rw [hst3]; exact hri⟩, ⟨⟨rfl, congrArg (fun t : List Int => some (PV.v (Value.slice Ap t.length cp))) hst3.symm, rfl, rfl, look_int (i64_succ (by omega)), trivial⟩, ⟨rfl, trivial⟩, rfl, rfl⟩, rfl, by simp only; omega⟩
  · have hil2 : i = nd.length := by
      have : ¬ i < nd.length := by simpa using h1
      omega
    subst hil2
    (conv => whnf)
    cases o with
    | none =>
      have hr0 : spTo nd fr cd.K nd.length = [] := hro
      exact RetK.mk fun g M' hl' hg => ⟨_, _, slice_eq (by rw [hr0]; rfl), by rw [hr0]; exact SlR.nil⟩
    | some q =>
      obtain ⟨Ap, cp⟩ := q
      replace hro : SlR N3 RInt 1 8 Ap cp (spTo nd fr cd.K nd.length) := hro
      exact RetK.mk fun g M' hl' hg => ⟨Ap, cp, rfl, hro.mono hl' (fun _ _ h => h)⟩
end Go.Proofs.YtoedjkeahjmpiaaGreat.Hlp
