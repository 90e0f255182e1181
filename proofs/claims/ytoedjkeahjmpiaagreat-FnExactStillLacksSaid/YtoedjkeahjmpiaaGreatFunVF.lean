/- impl.verOf. -/
import Derived.Test.YtoedjkeahjmpiaaGreatFunVE
namespace Go.Proofs.YtoedjkeahjmpiaaGreat.Hlp
open Go Go.RowKit Go.Proofs Go.Proofs.YtoedjkeahjmpiaaGreat.Lw
set_option linter.unusedVariables false
set_option linter.unusedSimpArgs false
set_option maxRecDepth 100000
set_option maxHeartbeats 4000000
theorem RowN.base {M0 M1 N : Mem} {z n cap : Nat} {A : Option Addr} {ds : List Value} (h : RowN M1 N z A n cap ds) (hl : Le M0 M1) : RowN M0 N z A n cap ds := by
  rcases h with h | ⟨ad, h1, h2, h3⟩
  · exact .inl h
  · exact .inr ⟨ad, h1, h2, fun a u hu => h3 a u (hl a u hu)⟩
/-- Memory but for one row. -/
def butRow (N : Mem) (A : Option Addr) : Mem := fun b => match A with | some ad => if b.block = ad.block then none else N b | none => N b
theorem butRow_le (N : Mem) (A : Option Addr) : Le (butRow N A) N := fun b u hu => by
  unfold butRow at hu
  cases A with
  | none => exact hu
  | some ad =>
    simp only at hu
    split at hu
    · cases hu
    · exact hu
theorem butRow_ne {N : Mem} {ad b : Addr} {u : Value} (h : butRow N (some ad) b = some u) : b.block ≠ ad.block := by
  unfold butRow at h
  simp only at h
  split at h
  · cases h
  · assumption
theorem butRow_of {N : Mem} {A : Option Addr} {b : Addr} {u : Value} (h : N b = some u) (hn : ∀ ad, A = some ad → b.block ≠ ad.block) : butRow N A b = some u := by
  unfold butRow
  cases A with
  | none => exact h
  | some ad =>
    simp only
    rw [if_neg (hn ad rfl)]
    exact h
theorem verOf1_r (M : Mem) (y : GInterval) (cs : List Value) (h : RInterval M y cs) (s : Int) (av : Addr) (hv : M (av.add 0) = some (.int .i64 s)) : AnsR Tryz.prog M 63 #[.agg cs.toArray, .pointer (some av)] (fun _ v => v = .bool (y.First == s)) := by
  obtain ⟨A0, c0, rfl, _, s0⟩ := h
  refine ansRC_of T (l := [.agg (List.toArray _), .pointer (some av)]) mixed Tryz.func63 rfl (by kernel_rfl) (Nat.le_of_ble_eq_true rfl) ?_
  repeat' ((conv => whnf); first | refine LdK.mk _ (by assumption) ?_ | fail)
  exact RetK.mk fun _ _ _ _ => rfl
theorem verOf2_r (M : Mem) (ivs : List GInterval) (A : Option Addr) (c : Nat) (h : SlR M RInterval 4 48 A c ivs) (i : Nat) (x : GInterval) (hx : ivs[i]? = some x) (y : GNotice) (cs : List Value) (hy : RNotice M y cs) (a b : Addr) (ha : M (a.add 0) = some (.slice A ivs.length c)) (hb : M (b.add 0) = some (.int .i64 (i : Int))) : AnsR Tryz.prog M 66 #[.agg cs.toArray, .pointer (some a), .pointer (some b)] (fun _ v => v = .bool (!x.Acting.any fun z => decide (y.From = z))) := by
  obtain ⟨A0, c0, A1, c1, A2, c2, A3, c3, rfl, _, s0, s1, s2, s3⟩ := hy
  have hil : i < ivs.length := by
    rcases Nat.lt_or_ge i ivs.length with h' | h'
    · exact h'
    · rw [List.getElem?_eq_none h'] at hx; cases hx
  obtain ⟨ad, rfl, B0, d0, _, t0, x0, x1, x2, x3⟩ := at_Interval h hx
  have hct := containsInt_a M x.Acting B0 d0 t0 y.From
  refine ansRC_of T (l := [.agg (List.toArray _), .pointer (some a), .pointer (some b)]) mixed Tryz.func66 rfl (by kernel_rfl) (Nat.le_of_ble_eq_true rfl) ?_
  repeat' ((conv => whnf); first | refine DrawN.q (by kernel_rfl) ?_ | refine IdxK.mk _ rfl (by omega) (by omega) ?_ | refine LdK.mk _ (by assumption) ?_ | refine CallK.mk _ hct ?_ | refine CallQ.mk _ hct ?_ | fail)
  exact RetK.mk fun _ _ _ _ => rfl
theorem verOf_r (M : Mem) (ivs : List GInterval) (A : Option Addr) (c : Nat) (h : SlR M RInterval 4 48 A c ivs) (hiv : intervalsF ivs = true) (cd : GCode) (hk : 1 ≤ cd.K) (l : List GNotice) (B : Option Addr) (dc : Nat) (hl : SlR M RNotice 13 168 B dc l) (hno : noticesOkF l = true) : AnsR Tryz.prog M 29 #[.slice A ivs.length c, .agg #[.int .i64 cd.K, .int .i64 cd.M], .slice B l.length dc] (fun _ v => v = .tuple #[.agg #[.int .i64 (verF ivs cd.K l).1.Epoch, .int .i64 (verF ivs cd.K l).1.Seq], .int .i64 (verF ivs cd.K l).2]) := by
  have hln := notices_len hno
  have hac : ∀ y ∈ ivs, y.Acting.length ≤ 1000 := fun y hy => by have := acting_le (intervals_at hiv hy); omega
  have hst := startedOf_a M l B dc hl
  have hnd := nodesOf_f M l B dc hl hln
  have hsg := started_ge l
  have hwp := who_pos (l := l)
  refine ansR_of (T.at M) (l := [.slice A ivs.length c, .agg #[.int .i64 cd.K, .int .i64 cd.M], .slice B l.length dc]) mixed Tryz.func29 rfl (by kernel_rfl) (Nat.le_of_ble_eq_true rfl) ?_ (fun _ ad u h1 h2 => by rw [show M ad = none from h1] at h2; cases h2)
  unfold verF
  generalize hs : startedF l = s at hst hsg hwp ⊢
  (conv => whnf)
  refine CallK.mk _ hst ?_
  (conv => whnf)
  have hz := Le.refl M
  refine DrawN.h {N : Mem // Le M N} (fun _ => [(2, .v (.slice B l.length dc)), (3, .p 0 0), (4, .p 1 0), (6, .p 2 0), (8, .p 3 0), (20, .v (.bool (!henF ivs cd.K s (fromsF l))))]) (fun _ => [(3, [.int .i64 s]), (2, [.int .i64 0, .int .i64 0]), (1, [.int .i64 cd.K, .int .i64 cd.M]), (0, [.slice A ivs.length c])]) 9 (fun N => N.1) (by kernel_rfl) ?_ ?_
  · repeat' ((conv => whnf); first | refine AndK.mk ?_ ?_ | refine HeldK.mk (by kernel_rfl) ?_ | (refine CallK.mr _ hnd (fun v N4 hl4 hv => ?_); obtain ⟨A4, c4, rfl, r4⟩ := hv; replace hz := hl4) | (refine CallK.mr _ (heardEnough_r _ ivs A c (h.mono hz (RInterval.mono hz)) hac cd.K s (fromsF l) A4 c4 r4) (fun v N5 hl5 hv => ?_); subst hv; replace hz := hz.trans hl5) | fail)
    all_goals exact ⟨⟨_, hz⟩, ⟨⟨rfl, rfl, rfl, rfl, rfl, rfl, trivial⟩, ⟨rfl, rfl, rfl, rfl, trivial⟩, rfl, rfl⟩, rfl⟩
  clear hz
  rintro ⟨N1, hl1⟩
  cases q1 : henF ivs cd.K s (fromsF l) with
  | false =>
    rw [if_pos rfl]
    repeat' ((conv => whnf); first | with_reducible refine CondK.tt ?_ | with_reducible refine CondK.ff ?_ | fail)
    exact RetK.mk fun _ _ _ _ => rfl
  | true =>
    rw [if_neg (by decide)]
    by_cases hs0 : s = 0
    · rw [if_pos hs0]
      repeat' ((conv => whnf); first | with_reducible refine CondK.tt ?_ | with_reducible refine CondK.ff ?_ | refine CondK.yes' (by simp [hs0]) ?_ | fail)
      exact RetK.mk fun _ _ _ _ => rfl
    rw [if_neg hs0]
    have hsp : s > 0 := by have := hsg.1; omega
    obtain ⟨hf1, hkin⟩ := hen_pre hiv hno hsp q1
    obtain ⟨i, x, hix, hil, hxi, hxs, hact⟩ := hasFirst_at hf1
    have hin : inF ivs s l = inBy x.Acting l := by unfold inF; rw [hact]
    rw [hin] at hkin ⊢
    have hinl : (inBy x.Acting l).length ≤ 16 := Nat.le_trans (List.length_filter_le _ _) hln
    repeat' ((conv => whnf); first | with_reducible refine CondK.tt ?_ | with_reducible refine CondK.ff ?_ | refine CondK.no' (by simp [hs0]) ?_ | fail)
    refine PubK.fr fun sv N2 hl2 hc2 hroom2 hfresh2 hdom2 => ?_
    (conv => whnf)
    have e2 := hl1.trans hl2
    have hixc := ixIntervalB_ri1 N2 ivs A c (h.mono e2 (RInterval.mono e2)) 63 sv (fun x => x.First == s) (fun M1 => M1 (sv.add 0) = some (.int .i64 s)) (hc2 0 _ rfl) (fun M1 M2 h hle => hle _ _ h) (fun M1 h x hx cs hR => verOf1_r M1 x cs hR s sv h)
    refine CallK.mr _ hixc (fun v N3 hl3 hv => ?_)
    subst hv
    rw [hix]
    (conv => whnf)
    have e3 := e2.trans hl3
    refine CallK.mr _ (cloneNotice_f N3 l B dc (hl.mono e3 (RNotice.mono e3)) (by omega)) (fun v N4 hl4 hv => ?_)
    obtain ⟨A1, c1, ds, rfl, hr, hn1⟩ := hv
    (conv => whnf)
    refine PubK.fr fun av N5 hl5 hc5 hroom5 hfresh5 hdom5 => ?_
    (conv => whnf)
    refine PubK.fr fun bv N6 hl6 hc6 hroom6 hfresh6 hdom6 => ?_
    (conv => whnf)
    have hap : ∀ ad, A1 = some ad → (∀ a u, N3 a = some u → a.block ≠ ad.block) ∧ (0 < l.length → ∃ w, N4 (ad.add 0) = some w) := fun ad had => by
      rcases hn1 with ⟨h5, _⟩ | ⟨ad1, h5, hrc, hf1⟩
      · rw [had] at h5; cases h5
      · rw [had] at h5
        cases h5
        exact ⟨hf1, fun hp => hrc.room 0 (by have := hrc.le; omega)⟩
    have hlp : 0 < l.length := by
      rcases Nat.eq_zero_or_pos l.length with h0 | h0
      · have : l = [] := List.eq_nil_of_length_eq_zero h0
        subst this
        rcases hsg.2 with h' | ⟨y, hy, _⟩
        · exact absurd h' hs0
        · cases hy
      · exact h0
    have h36 : Le N3 (butRow N6 A1) := fun a u hu => butRow_of (hl6 _ _ (hl5 _ _ (hl4 _ _ hu))) fun ad had => (hap ad had).1 a u hu
    have hav : butRow N6 A1 (av.add 0) = some (.slice A ivs.length c) := butRow_of (hl6 _ _ (hc5 0 _ rfl)) fun ad had => by
      obtain ⟨w, hw⟩ := (hap ad had).2 hlp
      have := hfresh5 _ w hw
      rw [add_block] at this ⊢
      exact this.symm
    have hbv : butRow N6 A1 (bv.add 0) = some (.int .i64 (i : Int)) := butRow_of (hc6 0 _ rfl) fun ad had => by
      obtain ⟨w, hw⟩ := (hap ad had).2 hlp
      have := hfresh6 _ w (hl5 _ _ hw)
      rw [add_block] at this ⊢
      exact this.symm
    refine delNoticeB_k2 rfl (((hn1.base e3).mono hl5).mono hl6) (by omega) (e3.trans (hl4.trans (hl5.trans hl6))) _ av bv (fun y => !x.Acting.any fun z => decide (y.From = z)) (butRow N6 A1) (butRow_le _ _) (fun a u ad had hpos hu => butRow_ne (by rw [← had]; exact hu)) (hr.mono (fun x cs h => RNotice.mono h36 _ _ h)) (fun M1' hM1 y _ cs hR => verOf2_r M1' ivs A c (h.mono ((e3.trans h36).trans hM1) (RInterval.mono ((e3.trans h36).trans hM1))) i x hxi y cs hR av bv (hM1 _ _ hav) (hM1 _ _ hbv)) (fun N7 ds' hN7 hrow' hr' hlc => ?_)
    (conv => whnf)
    have hs7 : N7 (sv.add 0) = some (.int .i64 s) := hlc _ _ (h36 _ _ (hl3 _ _ (hc2 0 _ rfl)))
    have hsl : SlR N7 RNotice 13 168 A1 c1 (inBy x.Acting l) := hrow'.sl hr' (fun _ _ h => h) (Nat.le_trans hinl (by decide))
    refine LdK.mk _ hs7 ?_
    (conv => whnf)
    refine CallK.mr _ (whoHas_f N7 (inBy x.Acting l) A1 c1 hsl hinl s) (fun v N8 hl8 hv => ?_)
    obtain ⟨A8, c8, rfl, r8⟩ := hv
    (conv => whnf)
    by_cases hq : (whoF (inBy x.Acting l) s).length = (inBy x.Acting l).length
    · rw [if_pos hq]
      refine CondK.yes' (by show (_ == _) = true; rw [beq_iff_eq]; exact congrArg Int.ofNat hq) ?_
      (conv => whnf)
      refine CallK.mr _ (kthLast_a N8 (inBy x.Acting l) A1 c1 (hsl.mono hl8 (RNotice.mono hl8)) hinl cd.K hk hkin) (fun v N9 hl9 hv => ?_)
      subst hv
      (conv => whnf)
      exact RetK.mk fun _ _ _ _ => rfl
    · rw [if_neg hq]
      refine CondK.no' (by show (_ == _) = false; rw [beq_eq_false_iff_ne]; exact fun he => hq (Int.ofNat.inj he)) ?_
      (conv => whnf)
      refine LdK.mk _ (hl8 _ _ hs7) ?_
      (conv => whnf)
      have e8 := hN7.trans hl8
      refine CallK.mr _ (whoHas_f N8 l B dc (hl.mono e8 (RNotice.mono e8)) hln s) (fun v N9 hl9 hv => ?_)
      obtain ⟨A9, c9, rfl, r9⟩ := hv
      (conv => whnf)
      have hwl : (whoF l s).length ≤ 16 := Nat.le_trans (List.length_filter_le _ _) hln
      refine CallK.mr _ (kthLast_a N9 (whoF l s) A9 c9 r9 hwl 1 (by omega) (by have := hwp hs0; omega)) (fun v N10 hl10 hv => ?_)
      subst hv
      (conv => whnf)
      exact RetK.mk fun _ _ _ _ => rfl
end Go.Proofs.YtoedjkeahjmpiaaGreat.Hlp
