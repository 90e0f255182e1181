/- spec.l22Ver, and VerOf's doors. -/
import Derived.Test.YtoedjkeahjmpiaaGreatFunVF
import Derived.Test.YtoedjkeahjmpiaaGreatFunVH
import Derived.Test.YtoedjkeahjmpiaaGreatHlpF
namespace Go.Proofs.YtoedjkeahjmpiaaGreat.Hlp
open Go Go.RowKit Go.Proofs Go.Proofs.YtoedjkeahjmpiaaGreat.Lw
set_option linter.unusedVariables false
set_option linter.unusedSimpArgs false
set_option maxRecDepth 100000
set_option maxHeartbeats 4000000
theorem ixD_neg {α : Type} (p : α → Bool) (l : List α) : decide (ixD p l < 0) = !l.any p := by
  rw [← ixD_any]
  rw [Bool.eq_iff_iff]
  simp only [decide_eq_true_eq, Bool.not_eq_true', decide_eq_false_iff_not]
  omega
theorem hen_eq {ivs : List GInterval} (hi : intervalsF ivs = true) {l : List GNotice} (hl : noticesOkF l = true) (k s : Int) : henS ivs k s (fromsF l) = henF ivs k s (fromsF l) := by
  unfold henS henF hasFirst
  rw [ixD_neg]
  have e : ((ivs.filter fun y => needF y s).all fun y => !decide (((heardIn y.Acting (fromsF l)).length : Int) < k)) = !ivs.any (hBad (fromsF l) k s) := by
    rw [Bool.eq_iff_iff]
    simp only [List.all_eq_true, List.mem_filter, Bool.not_eq_true', decide_eq_false_iff_not, List.any_eq_false, hBad, Bool.and_eq_true, decide_eq_true_eq]
    constructor
    · intro h x hx ⟨h1, h2⟩
      have := h x ⟨hx, h1⟩
      rw [heF_len (intervals_at hi hx) hl] at h2
      exact this h2
    · intro h x ⟨hx, h1⟩ h2
      refine h x hx ⟨h1, ?_⟩
      rw [heF_len (intervals_at hi hx) hl]
      exact h2
  rw [e]
theorem l22Ver_r (M : Mem) (ivs : List GInterval) (A : Option Addr) (c : Nat) (h : SlR M RInterval 4 48 A c ivs) (hiv : intervalsF ivs = true) (cd : GCode) (l : List GNotice) (B : Option Addr) (dc : Nat) (hl : SlR M RNotice 13 168 B dc l) (hno : noticesOkF l = true) : AnsR Tryz.prog M 25 #[.slice A ivs.length c, .agg #[.int .i64 cd.K, .int .i64 cd.M], .slice B l.length dc] (fun _ v => v = .tuple #[.agg #[.int .i64 (verF ivs cd.K l).1.Epoch, .int .i64 (verF ivs cd.K l).1.Seq], .int .i64 (verF ivs cd.K l).2]) := by
  have hln := notices_len hno
  have hac : ∀ y ∈ ivs, y.Acting.length ≤ 1000 := fun y hy => by have := acting_le (intervals_at hiv hy); omega
  have hst := l22Started_a M l B dc hl
  have hnd := l22Froms_f M l B dc hl hln
  have hsg := started_ge l
  have hps : ∀ y ∈ fromsF l, 0 ≤ y := fun y hy => froms_nonneg hno hy
  have hpn : ∀ y ∈ l, 0 ≤ y.From := fun y hy => hps _ (List.mem_map.2 ⟨y, hy, rfl⟩)
  have hoks := notices_ok hno
  have heq := hen_eq hiv hno cd.K (startedF l)
  refine ansR_of T (l := [.slice A ivs.length c, .agg #[.int .i64 cd.K, .int .i64 cd.M], .slice B l.length dc]) mixed Tryz.func25 rfl (by kernel_rfl) (Nat.le_of_ble_eq_true rfl) ?_
  unfold verF
  generalize hs : startedF l = s at hst hsg heq ⊢
  (conv => whnf)
  refine CallK.mk _ hst ?_
  (conv => whnf)
  have hz := Le.refl M
  refine DrawN.h {N : Mem // Le M N} (fun _ => [(0, .v (.slice A ivs.length c)), (2, .v (.slice B l.length dc)), (4, .p 0 0), (6, .p 1 0), (8, .v (.int .i64 s)), (20, .v (.bool (!henF ivs cd.K s (fromsF l))))]) (fun _ => [(1, [.int .i64 0, .int .i64 0]), (0, [.int .i64 cd.K, .int .i64 cd.M])]) 9 (fun N => N.1) (by kernel_rfl) ?_ ?_
  · repeat' ((conv => whnf); first | refine AndK.mk ?_ ?_ | refine HeldK.mk (by kernel_rfl) ?_ | (refine CallK.mr _ hnd (fun v N4 hl4 hv => ?_); obtain ⟨A4, c4, rfl, r4⟩ := hv; replace hz := hl4) | (refine CallK.mr _ (l13Enough_r _ ivs A c (h.mono hz (RInterval.mono hz)) (intervals_len hiv) hac cd.K s (fromsF l) A4 c4 r4 (by rw [fromsF_len]; exact hln) hps) (fun v N5 hl5 hv => ?_); rw [heq] at hv; subst hv; replace hz := hz.trans hl5) | fail)
    all_goals exact ⟨⟨_, hz⟩, ⟨⟨rfl, rfl, rfl, rfl, rfl, rfl, trivial⟩, ⟨rfl, rfl, trivial⟩, rfl, rfl⟩, rfl⟩
  clear hz
  rintro ⟨N1, hl1⟩
  cases q1 : henF ivs cd.K s (fromsF l) with
  | false =>
    rw [if_pos rfl]
    repeat' ((conv => whnf); first | with_reducible refine CondK.tt ?_ | with_reducible refine CondK.ff ?_ | fail)
    exact RetK.mk fun _ _ _ _ => rfl
  | true =>
    rw [if_neg (by decide)]
    by_cases hs0 : s = 0
    · rw [if_pos hs0]
      repeat' ((conv => whnf); first | with_reducible refine CondK.tt ?_ | with_reducible refine CondK.ff ?_ | refine CondK.yes' (by simp [hs0]) ?_ | fail)
      exact RetK.mk fun _ _ _ _ => rfl
    rw [if_neg hs0]
    have hsp : s > 0 := by have := hsg.1; omega
    obtain ⟨hf1, hkin⟩ := hen_pre hiv hno hsp q1
    obtain ⟨i, x, hix, hil, hxi, hxs, hact⟩ := hasFirst_at hf1
    have hin : inF ivs s l = inBy x.Acting l := by unfold inF; rw [hact]
    rw [hin] at hkin ⊢
    have hinl : (inBy x.Acting l).length ≤ 16 := Nat.le_trans (List.length_filter_le _ _) hln
    have hino : ∀ y ∈ inBy x.Acting l, stateOkF y.State = true := fun y hy => hoks y (List.mem_filter.1 hy).1
    have hwno : ∀ y ∈ whoF l s, stateOkF y.State = true := fun y hy => hoks y (List.mem_filter.1 hy).1
    have hwl : (whoF l s).length ≤ 16 := Nat.le_trans (List.length_filter_le _ _) hln
    have hat := l13At_a N1 ivs A c (h.mono hl1 (RInterval.mono hl1)) s
    rw [hix] at hat
    obtain ⟨ad, rfl, A0, c0, bny, s0, y0, y1, y2, y3⟩ := at_Interval (h.mono hl1 (RInterval.mono hl1)) hxi
    have hinc := l22In_f N1 l B dc (hl.mono hl1 (RNotice.mono hl1)) hln hpn x _ ⟨A0, c0, rfl, bny, s0⟩
    repeat' ((conv => whnf); first | with_reducible refine CondK.tt ?_ | with_reducible refine CondK.ff ?_ | refine CondK.no' (by simp [hs0]) ?_ | refine CallK.mk _ hat ?_ | refine IdxK.mk _ rfl (by omega) (by omega) ?_ | refine LdK.mk _ (by assumption) ?_ | (refine CallK.mr _ hinc (fun v N2 hl2 hv => ?_); obtain ⟨A2, c2, rfl, r2⟩ := hv) | fail)
    replace r2 : SlR N2 RNotice 13 168 A2 c2 (inBy x.Acting l) := r2
    have e2 := hl1.trans hl2
    refine CallK.mr _ (l22Has_f N2 l B dc (hl.mono e2 (RNotice.mono e2)) hln s) (fun v N3 hl3 hv => ?_)
    obtain ⟨A3, c3, rfl, r3⟩ := hv
    replace r3 : SlR N3 RNotice 13 168 A3 c3 (whoF l s) := r3
    (conv => whnf)
    refine CallK.mr _ (l22Has_f N3 (inBy x.Acting l) A2 c2 (r2.mono hl3 (RNotice.mono hl3)) hinl s) (fun v N4 hl4 hv => ?_)
    obtain ⟨A4, c4, rfl, r4⟩ := hv
    (conv => whnf)
    by_cases hq : (whoF (inBy x.Acting l) s).length = (inBy x.Acting l).length
    · rw [if_pos hq]
      refine CondK.yes' (by show (_ == _) = true; rw [beq_iff_eq]; exact congrArg Int.ofNat hq) ?_
      (conv => whnf)
      refine CallK.mk _ (l22Kth_a N4 (inBy x.Acting l) A2 c2 (r2.mono (hl3.trans hl4) (RNotice.mono (hl3.trans hl4))) hino hinl cd.K) ?_
      (conv => whnf)
      exact RetK.mk fun _ _ _ _ => rfl
    · rw [if_neg hq]
      refine CondK.no' (by show (_ == _) = false; rw [beq_eq_false_iff_ne]; exact fun he => hq (Int.ofNat.inj he)) ?_
      (conv => whnf)
      refine CallK.mk _ (l22Kth_a N4 (whoF l s) A3 c3 (r3.mono hl4 (RNotice.mono hl4)) hwno hwl 1) ?_
      (conv => whnf)
      exact RetK.mk fun _ _ _ _ => rfl
def codeOkV (c : GCode) : Bool := inR c.K 1 4 && inR c.M 0 3
theorem codeOkV_a (M : Mem) (c : GCode) : Ans Tryz.prog M 57 #[.agg #[.int .i64 c.K, .int .i64 c.M]] (.bool (codeOkV c)) := by
  refine ans_of T (l := [.agg #[.int .i64 c.K, .int .i64 c.M]]) mixed Tryz.func57 rfl (by kernel_rfl) (Nat.le_of_ble_eq_true rfl) ?_
  repeat' ((conv => whnf); first | with_reducible refine CondK.tt ?_ | with_reducible refine CondK.ff ?_ | refine DrawN.q (by kernel_rfl) ?_ | refine CallK.mk _ (between_a _ _ _ _) ?_ | refine CallQ.mk _ (between_a _ _ _ _) ?_ | refine CondK.mk (fun h => ?_) (fun h => ?_) | fail)
  all_goals (refine ret_bool ?_; unfold codeOkV; simp_all)
theorem l04CodeV_a (M : Mem) (c : GCode) : Ans Tryz.prog M 86 #[.agg #[.int .i64 c.K, .int .i64 c.M]] (.bool (codeOkV c)) := by
  refine ans_of T (l := [.agg #[.int .i64 c.K, .int .i64 c.M]]) mixed Tryz.func86 rfl (by kernel_rfl) (Nat.le_of_ble_eq_true rfl) ?_
  repeat' ((conv => whnf); first | with_reducible refine CondK.tt ?_ | with_reducible refine CondK.ff ?_ | refine DrawN.q (by kernel_rfl) ?_ | refine CallK.mk _ (l00In_a _ _ _ _) ?_ | refine CallQ.mk _ (l00In_a _ _ _ _) ?_ | refine CondK.mk (fun h => ?_) (fun h => ?_) | fail)
  all_goals (refine ret_bool ?_; unfold codeOkV; simp_all)
theorem sCodeOkV_a (M : Mem) (c : GCode) : Ans Tryz.prog M 47 #[.agg #[.int .i64 c.K, .int .i64 c.M]] (.bool (codeOkV c)) := by
  refine ans_of T (l := [.agg #[.int .i64 c.K, .int .i64 c.M]]) mixed Tryz.func47 rfl (by kernel_rfl) (Nat.le_of_ble_eq_true rfl) ?_
  repeat' ((conv => whnf); first | with_reducible refine CondK.tt ?_ | with_reducible refine CondK.ff ?_ | refine DrawN.q (by kernel_rfl) ?_ | refine CallK.mk _ (l04CodeV_a _ _) ?_ | refine CallQ.mk _ (l04CodeV_a _ _) ?_ | refine CondK.mk (fun h => ?_) (fun h => ?_) | fail)
  all_goals (refine ret_bool ?_; first | rfl | simp_all)
def peerF (ivs : List GInterval) (c : GCode) (l : List GNotice) : Bool := intervalsF ivs && codeOkV c && noticesOkF l
theorem peeringOk_a (M : Mem) (ivs : List GInterval) (A : Option Addr) (c : Nat) (h : SlR M RInterval 4 48 A c ivs) (cd : GCode) (l : List GNotice) (B : Option Addr) (dc : Nat) (hl : SlR M RNotice 13 168 B dc l) : Ans Tryz.prog M 28 #[.slice A ivs.length c, .agg #[.int .i64 cd.K, .int .i64 cd.M], .slice B l.length dc] (.bool (peerF ivs cd l)) := by
  have g1 := intervalsOk_a M ivs A c h
  have g2 := codeOkV_a M cd
  have g3 := noticesOk_a M l B dc hl
  refine ans_of T (l := [.slice A ivs.length c, .agg #[.int .i64 cd.K, .int .i64 cd.M], .slice B l.length dc]) mixed Tryz.func28 rfl (by kernel_rfl) (Nat.le_of_ble_eq_true rfl) ?_
  unfold peerF
  cases q1 : intervalsF ivs <;> rw [q1] at g1 <;> cases q2 : codeOkV cd <;> rw [q2] at g2 <;> (repeat' ((conv => whnf); first | with_reducible refine CondK.tt ?_ | with_reducible refine CondK.ff ?_ | refine CallK.mk _ g1 ?_ | refine CallK.mk _ g2 ?_ | refine CallK.mk _ g3 ?_ | fail)) <;> exact ret_bool (by simp)
theorem l22Form_a (M : Mem) (ivs : List GInterval) (A : Option Addr) (c : Nat) (h : SlR M RInterval 4 48 A c ivs) (cd : GCode) (l : List GNotice) (B : Option Addr) (dc : Nat) (hl : SlR M RNotice 13 168 B dc l) : Ans Tryz.prog M 24 #[.slice A ivs.length c, .agg #[.int .i64 cd.K, .int .i64 cd.M], .slice B l.length dc] (.bool (peerF ivs cd l)) := by
  have g1 := l13Ok_a M ivs A c h
  have g2 := sCodeOkV_a M cd
  have g3 := l22Ok_a M l B dc hl
  refine ans_of T (l := [.slice A ivs.length c, .agg #[.int .i64 cd.K, .int .i64 cd.M], .slice B l.length dc]) mixed Tryz.func24 rfl (by kernel_rfl) (Nat.le_of_ble_eq_true rfl) ?_
  unfold peerF
  cases q1 : intervalsF ivs <;> rw [q1] at g1 <;> cases q2 : codeOkV cd <;> rw [q2] at g2 <;> (repeat' ((conv => whnf); first | with_reducible refine CondK.tt ?_ | with_reducible refine CondK.ff ?_ | refine CallK.mk _ g1 ?_ | refine CallK.mk _ g2 ?_ | refine CallK.mk _ g3 ?_ | fail)) <;> exact ret_bool (by simp)
def voF (ivs : List GInterval) (c : GCode) (l : List GNotice) : GVer × Int := if peerF ivs c l = true then verF ivs c.K l else (⟨0, 0⟩, 1)
theorem peer_in {ivs : List GInterval} {c : GCode} {l : List GNotice} (h : peerF ivs c l = true) : intervalsF ivs = true ∧ 1 ≤ c.K ∧ noticesOkF l = true := by
  unfold peerF codeOkV inR at h
  simp only [Bool.and_eq_true, decide_eq_true_eq] at h
  exact ⟨h.1.1, h.1.2.1.1, h.2⟩
theorem iVerOf_r (M : Mem) (ivs : List GInterval) (A : Option Addr) (c : Nat) (h : SlR M RInterval 4 48 A c ivs) (cd : GCode) (l : List GNotice) (B : Option Addr) (dc : Nat) (hl : SlR M RNotice 13 168 B dc l) : AnsR Tryz.prog M 11 #[.slice A ivs.length c, .agg #[.int .i64 cd.K, .int .i64 cd.M], .slice B l.length dc] (fun _ v => v = .tuple #[.agg #[.int .i64 (voF ivs cd l).1.Epoch, .int .i64 (voF ivs cd l).1.Seq], .int .i64 (voF ivs cd l).2]) := by
  have g1 := peeringOk_a M ivs A c h cd l B dc hl
  have g2 := fun h1 h2 h3 => verOf_r M ivs A c h h1 cd h2 l B dc hl h3
  refine ansR_of T (l := [.slice A ivs.length c, .agg #[.int .i64 cd.K, .int .i64 cd.M], .slice B l.length dc]) mixed Tryz.func11 rfl (by kernel_rfl) (Nat.le_of_ble_eq_true rfl) ?_
  unfold voF
  cases q1 : peerF ivs cd l with
  | false =>
    rw [q1] at g1
    rw [if_neg (by decide)]
    repeat' ((conv => whnf); first | with_reducible refine CondK.tt ?_ | with_reducible refine CondK.ff ?_ | refine CallK.mk _ g1 ?_ | fail)
    exact RetK.mk fun _ _ _ _ => rfl
  | true =>
    rw [q1] at g1
    rw [if_pos rfl]
    obtain ⟨h1, h2, h3⟩ := peer_in q1
    repeat' ((conv => whnf); first | with_reducible refine CondK.tt ?_ | with_reducible refine CondK.ff ?_ | refine CallK.mk _ g1 ?_ | (refine CallK.mr _ (g2 h1 h2 h3) (fun v N hl1 hv => ?_); subst hv) | fail)
    exact RetK.mk fun _ _ _ _ => rfl
theorem sVerOf_r (M : Mem) (ivs : List GInterval) (A : Option Addr) (c : Nat) (h : SlR M RInterval 4 48 A c ivs) (cd : GCode) (l : List GNotice) (B : Option Addr) (dc : Nat) (hl : SlR M RNotice 13 168 B dc l) : AnsR Tryz.prog M 7 #[.slice A ivs.length c, .agg #[.int .i64 cd.K, .int .i64 cd.M], .slice B l.length dc] (fun _ v => v = .tuple #[.agg #[.int .i64 (voF ivs cd l).1.Epoch, .int .i64 (voF ivs cd l).1.Seq], .int .i64 (voF ivs cd l).2]) := by
  have g1 := l22Form_a M ivs A c h cd l B dc hl
  have g2 := fun h1 h3 => l22Ver_r M ivs A c h h1 cd l B dc hl h3
  refine ansR_of T (l := [.slice A ivs.length c, .agg #[.int .i64 cd.K, .int .i64 cd.M], .slice B l.length dc]) mixed Tryz.func7 rfl (by kernel_rfl) (Nat.le_of_ble_eq_true rfl) ?_
  unfold voF
  cases q1 : peerF ivs cd l with
  | false =>
    rw [q1] at g1
    rw [if_neg (by decide)]
    repeat' ((conv => whnf); first | with_reducible refine CondK.tt ?_ | with_reducible refine CondK.ff ?_ | refine CallK.mk _ g1 ?_ | fail)
    exact RetK.mk fun _ _ _ _ => rfl
  | true =>
    rw [q1] at g1
    rw [if_pos rfl]
    obtain ⟨h1, h2, h3⟩ := peer_in q1
    repeat' ((conv => whnf); first | with_reducible refine CondK.tt ?_ | with_reducible refine CondK.ff ?_ | refine CallK.mk _ g1 ?_ | (refine CallK.mr _ (g2 h1 h3) (fun v N hl1 hv => ?_); subst hv) | fail)
    exact RetK.mk fun _ _ _ _ => rfl
end Go.Proofs.YtoedjkeahjmpiaaGreat.Hlp
