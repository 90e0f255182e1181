/- heardEnough, nodesOf, whoHas: impl. -/
import Derived.Test.YtoedjkeahjmpiaaGreatFunVC
import Derived.Test.YtoedjkeahjmpiaaGreatFunDN2
namespace Go.Proofs.YtoedjkeahjmpiaaGreat.Hlp
open Go Go.RowKit Go.Proofs Go.Proofs.YtoedjkeahjmpiaaGreat.Lw
set_option linter.unusedVariables false
set_option linter.unusedSimpArgs false
set_option maxRecDepth 100000
set_option maxHeartbeats 4000000
def hasFirst (ivs : List GInterval) (s : Int) : Bool := ivs.any fun x => x.First == s
def henF (ivs : List GInterval) (k s : Int) (l : List Int) : Bool := if decide (s > 0) && !hasFirst ivs s then false else !ivs.any (hBad l k s)
theorem heardEnough_r (M : Mem) (ivs : List GInterval) (A : Option Addr) (c : Nat) (h : SlR M RInterval 4 48 A c ivs) (hac : ∀ y ∈ ivs, y.Acting.length ≤ 1000) (k s : Int) (l : List Int) (B : Option Addr) (dc : Nat) (hl : SlR M RInt 1 8 B dc l) : AnsR Tryz.prog M 60 #[.slice A ivs.length c, .int .i64 k, .int .i64 s, .slice B l.length dc] (fun _ v => v = .bool (henF ivs k s l)) := by
  refine ansR_of T (l := [.slice A ivs.length c, .int .i64 k, .int .i64 s, .slice B l.length dc]) mixed Tryz.func60 rfl (by kernel_rfl) (Nat.le_of_ble_eq_true rfl) ?_
  have step2 : ∀ (N : Mem) (a b d : Addr), Le M N → N (a.add 0) = some (.int .i64 s) → N (b.add 0) = some (.slice B l.length dc) → N (d.add 0) = some (.int .i64 k) → AnsR Tryz.prog N 100 #[.slice A ivs.length c, .func (.func 102) #[] #[.pointer (some a), .pointer (some b), .pointer (some d)]] (fun _ v => v = .bool (ivs.any (hBad l k s))) := fun N a b d hMN h1 h2 h3 =>
    cfInterval3_r N ivs A c (h.mono hMN (RInterval.mono hMN)) _ a b d (hBad l k s) (fun M1 => Le M M1 ∧ M1 (a.add 0) = some (.int .i64 s) ∧ M1 (b.add 0) = some (.slice B l.length dc) ∧ M1 (d.add 0) = some (.int .i64 k)) ⟨hMN, h1, h2, h3⟩ (fun M1 M2 h hle => ⟨h.1.trans hle, hle _ _ h.2.1, hle _ _ h.2.2.1, hle _ _ h.2.2.2⟩) (fun M1 h x hx cs hR => hEnough2_r M1 x cs hR (hac x hx) l B dc (hl.mono h.1 (fun _ _ h => h)) k s a b d h.2.1 h.2.2.1 h.2.2.2)
  unfold henF hasFirst
  by_cases hs : s > 0
  · have hsd : decide (s > 0) = true := decide_eq_true hs
    rw [hsd]
    (conv => whnf)
    rw [hsd]
    (conv => whnf)
    refine PubK.fr fun av N1 hl1 hc1 hroom1 hfresh1 hdom1 => ?_
    (conv => whnf)
    have hcf := cfInterval1_r N1 ivs A c (h.mono hl1 (RInterval.mono hl1)) 101 av (fun x => x.First == s) (fun M1 => M1 (av.add 0) = some (.int .i64 s)) (hc1 0 _ rfl) (fun M1 M2 h hle => hle _ _ h) (fun M1 h x hx cs hR => hEnough1_r M1 x cs hR s av h)
    refine CallK.mr _ hcf (fun v N2 hl2 hv => ?_)
    subst hv
    cases q : ivs.any (fun x => x.First == s) with
    | false =>
      repeat' ((conv => whnf); first | with_reducible refine CondK.tt ?_ | with_reducible refine CondK.ff ?_ | fail)
      exact RetK.mk fun _ _ _ _ => rfl
    | true =>
      repeat' ((conv => whnf); first | with_reducible refine CondK.tt ?_ | with_reducible refine CondK.ff ?_ | fail)
      refine PubK.fr fun bv N3 hl3 hc3 hroom3 hfresh3 hdom3 => ?_
      (conv => whnf)
      refine PubK.fr fun dv N4 hl4 hc4 hroom4 hfresh4 hdom4 => ?_
      (conv => whnf)
      refine CallK.mr _ (step2 N4 av bv dv (hl1.trans (hl2.trans (hl3.trans hl4))) (hl4 _ _ (hl3 _ _ (hl2 _ _ (hc1 0 _ rfl)))) (hl4 _ _ (hc3 0 _ rfl)) (hc4 0 _ rfl)) (fun v N5 hl5 hv => ?_)
      subst hv
      (conv => whnf)
      exact RetK.mk fun _ _ _ _ => rfl
  · have hsd : decide (s > 0) = false := decide_eq_false hs
    rw [hsd]
    (conv => whnf)
    rw [hsd]
    repeat' ((conv => whnf); first | with_reducible refine CondK.tt ?_ | with_reducible refine CondK.ff ?_ | fail)
    refine PubK.fr fun av N1 hl1 hc1 hroom1 hfresh1 hdom1 => ?_
    (conv => whnf)
    refine PubK.fr fun bv N3 hl3 hc3 hroom3 hfresh3 hdom3 => ?_
    (conv => whnf)
    refine PubK.fr fun dv N4 hl4 hc4 hroom4 hfresh4 hdom4 => ?_
    (conv => whnf)
    refine CallK.mr _ (step2 N4 av bv dv (hl1.trans (hl3.trans hl4)) (hl4 _ _ (hl3 _ _ (hc1 0 _ rfl))) (hl4 _ _ (hc3 0 _ rfl)) (hc4 0 _ rfl)) (fun v N5 hl5 hv => ?_)
    subst hv
    (conv => whnf)
    exact RetK.mk fun _ _ _ _ => rfl
def fromsF (l : List GNotice) : List Int := l.map fun y => y.From
theorem fromsF_len (l : List GNotice) : (fromsF l).length = l.length := by simp [fromsF]
def rowPI (n : Nat) (o : Option Nat) : PV := match o with | none => .v (.slice none 0 0) | some c => .s 0 n c 1
def rowBI (V : List Int) (o : Option Nat) (b : Bx) : Bx := match o with | none => b | some _ => (0, cellsI V) :: b
theorem cellsI_take {V : List Int} {j : Nat} {v : Int} (h : V[j]? = some v) : cellsI (V.take (j + 1)) = cellsI (V.take j) ++ [.int .i64 v] := by
  unfold cellsI
  rw [List.take_add_one, h]
  simp
theorem allOneI : ∀ V : List Int, allOne (cellsI V) = true
  | [] => rfl
  | x :: r => by
    show allOne (.int .i64 x :: cellsI r) = true
    simp only [allOne, allOneI r]
    rfl
theorem nodesOf_f (M : Mem) (l : List GNotice) (A : Option Addr) (c : Nat) (h : SlR M RNotice 13 168 A c l) (hn : l.length ≤ 16) : AnsR Tryz.prog M 61 #[.slice A l.length c] (fun M' v => ∃ A' c', v = .slice A' (fromsF l).length c' ∧ SlR M' RInt 1 8 A' c' (fromsF l)) := by
  refine ansR_of T (l := [.slice A l.length c]) mixed Tryz.func61 rfl (by kernel_rfl) (Nat.le_of_ble_eq_true rfl) ?_
  (conv => whnf)
  refine LoopK.sw 0 1 {q : Nat × Option Nat // q.1 ≤ l.length ∧ (q.2 = none → q.1 = 0) ∧ ∀ cp, q.2 = some cp → q.1 ≤ cp} (fun ⟨(j, o), _⟩ => [(3, rowPI j o), (6, .v (.slice A l.length c)), (7, .v (.int .i64 (l.length : Int))), (8, .v (.int .i64 (j : Int)))]) (fun ⟨(j, o), _⟩ => rowBI ((fromsF l).take j) o []) (fun _ => M) (fun q => l.length - q.1.1) ⟨(0, none), Nat.zero_le _, fun _ => rfl, fun _ h => by cases h⟩ 0 ⟨⟨⟨rfl, rfl, rfl, rfl, trivial⟩, trivial, rfl, rfl⟩, rfl⟩ ?_
  rintro ⟨⟨j, o⟩, hj, ho1, ho2⟩
  simp only at hj ho1 ho2
  (conv => whnf)
  refine CondK.mk (fun h1 => ?_) (fun h1 => ?_)
  · have hlt : j < l.length := by simpa using h1
    obtain ⟨y, hyk⟩ : ∃ y, l[j] = y := ⟨_, rfl⟩
    have hy : l[j]? = some y := by rw [List.getElem?_eq_getElem hlt, hyk]
    have hyf : (fromsF l)[j]? = some y.From := by simp [fromsF, hy]
    obtain ⟨ad, rfl, A0, c0, A1, c1, A2, c2, A3, c3, bnx, ⟨s0, s1, s2, s3⟩, x0, x1, x2, x3, x4, x5, x6, x7, x8, x9, x10, x11, x12⟩ := at_Notice h hy
    have e := cellsI_take hyf
    cases o with
    | none =>
      have hj0 : j = 0 := ho1 rfl
      subst hj0
      repeat' ((conv => whnf); first | refine IdxK.mk _ rfl (by omega) (by omega) ?_ | refine LdK.mk _ (by assumption) ?_ | refine AppK.mk (by decide) (by decide) (.inl (by decide)) rfl (fun cap3 hcap3 => ?_) | fail)
      exact ⟨⟨(1, some cap3), hlt, fun h => (by cases h), fun cp h => (by cases h; exact hcap3)⟩, 3, ⟨⟨rfl, rfl, rfl, rfl, trivial⟩, ⟨congrArg some e.symm, trivial⟩, rfl, rfl⟩, rfl, by simp only; omega⟩
    | some cap =>
      have hcp := ho2 cap rfl
      have hal := allOneI ((fromsF l).take j)
      repeat' ((conv => whnf); first | refine IdxK.mk _ rfl (by omega) (by omega) ?_ | refine LdK.mk _ (by assumption) ?_ | refine AppK.mk (by show (2 * _ + 512) * 8 ≤ 281474976710656; omega) (by omega) (.inr rfl) (by first | exact hal | rfl) (fun cap3 hcap3 => ?_) | fail)
      exact ⟨⟨(j + 1, some cap3), hlt, fun h => (by cases h), fun cp h => (by cases h; exact hcap3)⟩, 3, ⟨⟨rfl, rfl, rfl, look_int (i64_succ (by omega)), trivial⟩, ⟨congrArg some e.symm, trivial⟩, rfl, rfl⟩, rfl, by simp only; omega⟩
  · have hjl : j = l.length := by
      have : ¬ j < l.length := by simpa using h1
      omega
    subst hjl
    have hV : (fromsF l).take l.length = fromsF l := by rw [← fromsF_len, List.take_length]
    cases o with
    | none =>
      have hl0 : l.length = 0 := ho1 rfl
      have : l = [] := List.eq_nil_of_length_eq_zero hl0
      subst this
      (conv => whnf)
      exact RetK.mk fun g M' hl hg => ⟨none, 0, rfl, SlR.nil⟩
    | some cap =>
      have hcp := ho2 cap rfl
      (conv => whnf)
      refine RetK.mk fun g M' hl hg => ⟨_, cap, slice_eq (fromsF_len l).symm, row_out (RowR.mono (M' := M) (rowI (fromsF l)) (fun _ _ h => h)) rfl (fun _ _ h => h) (fun o u hu => hg 0 _ rfl o u (by rw [hV]; exact hu)) (by rw [fromsF_len]; exact hcp) (by rw [fromsF_len]; omega)⟩
theorem whoHas1_r (M : Mem) (y : GNotice) (cs : List Value) (h : RNotice M y cs) (s : Int) (av : Addr) (hv : M (av.add 0) = some (.int .i64 s)) : AnsR Tryz.prog M 105 #[.agg cs.toArray, .pointer (some av)] (fun _ v => v = .bool (y.State.Started != s)) := by
  obtain ⟨A0, c0, A1, c1, A2, c2, A3, c3, rfl, _, s0, s1, s2, s3⟩ := h
  refine ansRC_of T (l := [.agg (List.toArray _), .pointer (some av)]) mixed Tryz.func105 rfl (by kernel_rfl) (Nat.le_of_ble_eq_true rfl) ?_
  repeat' ((conv => whnf); first | refine LdK.mk _ (by assumption) ?_ | fail)
  exact RetK.mk fun _ _ _ _ => rfl
def whoF (l : List GNotice) (s : Int) : List GNotice := l.filter fun y => !(y.State.Started != s)
theorem whoHas_f (M : Mem) (l : List GNotice) (A : Option Addr) (c : Nat) (h : SlR M RNotice 13 168 A c l) (hn : l.length ≤ 16) (s : Int) : AnsR Tryz.prog M 68 #[.slice A l.length c, .int .i64 s] (fun M' v => ∃ A' cap', v = .slice A' (whoF l s).length cap' ∧ SlR M' RNotice 13 168 A' cap' (whoF l s)) := by
  refine ansR_of (T.at M) (l := [.slice A l.length c, .int .i64 s]) mixed Tryz.func68 rfl (by kernel_rfl) (Nat.le_of_ble_eq_true rfl) ?_ (fun _ ad u h1 h2 => by rw [show M ad = none from h1] at h2; cases h2)
  (conv => whnf)
  refine CallK.mr _ (cloneNotice_f M l A c h (by omega)) (fun v M1 hl1 hv => ?_)
  obtain ⟨A1, c1, ds, rfl, hr, hn1⟩ := hv
  (conv => whnf)
  refine PubK.fr fun av N2 hl2 hc2 hroom2 hfresh2 hdom2 => ?_
  (conv => whnf)
  refine delNoticeB_k1 rfl (hn1.mono hl2) (by omega) (hl1.trans hl2) _ av (fun y => y.State.Started != s) (fun b => if M b = none then (if b.block = av.block then N2 b else none) else M b) (fun b u hu => ?_) (fun b u ad had hpos hu => ?_) (hr.mono (fun x cs h => RNotice.mono (fun b u hu => by (try simp only); rw [if_neg (by rw [hu]; simp)]; exact hu) _ _ h)) (fun M1' hM1 x _ cs hR => whoHas1_r M1' x cs hR s av (hM1 _ _ ?_)) (fun N' ds' hN' hrow' hr' hlc => ?_)
  · try simp only at hu
    split at hu
    · split at hu
      · exact hu
      · cases hu
    · exact hl2 b u (hl1 b u hu)
  · have had1 : ∃ ad1, A1 = some ad1 ∧ (∀ a u, M a = some u → a.block ≠ ad1.block) ∧ ∃ w, M1 (ad1.add 0) = some w := by
      rcases hn1 with ⟨h5, h6, _⟩ | ⟨ad1, h5, hrc, hf1⟩
      · omega
      · exact ⟨ad1, h5, hf1, hrc.room 0 (by have := hrc.le; omega)⟩
    obtain ⟨ad1, h5, hf1, w, hw⟩ := had1
    rw [had] at h5
    cases h5
    have f2 := hfresh2 _ w hw
    rw [add_block] at f2
    try simp only at hu
    split at hu
    · split at hu
      · rename_i hb
        rw [hb]
        exact f2.symm
      · cases hu
    · exact hf1 b u hu
  · simp only
    have hm : M (av.add 0) = none := by
      cases hm : M (av.add 0) with
      | none => rfl
      | some w => exact absurd (add_block av 0) (hfresh2 _ w (hl1 _ w hm))
    rw [if_pos hm, if_pos (add_block av 0)]
    exact hc2 0 _ rfl
  (conv => whnf)
  have hlen : (whoF l s).length ≤ 9223372036854775807 := by have := List.length_filter_le (fun y : GNotice => !(y.State.Started != s)) l; unfold whoF; omega
  exact RetK.mk fun g M' hl' hg => ⟨_, _, rfl, (hrow'.mono hl').sl hr' (fun _ _ h => RNotice.mono hl' _ _ h) hlen⟩
end Go.Proofs.YtoedjkeahjmpiaaGreat.Hlp
