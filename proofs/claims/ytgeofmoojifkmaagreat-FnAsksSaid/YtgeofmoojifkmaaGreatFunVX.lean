/- Texts of the light walk, joined: FunVD FunVE FunVF FunVG FunVH FunVI. -/
import Derived.Test.YtgeofmoojifkmaaGreatFunVC
import Derived.Test.YtgeofmoojifkmaaGreatFunDN2
import Derived.Test.YtgeofmoojifkmaaGreatHlpF
namespace Go.Proofs.YtgeofmoojifkmaaGreat.Hlp
open Go Go.RowKit Go.Proofs Go.Proofs.YtgeofmoojifkmaaGreat.Lw
set_option linter.unusedVariables false
set_option linter.unusedSimpArgs false
set_option maxRecDepth 100000
set_option maxHeartbeats 4000000
def hasFirst (ivs : List GInterval) (s : Int) : Bool := ivs.any fun x => x.First == s
def henF (ivs : List GInterval) (k s : Int) (l : List Int) : Bool := if decide (s > 0) && !hasFirst ivs s then false else !ivs.any (hBad l k s)
theorem heardEnough_r (M : Mem) (ivs : List GInterval) (A : Option Addr) (c : Nat) (h : SlR M RInterval 4 48 A c ivs) (hac : ∀ y ∈ ivs, y.Acting.length ≤ 1000) (k s : Int) (l : List Int) (B : Option Addr) (dc : Nat) (hl : SlR M RInt 1 8 B dc l) : AnsR Tryz.prog M 55 #[.slice A ivs.length c, .int .i64 k, .int .i64 s, .slice B l.length dc] (fun _ v => v = .bool (henF ivs k s l)) := by
  refine ansR_of T (l := [.slice A ivs.length c, .int .i64 k, .int .i64 s, .slice B l.length dc]) mixed Tryz.func55 rfl (by kernel_rfl) (Nat.le_of_ble_eq_true rfl) ?_
  have step2 : ∀ (N : Mem) (a b d : Addr), Le M N → N (a.add 0) = some (.int .i64 s) → N (b.add 0) = some (.slice B l.length dc) → N (d.add 0) = some (.int .i64 k) → AnsR Tryz.prog N 93 #[.slice A ivs.length c, .func (.func 95) #[] #[.pointer (some a), .pointer (some b), .pointer (some d)]] (fun _ v => v = .bool (ivs.any (hBad l k s))) := fun N a b d hMN h1 h2 h3 =>
    cfInterval3_r N ivs A c (h.mono hMN (RInterval.mono hMN)) _ a b d (hBad l k s) (fun M1 => Le M M1 ∧ M1 (a.add 0) = some (.int .i64 s) ∧ M1 (b.add 0) = some (.slice B l.length dc) ∧ M1 (d.add 0) = some (.int .i64 k)) ⟨hMN, h1, h2, h3⟩ (fun M1 M2 h hle => ⟨h.1.trans hle, hle _ _ h.2.1, hle _ _ h.2.2.1, hle _ _ h.2.2.2⟩) (fun M1 h x hx cs hR => hEnough2_r M1 x cs hR (hac x hx) l B dc (hl.mono h.1 (fun _ _ h => h)) k s a b d h.2.1 h.2.2.1 h.2.2.2)
  unfold henF hasFirst
  by_cases hs : s > 0
  · have hsd : decide (s > 0) = true := decide_eq_true hs
    rw [hsd]
    (conv => whnf)
    rw [hsd]
    (conv => whnf)
    refine PubK.fr fun av N1 hl1 hc1 hroom1 hfresh1 hdom1 => ?_
    (conv => whnf)
    have hcf := cfInterval1_r N1 ivs A c (h.mono hl1 (RInterval.mono hl1)) 94 av (fun x => x.First == s) (fun M1 => M1 (av.add 0) = some (.int .i64 s)) (hc1 0 _ rfl) (fun M1 M2 h hle => hle _ _ h) (fun M1 h x hx cs hR => hEnough1_r M1 x cs hR s av h)
    refine CallK.mr _ hcf (fun v N2 hl2 hv => ?_)
    subst hv
    cases q : ivs.any (fun x => x.First == s) with
    | false =>
      repeat' ((conv => whnf); first | with_reducible refine CondK.tt ?_ | with_reducible refine CondK.ff ?_ | fail)
      exact RetK.mk fun _ _ _ _ => rfl
    | true =>
      repeat' ((conv => whnf); first | with_reducible refine CondK.tt ?_ | with_reducible refine CondK.ff ?_ | fail)
      refine PubK.fr fun bv N3 hl3 hc3 hroom3 hfresh3 hdom3 => ?_
      (conv => whnf)
      refine PubK.fr fun dv N4 hl4 hc4 hroom4 hfresh4 hdom4 => ?_
      (conv => whnf)
      refine CallK.mr _ (step2 N4 av bv dv (hl1.trans (hl2.trans (hl3.trans hl4))) (hl4 _ _ (hl3 _ _ (hl2 _ _ (hc1 0 _ rfl)))) (hl4 _ _ (hc3 0 _ rfl)) (hc4 0 _ rfl)) (fun v N5 hl5 hv => ?_)
      subst hv
      (conv => whnf)
      exact RetK.mk fun _ _ _ _ => rfl
  · have hsd : decide (s > 0) = false := decide_eq_false hs
    rw [hsd]
    (conv => whnf)
    rw [hsd]
    repeat' ((conv => whnf); first | with_reducible refine CondK.tt ?_ | with_reducible refine CondK.ff ?_ | fail)
    refine PubK.fr fun av N1 hl1 hc1 hroom1 hfresh1 hdom1 => ?_
    (conv => whnf)
    refine PubK.fr fun bv N3 hl3 hc3 hroom3 hfresh3 hdom3 => ?_
    (conv => whnf)
    refine PubK.fr fun dv N4 hl4 hc4 hroom4 hfresh4 hdom4 => ?_
    (conv => whnf)
    refine CallK.mr _ (step2 N4 av bv dv (hl1.trans (hl3.trans hl4)) (hl4 _ _ (hl3 _ _ (hc1 0 _ rfl))) (hl4 _ _ (hc3 0 _ rfl)) (hc4 0 _ rfl)) (fun v N5 hl5 hv => ?_)
    subst hv
    (conv => whnf)
    exact RetK.mk fun _ _ _ _ => rfl
def fromsF (l : List GNotice) : List Int := l.map fun y => y.From
theorem fromsF_len (l : List GNotice) : (fromsF l).length = l.length := by simp [fromsF]
def rowPI (n : Nat) (o : Option Nat) : PV := match o with | none => .v (.slice none 0 0) | some c => .s 0 n c 1
def rowBI (V : List Int) (o : Option Nat) (b : Bx) : Bx := match o with | none => b | some _ => (0, cellsI V) :: b
theorem cellsI_take {V : List Int} {j : Nat} {v : Int} (h : V[j]? = some v) : cellsI (V.take (j + 1)) = cellsI (V.take j) ++ [.int .i64 v] := by
  unfold cellsI
  rw [List.take_add_one, h]
  simp
theorem allOneI : ∀ V : List Int, allOne (cellsI V) = true
  | [] => rfl
  | x :: r => by
    show allOne (.int .i64 x :: cellsI r) = true
    simp only [allOne, allOneI r]
    rfl
theorem nodesOf_f (M : Mem) (l : List GNotice) (A : Option Addr) (c : Nat) (h : SlR M RNotice 13 168 A c l) (hn : l.length ≤ 16) : AnsR Tryz.prog M 42 #[.slice A l.length c] (fun M' v => ∃ A' c', v = .slice A' (fromsF l).length c' ∧ SlR M' RInt 1 8 A' c' (fromsF l)) := by
  refine ansR_of T (l := [.slice A l.length c]) mixed Tryz.func42 rfl (by kernel_rfl) (Nat.le_of_ble_eq_true rfl) ?_
  (conv => whnf)
  refine LoopK.sw 0 1 {q : Nat × Option Nat // q.1 ≤ l.length ∧ (q.2 = none → q.1 = 0) ∧ ∀ cp, q.2 = some cp → q.1 ≤ cp} (fun ⟨(j, o), _⟩ => [(3, rowPI j o), (6, .v (.slice A l.length c)), (7, .v (.int .i64 (l.length : Int))), (8, .v (.int .i64 (j : Int)))]) (fun ⟨(j, o), _⟩ => rowBI ((fromsF l).take j) o []) (fun _ => M) (fun q => l.length - q.1.1) ⟨(0, none), Nat.zero_le _, fun _ => rfl, fun _ h => by cases h⟩ 0 ⟨⟨⟨rfl, rfl, rfl, rfl, trivial⟩, trivial, rfl, rfl⟩, rfl⟩ ?_
  rintro ⟨⟨j, o⟩, hj, ho1, ho2⟩
  simp only at hj ho1 ho2
  (conv => whnf)
  refine CondK.mk (fun h1 => ?_) (fun h1 => ?_)
  · have hlt : j < l.length := by simpa using h1
    obtain ⟨y, hyk⟩ : ∃ y, l[j] = y := ⟨_, rfl⟩
    have hy : l[j]? = some y := by rw [List.getElem?_eq_getElem hlt, hyk]
    have hyf : (fromsF l)[j]? = some y.From := by simp [fromsF, hy]
    obtain ⟨ad, rfl, A0, c0, A1, c1, A2, c2, A3, c3, bnx, ⟨s0, s1, s2, s3⟩, x0, x1, x2, x3, x4, x5, x6, x7, x8, x9, x10, x11, x12⟩ := at_Notice h hy
    have e := cellsI_take hyf
    cases o with
    | none =>
      have hj0 : j = 0 := ho1 rfl
      subst hj0
      repeat' ((conv => whnf); first | refine IdxK.mk _ rfl (by omega) (by omega) ?_ | refine LdK.mk _ (by assumption) ?_ | refine AppK.mk (by decide) (by decide) (.inl (by decide)) rfl (fun cap3 hcap3 => ?_) | fail)
      exact ⟨⟨(1, some cap3), hlt, fun h => (by cases h), fun cp h => (by cases h; exact hcap3)⟩, 3, ⟨⟨rfl, rfl, rfl, rfl, trivial⟩, ⟨congrArg some e.symm, trivial⟩, rfl, rfl⟩, rfl, by simp only; omega⟩
    | some cap =>
      have hcp := ho2 cap rfl
      have hal := allOneI ((fromsF l).take j)
      repeat' ((conv => whnf); first | refine IdxK.mk _ rfl (by omega) (by omega) ?_ | refine LdK.mk _ (by assumption) ?_ | refine AppK.mk (by show (2 * _ + 512) * 8 ≤ 281474976710656; omega) (by omega) (.inr rfl) (by first | exact hal | rfl) (fun cap3 hcap3 => ?_) | fail)
      exact ⟨⟨(j + 1, some cap3), hlt, fun h => (by cases h), fun cp h => (by cases h; exact hcap3)⟩, 3, ⟨⟨rfl, rfl, rfl, look_int (i64_succ (by omega)), trivial⟩, ⟨congrArg some e.symm, trivial⟩, rfl, rfl⟩, rfl, by simp only; omega⟩
  · have hjl : j = l.length := by
      have : ¬ j < l.length := by simpa using h1
      omega
    subst hjl
    have hV : (fromsF l).take l.length = fromsF l := by rw [← fromsF_len, List.take_length]
    cases o with
    | none =>
      have hl0 : l.length = 0 := ho1 rfl
      have : l = [] := List.eq_nil_of_length_eq_zero hl0
      subst this
      (conv => whnf)
      exact RetK.mk fun g M' hl hg => ⟨none, 0, rfl, SlR.nil⟩
    | some cap =>
      have hcp := ho2 cap rfl
      (conv => whnf)
      refine RetK.mk fun g M' hl hg => ⟨_, cap, slice_eq (fromsF_len l).symm, row_out (RowR.mono (M' := M) (rowI (fromsF l)) (fun _ _ h => h)) rfl (fun _ _ h => h) (fun o u hu => hg 0 _ rfl o u (by rw [hV]; exact hu)) (by rw [fromsF_len]; exact hcp) (by rw [fromsF_len]; omega)⟩
theorem whoHas1_r (M : Mem) (y : GNotice) (cs : List Value) (h : RNotice M y cs) (s : Int) (av : Addr) (hv : M (av.add 0) = some (.int .i64 s)) : AnsR Tryz.prog M 97 #[.agg cs.toArray, .pointer (some av)] (fun _ v => v = .bool (y.State.Started != s)) := by
  obtain ⟨A0, c0, A1, c1, A2, c2, A3, c3, rfl, _, s0, s1, s2, s3⟩ := h
  refine ansRC_of T (l := [.agg (List.toArray _), .pointer (some av)]) mixed Tryz.func97 rfl (by kernel_rfl) (Nat.le_of_ble_eq_true rfl) ?_
  repeat' ((conv => whnf); first | refine LdK.mk _ (by assumption) ?_ | fail)
  exact RetK.mk fun _ _ _ _ => rfl
def whoF (l : List GNotice) (s : Int) : List GNotice := l.filter fun y => !(y.State.Started != s)
theorem whoHas_f (M : Mem) (l : List GNotice) (A : Option Addr) (c : Nat) (h : SlR M RNotice 13 168 A c l) (hn : l.length ≤ 16) (s : Int) : AnsR Tryz.prog M 61 #[.slice A l.length c, .int .i64 s] (fun M' v => ∃ A' cap', v = .slice A' (whoF l s).length cap' ∧ SlR M' RNotice 13 168 A' cap' (whoF l s)) := by
  refine ansR_of (T.at M) (l := [.slice A l.length c, .int .i64 s]) mixed Tryz.func61 rfl (by kernel_rfl) (Nat.le_of_ble_eq_true rfl) ?_ (fun _ ad u h1 h2 => by rw [show M ad = none from h1] at h2; cases h2)
  (conv => whnf)
  refine CallK.mr _ (cloneNotice_f M l A c h (by omega)) (fun v M1 hl1 hv => ?_)
  obtain ⟨A1, c1, ds, rfl, hr, hn1⟩ := hv
  (conv => whnf)
  refine PubK.fr fun av N2 hl2 hc2 hroom2 hfresh2 hdom2 => ?_
  (conv => whnf)
  refine delNoticeB_k1 rfl (hn1.mono hl2) (by omega) (hl1.trans hl2) _ av (fun y => y.State.Started != s) (fun b => if M b = none then (if b.block = av.block then N2 b else none) else M b) (fun b u hu => ?_) (fun b u ad had hpos hu => ?_) (hr.mono (fun x cs h => RNotice.mono (fun b u hu => by (try simp only); rw [if_neg (by rw [hu]; simp)]; exact hu) _ _ h)) (fun M1' hM1 x _ cs hR => whoHas1_r M1' x cs hR s av (hM1 _ _ ?_)) (fun N' ds' hN' hrow' hr' hlc => ?_)
  · try simp only at hu
    split at hu
    · split at hu
      · exact hu
      · cases hu
    · exact hl2 b u (hl1 b u hu)
  · have had1 : ∃ ad1, A1 = some ad1 ∧ (∀ a u, M a = some u → a.block ≠ ad1.block) ∧ ∃ w, M1 (ad1.add 0) = some w := by
      rcases hn1 with ⟨h5, h6, _⟩ | ⟨ad1, h5, hrc, hf1⟩
      · omega
      · exact ⟨ad1, h5, hf1, hrc.room 0 (by have := hrc.le; omega)⟩
    obtain ⟨ad1, h5, hf1, w, hw⟩ := had1
    rw [had] at h5
    cases h5
    have f2 := hfresh2 _ w hw
    rw [add_block] at f2
    try simp only at hu
    split at hu
    · split at hu
      · rename_i hb
        rw [hb]
        exact f2.symm
      · cases hu
    · exact hf1 b u hu
  · simp only
    have hm : M (av.add 0) = none := by
      cases hm : M (av.add 0) with
      | none => rfl
      | some w => exact absurd (add_block av 0) (hfresh2 _ w (hl1 _ w hm))
    rw [if_pos hm, if_pos (add_block av 0)]
    exact hc2 0 _ rfl
  (conv => whnf)
  have hlen : (whoF l s).length ≤ 9223372036854775807 := by have := List.length_filter_le (fun y : GNotice => !(y.State.Started != s)) l; unfold whoF; omega
  exact RetK.mk fun g M' hl' hg => ⟨_, _, rfl, (hrow'.mono hl').sl hr' (fun _ _ h => RNotice.mono hl' _ _ h) hlen⟩
end Go.Proofs.YtgeofmoojifkmaaGreat.Hlp
namespace Go.Proofs.YtgeofmoojifkmaaGreat.Hlp
open Go Go.RowKit Go.Proofs Go.Proofs.YtgeofmoojifkmaaGreat.Lw
set_option linter.unusedVariables false
set_option linter.unusedSimpArgs false
set_option maxRecDepth 100000
set_option maxHeartbeats 4000000
def actOf (ivs : List GInterval) (s : Int) : List Int := match ivs.findIdx? (fun x => x.First == s) with | some i => (match ivs[i]? with | some x => x.Acting | none => []) | none => []
def inBy (act : List Int) (l : List GNotice) : List GNotice := l.filter fun y => !(!act.any fun z => decide (y.From = z))
def inF (ivs : List GInterval) (s : Int) (l : List GNotice) : List GNotice := inBy (actOf ivs s) l
def verF (ivs : List GInterval) (k : Int) (l : List GNotice) : GVer × Int :=
  if henF ivs k (startedF l) (fromsF l) = false then (⟨0, 0⟩, 8) else if startedF l = 0 then (⟨0, 0⟩, 0)
  else if (whoF (inF ivs (startedF l) l) (startedF l)).length = (inF ivs (startedF l) l).length then (kthF (vsF (inF ivs (startedF l) l)) k, 0) else (kthF (vsF (whoF l (startedF l))) 1, 0)
theorem intervals_at {ivs : List GInterval} (h : intervalsF ivs = true) {x : GInterval} (hx : x ∈ ivs) : actingF x.Acting = true := by
  obtain ⟨k, hk⟩ := List.getElem?_of_mem hx
  have hkl : k < ivs.length := by
    rcases Nat.lt_or_ge k ivs.length with h' | h'
    · exact h'
    · rw [List.getElem?_eq_none h'] at hk; cases hk
  unfold intervalsF at h
  simp only [Bool.and_eq_true] at h
  have h1 := allR_get h.1 hkl
  rw [ivF_at hk (List.getElem?_eq_getElem (by omega : 0 < ivs.length))] at h1
  simp only [Bool.and_eq_true] at h1
  exact h1.1.2
theorem intervals_len {ivs : List GInterval} (h : intervalsF ivs = true) : ivs.length ≤ 60 := by
  unfold intervalsF at h
  simp only [Bool.and_eq_true, decide_eq_true_eq] at h
  exact h.2
theorem acting_le {a : List Int} (h : actingF a = true) : a.length ≤ 7 := by
  unfold actingF inR at h
  simp only [Bool.and_eq_true, decide_eq_true_eq] at h
  omega
theorem acting_at {a : List Int} (h : actingF a = true) {k : Nat} {n : Int} (hk : a[k]? = some n) : -1 ≤ n ∧ (0 ≤ n → ∀ j m, j < k → a[j]? = some m → n ≠ m) := by
  have hkl : k < a.length := by
    rcases Nat.lt_or_ge k a.length with h' | h'
    · exact h'
    · rw [List.getElem?_eq_none h'] at hk; cases hk
  unfold actingF at h
  simp only [Bool.and_eq_true] at h
  have h1 := allR_get h.1 hkl
  rw [actF_at hk] at h1
  simp only [inR, Bool.and_eq_true, decide_eq_true_eq, Bool.not_eq_true', Bool.and_eq_false_iff, decide_eq_false_iff_not, List.any_eq_false] at h1
  refine ⟨h1.1.1, fun h0 j m hj hm he => ?_⟩
  rcases h1.2 with h2 | h2
  · exact h2 h0
  · exact h2 m (List.mem_iff_getElem?.2 ⟨j, by rw [List.getElem?_take, if_pos hj]; exact hm⟩) he
theorem mem_remF {a : List Int} {n x : Int} : x ∈ remF a n ↔ x ∈ a ∧ x ≠ n := by
  unfold remF
  rw [List.mem_filter]
  simp
theorem mem_memF {a : List Int} {x : Int} : x ∈ memF a ↔ x ∈ a ∧ x ≠ -1 := by
  unfold memF srt
  rw [(List.mergeSort_perm _ _).mem_iff, mem_remF]
theorem nodup_memF {a : List Int} (h : actingF a = true) : (memF a).Nodup := by
  unfold memF srt
  refine (List.mergeSort_perm _ _).nodup_iff.2 ?_
  have hp : a.Pairwise fun x y => y ≠ -1 → x ≠ y := by
    rw [List.pairwise_iff_getElem]
    intro i j hi hj hij hne he
    have h1 := acting_at h (List.getElem?_eq_getElem hj)
    exact h1.2 (by omega) i _ hij (List.getElem?_eq_getElem hi) he.symm
  have hq : (remF a (-1)).Pairwise fun x y => y ≠ -1 → x ≠ y := hp.filter _
  refine List.Pairwise.imp_of_mem (fun {x y} hx hy hxy => hxy (mem_remF.1 hy).2) hq
theorem notices_lt {l : List GNotice} (h : noticesOkF l = true) {k : Nat} {x y : GNotice} (hx : l[k]? = some x) (hy : l[k + 1]? = some y) : x.From < y.From := by
  have hkl : k + 1 < l.length := by
    rcases Nat.lt_or_ge (k + 1) l.length with h' | h'
    · exact h'
    · rw [List.getElem?_eq_none h'] at hy; cases hy
  have h1 := allR_get h hkl
  rw [noticeF_at hy (y := x) (by rw [show k + 1 - 1 = k by omega]; exact hx) (List.getElem?_eq_getElem (by omega : 0 < l.length))] at h1
  simp only [Bool.and_eq_true, Bool.not_eq_true', Bool.and_eq_false_iff, decide_eq_false_iff_not] at h1
  have := h1.1.1.2
  omega
theorem notices_mono {l : List GNotice} (h : noticesOkF l = true) : ∀ (d k : Nat) (x y : GNotice), l[k]? = some x → l[k + d + 1]? = some y → x.From < y.From
  | 0, k, x, y, hx, hy => notices_lt h hx hy
  | d + 1, k, x, y, hx, hy => by
    have hkl : k + (d + 1) + 1 < l.length := by
      rcases Nat.lt_or_ge (k + (d + 1) + 1) l.length with h' | h'
      · exact h'
      · rw [List.getElem?_eq_none h'] at hy; cases hy
    have h1 := notices_mono h d k x (l[k + d + 1]'(by omega)) hx (List.getElem?_eq_getElem (by omega))
    have h2 := notices_lt h (k := k + d + 1) (List.getElem?_eq_getElem (by omega)) (by rw [show k + d + 1 + 1 = k + (d + 1) + 1 by omega]; exact hy)
    omega
theorem nodup_froms {l : List GNotice} (h : noticesOkF l = true) : (fromsF l).Nodup := by
  show (fromsF l).Pairwise _
  rw [List.pairwise_iff_getElem]
  intro i j hi hj hij
  have hi' : i < l.length := by rwa [fromsF_len] at hi
  have hj' : j < l.length := by rwa [fromsF_len] at hj
  have e1 : (fromsF l)[i] = l[i].From := by simp [fromsF]
  have e2 : (fromsF l)[j] = l[j].From := by simp [fromsF]
  rw [e1, e2]
  have := notices_mono h (j - i - 1) i l[i] l[j] (List.getElem?_eq_getElem hi') (by rw [show i + (j - i - 1) + 1 = j by omega]; exact List.getElem?_eq_getElem hj')
  omega
theorem froms_nonneg {l : List GNotice} (h : noticesOkF l = true) {x : Int} (hx : x ∈ fromsF l) : 0 ≤ x := by
  unfold fromsF at hx
  obtain ⟨y, hy, rfl⟩ := List.mem_map.1 hx
  obtain ⟨k, hk⟩ := List.getElem?_of_mem hy
  have hkl : k < l.length := by
    rcases Nat.lt_or_ge k l.length with h' | h'
    · exact h'
    · rw [List.getElem?_eq_none h'] at hk; cases hk
  have h1 := allR_get h hkl
  rw [noticeF_at hk (List.getElem?_eq_getElem (by omega : k - 1 < l.length)) (List.getElem?_eq_getElem (by omega : 0 < l.length))] at h1
  simp only [inR, Bool.and_eq_true, decide_eq_true_eq] at h1
  exact h1.1.1.1.1
theorem mem_heF {a h : List Int} {x : Int} : x ∈ heF a h ↔ x ∈ a ∧ x ≠ -1 ∧ x ∈ h := by
  unfold heF
  rw [List.mem_filter, mem_memF]
  simp only [Bool.not_not, List.any_eq_true, decide_eq_true_eq]
  constructor
  · rintro ⟨⟨h1, h2⟩, y, hy, rfl⟩; exact ⟨h1, h2, hy⟩
  · rintro ⟨h1, h2, h3⟩; exact ⟨⟨h1, h2⟩, x, h3, rfl⟩
theorem nodup_heF {a : List Int} (h : actingF a = true) (l : List Int) : (heF a l).Nodup := (nodup_memF h).filter _
theorem nodup_le : ∀ {a b : List Int}, a.Nodup → (∀ x ∈ a, x ∈ b) → a.length ≤ b.length
  | [], _, _, _ => Nat.zero_le _
  | x :: r, b, hn, hs => by
    rw [List.nodup_cons] at hn
    have hxb := hs x (List.mem_cons_self ..)
    have h1 := nodup_le (a := r) (b := b.erase x) hn.2 fun y hy => (List.mem_erase_of_ne (fun (he : y = x) => hn.1 (he ▸ hy))).2 (hs y (List.mem_cons_of_mem _ hy))
    have h2 := List.length_erase_of_mem hxb
    have h3 := List.length_pos_of_mem hxb
    simp only [List.length_cons]
    omega
/-- How many of the heard lie in an acting set, counted either way. -/
theorem heF_len {a : List Int} (h : actingF a = true) {l : List GNotice} (hl : noticesOkF l = true) : (heF a (fromsF l)).length = ((fromsF l).filter fun x => a.any fun z => decide (x = z)).length := by
  have h1 := nodup_heF h (fromsF l)
  have h2 := (nodup_froms hl).filter (fun x => a.any fun z => decide (x = z))
  have hm : ∀ x, x ∈ (fromsF l).filter (fun x => a.any fun z => decide (x = z)) ↔ x ∈ fromsF l ∧ x ∈ a := fun x => by
    rw [List.mem_filter]
    simp only [List.any_eq_true, decide_eq_true_eq]
    constructor
    · rintro ⟨h1, z, hz, rfl⟩; exact ⟨h1, hz⟩
    · rintro ⟨h1, h2⟩; exact ⟨h1, x, h2, rfl⟩
  refine Nat.le_antisymm ?_ ?_
  · exact nodup_le h1 (fun x hx => by obtain ⟨p, q, r⟩ := mem_heF.1 hx; exact (hm x).2 ⟨r, p⟩)
  · exact nodup_le h2 (fun x hx => by obtain ⟨p, q⟩ := (hm x).1 hx; exact mem_heF.2 ⟨q, by have := froms_nonneg hl p; omega, p⟩)
theorem in_len (a : List Int) (l : List GNotice) : (inBy a l).length = ((fromsF l).filter fun x => a.any fun z => decide (x = z)).length := by
  unfold inBy fromsF
  rw [List.filter_map, List.length_map]
  congr 1
  refine List.filter_congr fun x _ => ?_
  simp
theorem started_ge (l : List GNotice) : 0 ≤ startedF l ∧ (startedF l = 0 ∨ ∃ y ∈ l, y.State.Started = startedF l) := by
  unfold startedF
  suffices H : ∀ (l : List GNotice) (m : Int), 0 ≤ m → 0 ≤ l.foldl (fun m n => if n.State.Started > m then n.State.Started else m) m ∧ (l.foldl (fun m n => if n.State.Started > m then n.State.Started else m) m = m ∨ ∃ y ∈ l, y.State.Started = l.foldl (fun m n => if n.State.Started > m then n.State.Started else m) m) by
    obtain ⟨h1, h2⟩ := H l 0 (by omega)
    exact ⟨h1, h2⟩
  intro l
  induction l with
  | nil => intro m hm; exact ⟨hm, .inl rfl⟩
  | cons a r ih =>
    intro m hm
    simp only [List.foldl_cons]
    by_cases hq : a.State.Started > m
    · rw [if_pos hq]
      obtain ⟨h1, h2⟩ := ih a.State.Started (by omega)
      refine ⟨h1, ?_⟩
      rcases h2 with h2 | ⟨y, hy, h3⟩
      · exact .inr ⟨a, List.mem_cons_self .., h2.symm⟩
      · exact .inr ⟨y, List.mem_cons_of_mem _ hy, h3⟩
    · rw [if_neg hq]
      obtain ⟨h1, h2⟩ := ih m hm
      refine ⟨h1, ?_⟩
      rcases h2 with h2 | ⟨y, hy, h3⟩
      · exact .inl h2
      · exact .inr ⟨y, List.mem_cons_of_mem _ hy, h3⟩
theorem who_pos {l : List GNotice} (h : startedF l ≠ 0) : 1 ≤ (whoF l (startedF l)).length := by
  obtain ⟨_, h2⟩ := started_ge l
  rcases h2 with h2 | ⟨y, hy, h3⟩
  · exact absurd h2 h
  · exact List.length_pos_of_mem (a := y) (List.mem_filter.2 ⟨hy, by rw [h3]; simp⟩)
theorem hasFirst_at {ivs : List GInterval} {s : Int} (h : hasFirst ivs s = true) : ∃ (i : Nat) (x : GInterval), ixD (fun x : GInterval => x.First == s) ivs = (i : Int) ∧ i < ivs.length ∧ ivs[i]? = some x ∧ x.First = s ∧ actOf ivs s = x.Acting := by
  unfold hasFirst at h
  cases hf : ivs.findIdx? (fun x => x.First == s) with
  | none =>
    rw [List.findIdx?_eq_none_iff] at hf
    rw [List.any_eq_true] at h
    obtain ⟨x, hx, hp⟩ := h
    rw [hf x hx] at hp
    cases hp
  | some i =>
    obtain ⟨hi, h1, h2⟩ := List.findIdx?_eq_some_iff_getElem.1 hf
    refine ⟨i, ivs[i], by unfold ixD; rw [hf], hi, List.getElem?_eq_getElem hi, by simpa using h1, ?_⟩
    unfold actOf
    rw [hf]
    simp only
    rw [List.getElem?_eq_getElem hi]
theorem hen_pre {ivs : List GInterval} {k s : Int} {l : List GNotice} (hi : intervalsF ivs = true) (hl : noticesOkF l = true) (hs : s > 0) (h : henF ivs k s (fromsF l) = true) : hasFirst ivs s = true ∧ k ≤ (inF ivs s l).length := by
  unfold henF at h
  rw [decide_eq_true hs, Bool.true_and] at h
  cases hf : hasFirst ivs s with
  | false => rw [hf] at h; simp at h
  | true =>
    rw [hf] at h
    simp only [Bool.not_true, Bool.false_eq_true, if_false, Bool.not_eq_true', List.any_eq_false] at h
    obtain ⟨i, x, _, hil, hx, hxs, ha⟩ := hasFirst_at hf
    have hxm := List.mem_of_getElem? hx
    have h1 := h x hxm
    have hn : needF x s = true := by unfold needF; simp [hxs]
    unfold hBad at h1
    rw [hn, Bool.true_and] at h1
    simp only [decide_eq_true_eq] at h1
    refine ⟨rfl, ?_⟩
    unfold inF
    rw [ha, in_len, ← heF_len (intervals_at hi hxm) hl]
    omega
end Go.Proofs.YtgeofmoojifkmaaGreat.Hlp
namespace Go.Proofs.YtgeofmoojifkmaaGreat.Hlp
open Go Go.RowKit Go.Proofs Go.Proofs.YtgeofmoojifkmaaGreat.Lw
set_option linter.unusedVariables false
set_option linter.unusedSimpArgs false
set_option maxRecDepth 100000
set_option maxHeartbeats 4000000
theorem RowN.base {M0 M1 N : Mem} {z n cap : Nat} {A : Option Addr} {ds : List Value} (h : RowN M1 N z A n cap ds) (hl : Le M0 M1) : RowN M0 N z A n cap ds := by
  rcases h with h | ⟨ad, h1, h2, h3⟩
  · exact .inl h
  · exact .inr ⟨ad, h1, h2, fun a u hu => h3 a u (hl a u hu)⟩
/-- Memory but for one row. -/
def butRow (N : Mem) (A : Option Addr) : Mem := fun b => match A with | some ad => if b.block = ad.block then none else N b | none => N b
theorem butRow_le (N : Mem) (A : Option Addr) : Le (butRow N A) N := fun b u hu => by
  unfold butRow at hu
  cases A with
  | none => exact hu
  | some ad =>
    simp only at hu
    split at hu
    · cases hu
    · exact hu
theorem butRow_ne {N : Mem} {ad b : Addr} {u : Value} (h : butRow N (some ad) b = some u) : b.block ≠ ad.block := by
  unfold butRow at h
  simp only at h
  split at h
  · cases h
  · assumption
theorem butRow_of {N : Mem} {A : Option Addr} {b : Addr} {u : Value} (h : N b = some u) (hn : ∀ ad, A = some ad → b.block ≠ ad.block) : butRow N A b = some u := by
  unfold butRow
  cases A with
  | none => exact h
  | some ad =>
    simp only
    rw [if_neg (hn ad rfl)]
    exact h
theorem verOf1_r (M : Mem) (y : GInterval) (cs : List Value) (h : RInterval M y cs) (s : Int) (av : Addr) (hv : M (av.add 0) = some (.int .i64 s)) : AnsR Tryz.prog M 57 #[.agg cs.toArray, .pointer (some av)] (fun _ v => v = .bool (y.First == s)) := by
  obtain ⟨A0, c0, rfl, _, s0⟩ := h
  refine ansRC_of T (l := [.agg (List.toArray _), .pointer (some av)]) mixed Tryz.func57 rfl (by kernel_rfl) (Nat.le_of_ble_eq_true rfl) ?_
  repeat' ((conv => whnf); first | refine LdK.mk _ (by assumption) ?_ | fail)
  exact RetK.mk fun _ _ _ _ => rfl
theorem verOf2_r (M : Mem) (ivs : List GInterval) (A : Option Addr) (c : Nat) (h : SlR M RInterval 4 48 A c ivs) (i : Nat) (x : GInterval) (hx : ivs[i]? = some x) (y : GNotice) (cs : List Value) (hy : RNotice M y cs) (a b : Addr) (ha : M (a.add 0) = some (.slice A ivs.length c)) (hb : M (b.add 0) = some (.int .i64 (i : Int))) : AnsR Tryz.prog M 60 #[.agg cs.toArray, .pointer (some a), .pointer (some b)] (fun _ v => v = .bool (!x.Acting.any fun z => decide (y.From = z))) := by
  obtain ⟨A0, c0, A1, c1, A2, c2, A3, c3, rfl, _, s0, s1, s2, s3⟩ := hy
  have hil : i < ivs.length := by
    rcases Nat.lt_or_ge i ivs.length with h' | h'
    · exact h'
    · rw [List.getElem?_eq_none h'] at hx; cases hx
  obtain ⟨ad, rfl, B0, d0, _, t0, x0, x1, x2, x3⟩ := at_Interval h hx
  have hct := containsInt_a M x.Acting B0 d0 t0 y.From
  refine ansRC_of T (l := [.agg (List.toArray _), .pointer (some a), .pointer (some b)]) mixed Tryz.func60 rfl (by kernel_rfl) (Nat.le_of_ble_eq_true rfl) ?_
  repeat' ((conv => whnf); first | refine DrawN.q (by kernel_rfl) ?_ | refine IdxK.mk _ rfl (by omega) (by omega) ?_ | refine LdK.mk _ (by assumption) ?_ | refine CallK.mk _ hct ?_ | refine CallQ.mk _ hct ?_ | fail)
  exact RetK.mk fun _ _ _ _ => rfl
theorem verOf_r (M : Mem) (ivs : List GInterval) (A : Option Addr) (c : Nat) (h : SlR M RInterval 4 48 A c ivs) (hiv : intervalsF ivs = true) (cd : GCode) (hk : 1 ≤ cd.K) (l : List GNotice) (B : Option Addr) (dc : Nat) (hl : SlR M RNotice 13 168 B dc l) (hno : noticesOkF l = true) : AnsR Tryz.prog M 31 #[.slice A ivs.length c, .agg #[.int .i64 cd.K, .int .i64 cd.M], .slice B l.length dc] (fun _ v => v = .tuple #[.agg #[.int .i64 (verF ivs cd.K l).1.Epoch, .int .i64 (verF ivs cd.K l).1.Seq], .int .i64 (verF ivs cd.K l).2]) := by
  have hln := notices_len hno
  have hac : ∀ y ∈ ivs, y.Acting.length ≤ 1000 := fun y hy => by have := acting_le (intervals_at hiv hy); omega
  have hst := startedOf_a M l B dc hl
  have hnd := nodesOf_f M l B dc hl hln
  have hsg := started_ge l
  have hwp := who_pos (l := l)
  refine ansR_of (T.at M) (l := [.slice A ivs.length c, .agg #[.int .i64 cd.K, .int .i64 cd.M], .slice B l.length dc]) mixed Tryz.func31 rfl (by kernel_rfl) (Nat.le_of_ble_eq_true rfl) ?_ (fun _ ad u h1 h2 => by rw [show M ad = none from h1] at h2; cases h2)
  unfold verF
  generalize hs : startedF l = s at hst hsg hwp ⊢
  (conv => whnf)
  refine CallK.mk _ hst ?_
  (conv => whnf)
  have hz := Le.refl M
  refine DrawN.h {N : Mem // Le M N} (fun _ => [(2, .v (.slice B l.length dc)), (3, .p 0 0), (4, .p 1 0), (6, .p 2 0), (8, .p 3 0), (20, .v (.bool (!henF ivs cd.K s (fromsF l))))]) (fun _ => [(3, [.int .i64 s]), (2, [.int .i64 0, .int .i64 0]), (1, [.int .i64 cd.K, .int .i64 cd.M]), (0, [.slice A ivs.length c])]) 9 (fun N => N.1) (by kernel_rfl) ?_ ?_
  · repeat' ((conv => whnf); first | refine AndK.mk ?_ ?_ | refine HeldK.mk (by kernel_rfl) ?_ | (refine CallK.mr _ hnd (fun v N4 hl4 hv => ?_); obtain ⟨A4, c4, rfl, r4⟩ := hv; replace hz := hl4) | (refine CallK.mr _ (heardEnough_r _ ivs A c (h.mono hz (RInterval.mono hz)) hac cd.K s (fromsF l) A4 c4 r4) (fun v N5 hl5 hv => ?_); subst hv; replace hz := hz.trans hl5) | fail)
    all_goals exact ⟨⟨_, hz⟩, ⟨⟨rfl, rfl, rfl, rfl, rfl, rfl, trivial⟩, ⟨rfl, rfl, rfl, rfl, trivial⟩, rfl, rfl⟩, rfl⟩
  clear hz
  rintro ⟨N1, hl1⟩
  cases q1 : henF ivs cd.K s (fromsF l) with
  | false =>
    rw [if_pos rfl]
    repeat' ((conv => whnf); first | with_reducible refine CondK.tt ?_ | with_reducible refine CondK.ff ?_ | fail)
    exact RetK.mk fun _ _ _ _ => rfl
  | true =>
    rw [if_neg (by decide)]
    by_cases hs0 : s = 0
    · rw [if_pos hs0]
      repeat' ((conv => whnf); first | with_reducible refine CondK.tt ?_ | with_reducible refine CondK.ff ?_ | refine CondK.yes' (by simp [hs0]) ?_ | fail)
      exact RetK.mk fun _ _ _ _ => rfl
    rw [if_neg hs0]
    have hsp : s > 0 := by have := hsg.1; omega
    obtain ⟨hf1, hkin⟩ := hen_pre hiv hno hsp q1
    obtain ⟨i, x, hix, hil, hxi, hxs, hact⟩ := hasFirst_at hf1
    have hin : inF ivs s l = inBy x.Acting l := by unfold inF; rw [hact]
    rw [hin] at hkin ⊢
    have hinl : (inBy x.Acting l).length ≤ 16 := Nat.le_trans (List.length_filter_le _ _) hln
    repeat' ((conv => whnf); first | with_reducible refine CondK.tt ?_ | with_reducible refine CondK.ff ?_ | refine CondK.no' (by simp [hs0]) ?_ | fail)
    refine PubK.fr fun sv N2 hl2 hc2 hroom2 hfresh2 hdom2 => ?_
    (conv => whnf)
    have e2 := hl1.trans hl2
    have hixc := ixIntervalB_ri1 N2 ivs A c (h.mono e2 (RInterval.mono e2)) 57 sv (fun x => x.First == s) (fun M1 => M1 (sv.add 0) = some (.int .i64 s)) (hc2 0 _ rfl) (fun M1 M2 h hle => hle _ _ h) (fun M1 h x hx cs hR => verOf1_r M1 x cs hR s sv h)
    refine CallK.mr _ hixc (fun v N3 hl3 hv => ?_)
    subst hv
    rw [hix]
    (conv => whnf)
    have e3 := e2.trans hl3
    refine CallK.mr _ (cloneNotice_f N3 l B dc (hl.mono e3 (RNotice.mono e3)) (by omega)) (fun v N4 hl4 hv => ?_)
    obtain ⟨A1, c1, ds, rfl, hr, hn1⟩ := hv
    (conv => whnf)
    refine PubK.fr fun av N5 hl5 hc5 hroom5 hfresh5 hdom5 => ?_
    (conv => whnf)
    refine PubK.fr fun bv N6 hl6 hc6 hroom6 hfresh6 hdom6 => ?_
    (conv => whnf)
    have hap : ∀ ad, A1 = some ad → (∀ a u, N3 a = some u → a.block ≠ ad.block) ∧ (0 < l.length → ∃ w, N4 (ad.add 0) = some w) := fun ad had => by
      rcases hn1 with ⟨h5, _⟩ | ⟨ad1, h5, hrc, hf1⟩
      · rw [had] at h5; cases h5
      · rw [had] at h5
        cases h5
        exact ⟨hf1, fun hp => hrc.room 0 (by have := hrc.le; omega)⟩
    have hlp : 0 < l.length := by
      rcases Nat.eq_zero_or_pos l.length with h0 | h0
      · have : l = [] := List.eq_nil_of_length_eq_zero h0
        subst this
        rcases hsg.2 with h' | ⟨y, hy, _⟩
        · exact absurd h' hs0
        · cases hy
      · exact h0
    have h36 : Le N3 (butRow N6 A1) := fun a u hu => butRow_of (hl6 _ _ (hl5 _ _ (hl4 _ _ hu))) fun ad had => (hap ad had).1 a u hu
    have hav : butRow N6 A1 (av.add 0) = some (.slice A ivs.length c) := butRow_of (hl6 _ _ (hc5 0 _ rfl)) fun ad had => by
      obtain ⟨w, hw⟩ := (hap ad had).2 hlp
      have := hfresh5 _ w hw
      rw [add_block] at this ⊢
      exact this.symm
    have hbv : butRow N6 A1 (bv.add 0) = some (.int .i64 (i : Int)) := butRow_of (hc6 0 _ rfl) fun ad had => by
      obtain ⟨w, hw⟩ := (hap ad had).2 hlp
      have := hfresh6 _ w (hl5 _ _ hw)
      rw [add_block] at this ⊢
      exact this.symm
    refine delNoticeB_k2 rfl (((hn1.base e3).mono hl5).mono hl6) (by omega) (e3.trans (hl4.trans (hl5.trans hl6))) _ av bv (fun y => !x.Acting.any fun z => decide (y.From = z)) (butRow N6 A1) (butRow_le _ _) (fun a u ad had hpos hu => butRow_ne (by rw [← had]; exact hu)) (hr.mono (fun x cs h => RNotice.mono h36 _ _ h)) (fun M1' hM1 y _ cs hR => verOf2_r M1' ivs A c (h.mono ((e3.trans h36).trans hM1) (RInterval.mono ((e3.trans h36).trans hM1))) i x hxi y cs hR av bv (hM1 _ _ hav) (hM1 _ _ hbv)) (fun N7 ds' hN7 hrow' hr' hlc => ?_)
    (conv => whnf)
    have hs7 : N7 (sv.add 0) = some (.int .i64 s) := hlc _ _ (h36 _ _ (hl3 _ _ (hc2 0 _ rfl)))
    have hsl : SlR N7 RNotice 13 168 A1 c1 (inBy x.Acting l) := hrow'.sl hr' (fun _ _ h => h) (Nat.le_trans hinl (by decide))
    refine LdK.mk _ hs7 ?_
    (conv => whnf)
    refine CallK.mr _ (whoHas_f N7 (inBy x.Acting l) A1 c1 hsl hinl s) (fun v N8 hl8 hv => ?_)
    obtain ⟨A8, c8, rfl, r8⟩ := hv
    (conv => whnf)
    by_cases hq : (whoF (inBy x.Acting l) s).length = (inBy x.Acting l).length
    · rw [if_pos hq]
      refine CondK.yes' (by show (_ == _) = true; rw [beq_iff_eq]; exact congrArg Int.ofNat hq) ?_
      (conv => whnf)
      refine CallK.mr _ (kthLast_a N8 (inBy x.Acting l) A1 c1 (hsl.mono hl8 (RNotice.mono hl8)) hinl cd.K hk hkin) (fun v N9 hl9 hv => ?_)
      subst hv
      (conv => whnf)
      exact RetK.mk fun _ _ _ _ => rfl
    · rw [if_neg hq]
      refine CondK.no' (by show (_ == _) = false; rw [beq_eq_false_iff_ne]; exact fun he => hq (Int.ofNat.inj he)) ?_
      (conv => whnf)
      refine LdK.mk _ (hl8 _ _ hs7) ?_
      (conv => whnf)
      have e8 := hN7.trans hl8
      refine CallK.mr _ (whoHas_f N8 l B dc (hl.mono e8 (RNotice.mono e8)) hln s) (fun v N9 hl9 hv => ?_)
      obtain ⟨A9, c9, rfl, r9⟩ := hv
      (conv => whnf)
      have hwl : (whoF l s).length ≤ 16 := Nat.le_trans (List.length_filter_le _ _) hln
      refine CallK.mr _ (kthLast_a N9 (whoF l s) A9 c9 r9 hwl 1 (by omega) (by have := hwp hs0; omega)) (fun v N10 hl10 hv => ?_)
      subst hv
      (conv => whnf)
      exact RetK.mk fun _ _ _ _ => rfl
end Go.Proofs.YtgeofmoojifkmaaGreat.Hlp
namespace Go.Proofs.YtgeofmoojifkmaaGreat.Hlp
open Go Go.RowKit Go.Proofs Go.Proofs.YtgeofmoojifkmaaGreat.Lw
set_option linter.unusedVariables false
set_option linter.unusedSimpArgs false
set_option maxRecDepth 100000
set_option maxHeartbeats 4000000
theorem fil_step {α : Type} {p : α → Bool} {l : List α} {k : Nat} {x : α} (hx : l[k]? = some x) : (l.take (k + 1)).filter p = (l.take k).filter p ++ (if p x = true then [x] else []) := by
  rw [List.take_add_one, hx, List.filter_append]
  congr 1
  cases h : p x <;> simp [h]
theorem fil_all {α : Type} {p : α → Bool} {l : List α} : (l.take l.length).filter p = l.filter p := by rw [List.take_length]
theorem fil_le {α : Type} (p : α → Bool) (l : List α) (k : Nat) : ((l.take k).filter p).length ≤ k := Nat.le_trans (List.length_filter_le _ _) (by rw [List.length_take]; omega)
theorem l13At_a (M : Mem) (l : List GInterval) (A : Option Addr) (c : Nat) (h : SlR M RInterval 4 48 A c l) (s : Int) : Ans Tryz.prog M 68 #[.slice A l.length c, .int .i64 s] (.int .i64 (ixD (fun x : GInterval => x.First == s) l)) := by
  have hl := h.len
  refine ans_of T (l := [.slice A l.length c, .int .i64 s]) mixed Tryz.func68 rfl (by kernel_rfl) (Nat.le_of_ble_eq_true rfl) ?_
  (conv => whnf)
  refine LoopK.mk {k : Nat // k ≤ l.length ∧ ∀ (j : Nat) (hj : j < l.length), j < k → ((l[j]'hj).First == s) = false} (fun ⟨k, _⟩ => [(0, .v (.slice A l.length c)), (1, .v (.int .i64 s)), (5, .v (.int .i64 (k : Int)))]) (fun _ => []) (fun _ => M) (fun k => l.length - k.1) ⟨0, Nat.zero_le _, fun j hj h => absurd h (by omega)⟩ ⟨⟨⟨rfl, rfl, rfl, trivial⟩, trivial, rfl, rfl⟩, rfl⟩ ?_
  rintro ⟨k, hk, hp⟩
  (conv => whnf)
  refine CondK.mk (fun h1 => ?_) (fun h1 => ?_)
  · have hlt : k < l.length := by simpa using h1
    obtain ⟨ad, rfl, A0, c0, _, s0, x0, x1, x2, x3⟩ := at_Interval h (List.getElem?_eq_getElem hlt)
    repeat' ((conv => whnf); first | refine IdxK.mk _ rfl (by omega) (by omega) ?_ | refine LdK.mk _ (by assumption) ?_ | refine CondK.mk (fun hc => ?_) (fun hc => ?_) | fail)
    · exact ret_int (ixD_at (p := fun x : GInterval => x.First == s) hlt hc hp).symm
    · exact ⟨⟨k + 1, hlt, fun j hj hj' => by rcases Nat.lt_succ_iff_lt_or_eq.mp hj' with hj' | rfl; exact hp j hj hj'; exact hc⟩, ⟨⟨rfl, rfl, look_int (i64_succ (by omega)), trivial⟩, trivial, rfl, rfl⟩, rfl, by simp; omega⟩
  · have he : k = l.length := by have : ¬ k < l.length := by simpa using h1
                                 omega
    subst he
    (conv => whnf)
    exact ret_int (ixD_none (p := fun x : GInterval => x.First == s) fun j hj => hp j hj hj).symm
def plF (l : List Int) (n : Int) : Int := ixD (fun z => z == n) l
theorem l12Place_a (M : Mem) (l : List Int) (A : Option Addr) (c : Nat) (h : SlR M RInt 1 8 A c l) (n : Int) (hn : 0 ≤ n) : Ans Tryz.prog M 49 #[.slice A l.length c, .int .i64 n] (.int .i64 (plF l n)) := by
  have hl := h.len
  refine ans_of T (l := [.slice A l.length c, .int .i64 n]) mixed Tryz.func49 rfl (by kernel_rfl) (Nat.le_of_ble_eq_true rfl) ?_
  have hnd : decide (n ≥ 0) = true := decide_eq_true hn
  (conv => whnf)
  refine LoopK.mk {k : Nat // k ≤ l.length ∧ ∀ (j : Nat) (hj : j < l.length), j < k → ((l[j]'hj) == n) = false} (fun ⟨k, _⟩ => [(0, .v (.slice A l.length c)), (1, .v (.int .i64 n)), (5, .v (.int .i64 (k : Int)))]) (fun _ => []) (fun _ => M) (fun k => l.length - k.1) ⟨0, Nat.zero_le _, fun j hj h => absurd h (by omega)⟩ ⟨⟨⟨rfl, rfl, rfl, trivial⟩, trivial, rfl, rfl⟩, rfl⟩ ?_
  rintro ⟨k, hk, hp⟩
  (conv => whnf)
  refine CondK.mk (fun h1 => ?_) (fun h1 => ?_)
  · have hlt : k < l.length := by simpa using h1
    obtain ⟨ad, rfl, _, x0⟩ := at_Int h (List.getElem?_eq_getElem hlt)
    (conv => whnf)
    rw [hnd]
    repeat' ((conv => whnf); first | with_reducible refine CondK.tt ?_ | refine IdxK.mk _ rfl (by omega) (by omega) ?_ | refine LdK.mk _ (by assumption) ?_ | refine CondK.mk (fun hc => ?_) (fun hc => ?_) | fail)
    · exact ret_int (ixD_at (p := fun z : Int => z == n) hlt hc hp).symm
    · exact ⟨⟨k + 1, hlt, fun j hj hj' => by rcases Nat.lt_succ_iff_lt_or_eq.mp hj' with hj' | rfl; exact hp j hj hj'; exact hc⟩, ⟨⟨rfl, rfl, look_int (i64_succ (by omega)), trivial⟩, trivial, rfl, rfl⟩, rfl, by simp; omega⟩
  · have he : k = l.length := by have : ¬ k < l.length := by simpa using h1
                                 omega
    subst he
    (conv => whnf)
    exact ret_int (ixD_none (p := fun z : Int => z == n) fun j hj => hp j hj hj).symm
theorem plF_any (l : List Int) (n : Int) : decide (plF l n ≥ 0) = l.any fun z => decide (n = z) := by
  unfold plF
  rw [ixD_any]
  congr 1
  funext z
  rw [Bool.eq_iff_iff]
  simp only [beq_iff_eq, decide_eq_true_eq]
  exact ⟨Eq.symm, Eq.symm⟩
theorem l22Has_f (M : Mem) (l : List GNotice) (A : Option Addr) (c : Nat) (h : SlR M RNotice 13 168 A c l) (hn : l.length ≤ 16) (s : Int) : AnsR Tryz.prog M 69 #[.slice A l.length c, .int .i64 s] (fun M' v => ∃ A' c', v = .slice A' (l.filter (fun y : GNotice => !(y.State.Started != s))).length c' ∧ SlR M' RNotice 13 168 A' c' (l.filter (fun y : GNotice => !(y.State.Started != s)))) := by
  refine ansR_of T (l := [.slice A l.length c, .int .i64 s]) mixed Tryz.func69 rfl (by kernel_rfl) (Nat.le_of_ble_eq_true rfl) ?_
  (conv => whnf)
  refine LoopK.sw 0 1 {q : Nat × Nat × List Value // q.1 ≤ l.length ∧ ((l.take q.1).filter (fun y : GNotice => !(y.State.Started != s))).length ≤ q.2.1 ∧ RowR M RNotice 13 ((l.take q.1).filter (fun y : GNotice => !(y.State.Started != s))) q.2.2} (fun ⟨(k, cap, ds), _⟩ => [(0, .v (.slice A l.length c)), (1, .v (.int .i64 s)), (5, .s 0 (((l.take k).filter (fun y : GNotice => !(y.State.Started != s)))).length cap 13), (6, .v (.int .i64 (k : Int)))]) (fun ⟨(k, cap, ds), _⟩ => [(0, ds)]) (fun _ => M) (fun q => l.length - q.1.1) ⟨(0, 0, []), Nat.zero_le _, Nat.le_refl _, RowR.nil⟩ 0 ⟨⟨⟨rfl, rfl, rfl, rfl, trivial⟩, ⟨rfl, trivial⟩, rfl, rfl⟩, rfl⟩ ?_
  rintro ⟨⟨k, cap, ds⟩, hk, hcap, hr2⟩
  simp only at hk hcap hr2
  have hle := fil_le (fun y : GNotice => !(y.State.Started != s)) l k
  (conv => whnf)
  refine CondK.mk (fun h5 => ?_) (fun h5 => ?_)
  · have hlt : k < l.length := by simpa using h5
    obtain ⟨y, hyk⟩ : ∃ y, l[k] = y := ⟨_, rfl⟩
    have hy : l[k]? = some y := by rw [List.getElem?_eq_getElem hlt, hyk]
    have hst := fil_step (p := (fun y : GNotice => !(y.State.Started != s))) hy
    obtain ⟨ad, rfl, A0, c0, A1, c1, A2, c2, A3, c3, bny, ⟨s0, s1, s2, s3⟩, y0, y1, y2, y3, y4, y5, y6, y7, y8, y9, y10, y11, y12⟩ := at_Notice h hy
    have hcc : (y.State.Started == s) = !(y.State.Started != s) := by rw [bne]; simp
    cases hc : !(y.State.Started != s) with
    | false =>
      rw [hc, if_neg (by decide), List.append_nil] at hst
      repeat' ((conv => whnf); first | with_reducible refine CondK.tt ?_ | with_reducible refine CondK.ff ?_ | refine DrawN.q (by kernel_rfl) ?_ | refine IdxK.mk _ rfl (by omega) (by omega) ?_ | refine LdK.mk _ (by assumption) ?_ | rw [hcc, hc] | refine CondK.no' hc' ?_ | fail)
      exact ⟨⟨(k + 1, cap, ds), hlt, by simp only; rw [hst]; exact hcap, by simp only; rw [hst]; exact hr2⟩, 0, ⟨⟨rfl, rfl, congrArg (fun t : List GNotice => some (PV.s 0 t.length cap 13)) hst.symm, look_int (i64_succ (by omega)), trivial⟩, ⟨rfl, trivial⟩, rfl, rfl⟩, rfl, by simp only; omega⟩
    | true =>
      rw [hc, if_pos rfl] at hst
      repeat' ((conv => whnf); first | with_reducible refine CondK.tt ?_ | with_reducible refine CondK.ff ?_ | refine DrawN.q (by kernel_rfl) ?_ | refine IdxK.mk _ rfl (by omega) (by omega) ?_ | refine LdK.mk _ (by assumption) ?_ | rw [hcc, hc] | refine CondK.yes' hc' ?_ | refine AppK.mk (by show (2 * _ + 512) * 168 ≤ 281474976710656; omega) (by omega) (.inr rfl) (by first | exact hr2.all | rfl) (fun cap3 hcap3 => ?_) | fail)
      refine ⟨⟨(k + 1, cap3, ds ++ [.int .i64 y.From, .int .i64 y.State.Pg.Pool, .int .i64 y.State.Pg.No, .int .i64 y.State.Seen, .int .i64 y.State.Started, .int .i64 y.State.Tail.Epoch, .int .i64 y.State.Tail.Seq, .slice A0 y.State.Base.length c0, .slice A1 y.State.Clients.length c1, .slice A2 y.State.Log.length c2, .int .i64 y.State.Firm.Epoch, .int .i64 y.State.Firm.Seq, .slice A3 y.State.Chunks.length c3]), hlt, ?_, ?_⟩, 2, ⟨⟨rfl, rfl, congrArg (fun t => some (PV.s 2 t cap3 13)) ?_, look_int (i64_succ (by omega)), trivial⟩, ⟨rfl, trivial⟩, rfl, rfl⟩, rfl, by simp only; omega⟩
      · simp only
        rw [hst, List.length_append]
        exact hcap3
      · simp only
        rw [hst]
        exact hr2.app (RowR.one (x := y) ⟨_, _, _, _, _, _, _, _, rfl, trivial, s0, s1, s2, s3⟩ rfl rfl)
      · rw [hst]
        simp only [List.length_append, List.length_singleton]
  · have he : k = l.length := by
      have : ¬ k < l.length := by simpa using h5
      omega
    subst he
    have ef := fil_all (p := (fun y : GNotice => !(y.State.Started != s))) (l := l)
    exact RetK.mk fun g M' hl' hg => ⟨_, _, congrArg (fun t : List GNotice => Value.slice _ t.length _) ef, row_out hr2 ef.symm (fun x cs h => RNotice.mono hl' _ _ h) (hg 0 _ rfl) (by rw [← ef]; exact hcap) (by rw [← ef]; omega)⟩
theorem l22In_f (M : Mem) (l : List GNotice) (A : Option Addr) (c : Nat) (h : SlR M RNotice 13 168 A c l) (hn : l.length ≤ 16) (hp : ∀ y ∈ l, 0 ≤ y.From) (x : GInterval) (cx : List Value) (hx : RInterval M x cx) : AnsR Tryz.prog M 67 #[.slice A l.length c, .agg cx.toArray] (fun M' v => ∃ A' c', v = .slice A' (l.filter (fun y : GNotice => !(!x.Acting.any fun z => decide (y.From = z)))).length c' ∧ SlR M' RNotice 13 168 A' c' (l.filter (fun y : GNotice => !(!x.Acting.any fun z => decide (y.From = z))))) := by
  obtain ⟨X0, e0, rfl, _, t0⟩ := hx
  refine ansR_of T (l := [.slice A l.length c, .agg (List.toArray _)]) mixed Tryz.func67 rfl (by kernel_rfl) (Nat.le_of_ble_eq_true rfl) ?_
  (conv => whnf)
  refine LoopK.sw 1 2 {q : Nat × Nat × List Value // q.1 ≤ l.length ∧ ((l.take q.1).filter (fun y : GNotice => !(!x.Acting.any fun z => decide (y.From = z)))).length ≤ q.2.1 ∧ RowR M RNotice 13 ((l.take q.1).filter (fun y : GNotice => !(!x.Acting.any fun z => decide (y.From = z)))) q.2.2} (fun ⟨(k, cap, ds), _⟩ => [(0, .v (.slice A l.length c)), (3, .p 0 0), (5, .s 1 (((l.take k).filter (fun y : GNotice => !(!x.Acting.any fun z => decide (y.From = z))))).length cap 13), (6, .v (.int .i64 (k : Int)))]) (fun ⟨(k, cap, ds), _⟩ => [(1, ds), (0, [.int .i64 x.First, .int .i64 x.Last, .slice X0 x.Acting.length e0, .bool x.May])]) (fun _ => M) (fun q => l.length - q.1.1) ⟨(0, 0, []), Nat.zero_le _, Nat.le_refl _, RowR.nil⟩ 1 ⟨⟨⟨rfl, rfl, rfl, rfl, trivial⟩, ⟨rfl, rfl, trivial⟩, rfl, rfl⟩, rfl⟩ ?_
  rintro ⟨⟨k, cap, ds⟩, hk, hcap, hr2⟩
  simp only at hk hcap hr2
  have hle := fil_le (fun y : GNotice => !(!x.Acting.any fun z => decide (y.From = z))) l k
  (conv => whnf)
  refine CondK.mk (fun h5 => ?_) (fun h5 => ?_)
  · have hlt : k < l.length := by simpa using h5
    obtain ⟨y, hyk⟩ : ∃ y, l[k] = y := ⟨_, rfl⟩
    have hy : l[k]? = some y := by rw [List.getElem?_eq_getElem hlt, hyk]
    have hst := fil_step (p := (fun y : GNotice => !(!x.Acting.any fun z => decide (y.From = z)))) hy
    obtain ⟨ad, rfl, A0, c0, A1, c1, A2, c2, A3, c3, bny, ⟨s0, s1, s2, s3⟩, y0, y1, y2, y3, y4, y5, y6, y7, y8, y9, y10, y11, y12⟩ := at_Notice h hy
    have hpl := l12Place_a M x.Acting X0 e0 t0 y.From (hp y (List.mem_of_getElem? hy))
    have hcc : decide (plF x.Acting y.From ≥ 0) = !(!x.Acting.any fun z => decide (y.From = z)) := by rw [plF_any, Bool.not_not]
    cases hc : !(!x.Acting.any fun z => decide (y.From = z)) with
    | false =>
      rw [hc, if_neg (by decide), List.append_nil] at hst
      repeat' ((conv => whnf); first | with_reducible refine CondK.tt ?_ | with_reducible refine CondK.ff ?_ | refine DrawN.q (by kernel_rfl) ?_ | refine IdxK.mk _ rfl (by omega) (by omega) ?_ | refine LdK.mk _ (by assumption) ?_ | refine CallK.mk _ hpl ?_ | refine CallQ.mk _ hpl ?_ | rw [hcc, hc] | refine CondK.no' hc' ?_ | fail)
      exact ⟨⟨(k + 1, cap, ds), hlt, by simp only; rw [hst]; exact hcap, by simp only; rw [hst]; exact hr2⟩, 1, ⟨⟨rfl, rfl, congrArg (fun t : List GNotice => some (PV.s 1 t.length cap 13)) hst.symm, look_int (i64_succ (by omega)), trivial⟩, ⟨rfl, rfl, trivial⟩, rfl, rfl⟩, rfl, by simp only; omega⟩
    | true =>
      rw [hc, if_pos rfl] at hst
      repeat' ((conv => whnf); first | with_reducible refine CondK.tt ?_ | with_reducible refine CondK.ff ?_ | refine DrawN.q (by kernel_rfl) ?_ | refine IdxK.mk _ rfl (by omega) (by omega) ?_ | refine LdK.mk _ (by assumption) ?_ | refine CallK.mk _ hpl ?_ | refine CallQ.mk _ hpl ?_ | rw [hcc, hc] | refine CondK.yes' hc' ?_ | refine AppK.mk (by show (2 * _ + 512) * 168 ≤ 281474976710656; omega) (by omega) (.inr rfl) (by first | exact hr2.all | rfl) (fun cap3 hcap3 => ?_) | fail)
      refine ⟨⟨(k + 1, cap3, ds ++ [.int .i64 y.From, .int .i64 y.State.Pg.Pool, .int .i64 y.State.Pg.No, .int .i64 y.State.Seen, .int .i64 y.State.Started, .int .i64 y.State.Tail.Epoch, .int .i64 y.State.Tail.Seq, .slice A0 y.State.Base.length c0, .slice A1 y.State.Clients.length c1, .slice A2 y.State.Log.length c2, .int .i64 y.State.Firm.Epoch, .int .i64 y.State.Firm.Seq, .slice A3 y.State.Chunks.length c3]), hlt, ?_, ?_⟩, 3, ⟨⟨rfl, rfl, congrArg (fun t => some (PV.s 3 t cap3 13)) ?_, look_int (i64_succ (by omega)), trivial⟩, ⟨rfl, rfl, trivial⟩, rfl, rfl⟩, rfl, by simp only; omega⟩
      · simp only
        rw [hst, List.length_append]
        exact hcap3
      · simp only
        rw [hst]
        exact hr2.app (RowR.one (x := y) ⟨_, _, _, _, _, _, _, _, rfl, trivial, s0, s1, s2, s3⟩ rfl rfl)
      · rw [hst]
        simp only [List.length_append, List.length_singleton]
  · have he : k = l.length := by
      have : ¬ k < l.length := by simpa using h5
      omega
    subst he
    have ef := fil_all (p := (fun y : GNotice => !(!x.Acting.any fun z => decide (y.From = z)))) (l := l)
    exact RetK.mk fun g M' hl' hg => ⟨_, _, congrArg (fun t : List GNotice => Value.slice _ t.length _) ef, row_out hr2 ef.symm (fun x cs h => RNotice.mono hl' _ _ h) (hg 1 _ rfl) (by rw [← ef]; exact hcap) (by rw [← ef]; omega)⟩
theorem l13Heard_f (M : Mem) (l : List Int) (A : Option Addr) (c : Nat) (h : SlR M RInt 1 8 A c l) (hn : l.length ≤ 16) (hp : ∀ y ∈ l, 0 ≤ y) (x : GInterval) (cx : List Value) (hx : RInterval M x cx) : AnsR Tryz.prog M 23 #[.agg cx.toArray, .slice A l.length c] (fun M' v => ∃ A' c', v = .slice A' (l.filter (fun y : Int => x.Acting.any fun z => decide (y = z))).length c' ∧ SlR M' RInt 1 8 A' c' (l.filter (fun y : Int => x.Acting.any fun z => decide (y = z)))) := by
  obtain ⟨X0, e0, rfl, _, t0⟩ := hx
  refine ansR_of T (l := [.agg (List.toArray _), .slice A l.length c]) mixed Tryz.func23 rfl (by kernel_rfl) (Nat.le_of_ble_eq_true rfl) ?_
  (conv => whnf)
  refine LoopK.sw 1 2 {q : Nat × Nat × List Value // q.1 ≤ l.length ∧ ((l.take q.1).filter (fun y : Int => x.Acting.any fun z => decide (y = z))).length ≤ q.2.1 ∧ RowR M RInt 1 ((l.take q.1).filter (fun y : Int => x.Acting.any fun z => decide (y = z))) q.2.2} (fun ⟨(k, cap, ds), _⟩ => [(1, .v (.slice A l.length c)), (2, .p 0 0), (5, .s 1 (((l.take k).filter (fun y : Int => x.Acting.any fun z => decide (y = z)))).length cap 1), (6, .v (.int .i64 (k : Int)))]) (fun ⟨(k, cap, ds), _⟩ => [(1, ds), (0, [.int .i64 x.First, .int .i64 x.Last, .slice X0 x.Acting.length e0, .bool x.May])]) (fun _ => M) (fun q => l.length - q.1.1) ⟨(0, 0, []), Nat.zero_le _, Nat.le_refl _, RowR.nil⟩ 1 ⟨⟨⟨rfl, rfl, rfl, rfl, trivial⟩, ⟨rfl, rfl, trivial⟩, rfl, rfl⟩, rfl⟩ ?_
  rintro ⟨⟨k, cap, ds⟩, hk, hcap, hr2⟩
  simp only at hk hcap hr2
  have hle := fil_le (fun y : Int => x.Acting.any fun z => decide (y = z)) l k
  (conv => whnf)
  refine CondK.mk (fun h5 => ?_) (fun h5 => ?_)
  · have hlt : k < l.length := by simpa using h5
    obtain ⟨y, hyk⟩ : ∃ y, l[k] = y := ⟨_, rfl⟩
    have hy : l[k]? = some y := by rw [List.getElem?_eq_getElem hlt, hyk]
    have hst := fil_step (p := (fun y : Int => x.Acting.any fun z => decide (y = z))) hy
    obtain ⟨ad, rfl, _, y0⟩ := at_Int h hy
    have hpl := l12Place_a M x.Acting X0 e0 t0 y (hp y (List.mem_of_getElem? hy))
    have hcc : decide (plF x.Acting y ≥ 0) = x.Acting.any fun z => decide (y = z) := plF_any _ _
    cases hc : x.Acting.any fun z => decide (y = z) with
    | false =>
      rw [hc, if_neg (by decide), List.append_nil] at hst
      repeat' ((conv => whnf); first | with_reducible refine CondK.tt ?_ | with_reducible refine CondK.ff ?_ | refine DrawN.q (by kernel_rfl) ?_ | refine IdxK.mk _ rfl (by omega) (by omega) ?_ | refine LdK.mk _ (by assumption) ?_ | refine CallK.mk _ hpl ?_ | refine CallQ.mk _ hpl ?_ | rw [hcc, hc] | refine CondK.no' hc' ?_ | fail)
      exact ⟨⟨(k + 1, cap, ds), hlt, by simp only; rw [hst]; exact hcap, by simp only; rw [hst]; exact hr2⟩, 1, ⟨⟨rfl, rfl, congrArg (fun t : List Int => some (PV.s 1 t.length cap 1)) hst.symm, look_int (i64_succ (by omega)), trivial⟩, ⟨rfl, rfl, trivial⟩, rfl, rfl⟩, rfl, by simp only; omega⟩
    | true =>
      rw [hc, if_pos rfl] at hst
      repeat' ((conv => whnf); first | with_reducible refine CondK.tt ?_ | with_reducible refine CondK.ff ?_ | refine DrawN.q (by kernel_rfl) ?_ | refine IdxK.mk _ rfl (by omega) (by omega) ?_ | refine LdK.mk _ (by assumption) ?_ | refine CallK.mk _ hpl ?_ | refine CallQ.mk _ hpl ?_ | rw [hcc, hc] | refine CondK.yes' hc' ?_ | refine AppK.mk (by show (2 * _ + 512) * 8 ≤ 281474976710656; omega) (by omega) (.inr rfl) (by first | exact hr2.all | rfl) (fun cap3 hcap3 => ?_) | fail)
      refine ⟨⟨(k + 1, cap3, ds ++ [.int .i64 y]), hlt, ?_, ?_⟩, 3, ⟨⟨rfl, rfl, congrArg (fun t => some (PV.s 3 t cap3 1)) ?_, look_int (i64_succ (by omega)), trivial⟩, ⟨rfl, rfl, trivial⟩, rfl, rfl⟩, rfl, by simp only; omega⟩
      · simp only
        rw [hst, List.length_append]
        exact hcap3
      · simp only
        rw [hst]
        exact hr2.app (RowR.one (x := y) rfl rfl rfl)
      · rw [hst]
        simp only [List.length_append, List.length_singleton]
  · have he : k = l.length := by
      have : ¬ k < l.length := by simpa using h5
      omega
    subst he
    have ef := fil_all (p := (fun y : Int => x.Acting.any fun z => decide (y = z))) (l := l)
    exact RetK.mk fun g M' hl' hg => ⟨_, _, congrArg (fun t : List Int => Value.slice _ t.length _) ef, row_out hr2 ef.symm (fun x cs h => RInt.mono hl' _ _ h) (hg 1 _ rfl) (by rw [← ef]; exact hcap) (by rw [← ef]; omega)⟩
theorem l22Froms_f (M : Mem) (l : List GNotice) (A : Option Addr) (c : Nat) (h : SlR M RNotice 13 168 A c l) (hn : l.length ≤ 16) : AnsR Tryz.prog M 20 #[.slice A l.length c] (fun M' v => ∃ A' c', v = .slice A' (fromsF l).length c' ∧ SlR M' RInt 1 8 A' c' (fromsF l)) := by
  refine ansR_of T (l := [.slice A l.length c]) mixed Tryz.func20 rfl (by kernel_rfl) (Nat.le_of_ble_eq_true rfl) ?_
  (conv => whnf)
  refine LoopK.sw 0 1 {q : Nat × Nat // q.1 ≤ l.length ∧ q.1 ≤ q.2} (fun ⟨(j, cap), _⟩ => [(0, .v (.slice A l.length c)), (3, .s 0 j cap 1), (4, .v (.int .i64 (j : Int)))]) (fun ⟨(j, cap), _⟩ => [(0, cellsI ((fromsF l).take j))]) (fun _ => M) (fun q => l.length - q.1.1) ⟨(0, 0), Nat.zero_le _, Nat.le_refl _⟩ 0 ⟨⟨⟨rfl, rfl, rfl, trivial⟩, ⟨rfl, trivial⟩, rfl, rfl⟩, rfl⟩ ?_
  rintro ⟨⟨j, cap⟩, hj, hcp⟩
  simp only at hj hcp
  (conv => whnf)
  refine CondK.mk (fun h1 => ?_) (fun h1 => ?_)
  · have hlt : j < l.length := by simpa using h1
    obtain ⟨y, hyk⟩ : ∃ y, l[j] = y := ⟨_, rfl⟩
    have hy : l[j]? = some y := by rw [List.getElem?_eq_getElem hlt, hyk]
    have hyf : (fromsF l)[j]? = some y.From := by simp [fromsF, hy]
    obtain ⟨ad, rfl, A0, c0, A1, c1, A2, c2, A3, c3, bnx, ⟨s0, s1, s2, s3⟩, x0, x1, x2, x3, x4, x5, x6, x7, x8, x9, x10, x11, x12⟩ := at_Notice h hy
    have e := cellsI_take hyf
    have hal := allOneI ((fromsF l).take j)
    repeat' ((conv => whnf); first | refine IdxK.mk _ rfl (by omega) (by omega) ?_ | refine LdK.mk _ (by assumption) ?_ | refine AppK.mk (by show (2 * _ + 512) * 8 ≤ 281474976710656; omega) (by omega) (.inr rfl) (by first | exact hal | rfl) (fun cap3 hcap3 => ?_) | fail)
    exact ⟨⟨(j + 1, cap3), hlt, hcap3⟩, 2, ⟨⟨rfl, rfl, look_int (i64_succ (by omega)), trivial⟩, ⟨congrArg some e.symm, trivial⟩, rfl, rfl⟩, rfl, by simp only; omega⟩
  · have hjl : j = l.length := by
      have : ¬ j < l.length := by simpa using h1
      omega
    subst hjl
    have hV : (fromsF l).take l.length = fromsF l := by rw [← fromsF_len, List.take_length]
    (conv => whnf)
    refine RetK.mk fun g M' hl hg => ⟨_, cap, slice_eq (fromsF_len l).symm, row_out (RowR.mono (M' := M) (rowI (fromsF l)) (fun _ _ h => h)) rfl (fun _ _ h => h) (fun o u hu => hg 0 _ rfl o u (by rw [hV]; exact hu)) (by rw [fromsF_len]; exact hcp) (by rw [fromsF_len]; omega)⟩
end Go.Proofs.YtgeofmoojifkmaaGreat.Hlp
namespace Go.Proofs.YtgeofmoojifkmaaGreat.Hlp
open Go Go.RowKit Go.Proofs Go.Proofs.YtgeofmoojifkmaaGreat.Lw
set_option linter.unusedVariables false
set_option linter.unusedSimpArgs false
set_option maxRecDepth 100000
set_option maxHeartbeats 4000000
theorem l00Own_f (M : Mem) (l : List Int) (A : Option Addr) (c : Nat) (h : SlR M RInt 1 8 A c l) (hn : l.length ≤ 1000) : AnsR Tryz.prog M 79 #[.slice A l.length c] (fun M' v => ∃ A' c', v = .slice A' l.length c' ∧ SlR M' RInt 1 8 A' c' l) := by
  refine ansR_of T (l := [.slice A l.length c]) mixed Tryz.func79 rfl (by kernel_rfl) (Nat.le_of_ble_eq_true rfl) ?_
  obtain ⟨ds, h1, h2, h3⟩ := h.row (fun x cs hx => (RInt.one x cs hx).1)
  (conv => whnf)
  refine SrcK.mk ds h2 h3 ?_
  (conv => whnf)
  refine AppK.mk (by show (2 * _ + 512) * 8 ≤ 281474976710656; omega) (by omega) (.inr rfl) h1.all (fun cap3 hcap3 => ?_)
  (conv => whnf)
  exact RetK.mk fun g M' hl hg => ⟨_, cap3, slice_eq (by omega), row_out h1 rfl (fun _ _ h => h) (hg 1 _ rfl) (by omega) (by omega)⟩
theorem l13Own_f (M : Mem) (y : GInterval) (cs : List Value) (h : RInterval M y cs) (hn : y.Acting.length ≤ 1000) : AnsR Tryz.prog M 47 #[.agg cs.toArray] (fun M' v => ∃ cs' : List Value, v = .agg cs'.toArray ∧ RInterval M' y cs') := by
  obtain ⟨A0, c0, rfl, _, s0⟩ := h
  refine ansR_of T (l := [.agg (List.toArray _)]) mixed Tryz.func47 rfl (by kernel_rfl) (Nat.le_of_ble_eq_true rfl) ?_
  (conv => whnf)
  refine CallK.mr _ (l00Own_f M y.Acting A0 c0 s0 hn) (fun v M1 hl1 hv => ?_)
  obtain ⟨A1, c1, rfl, r1⟩ := hv
  (conv => whnf)
  exact RetK.mk fun g M' hl hg => ⟨_, rfl, A1, c1, rfl, trivial, r1.mono hl (fun _ _ h => h)⟩
def needTo (ivs : List GInterval) (s : Int) (k : Nat) : List GInterval := (ivs.take k).filter fun y => needF y s
theorem l13Need_f (M : Mem) (l : List GInterval) (A : Option Addr) (c : Nat) (h : SlR M RInterval 4 48 A c l) (hn : l.length ≤ 60) (hac : ∀ y ∈ l, y.Acting.length ≤ 1000) (s : Int) : AnsR Tryz.prog M 21 #[.slice A l.length c, .int .i64 s] (fun M' v => ∃ A' c', v = .slice A' (l.filter fun y => needF y s).length c' ∧ SlR M' RInterval 4 48 A' c' (l.filter fun y => needF y s)) := by
  refine ansR_of T (l := [.slice A l.length c, .int .i64 s]) mixed Tryz.func21 rfl (by kernel_rfl) (Nat.le_of_ble_eq_true rfl) ?_
  (conv => whnf)
  refine LoopK.sw 0 1 {q : (Nat × Nat × List Value) × Mem // q.1.1 ≤ l.length ∧ (needTo l s q.1.1).length ≤ q.1.2.1 ∧ RowR q.2 RInterval 4 (needTo l s q.1.1) q.1.2.2 ∧ Le M q.2} (fun ⟨⟨⟨k, cap, ds⟩, _⟩, _⟩ => [(0, .v (.slice A l.length c)), (1, .v (.int .i64 s)), (5, .s 0 (needTo l s k).length cap 4), (6, .v (.int .i64 (k : Int)))]) (fun ⟨⟨⟨k, cap, ds⟩, _⟩, _⟩ => [(0, ds)]) (fun q => q.1.2) (fun q => l.length - q.1.1.1) ⟨((0, 0, []), M), Nat.zero_le _, Nat.le_refl _, RowR.nil, Le.refl M⟩ 0 ⟨⟨⟨rfl, rfl, rfl, rfl, trivial⟩, ⟨rfl, trivial⟩, rfl, rfl⟩, rfl⟩ ?_
  rintro ⟨⟨⟨k, cap, ds⟩, N⟩, hk, hcap, hr2, hle2⟩
  simp only at hk hcap hr2 hle2
  have hle := fil_le (fun y => needF y s) l k
  (conv => whnf)
  refine CondK.mk (fun h5 => ?_) (fun h5 => ?_)
  · have hlt : k < l.length := by simpa using h5
    obtain ⟨y, hyk⟩ : ∃ y, l[k] = y := ⟨_, rfl⟩
    have hy : l[k]? = some y := by rw [List.getElem?_eq_getElem hlt, hyk]
    have hst : needTo l s (k + 1) = needTo l s k ++ (if needF y s = true then [y] else []) := fil_step (p := fun y => needF y s) hy
    have hle' : (needTo l s k).length ≤ k := hle
    obtain ⟨ad, rfl, A0, c0, bny, s0, y0, y1, y2, y3⟩ := at_Interval (h.mono hle2 (RInterval.mono hle2)) hy
    have hown := l13Own_f N y _ ⟨A0, c0, rfl, bny, s0⟩ (hac y (List.mem_of_getElem? hy))
    have yes : needF y s = true → ∀ {X : Prop}, (∀ (cap3 : Nat) (ds3 : List Value) (N3 : Mem), X) → True := fun _ _ _ => trivial
    cases a1 : (y.First == s) with
    | true =>
      have hc : needF y s = true := by unfold needF; simp only [beq_iff_eq] at a1; simp [a1]
      rw [hc, if_pos rfl] at hst
      repeat' ((conv => whnf); first | with_reducible refine CondK.tt ?_ | with_reducible refine CondK.ff ?_ | refine IdxK.mk _ rfl (by omega) (by omega) ?_ | refine LdK.mk _ (by assumption) ?_ | rw [a1] | fail)
      (refine CallK.mr _ hown (fun v N3 hl3 hv => ?_); obtain ⟨cs3, rfl, r3⟩ := hv)
      have r3' := r3
      obtain ⟨B0, d0, rfl, _⟩ := r3'
      repeat' ((conv => whnf); first | refine AppK.mk (by show (2 * _ + 512) * 48 ≤ 281474976710656; omega) (by omega) (.inr rfl) (by first | exact hr2.all | rfl) (fun cap3 hcap3 => ?_) | fail)
      refine ⟨⟨((k + 1, cap3, ds ++ [.int .i64 y.First, .int .i64 y.Last, .slice B0 y.Acting.length d0, .bool y.May]), N3), hlt, ?_, ?_, hle2.trans hl3⟩, 2, ⟨⟨rfl, rfl, congrArg (fun t => some (PV.s 2 t cap3 4)) ?_, look_int (i64_succ (by omega)), trivial⟩, ⟨rfl, trivial⟩, rfl, rfl⟩, rfl, by simp only; omega⟩
      · simp only
        rw [hst, List.length_append]
        exact hcap3
      · simp only
        rw [hst]
        exact (hr2.mono (fun x cs h => RInterval.mono hl3 _ _ h)).app (RowR.one (x := y) r3 rfl rfl)
      · rw [hst]
        simp only [List.length_append, List.length_singleton]
    | false =>
      cases a2 : y.May with
      | false =>
        have hc : needF y s = false := by unfold needF; simp only [beq_eq_false_iff_ne] at a1; simp [a1, a2]
        rw [hc, if_neg (by decide), List.append_nil] at hst
        rw [a2] at y3
        repeat' ((conv => whnf); first | with_reducible refine CondK.tt ?_ | with_reducible refine CondK.ff ?_ | refine IdxK.mk _ rfl (by omega) (by omega) ?_ | refine LdK.mk _ (by assumption) ?_ | rw [a1] | fail)
        exact ⟨⟨((k + 1, cap, ds), N), hlt, by simp only; rw [hst]; exact hcap, by simp only; rw [hst]; exact hr2, hle2⟩, 0, ⟨⟨rfl, rfl, congrArg (fun t : List GInterval => some (PV.s 0 t.length cap 4)) hst.symm, look_int (i64_succ (by omega)), trivial⟩, ⟨rfl, trivial⟩, rfl, rfl⟩, rfl, by simp only; omega⟩
      | true =>
        rw [a2] at y3 hown
        cases a3 : decide (y.First ≥ s) with
        | false =>
          have hc : needF y s = false := by unfold needF; simp only [beq_eq_false_iff_ne] at a1; rw [a3]; simp [a1]
          rw [hc, if_neg (by decide), List.append_nil] at hst
          repeat' ((conv => whnf); first | with_reducible refine CondK.tt ?_ | with_reducible refine CondK.ff ?_ | refine IdxK.mk _ rfl (by omega) (by omega) ?_ | refine LdK.mk _ (by assumption) ?_ | rw [a1] | rw [a3] | fail)
          exact ⟨⟨((k + 1, cap, ds), N), hlt, by simp only; rw [hst]; exact hcap, by simp only; rw [hst]; exact hr2, hle2⟩, 0, ⟨⟨rfl, rfl, congrArg (fun t : List GInterval => some (PV.s 0 t.length cap 4)) hst.symm, look_int (i64_succ (by omega)), trivial⟩, ⟨rfl, trivial⟩, rfl, rfl⟩, rfl, by simp only; omega⟩
        | true =>
          have hc : needF y s = true := by unfold needF; rw [a2, a3]; rfl
          rw [hc, if_pos rfl] at hst
          repeat' ((conv => whnf); first | with_reducible refine CondK.tt ?_ | with_reducible refine CondK.ff ?_ | refine IdxK.mk _ rfl (by omega) (by omega) ?_ | refine LdK.mk _ (by assumption) ?_ | rw [a1] | rw [a3] | fail)
          (refine CallK.mr _ hown (fun v N3 hl3 hv => ?_); obtain ⟨cs3, rfl, r3⟩ := hv)
          have r3' := r3
          obtain ⟨B0, d0, rfl, _⟩ := r3'
          repeat' ((conv => whnf); first | refine AppK.mk (by show (2 * _ + 512) * 48 ≤ 281474976710656; omega) (by omega) (.inr rfl) (by first | exact hr2.all | rfl) (fun cap3 hcap3 => ?_) | fail)
          refine ⟨⟨((k + 1, cap3, ds ++ [.int .i64 y.First, .int .i64 y.Last, .slice B0 y.Acting.length d0, .bool y.May]), N3), hlt, ?_, ?_, hle2.trans hl3⟩, 2, ⟨⟨rfl, rfl, congrArg (fun t => some (PV.s 2 t cap3 4)) ?_, look_int (i64_succ (by omega)), trivial⟩, ⟨rfl, trivial⟩, rfl, rfl⟩, rfl, by simp only; omega⟩
          · simp only
            rw [hst, List.length_append]
            exact hcap3
          · simp only
            rw [hst]
            exact (hr2.mono (fun x cs h => RInterval.mono hl3 _ _ h)).app (RowR.one (x := y) r3 rfl rfl)
          · rw [hst]
            simp only [List.length_append, List.length_singleton]
  · have he : k = l.length := by
      have : ¬ k < l.length := by simpa using h5
      omega
    subst he
    have hle' : (needTo l s l.length).length ≤ l.length := hle
    have ef : needTo l s l.length = l.filter fun y => needF y s := by unfold needTo; rw [List.take_length]
    exact RetK.mk fun g M' hl' hg => ⟨_, _, congrArg (fun t : List GInterval => Value.slice _ t.length _) ef, row_out hr2 ef.symm (fun x cs h => RInterval.mono hl' _ _ h) (hg 0 _ rfl) (by rw [← ef]; exact hcap) (by rw [← ef]; omega)⟩
def heardIn (a l : List Int) : List Int := l.filter fun x => a.any fun z => decide (x = z)
def henS (ivs : List GInterval) (k s : Int) (l : List Int) : Bool := if decide (s > 0) && decide (ixD (fun x : GInterval => x.First == s) ivs < 0) then false else (ivs.filter fun y => needF y s).all fun y => !decide (((heardIn y.Acting l).length : Int) < k)
theorem l13Enough_r (M : Mem) (ivs : List GInterval) (A : Option Addr) (c : Nat) (h : SlR M RInterval 4 48 A c ivs) (hn : ivs.length ≤ 60) (hac : ∀ y ∈ ivs, y.Acting.length ≤ 1000) (k s : Int) (l : List Int) (B : Option Addr) (dc : Nat) (hl : SlR M RInt 1 8 B dc l) (hln : l.length ≤ 16) (hp : ∀ y ∈ l, 0 ≤ y) : AnsR Tryz.prog M 66 #[.slice A ivs.length c, .int .i64 k, .int .i64 s, .slice B l.length dc] (fun _ v => v = .bool (henS ivs k s l)) := by
  have hat := l13At_a M ivs A c h s
  have hnd := l13Need_f M ivs A c h hn hac s
  refine ansR_of T (l := [.slice A ivs.length c, .int .i64 k, .int .i64 s, .slice B l.length dc]) mixed Tryz.func66 rfl (by kernel_rfl) (Nat.le_of_ble_eq_true rfl) ?_
  unfold henS
  have hnl : (ivs.filter fun y => needF y s).length ≤ 60 := Nat.le_trans (List.length_filter_le _ _) hn
  generalize (ivs.filter fun y => needF y s) = nd at hnd hnl ⊢
  generalize ixD (fun x : GInterval => x.First == s) ivs = ix at hat ⊢
  have rest : ∀ (b : Bool), b = (decide (s > 0) && decide (ix < 0)) → b = false → True := fun _ _ _ => trivial
  have main : ∀ (K : Prop), K → K := fun _ h => h
  cases a1 : decide (s > 0) with
  | true =>
    cases a2 : decide (ix < 0) with
    | true =>
      repeat' ((conv => whnf); first | with_reducible refine CondK.tt ?_ | with_reducible refine CondK.ff ?_ | refine CallK.mk _ hat ?_ | rw [a1] | refine CondK.yes' a2 ?_ | fail)
      exact RetK.mk fun _ _ _ _ => rfl
    | false =>
      repeat' ((conv => whnf); first | with_reducible refine CondK.tt ?_ | with_reducible refine CondK.ff ?_ | refine CallK.mk _ hat ?_ | rw [a1] | refine CondK.no' a2 ?_ | (refine CallK.mr _ hnd (fun v M1 hl1 hv => ?_); obtain ⟨A1, c1, rfl, r1⟩ := hv) | fail)
      refine LoopK.mk {q : Nat × Mem // q.1 ≤ nd.length ∧ Le M1 q.2 ∧ ∀ (j : Nat) (hj : j < nd.length), j < q.1 → decide (((heardIn (nd[j]'hj).Acting l).length : Int) < k) = false} (fun ⟨⟨i, _⟩, _⟩ => [(1, .v (.int .i64 k)), (3, .v (.slice B l.length dc)), (9, .v (.slice A1 nd.length c1)), (10, .v (.int .i64 (i : Int)))]) (fun _ => []) (fun q => q.1.2) (fun q => nd.length - q.1.1) ⟨(0, M1), Nat.zero_le _, Le.refl M1, fun j hj h => absurd h (by omega)⟩ ⟨⟨⟨rfl, rfl, rfl, rfl, trivial⟩, trivial, rfl, rfl⟩, rfl⟩ ?_
      rintro ⟨⟨i, N⟩, hi, hle, ha⟩
      simp only at hi hle ha
      (conv => whnf)
      refine CondK.mk (fun h5 => ?_) (fun h5 => ?_)
      · have hlt : i < nd.length := by simpa using h5
        obtain ⟨y, hyk⟩ : ∃ y, nd[i] = y := ⟨_, rfl⟩
        have hy : nd[i]? = some y := by rw [List.getElem?_eq_getElem hlt, hyk]
        obtain ⟨ad, rfl, A0, c0, bny, s0, y0, y1, y2, y3⟩ := at_Interval (r1.mono hle (RInterval.mono hle)) hy
        have e := hl1.trans hle
        have hhd := l13Heard_f N l B dc (hl.mono e (fun _ _ h => h)) hln hp y _ ⟨A0, c0, rfl, bny, s0⟩
        repeat' ((conv => whnf); first | refine IdxK.mk _ rfl (by omega) (by omega) ?_ | refine LdK.mk _ (by assumption) ?_ | (refine CallK.mr _ hhd (fun v N3 hl3 hv => ?_); obtain ⟨A3, c3, rfl, r3⟩ := hv) | fail)
        refine CondK.mk (fun hc => ?_) (fun hc => ?_)
        · (conv => whnf)
          have ef : (nd.all fun y => !decide (((heardIn y.Acting l).length : Int) < k)) = false := by
            rw [List.all_eq_false]
            refine ⟨y, List.mem_of_getElem? hy, ?_⟩
            have hc' : decide (((heardIn y.Acting l).length : Int) < k) = true := hc
            rw [hc']
            decide
          exact RetK.mk fun _ _ _ _ => congrArg Value.bool (by rw [ef]; rfl)
        · (conv => whnf)
          exact ⟨⟨(i + 1, N3), hlt, hle.trans hl3, fun j hj hj' => by rcases Nat.lt_succ_iff_lt_or_eq.mp hj' with hj' | rfl; exact ha j hj hj'; rw [hyk]; exact hc⟩, ⟨⟨rfl, rfl, rfl, look_int (i64_succ (by omega)), trivial⟩, trivial, rfl, rfl⟩, rfl, by simp only; omega⟩
      · have he : i = nd.length := by
          have : ¬ i < nd.length := by simpa using h5
          omega
        subst he
        (conv => whnf)
        have ef : (nd.all fun y => !decide (((heardIn y.Acting l).length : Int) < k)) = true := by
          rw [List.all_eq_true]
          intro y hy
          obtain ⟨j, hj, rfl⟩ := List.getElem_of_mem hy
          rw [ha j hj hj]
          rfl
        exact RetK.mk fun _ _ _ _ => congrArg Value.bool (by rw [ef]; rfl)
  | false =>
    repeat' ((conv => whnf); first | with_reducible refine CondK.tt ?_ | with_reducible refine CondK.ff ?_ | rw [a1] | (refine CallK.mr _ hnd (fun v M1 hl1 hv => ?_); obtain ⟨A1, c1, rfl, r1⟩ := hv) | fail)
    refine LoopK.mk {q : Nat × Mem // q.1 ≤ nd.length ∧ Le M1 q.2 ∧ ∀ (j : Nat) (hj : j < nd.length), j < q.1 → decide (((heardIn (nd[j]'hj).Acting l).length : Int) < k) = false} (fun ⟨⟨i, _⟩, _⟩ => [(1, .v (.int .i64 k)), (3, .v (.slice B l.length dc)), (9, .v (.slice A1 nd.length c1)), (10, .v (.int .i64 (i : Int)))]) (fun _ => []) (fun q => q.1.2) (fun q => nd.length - q.1.1) ⟨(0, M1), Nat.zero_le _, Le.refl M1, fun j hj h => absurd h (by omega)⟩ ⟨⟨⟨rfl, rfl, rfl, rfl, trivial⟩, trivial, rfl, rfl⟩, rfl⟩ ?_
    rintro ⟨⟨i, N⟩, hi, hle, ha⟩
    simp only at hi hle ha
    (conv => whnf)
    refine CondK.mk (fun h5 => ?_) (fun h5 => ?_)
    · have hlt : i < nd.length := by simpa using h5
      obtain ⟨y, hyk⟩ : ∃ y, nd[i] = y := ⟨_, rfl⟩
      have hy : nd[i]? = some y := by rw [List.getElem?_eq_getElem hlt, hyk]
      obtain ⟨ad, rfl, A0, c0, bny, s0, y0, y1, y2, y3⟩ := at_Interval (r1.mono hle (RInterval.mono hle)) hy
      have e := hl1.trans hle
      have hhd := l13Heard_f N l B dc (hl.mono e (fun _ _ h => h)) hln hp y _ ⟨A0, c0, rfl, bny, s0⟩
      repeat' ((conv => whnf); first | refine IdxK.mk _ rfl (by omega) (by omega) ?_ | refine LdK.mk _ (by assumption) ?_ | (refine CallK.mr _ hhd (fun v N3 hl3 hv => ?_); obtain ⟨A3, c3, rfl, r3⟩ := hv) | fail)
      refine CondK.mk (fun hc => ?_) (fun hc => ?_)
      · (conv => whnf)
        have ef : (nd.all fun y => !decide (((heardIn y.Acting l).length : Int) < k)) = false := by
          rw [List.all_eq_false]
          refine ⟨y, List.mem_of_getElem? hy, ?_⟩
          have hc' : decide (((heardIn y.Acting l).length : Int) < k) = true := hc
          rw [hc']
          decide
        exact RetK.mk fun _ _ _ _ => congrArg Value.bool (by rw [ef]; rfl)
      · (conv => whnf)
        exact ⟨⟨(i + 1, N3), hlt, hle.trans hl3, fun j hj hj' => by rcases Nat.lt_succ_iff_lt_or_eq.mp hj' with hj' | rfl; exact ha j hj hj'; rw [hyk]; exact hc⟩, ⟨⟨rfl, rfl, rfl, look_int (i64_succ (by omega)), trivial⟩, trivial, rfl, rfl⟩, rfl, by simp only; omega⟩
    · have he : i = nd.length := by
        have : ¬ i < nd.length := by simpa using h5
        omega
      subst he
      (conv => whnf)
      have ef : (nd.all fun y => !decide (((heardIn y.Acting l).length : Int) < k)) = true := by
        rw [List.all_eq_true]
        intro y hy
        obtain ⟨j, hj, rfl⟩ := List.getElem_of_mem hy
        rw [ha j hj hj]
        rfl
      exact RetK.mk fun _ _ _ _ => congrArg Value.bool (by rw [ef]; rfl)
end Go.Proofs.YtgeofmoojifkmaaGreat.Hlp
namespace Go.Proofs.YtgeofmoojifkmaaGreat.Hlp
open Go Go.RowKit Go.Proofs Go.Proofs.YtgeofmoojifkmaaGreat.Lw
set_option linter.unusedVariables false
set_option linter.unusedSimpArgs false
set_option maxRecDepth 100000
set_option maxHeartbeats 4000000
theorem ixD_neg {α : Type} (p : α → Bool) (l : List α) : decide (ixD p l < 0) = !l.any p := by
  rw [← ixD_any]
  rw [Bool.eq_iff_iff]
  simp only [decide_eq_true_eq, Bool.not_eq_true', decide_eq_false_iff_not]
  omega
theorem hen_eq {ivs : List GInterval} (hi : intervalsF ivs = true) {l : List GNotice} (hl : noticesOkF l = true) (k s : Int) : henS ivs k s (fromsF l) = henF ivs k s (fromsF l) := by
  unfold henS henF hasFirst
  rw [ixD_neg]
  have e : ((ivs.filter fun y => needF y s).all fun y => !decide (((heardIn y.Acting (fromsF l)).length : Int) < k)) = !ivs.any (hBad (fromsF l) k s) := by
    rw [Bool.eq_iff_iff]
    simp only [List.all_eq_true, List.mem_filter, Bool.not_eq_true', decide_eq_false_iff_not, List.any_eq_false, hBad, Bool.and_eq_true, decide_eq_true_eq]
    constructor
    · intro h x hx ⟨h1, h2⟩
      have := h x ⟨hx, h1⟩
      rw [heF_len (intervals_at hi hx) hl] at h2
      exact this h2
    · intro h x ⟨hx, h1⟩ h2
      refine h x hx ⟨h1, ?_⟩
      rw [heF_len (intervals_at hi hx) hl]
      exact h2
  rw [e]
theorem l22Ver_r (M : Mem) (ivs : List GInterval) (A : Option Addr) (c : Nat) (h : SlR M RInterval 4 48 A c ivs) (hiv : intervalsF ivs = true) (cd : GCode) (l : List GNotice) (B : Option Addr) (dc : Nat) (hl : SlR M RNotice 13 168 B dc l) (hno : noticesOkF l = true) : AnsR Tryz.prog M 33 #[.slice A ivs.length c, .agg #[.int .i64 cd.K, .int .i64 cd.M], .slice B l.length dc] (fun _ v => v = .tuple #[.agg #[.int .i64 (verF ivs cd.K l).1.Epoch, .int .i64 (verF ivs cd.K l).1.Seq], .int .i64 (verF ivs cd.K l).2]) := by
  have hln := notices_len hno
  have hac : ∀ y ∈ ivs, y.Acting.length ≤ 1000 := fun y hy => by have := acting_le (intervals_at hiv hy); omega
  have hst := l22Started_a M l B dc hl
  have hnd := l22Froms_f M l B dc hl hln
  have hsg := started_ge l
  have hps : ∀ y ∈ fromsF l, 0 ≤ y := fun y hy => froms_nonneg hno hy
  have hpn : ∀ y ∈ l, 0 ≤ y.From := fun y hy => hps _ (List.mem_map.2 ⟨y, hy, rfl⟩)
  have hoks := notices_ok hno
  have heq := hen_eq hiv hno cd.K (startedF l)
  refine ansR_of T (l := [.slice A ivs.length c, .agg #[.int .i64 cd.K, .int .i64 cd.M], .slice B l.length dc]) mixed Tryz.func33 rfl (by kernel_rfl) (Nat.le_of_ble_eq_true rfl) ?_
  unfold verF
  generalize hs : startedF l = s at hst hsg heq ⊢
  (conv => whnf)
  refine CallK.mk _ hst ?_
  (conv => whnf)
  have hz := Le.refl M
  refine DrawN.h {N : Mem // Le M N} (fun _ => [(0, .v (.slice A ivs.length c)), (2, .v (.slice B l.length dc)), (4, .p 0 0), (6, .p 1 0), (8, .v (.int .i64 s)), (20, .v (.bool (!henF ivs cd.K s (fromsF l))))]) (fun _ => [(1, [.int .i64 0, .int .i64 0]), (0, [.int .i64 cd.K, .int .i64 cd.M])]) 9 (fun N => N.1) (by kernel_rfl) ?_ ?_
  · repeat' ((conv => whnf); first | refine AndK.mk ?_ ?_ | refine HeldK.mk (by kernel_rfl) ?_ | (refine CallK.mr _ hnd (fun v N4 hl4 hv => ?_); obtain ⟨A4, c4, rfl, r4⟩ := hv; replace hz := hl4) | (refine CallK.mr _ (l13Enough_r _ ivs A c (h.mono hz (RInterval.mono hz)) (intervals_len hiv) hac cd.K s (fromsF l) A4 c4 r4 (by rw [fromsF_len]; exact hln) hps) (fun v N5 hl5 hv => ?_); rw [heq] at hv; subst hv; replace hz := hz.trans hl5) | fail)
    all_goals exact ⟨⟨_, hz⟩, ⟨⟨rfl, rfl, rfl, rfl, rfl, rfl, trivial⟩, ⟨rfl, rfl, trivial⟩, rfl, rfl⟩, rfl⟩
  clear hz
  rintro ⟨N1, hl1⟩
  cases q1 : henF ivs cd.K s (fromsF l) with
  | false =>
    rw [if_pos rfl]
    repeat' ((conv => whnf); first | with_reducible refine CondK.tt ?_ | with_reducible refine CondK.ff ?_ | fail)
    exact RetK.mk fun _ _ _ _ => rfl
  | true =>
    rw [if_neg (by decide)]
    by_cases hs0 : s = 0
    · rw [if_pos hs0]
      repeat' ((conv => whnf); first | with_reducible refine CondK.tt ?_ | with_reducible refine CondK.ff ?_ | refine CondK.yes' (by simp [hs0]) ?_ | fail)
      exact RetK.mk fun _ _ _ _ => rfl
    rw [if_neg hs0]
    have hsp : s > 0 := by have := hsg.1; omega
    obtain ⟨hf1, hkin⟩ := hen_pre hiv hno hsp q1
    obtain ⟨i, x, hix, hil, hxi, hxs, hact⟩ := hasFirst_at hf1
    have hin : inF ivs s l = inBy x.Acting l := by unfold inF; rw [hact]
    rw [hin] at hkin ⊢
    have hinl : (inBy x.Acting l).length ≤ 16 := Nat.le_trans (List.length_filter_le _ _) hln
    have hino : ∀ y ∈ inBy x.Acting l, stateOkF y.State = true := fun y hy => hoks y (List.mem_filter.1 hy).1
    have hwno : ∀ y ∈ whoF l s, stateOkF y.State = true := fun y hy => hoks y (List.mem_filter.1 hy).1
    have hwl : (whoF l s).length ≤ 16 := Nat.le_trans (List.length_filter_le _ _) hln
    have hat := l13At_a N1 ivs A c (h.mono hl1 (RInterval.mono hl1)) s
    rw [hix] at hat
    obtain ⟨ad, rfl, A0, c0, bny, s0, y0, y1, y2, y3⟩ := at_Interval (h.mono hl1 (RInterval.mono hl1)) hxi
    have hinc := l22In_f N1 l B dc (hl.mono hl1 (RNotice.mono hl1)) hln hpn x _ ⟨A0, c0, rfl, bny, s0⟩
    repeat' ((conv => whnf); first | with_reducible refine CondK.tt ?_ | with_reducible refine CondK.ff ?_ | refine CondK.no' (by simp [hs0]) ?_ | refine CallK.mk _ hat ?_ | refine IdxK.mk _ rfl (by omega) (by omega) ?_ | refine LdK.mk _ (by assumption) ?_ | (refine CallK.mr _ hinc (fun v N2 hl2 hv => ?_); obtain ⟨A2, c2, rfl, r2⟩ := hv) | fail)
    replace r2 : SlR N2 RNotice 13 168 A2 c2 (inBy x.Acting l) := r2
    have e2 := hl1.trans hl2
    refine CallK.mr _ (l22Has_f N2 l B dc (hl.mono e2 (RNotice.mono e2)) hln s) (fun v N3 hl3 hv => ?_)
    obtain ⟨A3, c3, rfl, r3⟩ := hv
    replace r3 : SlR N3 RNotice 13 168 A3 c3 (whoF l s) := r3
    (conv => whnf)
    refine CallK.mr _ (l22Has_f N3 (inBy x.Acting l) A2 c2 (r2.mono hl3 (RNotice.mono hl3)) hinl s) (fun v N4 hl4 hv => ?_)
    obtain ⟨A4, c4, rfl, r4⟩ := hv
    (conv => whnf)
    by_cases hq : (whoF (inBy x.Acting l) s).length = (inBy x.Acting l).length
    · rw [if_pos hq]
      refine CondK.yes' (by show (_ == _) = true; rw [beq_iff_eq]; exact congrArg Int.ofNat hq) ?_
      (conv => whnf)
      refine CallK.mk _ (l22Kth_a N4 (inBy x.Acting l) A2 c2 (r2.mono (hl3.trans hl4) (RNotice.mono (hl3.trans hl4))) hino hinl cd.K) ?_
      (conv => whnf)
      exact RetK.mk fun _ _ _ _ => rfl
    · rw [if_neg hq]
      refine CondK.no' (by show (_ == _) = false; rw [beq_eq_false_iff_ne]; exact fun he => hq (Int.ofNat.inj he)) ?_
      (conv => whnf)
      refine CallK.mk _ (l22Kth_a N4 (whoF l s) A3 c3 (r3.mono hl4 (RNotice.mono hl4)) hwno hwl 1) ?_
      (conv => whnf)
      exact RetK.mk fun _ _ _ _ => rfl
def codeOkV (c : GCode) : Bool := inR c.K 1 4 && inR c.M 0 3
theorem codeOkV_a (M : Mem) (c : GCode) : Ans Tryz.prog M 40 #[.agg #[.int .i64 c.K, .int .i64 c.M]] (.bool (codeOkV c)) := by
  refine ans_of T (l := [.agg #[.int .i64 c.K, .int .i64 c.M]]) mixed Tryz.func40 rfl (by kernel_rfl) (Nat.le_of_ble_eq_true rfl) ?_
  repeat' ((conv => whnf); first | with_reducible refine CondK.tt ?_ | with_reducible refine CondK.ff ?_ | refine DrawN.q (by kernel_rfl) ?_ | refine CallK.mk _ (between_a _ _ _ _) ?_ | refine CallQ.mk _ (between_a _ _ _ _) ?_ | refine CondK.mk (fun h => ?_) (fun h => ?_) | fail)
  all_goals (refine ret_bool ?_; unfold codeOkV; simp_all)
theorem l04CodeV_a (M : Mem) (c : GCode) : Ans Tryz.prog M 104 #[.agg #[.int .i64 c.K, .int .i64 c.M]] (.bool (codeOkV c)) := by
  refine ans_of T (l := [.agg #[.int .i64 c.K, .int .i64 c.M]]) mixed Tryz.func104 rfl (by kernel_rfl) (Nat.le_of_ble_eq_true rfl) ?_
  repeat' ((conv => whnf); first | with_reducible refine CondK.tt ?_ | with_reducible refine CondK.ff ?_ | refine DrawN.q (by kernel_rfl) ?_ | refine CallK.mk _ (l00In_a _ _ _ _) ?_ | refine CallQ.mk _ (l00In_a _ _ _ _) ?_ | refine CondK.mk (fun h => ?_) (fun h => ?_) | fail)
  all_goals (refine ret_bool ?_; unfold codeOkV; simp_all)
theorem sCodeOkV_a (M : Mem) (c : GCode) : Ans Tryz.prog M 64 #[.agg #[.int .i64 c.K, .int .i64 c.M]] (.bool (codeOkV c)) := by
  refine ans_of T (l := [.agg #[.int .i64 c.K, .int .i64 c.M]]) mixed Tryz.func64 rfl (by kernel_rfl) (Nat.le_of_ble_eq_true rfl) ?_
  repeat' ((conv => whnf); first | with_reducible refine CondK.tt ?_ | with_reducible refine CondK.ff ?_ | refine DrawN.q (by kernel_rfl) ?_ | refine CallK.mk _ (l04CodeV_a _ _) ?_ | refine CallQ.mk _ (l04CodeV_a _ _) ?_ | refine CondK.mk (fun h => ?_) (fun h => ?_) | fail)
  all_goals (refine ret_bool ?_; first | rfl | simp_all)
def peerF (ivs : List GInterval) (c : GCode) (l : List GNotice) : Bool := intervalsF ivs && codeOkV c && noticesOkF l
theorem peeringOk_a (M : Mem) (ivs : List GInterval) (A : Option Addr) (c : Nat) (h : SlR M RInterval 4 48 A c ivs) (cd : GCode) (l : List GNotice) (B : Option Addr) (dc : Nat) (hl : SlR M RNotice 13 168 B dc l) : Ans Tryz.prog M 18 #[.slice A ivs.length c, .agg #[.int .i64 cd.K, .int .i64 cd.M], .slice B l.length dc] (.bool (peerF ivs cd l)) := by
  have g1 := intervalsOk_a M ivs A c h
  have g2 := codeOkV_a M cd
  have g3 := noticesOk_a M l B dc hl
  refine ans_of T (l := [.slice A ivs.length c, .agg #[.int .i64 cd.K, .int .i64 cd.M], .slice B l.length dc]) mixed Tryz.func18 rfl (by kernel_rfl) (Nat.le_of_ble_eq_true rfl) ?_
  unfold peerF
  cases q1 : intervalsF ivs <;> rw [q1] at g1 <;> cases q2 : codeOkV cd <;> rw [q2] at g2 <;> (repeat' ((conv => whnf); first | with_reducible refine CondK.tt ?_ | with_reducible refine CondK.ff ?_ | refine CallK.mk _ g1 ?_ | refine CallK.mk _ g2 ?_ | refine CallK.mk _ g3 ?_ | fail)) <;> exact ret_bool (by simp)
theorem l22Form_a (M : Mem) (ivs : List GInterval) (A : Option Addr) (c : Nat) (h : SlR M RInterval 4 48 A c ivs) (cd : GCode) (l : List GNotice) (B : Option Addr) (dc : Nat) (hl : SlR M RNotice 13 168 B dc l) : Ans Tryz.prog M 32 #[.slice A ivs.length c, .agg #[.int .i64 cd.K, .int .i64 cd.M], .slice B l.length dc] (.bool (peerF ivs cd l)) := by
  have g1 := l13Ok_a M ivs A c h
  have g2 := sCodeOkV_a M cd
  have g3 := l22Ok_a M l B dc hl
  refine ans_of T (l := [.slice A ivs.length c, .agg #[.int .i64 cd.K, .int .i64 cd.M], .slice B l.length dc]) mixed Tryz.func32 rfl (by kernel_rfl) (Nat.le_of_ble_eq_true rfl) ?_
  unfold peerF
  cases q1 : intervalsF ivs <;> rw [q1] at g1 <;> cases q2 : codeOkV cd <;> rw [q2] at g2 <;> (repeat' ((conv => whnf); first | with_reducible refine CondK.tt ?_ | with_reducible refine CondK.ff ?_ | refine CallK.mk _ g1 ?_ | refine CallK.mk _ g2 ?_ | refine CallK.mk _ g3 ?_ | fail)) <;> exact ret_bool (by simp)
def voF (ivs : List GInterval) (c : GCode) (l : List GNotice) : GVer × Int := if peerF ivs c l = true then verF ivs c.K l else (⟨0, 0⟩, 1)
theorem peer_in {ivs : List GInterval} {c : GCode} {l : List GNotice} (h : peerF ivs c l = true) : intervalsF ivs = true ∧ 1 ≤ c.K ∧ noticesOkF l = true := by
  unfold peerF codeOkV inR at h
  simp only [Bool.and_eq_true, decide_eq_true_eq] at h
  exact ⟨h.1.1, h.1.2.1.1, h.2⟩
theorem iVerOf_r (M : Mem) (ivs : List GInterval) (A : Option Addr) (c : Nat) (h : SlR M RInterval 4 48 A c ivs) (cd : GCode) (l : List GNotice) (B : Option Addr) (dc : Nat) (hl : SlR M RNotice 13 168 B dc l) : AnsR Tryz.prog M 11 #[.slice A ivs.length c, .agg #[.int .i64 cd.K, .int .i64 cd.M], .slice B l.length dc] (fun _ v => v = .tuple #[.agg #[.int .i64 (voF ivs cd l).1.Epoch, .int .i64 (voF ivs cd l).1.Seq], .int .i64 (voF ivs cd l).2]) := by
  have g1 := peeringOk_a M ivs A c h cd l B dc hl
  have g2 := fun h1 h2 h3 => verOf_r M ivs A c h h1 cd h2 l B dc hl h3
  refine ansR_of T (l := [.slice A ivs.length c, .agg #[.int .i64 cd.K, .int .i64 cd.M], .slice B l.length dc]) mixed Tryz.func11 rfl (by kernel_rfl) (Nat.le_of_ble_eq_true rfl) ?_
  unfold voF
  cases q1 : peerF ivs cd l with
  | false =>
    rw [q1] at g1
    rw [if_neg (by decide)]
    repeat' ((conv => whnf); first | with_reducible refine CondK.tt ?_ | with_reducible refine CondK.ff ?_ | refine CallK.mk _ g1 ?_ | fail)
    exact RetK.mk fun _ _ _ _ => rfl
  | true =>
    rw [q1] at g1
    rw [if_pos rfl]
    obtain ⟨h1, h2, h3⟩ := peer_in q1
    repeat' ((conv => whnf); first | with_reducible refine CondK.tt ?_ | with_reducible refine CondK.ff ?_ | refine CallK.mk _ g1 ?_ | (refine CallK.mr _ (g2 h1 h2 h3) (fun v N hl1 hv => ?_); subst hv) | fail)
    exact RetK.mk fun _ _ _ _ => rfl
theorem sVerOf_r (M : Mem) (ivs : List GInterval) (A : Option Addr) (c : Nat) (h : SlR M RInterval 4 48 A c ivs) (cd : GCode) (l : List GNotice) (B : Option Addr) (dc : Nat) (hl : SlR M RNotice 13 168 B dc l) : AnsR Tryz.prog M 12 #[.slice A ivs.length c, .agg #[.int .i64 cd.K, .int .i64 cd.M], .slice B l.length dc] (fun _ v => v = .tuple #[.agg #[.int .i64 (voF ivs cd l).1.Epoch, .int .i64 (voF ivs cd l).1.Seq], .int .i64 (voF ivs cd l).2]) := by
  have g1 := l22Form_a M ivs A c h cd l B dc hl
  have g2 := fun h1 h3 => l22Ver_r M ivs A c h h1 cd l B dc hl h3
  refine ansR_of T (l := [.slice A ivs.length c, .agg #[.int .i64 cd.K, .int .i64 cd.M], .slice B l.length dc]) mixed Tryz.func12 rfl (by kernel_rfl) (Nat.le_of_ble_eq_true rfl) ?_
  unfold voF
  cases q1 : peerF ivs cd l with
  | false =>
    rw [q1] at g1
    rw [if_neg (by decide)]
    repeat' ((conv => whnf); first | with_reducible refine CondK.tt ?_ | with_reducible refine CondK.ff ?_ | refine CallK.mk _ g1 ?_ | fail)
    exact RetK.mk fun _ _ _ _ => rfl
  | true =>
    rw [q1] at g1
    rw [if_pos rfl]
    obtain ⟨h1, h2, h3⟩ := peer_in q1
    repeat' ((conv => whnf); first | with_reducible refine CondK.tt ?_ | with_reducible refine CondK.ff ?_ | refine CallK.mk _ g1 ?_ | (refine CallK.mr _ (g2 h1 h3) (fun v N hl1 hv => ?_); subst hv) | fail)
    exact RetK.mk fun _ _ _ _ => rfl
end Go.Proofs.YtgeofmoojifkmaaGreat.Hlp
