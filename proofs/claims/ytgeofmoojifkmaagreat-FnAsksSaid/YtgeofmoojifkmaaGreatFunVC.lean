/- members, heardOf, heardEnough: impl. -/
import Derived.Test.YtgeofmoojifkmaaGreatFunSI
import Derived.Test.YtgeofmoojifkmaaGreatFunVB
import Derived.Test.YtgeofmoojifkmaaGreatFunI3
import Derived.Test.YtgeofmoojifkmaaGreatFunKL
namespace Go.Proofs.YtgeofmoojifkmaaGreat.Hlp
open Go Go.RowKit Go.Proofs Go.Proofs.YtgeofmoojifkmaaGreat.Lw
set_option linter.unusedVariables false
set_option linter.unusedSimpArgs false
set_option maxRecDepth 100000
set_option maxHeartbeats 4000000
theorem ixD_any {α : Type} (p : α → Bool) (l : List α) : decide (ixD p l ≥ 0) = l.any p := by
  unfold ixD
  cases h : l.findIdx? p with
  | none =>
    rw [List.findIdx?_eq_none_iff] at h
    rw [Bool.eq_iff_iff]
    simp only [decide_eq_true_eq, List.any_eq_true]
    exact ⟨fun h' => by omega, fun ⟨x, hx, hp⟩ => by rw [h x hx] at hp; cases hp⟩
  | some i =>
    obtain ⟨hi, h1, h2⟩ := List.findIdx?_eq_some_iff_getElem.1 h
    rw [Bool.eq_iff_iff]
    simp only [decide_eq_true_eq, List.any_eq_true]
    exact ⟨fun _ => ⟨_, List.getElem_mem hi, h1⟩, fun _ => by omega⟩
theorem rowI {M : Mem} (l : List Int) : RowR M RInt 1 l (cellsI l) := by
  refine ⟨l.map fun x => [.int .i64 x], ?_, by simp, fun cs hc => ?_, fun i x hx => ⟨[.int .i64 x], by rw [List.getElem?_map, hx]; rfl, rfl⟩⟩
  · unfold cellsI
    induction l with
    | nil => rfl
    | cons a r ih => simp [ih]
  · obtain ⟨x, _, rfl⟩ := List.mem_map.1 hc
    exact ⟨rfl, rfl⟩
theorem rowI_at {M : Mem} {l : List Int} {ds : List Value} (h : RowR M RInt 1 l ds) {o : Nat} {u : Value} (hu : (cellsI l)[o]? = some u) : ds[o]? = some u := by
  obtain ⟨x, hx, rfl⟩ := cellsI_at hu
  obtain ⟨css, rfl, h1, h2, h3⟩ := h.ex
  obtain ⟨cs, g1, g2⟩ := h3 o x hx
  obtain rfl := g2
  have := flat_get (z := 1) (fun c hc => (h2 c hc).1) g1 (j := 0) (u := .int .i64 x) rfl
  rwa [show o * 1 + 0 = o by omega] at this
theorem cellsI_len (l : List Int) : (cellsI l).length = l.length := by simp [cellsI]
theorem sortInts_k {wr : Bool} {M N : Mem} {A : Option Addr} {cap : Nat} {l : List Int} {ds : List Value} {K : Value → Mem → Prop} (hw : wr = true) (h : RowN M N 1 A l.length cap ds) (hr : RowR N RInt 1 l ds) (hn : l.length ≤ 1000) (hMN : Le M N)
    (k : ∀ N' ds', Le M N' → RowN M N' 1 A (srt l).length cap ds' → RowR N' RInt 1 (srt l) ds' → K (.tuple #[]) N') : CallK Tryz.prog wr M N 29 #[.slice A l.length cap] K := by
  rcases Nat.eq_zero_or_pos l.length with hz | hz
  · have hl0 : l = [] := List.eq_nil_of_length_eq_zero hz
    subst hl0
    exact CallK.mk _ (sortInts_0 N A cap) (k N ds hMN (by rw [srt_len]; exact h) (by rw [show srt [] = [] by unfold srt; simp]; exact hr))
  rcases h with ⟨rfl, h1, h2, h3⟩ | ⟨ad, rfl, hrow, hf⟩
  · omega
  refine CallK.mg (blk1 N ad.block) _ hw (sortInts_g (blk1 N ad.block) ad cap l hz (by omega) (fun o u hu => blk1_of (addB _ _) (hrow.el o u (rowI_at hr hu))) (fun a u hu => (blk1_at hu).1)) (fun a u hu => (blk1_at hu).2) (fun a u hu => ?_) (fun a u a' u' h1 h2 h3 he => blk1_no h3 h2 (he ▸ (blk1_at h1).1)) (fun v Mx N' hv hlx hkeep hdom hnew => ?_)
  · obtain ⟨g1, g2⟩ := blk1_at hu
    cases hm : M a with
    | none => rfl
    | some w => exact absurd g1 (hf a w hm)
  obtain ⟨rfl, hc, hdm⟩ := hv
  refine k N' (cellsI (srt l)) (fun a u hu => hkeep a u ?_ (hMN a u hu)) (.inr ⟨ad, rfl, ⟨by rw [cellsI_len, srt_len]; omega, by rw [srt_len]; exact hrow.le, fun o u hu => hlx _ _ (hc o u hu), fun o ho => ?_⟩, hf⟩) (rowI _)
  · cases hb : blk1 N ad.block a with
    | none => rfl
    | some w => exact absurd (blk1_at hb).1 (hf a u hu)
  · obtain ⟨u, hu⟩ := hrow.room o ho
    obtain ⟨u', hu'⟩ := hdm _ _ (blk1_of (addB ad o) hu)
    exact ⟨u', hlx _ _ hu'⟩
def memF (l : List Int) : List Int := srt (remF l (-1))
theorem memF_len (l : List Int) : (memF l).length ≤ l.length := by
  unfold memF remF
  rw [srt_len]
  exact List.length_filter_le _ _
theorem members_f (M : Mem) (l : List Int) (A : Option Addr) (c : Nat) (h : SlR M RInt 1 8 A c l) (hn : l.length ≤ 1000) : AnsR Tryz.prog M 28 #[.slice A l.length c] (fun M' v => ∃ A' cap' ds, v = .slice A' (memF l).length cap' ∧ RowR M' RInt 1 (memF l) ds ∧ RowN M M' 1 A' (memF l).length cap' ds) := by
  refine ansR_of (T.at M) (l := [.slice A l.length c]) mixed Tryz.func28 rfl (by kernel_rfl) (Nat.le_of_ble_eq_true rfl) ?_ (fun _ ad u h1 h2 => by rw [show M ad = none from h1] at h2; cases h2)
  (conv => whnf)
  refine CallK.mr _ (removed_f M l A c h hn (-1)) (fun v M1 hl1 hv => ?_)
  obtain ⟨A1, c1, ds, rfl, hr, hn1⟩ := hv
  have hrl : (remF l (-1)).length ≤ 1000 := Nat.le_trans (List.length_filter_le _ _) hn
  (conv => whnf)
  refine sortInts_k rfl hn1 (hr.mono (fun _ _ h => h)) hrl hl1 (fun N' ds' hN' hrow' hr' => ?_)
  (conv => whnf)
  exact RetK.mk fun g M' hl hg => ⟨A1, c1, ds', slice_eq (by unfold memF; rw [srt_len]), hr'.mono (fun _ _ h => h), hrow'.mono hl⟩
theorem heardOf1_r (M : Mem) (l : List Int) (A : Option Addr) (c : Nat) (h : SlR M RInt 1 8 A c l) (av : Addr) (hv : M (av.add 0) = some (.slice A l.length c)) (x : Int) : AnsR Tryz.prog M 77 #[.int .i64 x, .pointer (some av)] (fun _ v => v = .bool (!l.any fun y => decide (x = y))) := by
  refine ansRC_of T (l := [.int .i64 x, .pointer (some av)]) mixed Tryz.func77 rfl (by kernel_rfl) (Nat.le_of_ble_eq_true rfl) ?_
  repeat' ((conv => whnf); first | refine LdK.mk _ (by assumption) ?_ | refine CallK.mk _ (containsInt_a M l A c h x) ?_ | fail)
  exact RetK.mk fun _ _ _ _ => rfl
def heF (a h : List Int) : List Int := (memF a).filter fun x => !!h.any fun y => decide (x = y)
theorem heardOf_f (M : Mem) (a : List Int) (A : Option Addr) (c : Nat) (h : SlR M RInt 1 8 A c a) (hn : a.length ≤ 1000) (l : List Int) (B : Option Addr) (d : Nat) (hl : SlR M RInt 1 8 B d l) : AnsR Tryz.prog M 45 #[.slice A a.length c, .slice B l.length d] (fun M' v => ∃ A' cap' ds, v = .slice A' (heF a l).length cap' ∧ RowR M' RInt 1 (heF a l) ds ∧ RowN M M' 1 A' (heF a l).length cap' ds) := by
  refine ansR_of (T.at M) (l := [.slice A a.length c, .slice B l.length d]) mixed Tryz.func45 rfl (by kernel_rfl) (Nat.le_of_ble_eq_true rfl) ?_ (fun _ ad u h1 h2 => by rw [show M ad = none from h1] at h2; cases h2)
  (conv => whnf)
  refine CallK.mr _ (members_f M a A c h hn) (fun v M1 hl1 hv => ?_)
  obtain ⟨A1, c1, ds, rfl, hr, hn1⟩ := hv
  (conv => whnf)
  refine PubK.fr fun av N2 hl2 hc2 hroom2 hfresh2 hdom2 => ?_
  (conv => whnf)
  refine delIntB_kI rfl (hn1.mono hl2) (Nat.le_trans (memF_len a) hn) (hl1.trans hl2) _ av (fun x => !l.any fun y => decide (x = y)) (fun b => if M b = none then (if b.block = av.block then N2 b else none) else M b) (fun b u hu => ?_) (fun b u ad had hpos hu => ?_) (hr.mono (fun _ _ h => h)) (fun M1' hM1 x _ => heardOf1_r M1' l B d (hl.mono (fun b u hu => hM1 b u (by simp only; rw [if_neg (by rw [hu]; simp)]; exact hu)) (fun _ _ h => h)) av (hM1 _ _ ?_) x) (fun N' ds' hN' hrow' hr' hlc => ?_)
  · try simp only at hu
    split at hu
    · split at hu
      · exact hu
      · cases hu
    · exact hl2 b u (hl1 b u hu)
  · have had1 : ∃ ad1, A1 = some ad1 ∧ (∀ a u, M a = some u → a.block ≠ ad1.block) ∧ ∃ w, M1 (ad1.add 0) = some w := by
      rcases hn1 with ⟨h5, h6, _⟩ | ⟨ad1, h5, hrc, hf1⟩
      · omega
      · exact ⟨ad1, h5, hf1, hrc.room 0 (by have := hrc.le; omega)⟩
    obtain ⟨ad1, h5, hf1, w, hw⟩ := had1
    rw [had] at h5
    cases h5
    have f2 := hfresh2 _ w hw
    rw [add_block] at f2
    try simp only at hu
    split at hu
    · split at hu
      · rename_i hb
        rw [hb]
        exact f2.symm
      · cases hu
    · exact hf1 b u hu
  · simp only
    have hm : M (av.add 0) = none := by
      cases hm : M (av.add 0) with
      | none => rfl
      | some w => exact absurd (add_block av 0) (hfresh2 _ w (hl1 _ w hm))
    rw [if_pos hm, if_pos (add_block av 0)]
    exact hc2 0 _ rfl
  (conv => whnf)
  exact RetK.mk fun g M' hl' hg => ⟨_, _, ds', rfl, hr'.mono (fun _ _ h => h), hrow'.mono hl'⟩
def needF (y : GInterval) (s : Int) : Bool := y.May && decide (y.First ≥ s) || decide (y.First = s)
theorem needs_a (M : Mem) (y : GInterval) (cs : List Value) (h : RInterval M y cs) (s : Int) : Ans Tryz.prog M 43 #[.agg cs.toArray, .int .i64 s] (.bool (needF y s)) := by
  obtain ⟨A0, c0, rfl, _, s0⟩ := h
  refine ans_of T (l := [.agg (List.toArray _), .int .i64 s]) mixed Tryz.func43 rfl (by kernel_rfl) (Nat.le_of_ble_eq_true rfl) ?_
  unfold needF
  cases q1 : y.May with
  | false =>
    (conv => whnf)
    exact ret_bool (by rw [Bool.eq_iff_iff]; simp)
  | true =>
    (conv => whnf)
    cases q2 : decide (y.First ≥ s) with
    | false =>
      (conv => whnf)
      exact ret_bool (by rw [Bool.eq_iff_iff]; simp)
    | true =>
      (conv => whnf)
      exact ret_bool (by rw [Bool.eq_iff_iff]; simp)
theorem hEnough1_r (M : Mem) (y : GInterval) (cs : List Value) (h : RInterval M y cs) (s : Int) (av : Addr) (hv : M (av.add 0) = some (.int .i64 s)) : AnsR Tryz.prog M 94 #[.agg cs.toArray, .pointer (some av)] (fun _ v => v = .bool (y.First == s)) := by
  obtain ⟨A0, c0, rfl, _, s0⟩ := h
  refine ansRC_of T (l := [.agg (List.toArray _), .pointer (some av)]) mixed Tryz.func94 rfl (by kernel_rfl) (Nat.le_of_ble_eq_true rfl) ?_
  repeat' ((conv => whnf); first | refine LdK.mk _ (by assumption) ?_ | fail)
  exact RetK.mk fun _ _ _ _ => rfl

theorem cfInterval1_r (M : Mem) (l : List GInterval) (A : Option Addr) (c : Nat) (h : SlR M RInterval 4 48 A c l) (f : FuncId) (a : Addr) (p : GInterval → Bool) (Cap : Mem → Prop) (hc0 : Cap M) (hcm : ∀ M1 M2 : Mem, Cap M1 → Le M1 M2 → Cap M2) (hcl : ∀ M1, Cap M1 → ∀ x ∈ l, ∀ cs : List Value, RInterval M1 x cs → AnsR Tryz.prog M1 f #[.agg cs.toArray, .pointer (some a)] (fun _ v => v = .bool (p x))) : AnsR Tryz.prog M 93 #[.slice A l.length c, .func (.func f) #[] #[.pointer (some a)]] (fun _ v => v = .bool (l.any p)) := by
  refine ansR_of T (l := [.slice A l.length c, .func (.func f) #[] #[.pointer (some a)]]) mixed Tryz.func93 rfl (by kernel_rfl) (Nat.le_of_ble_eq_true rfl) ?_
  (conv => whnf)
  refine CallK.mr _ (ixIntervalB_ri1 M l A c h f a p Cap hc0 hcm hcl) (fun v M1 hl1 hv => ?_)
  subst hv
  (conv => whnf)
  exact RetK.mk fun _ _ _ _ => congrArg Value.bool (ixD_any p l)
theorem cfInterval3_r (M : Mem) (l : List GInterval) (A : Option Addr) (c : Nat) (h : SlR M RInterval 4 48 A c l) (f : FuncId) (a b d : Addr) (p : GInterval → Bool) (Cap : Mem → Prop) (hc0 : Cap M) (hcm : ∀ M1 M2 : Mem, Cap M1 → Le M1 M2 → Cap M2) (hcl : ∀ M1, Cap M1 → ∀ x ∈ l, ∀ cs : List Value, RInterval M1 x cs → AnsR Tryz.prog M1 f #[.agg cs.toArray, .pointer (some a), .pointer (some b), .pointer (some d)] (fun _ v => v = .bool (p x))) : AnsR Tryz.prog M 93 #[.slice A l.length c, .func (.func f) #[] #[.pointer (some a), .pointer (some b), .pointer (some d)]] (fun _ v => v = .bool (l.any p)) := by
  refine ansR_of T (l := [.slice A l.length c, .func (.func f) #[] #[.pointer (some a), .pointer (some b), .pointer (some d)]]) mixed Tryz.func93 rfl (by kernel_rfl) (Nat.le_of_ble_eq_true rfl) ?_
  (conv => whnf)
  refine CallK.mr _ (ixIntervalB_ri3 M l A c h f a b d p Cap hc0 hcm hcl) (fun v M1 hl1 hv => ?_)
  subst hv
  (conv => whnf)
  exact RetK.mk fun _ _ _ _ => congrArg Value.bool (ixD_any p l)
def hBad (l : List Int) (k s : Int) (y : GInterval) : Bool := needF y s && decide (((heF y.Acting l).length : Int) < k)
theorem hEnough2_r (M : Mem) (y : GInterval) (cs : List Value) (h : RInterval M y cs) (hy : y.Acting.length ≤ 1000) (l : List Int) (B : Option Addr) (dc : Nat) (hl : SlR M RInt 1 8 B dc l) (k s : Int) (a b d : Addr) (ha : M (a.add 0) = some (.int .i64 s)) (hb : M (b.add 0) = some (.slice B l.length dc)) (hd : M (d.add 0) = some (.int .i64 k)) : AnsR Tryz.prog M 95 #[.agg cs.toArray, .pointer (some a), .pointer (some b), .pointer (some d)] (fun _ v => v = .bool (hBad l k s y)) := by
  have hnd := needs_a M y cs h s
  obtain ⟨A0, c0, rfl, _, s0⟩ := h
  have hho := heardOf_f M y.Acting A0 c0 s0 hy l B dc hl
  refine ansRC_of T (l := [.agg (List.toArray _), .pointer (some a), .pointer (some b), .pointer (some d)]) mixed Tryz.func95 rfl (by kernel_rfl) (Nat.le_of_ble_eq_true rfl) ?_
  unfold hBad
  cases q1 : needF y s with
  | false =>
    rw [q1] at hnd
    (conv => whnf)
    refine DrawN.h {N : Mem // Le M N} (fun _ => [(5, .v (.bool false))]) (fun _ => []) 9 (fun N => N.1) (by kernel_rfl) ?_ ?_
    · repeat' ((conv => whnf); first | refine AndK.mk ?_ ?_ | refine HeldK.mk (by kernel_rfl) ?_ | refine LdK.mk _ (by assumption) ?_ | refine CallK.mk _ hnd ?_ | refine CallQ.mk _ hnd ?_ | fail)
      all_goals exact ⟨⟨_, Le.refl M⟩, ⟨⟨rfl, trivial⟩, trivial, rfl, rfl⟩, rfl⟩
    rintro ⟨N, hN⟩
    (conv => whnf)
    exact RetK.mk fun _ _ _ _ => rfl
  | true =>
    rw [q1] at hnd
    (conv => whnf)
    have hz := Le.refl M
    refine DrawN.h {N : Mem // Le M N} (fun _ => [(5, .v (.bool (decide (((heF y.Acting l).length : Int) < k))))]) (fun _ => []) 9 (fun N => N.1) (by kernel_rfl) ?_ ?_
    · repeat' ((conv => whnf); first | refine AndK.mk ?_ ?_ | refine HeldK.mk (by kernel_rfl) ?_ | refine LdK.mk _ (by assumption) ?_ | refine CallK.mk _ hnd ?_ | refine CallQ.mk _ hnd ?_ | (refine CallK.mr _ hho (fun v M4 hl4 hv => ?_); obtain ⟨A4, c4, d4, rfl, r4, n4⟩ := hv; replace ha := hl4 _ _ ha; replace hb := hl4 _ _ hb; replace hd := hl4 _ _ hd; replace hz := hl4) | fail)
      all_goals exact ⟨⟨_, hz⟩, ⟨⟨rfl, trivial⟩, trivial, rfl, rfl⟩, rfl⟩
    rintro ⟨N, hN⟩
    (conv => whnf)
    exact RetK.mk fun _ _ _ _ => congrArg Value.bool (Bool.true_and _).symm
end Go.Proofs.YtgeofmoojifkmaaGreat.Hlp
