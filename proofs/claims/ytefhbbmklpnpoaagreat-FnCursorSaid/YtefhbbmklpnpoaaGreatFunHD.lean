/- slices.DeleteFunc over heads. -/
import Derived.Test.YtefhbbmklpnpoaaGreatFunHB
namespace Go.Proofs.YtefhbbmklpnpoaaGreat.Hlp
open Go Go.RowKit Go.Proofs Go.Proofs.YtefhbbmklpnpoaaGreat.Lw
set_option linter.unusedVariables false
set_option linter.unusedSimpArgs false
set_option maxRecDepth 100000
set_option maxHeartbeats 4000000
def ixD (p : GHead → Bool) (l : List GHead) : Int := match l.findIdx? p with | some i => (i : Int) | none => -1
theorem ixD_at {p : GHead → Bool} {l : List GHead} {k : Nat} (hk : k < l.length) (h : p l[k] = true) (ha : ∀ (j : Nat) (hj : j < l.length), j < k → p (l[j]'hj) = false) : ixD p l = (k : Int) := by
  unfold ixD
  rw [List.findIdx?_eq_some_iff_getElem.2 ⟨hk, h, fun j hj => by rw [ha j (by omega) hj]; decide⟩]
theorem ixD_none {p : GHead → Bool} {l : List GHead} (ha : ∀ (j : Nat) (hj : j < l.length), p (l[j]'hj) = false) : ixD p l = -1 := by
  unfold ixD
  rw [List.findIdx?_eq_none_iff.2 fun x hx => by obtain ⟨j, hj, rfl⟩ := List.getElem_of_mem hx; exact ha j hj]
theorem ixD_cases (p : GHead → Bool) (l : List GHead) : (ixD p l = -1 ∧ l.filter (fun x => !p x) = l) ∨ ∃ i : Nat, ixD p l = (i : Int) ∧ i < l.length ∧ (l.take (i + 1)).filter (fun x => !p x) = l.take i := by
  unfold ixD
  cases h : l.findIdx? p with
  | none =>
    rw [List.findIdx?_eq_none_iff] at h
    refine .inl ⟨rfl, List.filter_eq_self.2 fun x hx => by rw [h x hx]; rfl⟩
  | some i =>
    obtain ⟨hi, h1, h2⟩ := List.findIdx?_eq_some_iff_getElem.1 h
    refine .inr ⟨i, rfl, hi, ?_⟩
    rw [List.take_succ_eq_append_getElem hi, List.filter_append]
    have h3 : (l.take i).filter (fun x => !p x) = l.take i := List.filter_eq_self.2 fun x hx => by
      obtain ⟨j, hj, rfl⟩ := List.getElem_of_mem hx
      rw [List.length_take] at hj
      rw [List.getElem_take]
      have := h2 j (by omega)
      simpa using this
    rw [h3]
    simp [h1]
theorem ixHead_a (M : Mem) (l : List GHead) (A : Option Addr) (c : Nat) (h : SlR M RHead 5 48 A c l) (f : FuncId) (a : Addr) (p : GHead → Bool) (hcl : ∀ x : GHead, Ans Tryz.prog M f #[.agg #[.string x.Name, .int .i64 x.Ver.Epoch, .int .i64 x.Ver.Seq, .int .i64 x.Size, .int .i64 x.Sum], .pointer (some a)] (.bool (p x))) : Ans Tryz.prog M 133 #[.slice A l.length c, .func (.func f) #[] #[.pointer (some a)]] (.int .i64 (ixD p l)) := by
  have hl := h.len
  refine ans_of T (l := [.slice A l.length c, .func (.func f) #[] #[.pointer (some a)]]) mixed Tryz.func133 rfl (by kernel_rfl) (Nat.le_of_ble_eq_true rfl) ?_
  (conv => whnf)
  refine LoopK.mk {k : Nat // k ≤ l.length ∧ ∀ (j : Nat) (hj : j < l.length), j < k → p (l[j]'hj) = false} (fun ⟨k, _⟩ => [(0, .v (.slice A l.length c)), (1, .v (.func (.func f) #[] #[.pointer (some a)])), (7, .v (.int .i64 (l.length : Int))), (8, .v (.int .i64 (k : Int)))]) (fun _ => []) (fun _ => M) (fun k => l.length - k.1) ⟨0, Nat.zero_le _, fun j _ hj => absurd hj (by omega)⟩ ⟨⟨⟨rfl, rfl, rfl, rfl, trivial⟩, trivial, rfl, rfl⟩, rfl⟩ ?_
  rintro ⟨k, hk, hp⟩
  (conv => whnf)
  refine CondK.mk (fun h1 => ?_) (fun h1 => ?_)
  · have hlt : k < l.length := by simpa using h1
    obtain ⟨ad, rfl, bnx, x0, x1, x2, x3, x4⟩ := at_Head h (List.getElem?_eq_getElem hlt)
    repeat' ((conv => whnf); first | with_reducible refine CondK.tt ?_ | with_reducible refine CondK.ff ?_ | refine IdxK.mk _ rfl (by omega) (by omega) ?_ | refine LdK.mk _ (by assumption) ?_ | refine CallK.mk _ (hcl l[k]) ?_ | refine CondK.mk (fun hc => ?_) (fun hc => ?_) | fail)
    all_goals first
      | (show _ = _
         rw [ixD_at hlt hc hp]
         rfl)
      | exact ⟨⟨k + 1, hlt, fun j hj hj' => by rcases Nat.lt_succ_iff_lt_or_eq.mp hj' with hj' | rfl; exact hp j hj hj'; exact hc⟩, ⟨⟨rfl, rfl, rfl, look_int (i64_succ (by omega)), trivial⟩, trivial, rfl, rfl⟩, rfl, by simp; omega⟩
  · have he : k = l.length := by have : ¬ k < l.length := by simpa using h1
                                 omega
    subst he
    rw [ixD_none fun j hj => hp j hj hj]
    exact rfl
theorem delFHead_g (M : Mem) (ad : Addr) (cap : Nat) (l : List GHead) (ds : List Value) (h : RowC M ad 5 l.length cap ds) (hr : RowR M RHead 5 l ds) (hn : l.length ≤ 1000) (f : FuncId) (a : Addr) (p : GHead → Bool) (Cap : Mem → Prop) (hc0 : Cap M)
    (hcap : ∀ M1 M2 : Mem, Cap M1 → (∀ b : Addr, b.block ≠ ad.block → M2 b = M1 b) → Cap M2) (hcm : ∀ M1 M2 : Mem, Cap M1 → Le M1 M2 → Cap M2) (hcl : ∀ M1, Cap M1 → ∀ x : GHead, Ans Tryz.prog M1 f #[.agg #[.string x.Name, .int .i64 x.Ver.Epoch, .int .i64 x.Ver.Seq, .int .i64 x.Size, .int .i64 x.Sum], .pointer (some a)] (.bool (p x))) :
    AnsG Tryz.prog M 93 #[.slice (some ad) l.length cap, .func (.func f) #[] #[.pointer (some a)]] (fun v M' => ∃ ds', v = .slice (some ad) (l.filter (fun x => !p x)).length cap ∧ RowC M' ad 5 (l.filter (fun x => !p x)).length cap ds' ∧ RowR M' RHead 5 (l.filter (fun x => !p x)) ds' ∧ Cap M') := by
  have hcapl := h.le
  have hsl : SlR M RHead 5 48 (some ad) cap l := h.sl hr (fun _ _ h => h) (by omega)
  refine ansG_of T (l := [.slice (some ad) l.length cap, .func (.func f) #[] #[.pointer (some a)]]) mixed Tryz.func93 rfl (by kernel_rfl) (Nat.le_of_ble_eq_true rfl) ?_
  (conv => whnf)
  refine CallK.mk _ (ixHead_a M l _ cap hsl f a p (hcl M hc0)) ?_
  (conv => whnf)
  rcases ixD_cases p l with ⟨hi, hall⟩ | ⟨i, hi, hil, hfl⟩
  · rw [hi, hall]
    (conv => whnf)
    exact RetK.mk fun g M' hl hg => ⟨ds, rfl, h.mono hl, hr.mono (fun _ _ h => h), hcm _ _ hc0 hl⟩
  rw [hi]
  (conv => whnf)
  refine LoopK.mk {q : (Nat × Nat × List GHead × List Value) × Mem // q.1.1 < q.1.2.1 ∧ q.1.2.1 ≤ l.length ∧ q.1.2.2.1.length = l.length ∧ q.1.2.2.1.take q.1.1 = (l.take q.1.2.1).filter (fun x => !p x) ∧ q.1.2.2.1.drop q.1.2.1 = l.drop q.1.2.1 ∧ RowC q.2 ad 5 l.length cap q.1.2.2.2 ∧ RowR M RHead 5 q.1.2.2.1 q.1.2.2.2 ∧ Cap q.2 ∧ (∀ x u, q.2 x = some u → ∃ u0, M x = some u0)} (fun ⟨⟨⟨i, j, _, _⟩, _⟩, _⟩ => [(0, .v (.slice (some ad) l.length cap)), (1, .v (.func (.func f) #[] #[.pointer (some a)])), (5, .v (.int .i64 (i : Int))), (6, .v (.int .i64 (j : Int)))]) (fun _ => []) (fun q => q.1.2) (fun q => l.length - q.1.1.2.1) ⟨((i, i + 1, l, ds), M), by simp only; omega, by simp only; omega, rfl, hfl.symm, rfl, h, hr, hc0, fun x u hu => ⟨u, hu⟩⟩ ⟨⟨⟨rfl, rfl, rfl, look_int (i64_succ (by omega)), trivial⟩, trivial, rfl, rfl⟩, rfl⟩ ?_
  rintro ⟨⟨⟨i, j, L, dl⟩, N⟩, hij, hjl, hLl, hLt, hLd, hrow, hrl, hcN, hdm⟩
  simp only at hij hjl hLl hLt hLd hrow hrl hcN hdm
  have hrlen := hrow.len
  (conv => whnf)
  refine CondK.mk (fun h1 => ?_) (fun h1 => ?_)
  · have hlt : j < l.length := by simpa using h1
    obtain ⟨y, hyk⟩ : ∃ y, l[j] = y := ⟨_, rfl⟩
    have hyL : L[j]? = some y := by
      have : (L.drop j)[0]? = (l.drop j)[0]? := by rw [hLd]
      rw [List.getElem?_drop, List.getElem?_drop] at this
      rw [show j + 0 = j by omega] at this
      rw [this, List.getElem?_eq_getElem hlt, hyk]
    have hsN : SlR N RHead 5 48 (some ad) cap L := (hrow.eq hLl.symm rfl).sl hrl (fun _ _ h => h) (by omega)
    obtain ⟨ad1, hae, bny, y0, y1, y2, y3, y4⟩ := at_Head hsN hyL
    cases hae
    have hft : (l.take (j + 1)).filter (fun x => !p x) = (l.take j).filter (fun x => !p x) ++ (if p y = true then [] else [y]) := by
      rw [List.take_succ_eq_append_getElem hlt, List.filter_append, hyk]
      congr 1
      cases hp : p y <;> simp [hp]
    have hld : L.drop (j + 1) = l.drop (j + 1) := by
      have := congrArg (List.drop 1) hLd
      rwa [List.drop_drop, List.drop_drop] at this
    cases hp : p y with
    | true =>
      rw [hp, if_pos rfl, List.append_nil] at hft
      repeat' ((conv => whnf); first | with_reducible refine CondK.tt ?_ | with_reducible refine CondK.ff ?_ | refine IdxK.mk _ rfl (by omega) (by omega) ?_ | refine LdK.mk _ (by assumption) ?_ | refine CallK.mk (.bool true) (hp ▸ hcl N hcN y) ?_ | fail)
      exact ⟨⟨((i, j + 1, L, dl), N), by simp only; omega, hlt, hLl, by simp only; rw [hft]; exact hLt, hld, hrow, hrl, hcN, hdm⟩, ⟨⟨rfl, rfl, rfl, look_int (i64_succ (by omega)), trivial⟩, trivial, rfl, rfl⟩, rfl, by simp only; omega⟩
    | false =>
      rw [hp, if_neg (by decide)] at hft
      repeat' ((conv => whnf); first | with_reducible refine CondK.tt ?_ | with_reducible refine CondK.ff ?_ | refine IdxK.mk _ rfl (by omega) (by omega) ?_ | refine LdK.mk _ (by assumption) ?_ | refine CallK.mk (.bool false) (hp ▸ hcl N hcN y) ?_ | fail)
      (conv => whnf)
      refine WrL.mk rfl (fun o ho => ?_) (fun _ _ => rfl) rfl (fun N' j1 j2 => ?_)
      · replace ho : o < 5 := ho
        obtain ⟨u, hu⟩ := hrow.room (i * 5 + o) (by omega)
        show (N ((ad.add (i * 5)).add o)).isSome = true
        rw [add_add, hu]; rfl
      (conv => whnf)
      have htl : (dl.take (i * 5)).length = i * 5 := by rw [List.length_take, hrlen]; omega
      have hvo : RowR M RHead 5 [y] [.string y.Name, .int .i64 y.Ver.Epoch, .int .i64 y.Ver.Seq, .int .i64 y.Size, .int .i64 y.Sum] := RowR.one ⟨rfl, bny⟩ rfl rfl
      have hLi : (L.take i).length = i := by rw [List.length_take]; omega
      refine ⟨⟨((i + 1, j + 1, L.take i ++ ([y] ++ L.drop (i + 1)), dl.take (i * 5) ++ ([.string y.Name, .int .i64 y.Ver.Epoch, .int .i64 y.Ver.Seq, .int .i64 y.Size, .int .i64 y.Sum] ++ dl.drop ((i + 1) * 5))), N'), by simp only; omega, hlt, ?_, ?_, ?_, ?_, (RowR.take hrl i).app (hvo.app (RowR.drop hrl (i + 1))), ?_, ?_⟩, ⟨⟨rfl, rfl, look_int (i64_succ (by omega)), look_int (i64_succ (by omega)), trivial⟩, trivial, rfl, rfl⟩, rfl, by simp only; omega⟩
      · simp only [List.length_append, List.length_take, List.length_drop, List.length_cons, List.length_nil]; omega
      · show (L.take i ++ ([y] ++ L.drop (i + 1))).take (i + 1) = _
        rw [hft, ← hLt, List.take_append, hLi, List.take_of_length_le (by omega), show i + 1 - i = 1 by omega]
        rfl
      · show (L.take i ++ ([y] ++ L.drop (i + 1))).drop (j + 1) = _
        rw [← hld, List.drop_append, hLi, List.drop_eq_nil_of_le (by omega), List.nil_append, List.drop_append, List.drop_eq_nil_of_le (by simp; omega), List.nil_append, List.drop_drop]
        congr 1
        simp
        omega
      · refine hrow.wr (q := i * 5) (vs := [.string y.Name, .int .i64 y.Ver.Epoch, .int .i64 y.Ver.Seq, .int .i64 y.Size, .int .i64 y.Sum]) j1 j2 (by simp only [List.length_append, List.length_take, List.length_drop, hrlen, List.length_cons, List.length_nil]; omega) hcapl (fun o u hu => ?_)
        rcases Nat.lt_or_ge o (i * 5) with h2 | h2
        · rw [List.getElem?_append_left (by omega), List.getElem?_take, if_pos h2] at hu
          exact .inr ⟨.inl h2, hrow.el o u hu⟩
        · rw [List.getElem?_append_right (by omega), htl] at hu
          rcases Nat.lt_or_ge (o - i * 5) 5 with h3 | h3
          · rw [List.getElem?_append_left (by simpa using h3)] at hu
            exact .inl ⟨h2, hu⟩
          · rw [List.getElem?_append_right (by simpa using h3), List.getElem?_drop] at hu
            refine .inr ⟨.inr (by simp; omega), hrow.el o u ?_⟩
            simp only [List.length_cons, List.length_nil] at hu
            rw [show (i + 1) * 5 + (o - i * 5 - 5) = o by omega] at hu
            exact hu
      · exact hcap N N' hcN fun b hb => j2 b fun o ho he => hb (by rw [he]; show ((ad.add (i * 5)).add o).block = _; rw [add_block, add_block])
      · intro x u hu
        by_cases hx : ∃ o, o < 5 ∧ x = (ad.add (i * 5)).add o
        · obtain ⟨o, ho, rfl⟩ := hx
          rw [add_add]
          obtain ⟨u1, hu1⟩ := h.room (i * 5 + o) (by omega)
          exact ⟨u1, hu1⟩
        · exact hdm x u ((j2 x fun o ho he => hx ⟨o, ho, he⟩).symm.trans hu)
  · have he : j = l.length := by have : ¬ j < l.length := by simpa using h1
                                 omega
    subst he
    rw [List.take_length] at hLt
    have hfl2 : (l.filter (fun x => !p x)).length = i := by rw [← hLt, List.length_take]; omega
    (conv => whnf)
    refine SlN.mk i l.length (some (ad.add (i * 5))) ((l.length - i - 1) + 1) (cap - i) rfl rfl (by omega) (by omega) (by rw [if_neg (by omega)]; rfl) (by omega) rfl ?_
    (conv => whnf)
    have hzl : (List.replicate ((l.length - i - 1) + 1) ([.string ⟨#[]⟩, .int .i64 0, .int .i64 0, .int .i64 0, .int .i64 0] : List Value)).flatten.length = ((l.length - i - 1) + 1) * 5 := flatten_len rfl _
    refine WrL.mk rfl (fun o ho => ?_) (fun _ _ => rfl) (allOne_flat fun c hc => by rw [List.eq_of_mem_replicate hc]; rfl) (fun N' j1 j2 => ?_)
    · replace ho : o < ((l.length - i - 1) + 1) * 5 := by rw [← hzl]; exact ho
      obtain ⟨u, hu⟩ := hrow.room (i * 5 + o) (by omega)
      show (N ((ad.add (i * 5)).add o)).isSome = true
      rw [add_add, hu]; rfl
    (conv => whnf)
    refine SlN.mk 0 i (some ad) i cap rfl rfl (by omega) (by omega) (by rw [if_neg (by omega)]; simp [add0]) (by omega) (by omega) ?_
    (conv => whnf)
    refine RetK.mk fun g M' hl hg => ⟨dl.take (i * 5), slice_eq hfl2.symm, RowC.mono ?_ hl, ?_, hcm _ _ (hcap N N' hcN fun b hb => j2 b fun o ho he => hb (by rw [he]; show ((ad.add (i * 5)).add o).block = _; rw [add_block, add_block])) hl⟩
    · rw [hfl2]
      refine hrow.wr (q := i * 5) j1 j2 (by rw [List.length_take, hrlen]; omega) (by omega) (fun o u hu => ?_)
      rw [List.getElem?_take] at hu
      split at hu
      · rename_i h2; exact .inr ⟨.inl h2, hrow.el o u hu⟩
      · cases hu
    · rw [← hLt]
      exact (RowR.take hrl i).mono (fun _ _ h => h)
theorem delFHead_0 (M : Mem) (A : Option Addr) (cap : Nat) (f : FuncId) (a : Addr) (p : GHead → Bool) (hcl : ∀ x : GHead, Ans Tryz.prog M f #[.agg #[.string x.Name, .int .i64 x.Ver.Epoch, .int .i64 x.Ver.Seq, .int .i64 x.Size, .int .i64 x.Sum], .pointer (some a)] (.bool (p x))) : Ans Tryz.prog M 93 #[.slice A 0 cap, .func (.func f) #[] #[.pointer (some a)]] (.slice A 0 cap) := by
  refine ans_of T (l := [.slice A 0 cap, .func (.func f) #[] #[.pointer (some a)]]) mixed Tryz.func93 rfl (by kernel_rfl) (Nat.le_of_ble_eq_true rfl) ?_
  (conv => whnf)
  refine CallK.mk _ (ixHead_a M [] A cap ⟨Nat.zero_le _, Nat.zero_le _, fun i x hx => by simp at hx⟩ f a p hcl) ?_
  (conv => whnf)
  exact rfl
theorem delFHead_k {wr : Bool} {M N : Mem} {A : Option Addr} {cap : Nat} {l : List GHead} {ds : List Value} {K : Value → Mem → Prop} (hw : wr = true) (h : RowN M N 5 A l.length cap ds) (hr : RowR M RHead 5 l ds) (hMN : Le M N) (hn : l.length ≤ 1000) (f : FuncId) (a : Addr) (p : GHead → Bool) (vs : List Value) (hvs : ∀ o u, vs[o]? = some u → N (a.add o) = some u) (hfa : ∀ b u, M b = some u → b.block ≠ a.block) (hda : ∀ ad, A = some ad → 0 < l.length → ad.block ≠ a.block)
    (hcl : ∀ M1 : Mem, (∀ o u, vs[o]? = some u → M1 (a.add o) = some u) → ∀ x : GHead, Ans Tryz.prog M1 f #[.agg #[.string x.Name, .int .i64 x.Ver.Epoch, .int .i64 x.Ver.Seq, .int .i64 x.Size, .int .i64 x.Sum], .pointer (some a)] (.bool (p x)))
    (k : ∀ N' ds', Le M N' → RowN M N' 5 A (l.filter (fun x => !p x)).length cap ds' → RowR M RHead 5 (l.filter (fun x => !p x)) ds' → (∀ o u, vs[o]? = some u → N' (a.add o) = some u) → K (.slice A (l.filter (fun x => !p x)).length cap) N') : CallK Tryz.prog wr M N 93 #[.slice A l.length cap, .func (.func f) #[] #[.pointer (some a)]] K := by
  rcases h with ⟨rfl, h1, h2, h3⟩ | ⟨ad, rfl, hrow, hf⟩
  · subst h2 h3
    have hl0 : l = [] := List.eq_nil_of_length_eq_zero h1
    subst hl0
    exact CallK.mk _ (delFHead_0 N none 0 f a p (hcl N hvs)) (k N [] hMN (.inl ⟨rfl, rfl, rfl, rfl⟩) hr hvs)
  rcases Nat.eq_zero_or_pos l.length with hz | hz
  · have hl0 : l = [] := List.eq_nil_of_length_eq_zero hz
    subst hl0
    exact CallK.mk _ (delFHead_0 N (some ad) cap f a p (hcl N hvs)) (k N ds hMN (.inr ⟨ad, rfl, hrow, hf⟩) hr hvs)
  have hdb := hda ad rfl hz
  refine CallK.mg (bk N ad.block a.block) _ hw (delFHead_g _ ad cap l ds (hrow.bk (.inl rfl)) (hr.mono (fun _ _ h => h)) hn f a p (fun M1 => ∀ o u, vs[o]? = some u → M1 (a.add o) = some u) (fun o u hu => bk_of (by rw [add_block]; exact .inr rfl) (hvs o u hu)) (fun M1 M2 h1 h2 o u hu => by rw [h2 _ (by rw [add_block]; exact hdb.symm)]; exact h1 o u hu) (fun M1 M2 h1 h2 o u hu => h2 _ _ (h1 o u hu)) hcl) (bk_le _ _ _) (fun b u hu => ?_) (bk_hd _ _ _) (fun v Mx M' hv hl hkeep hdom hnew => ?_)
  · cases hm : M b with
    | none => rfl
    | some w =>
      obtain ⟨hb, _⟩ := bk_at hu
      rcases hb with hb | hb
      · exact absurd hb (hf b w hm)
      · exact absurd hb (hfa b w hm)
  obtain ⟨ds', rfl, hrow', hr', hcp⟩ := hv
  refine k M' ds' (fun b u hu => hkeep b u ?_ (hMN b u hu)) (.inr ⟨ad, rfl, hrow'.mono hl, hf⟩) (hr'.mono (fun _ _ h => h)) (fun o u hu => hl _ _ (hcp o u hu))
  cases hm : bk N ad.block a.block b with
  | none => rfl
  | some w =>
    obtain ⟨hb, _⟩ := bk_at hm
    rcases hb with hb | hb
    · exact absurd hb (hf b u hu)
    · exact absurd hb (hfa b u hu)
end Go.Proofs.YtefhbbmklpnpoaaGreat.Hlp
