/- slices.DeleteFunc over Int with a closure that reads what is known. -/
import Derived.Test.YtgeofmoojifkmaaGreatFunDN1
namespace Go.Proofs.YtgeofmoojifkmaaGreat.Hlp
open Go Go.RowKit Go.Proofs Go.Proofs.YtgeofmoojifkmaaGreat.Lw
set_option linter.unusedVariables false
set_option linter.unusedSimpArgs false
set_option maxRecDepth 100000
set_option maxHeartbeats 4000000
theorem row_atI {N Mb : Mem} {ad : Addr} {n cap : Nat} {L : List Int} {dl : List Value} (hrow : RowC N ad 1 n cap dl) (hrl : RowR Mb RInt 1 L dl) {j : Nat} {y : Int} (hy : L[j]? = some y) : ∃ cs, RInt Mb y cs ∧ ∀ k u, cs[k]? = some u → N ((ad.add (j * 1)).add k) = some u := by
  obtain ⟨css, rfl, h1, h2, h3⟩ := hrl.ex
  obtain ⟨cs, g1, g2⟩ := h3 j y hy
  exact ⟨cs, g2, fun k u hu => by rw [add_add]; exact hrow.el _ u (flat_get (fun c hc => (h2 c hc).1) g1 hu)⟩
theorem ixIntB_rI (M : Mem) (l : List Int) (A : Option Addr) (c : Nat) (h : SlR M RInt 1 8 A c l) (f : FuncId) (a : Addr) (p : Int → Bool) (Cap : Mem → Prop) (hc0 : Cap M) (hcm : ∀ M1 M2 : Mem, Cap M1 → Le M1 M2 → Cap M2) (hcl : ∀ M1, Cap M1 → ∀ x ∈ l, AnsR Tryz.prog M1 f #[.int .i64 x, .pointer (some a)] (fun _ v => v = .bool (p x))) : AnsR Tryz.prog M 119 #[.slice A l.length c, .func (.func f) #[] #[.pointer (some a)]] (fun _ v => v = .int .i64 (ixD p l)) := by
  have hl := h.len
  refine ansR_of T (l := [.slice A l.length c, .func (.func f) #[] #[.pointer (some a)]]) mixed Tryz.func119 rfl (by kernel_rfl) (Nat.le_of_ble_eq_true rfl) ?_
  (conv => whnf)
  refine LoopK.mk {q : Nat × Mem // q.1 ≤ l.length ∧ (∀ (j : Nat) (hj : j < l.length), j < q.1 → p (l[j]'hj) = false) ∧ Le M q.2} (fun ⟨⟨k, _⟩, _⟩ => [(0, .v (.slice A l.length c)), (1, .v (.func (.func f) #[] #[.pointer (some a)])), (7, .v (.int .i64 (l.length : Int))), (8, .v (.int .i64 (k : Int)))]) (fun _ => []) (fun q => q.1.2) (fun k => l.length - k.1.1) ⟨(0, M), Nat.zero_le _, fun j _ hj => absurd hj (by simp only; omega), Le.refl M⟩ ⟨⟨⟨rfl, rfl, rfl, rfl, trivial⟩, trivial, rfl, rfl⟩, rfl⟩ ?_
  rintro ⟨⟨k, N⟩, hk, hp, hle⟩
  simp only at hk hp hle
  (conv => whnf)
  refine CondK.mk (fun h1 => ?_) (fun h1 => ?_)
  · have hlt : k < l.length := by simpa using h1
    obtain ⟨y, hyk⟩ : ∃ y, l[k] = y := ⟨_, rfl⟩
    have hy : l[k]? = some y := by rw [List.getElem?_eq_getElem hlt, hyk]
    obtain ⟨ad, rfl, bny, y0⟩ := at_Int (h.mono hle (RInt.mono hle)) hy
    repeat' ((conv => whnf); first | with_reducible refine CondK.tt ?_ | with_reducible refine CondK.ff ?_ | refine IdxK.mk _ rfl (by omega) (by omega) ?_ | refine LdK.mk _ (by assumption) ?_ | (refine CallK.mr _ (hcl N (hcm _ _ hc0 hle) y (List.mem_of_getElem? hy)) (fun v M3 hl3 hv => ?_); subst hv) | refine CondK.mk (fun hc => ?_) (fun hc => ?_) | fail)
    all_goals first
      | exact RetK.mk fun _ _ _ _ => by rw [ixD_at hlt (by rw [hyk]; exact hc) hp]; rfl
      | exact ⟨⟨(k + 1, M3), hlt, fun j hj hj' => by rcases Nat.lt_succ_iff_lt_or_eq.mp hj' with hj' | rfl; exact hp j hj hj'; rw [hyk]; exact hc, hle.trans hl3⟩, ⟨⟨rfl, rfl, rfl, look_int (i64_succ (by omega)), trivial⟩, trivial, rfl, rfl⟩, rfl, by simp only; omega⟩
  · have he : k = l.length := by have : ¬ k < l.length := by simpa using h1
                                 omega
    subst he
    rw [ixD_none fun j hj => hp j hj hj]
    exact RetK.mk fun _ _ _ _ => rfl
theorem delIntB_gI (Mb M : Mem) (ad : Addr) (cap : Nat) (l : List Int) (ds : List Value) (h : RowC M ad 1 l.length cap ds) (hr : RowR Mb RInt 1 l ds) (hn : l.length ≤ 1000) (hs : Le Mb M) (hone : ∀ a u, M a = some u → Mb a = none → a.block = ad.block) (hfree : ∀ a u, Mb a = some u → a.block ≠ ad.block) (f : FuncId) (a : Addr) (p : Int → Bool)
    (hcl : ∀ M1, Le Mb M1 → ∀ x ∈ l, AnsR Tryz.prog M1 f #[.int .i64 x, .pointer (some a)] (fun _ v => v = .bool (p x))) :
    AnsB Tryz.prog Mb M 76 #[.slice (some ad) l.length cap, .func (.func f) #[] #[.pointer (some a)]] (fun v M' => ∃ ds', v = .slice (some ad) (l.filter (fun x => !p x)).length cap ∧ RowC M' ad 1 (l.filter (fun x => !p x)).length cap ds' ∧ RowR Mb RInt 1 (l.filter (fun x => !p x)) ds') := by
  have hcapl := h.le
  have hsl : SlR M RInt 1 8 (some ad) cap l := h.sl hr (fun _ _ h => RInt.mono hs _ _ h) (by omega)
  have hno : ∀ o, Mb (ad.add o) = none := fun o => by
    cases hm : Mb (ad.add o) with
    | none => rfl
    | some w => exact absurd (add_block _ _) (hfree _ w hm)
  refine ansB_of T (l := [.slice (some ad) l.length cap, .func (.func f) #[] #[.pointer (some a)]]) mixed Tryz.func76 rfl (by kernel_rfl) (Nat.le_of_ble_eq_true rfl) hs (fun a u a' u' g1 g2 g3 => by rw [hone a u g1 g2]; exact fun he => hfree a' u' g3 he.symm) ?_
  (conv => whnf)
  refine CallK.mr _ (ixIntB_rI M l _ cap hsl f a p (Le Mb) hs (fun _ _ h1 h2 => h1.trans h2) hcl) (fun v M0 hl0 hv => ?_)
  subst hv
  (conv => whnf)
  rcases ixD_cases p l with ⟨hi, hall⟩ | ⟨i, hi, hil, hfl⟩
  · rw [hi, hall]
    (conv => whnf)
    exact RetK.mk fun g M' hl hg => ⟨ds, rfl, h.mono (hl0.trans hl), hr.mono (fun _ _ h => h)⟩
  rw [hi]
  (conv => whnf)
  refine LoopK.mk {q : (Nat × Nat × List Int × List Value) × Mem // q.1.1 < q.1.2.1 ∧ q.1.2.1 ≤ l.length ∧ q.1.2.2.1.length = l.length ∧ q.1.2.2.1.take q.1.1 = (l.take q.1.2.1).filter (fun x => !p x) ∧ q.1.2.2.1.drop q.1.2.1 = l.drop q.1.2.1 ∧ RowC q.2 ad 1 l.length cap q.1.2.2.2 ∧ RowR Mb RInt 1 q.1.2.2.1 q.1.2.2.2 ∧ Le Mb q.2} (fun ⟨⟨⟨i, j, _, _⟩, _⟩, _⟩ => [(0, .v (.slice (some ad) l.length cap)), (1, .v (.func (.func f) #[] #[.pointer (some a)])), (5, .v (.int .i64 (i : Int))), (6, .v (.int .i64 (j : Int)))]) (fun _ => []) (fun q => q.1.2) (fun q => l.length - q.1.1.2.1) ⟨((i, i + 1, l, ds), M0), by simp only; omega, by simp only; omega, rfl, hfl.symm, rfl, h.mono hl0, hr, hs.trans hl0⟩ ⟨⟨⟨rfl, rfl, rfl, look_int (i64_succ (by omega)), trivial⟩, trivial, rfl, rfl⟩, rfl⟩ ?_
  rintro ⟨⟨⟨i, j, L, dl⟩, N⟩, hij, hjl, hLl, hLt, hLd, hrow, hrl, hcN⟩
  simp only at hij hjl hLl hLt hLd hrow hrl hcN
  have hrlen := hrow.len
  (conv => whnf)
  refine CondK.mk (fun h1 => ?_) (fun h1 => ?_)
  · have hlt : j < l.length := by simpa using h1
    obtain ⟨y, hyk⟩ : ∃ y, l[j] = y := ⟨_, rfl⟩
    have hyL : L[j]? = some y := by
      have : (L.drop j)[0]? = (l.drop j)[0]? := by rw [hLd]
      rw [List.getElem?_drop, List.getElem?_drop] at this
      rw [show j + 0 = j by omega] at this
      rw [this, List.getElem?_eq_getElem hlt, hyk]
    obtain ⟨cs0, hRy0, hrk⟩ := row_atI hrow hrl hyL
    have hRy := hRy0
    obtain rfl := hRy0
    have y0 := hrk 0 _ rfl
    have hft : (l.take (j + 1)).filter (fun x => !p x) = (l.take j).filter (fun x => !p x) ++ (if p y = true then [] else [y]) := by
      rw [List.take_succ_eq_append_getElem hlt, List.filter_append, hyk]
      congr 1
      cases hp : p y <;> simp [hp]
    have hld : L.drop (j + 1) = l.drop (j + 1) := by
      have := congrArg (List.drop 1) hLd
      rwa [List.drop_drop, List.drop_drop] at this
    have hcy := hcl N hcN y (hyk ▸ List.getElem_mem hlt)
    cases hp : p y with
    | true =>
      rw [hp] at hcy
      rw [hp, if_pos rfl, List.append_nil] at hft
      repeat' ((conv => whnf); first | with_reducible refine CondK.tt ?_ | with_reducible refine CondK.ff ?_ | refine IdxK.mk _ rfl (by omega) (by omega) ?_ | refine LdK.mk _ (by assumption) ?_ | (refine CallK.mr _ hcy (fun v M3 hl3 hv => ?_); subst hv) | fail)
      exact ⟨⟨((i, j + 1, L, dl), M3), by simp only; omega, hlt, hLl, by simp only; rw [hft]; exact hLt, hld, hrow.mono hl3, hrl, hcN.trans hl3⟩, ⟨⟨rfl, rfl, rfl, look_int (i64_succ (by omega)), trivial⟩, trivial, rfl, rfl⟩, rfl, by simp only; omega⟩
    | false =>
      rw [hp] at hcy
      rw [hp, if_neg (by decide)] at hft
      repeat' ((conv => whnf); first | with_reducible refine CondK.tt ?_ | with_reducible refine CondK.ff ?_ | refine IdxK.mk _ rfl (by omega) (by omega) ?_ | refine LdK.mk _ (by assumption) ?_ | (refine CallK.mr _ hcy (fun v M3 hl3 hv => ?_); subst hv) | fail)
      (conv => whnf)
      replace hrow := hrow.mono hl3
      refine WrK.mk rfl (by obtain ⟨u, hu⟩ := hrow.room (i * 1) (by omega); show (M3 (ad.add (i * 1))).isSome = true; rw [hu]; rfl) (hno _) (fun N' w1 w2 => ?_)
      have j1 : ∀ o u, ([Value.int .i64 y] : List Value)[o]? = some u → N' ((ad.add (i * 1)).add o) = some u := fun o u hu => by
        cases o with
        | zero => simp at hu; subst hu; rw [add0]; exact w1
        | succ o => simp at hu
      have j2 : ∀ a, (∀ o, o < ([Value.int .i64 y] : List Value).length → a ≠ (ad.add (i * 1)).add o) → N' a = M3 a := fun a ha => w2 a (by have := ha 0 (by simp); rwa [add0] at this)
      (conv => whnf)
      have htl : (dl.take (i * 1)).length = i * 1 := by rw [List.length_take, hrlen]; omega
      have hvo : RowR Mb RInt 1 [y] [.int .i64 y] := RowR.one hRy rfl rfl
      have hLi : (L.take i).length = i := by rw [List.length_take]; omega
      refine ⟨⟨((i + 1, j + 1, L.take i ++ ([y] ++ L.drop (i + 1)), dl.take (i * 1) ++ ([.int .i64 y] ++ dl.drop ((i + 1) * 1))), N'), by simp only; omega, hlt, ?_, ?_, ?_, ?_, (RowR.take hrl i).app (hvo.app (RowR.drop hrl (i + 1))), ?_⟩, ⟨⟨rfl, rfl, look_int (i64_succ (by omega)), look_int (i64_succ (by omega)), trivial⟩, trivial, rfl, rfl⟩, rfl, by simp only; omega⟩
      · simp only [List.length_append, List.length_take, List.length_drop, List.length_cons, List.length_nil]; omega
      · show (L.take i ++ ([y] ++ L.drop (i + 1))).take (i + 1) = _
        rw [hft, ← hLt, List.take_append, hLi, List.take_of_length_le (by omega), show i + 1 - i = 1 by omega]
        rfl
      · show (L.take i ++ ([y] ++ L.drop (i + 1))).drop (j + 1) = _
        rw [← hld, List.drop_append, hLi, List.drop_eq_nil_of_le (by omega), List.nil_append, List.drop_append, List.drop_eq_nil_of_le (by simp; omega), List.nil_append, List.drop_drop]
        congr 1
        simp
        omega
      · refine hrow.wr (q := i * 1) (vs := [.int .i64 y]) j1 j2 (by simp only [List.length_append, List.length_take, List.length_drop, hrlen, List.length_cons, List.length_nil]; omega) hcapl (fun o u hu => ?_)
        rcases Nat.lt_or_ge o (i * 1) with h2 | h2
        · rw [List.getElem?_append_left (by omega), List.getElem?_take, if_pos h2] at hu
          exact .inr ⟨.inl h2, hrow.el o u hu⟩
        · rw [List.getElem?_append_right (by omega), htl] at hu
          rcases Nat.lt_or_ge (o - i * 1) 1 with h3 | h3
          · rw [List.getElem?_append_left (by simpa using h3)] at hu
            exact .inl ⟨h2, hu⟩
          · rw [List.getElem?_append_right (by simpa using h3), List.getElem?_drop] at hu
            refine .inr ⟨.inr (by simp; omega), hrow.el o u ?_⟩
            simp only [List.length_cons, List.length_nil] at hu
            rw [show (i + 1) * 1 + (o - i * 1 - 1) = o by omega] at hu
            exact hu
      · intro x u hu
        show N' x = some u
        rw [j2 x fun o ho he => hfree x u hu (by rw [he]; show ((ad.add (i * 1)).add o).block = _; rw [add_block, add_block])]
        exact hl3 x u (hcN x u hu)
  · have he : j = l.length := by have : ¬ j < l.length := by simpa using h1
                                 omega
    subst he
    rw [List.take_length] at hLt
    have hfl2 : (l.filter (fun x => !p x)).length = i := by rw [← hLt, List.length_take]; omega
    (conv => whnf)
    refine SlN.mk i l.length (some (ad.add (i * 1))) ((l.length - i - 1) + 1) (cap - i) rfl rfl (by omega) (by omega) (by rw [if_neg (by omega)]; rfl) (by omega) rfl ?_
    (conv => whnf)
    have hzl : (List.replicate ((l.length - i - 1) + 1) ([.int .i64 0] : List Value)).flatten.length = ((l.length - i - 1) + 1) * 1 := flatten_len rfl _
    refine WrL.mk rfl (fun o ho => ?_) (fun o ho => ?_) (allOne_flat fun c hc => by rw [List.eq_of_mem_replicate hc]; rfl) (fun N' j1 j2 => ?_)
    · replace ho : o < ((l.length - i - 1) + 1) * 1 := by rw [← hzl]; exact ho
      obtain ⟨u, hu⟩ := hrow.room (i * 1 + o) (by omega)
      show (N ((ad.add (i * 1)).add o)).isSome = true
      rw [add_add, hu]; rfl
    · show Mb ((ad.add (i * 1)).add o) = none
      rw [add_add]; exact hno _
    (conv => whnf)
    refine SlN.mk 0 i (some ad) i cap rfl rfl (by omega) (by omega) (by rw [if_neg (by omega)]; simp [add0]) (by omega) (by omega) ?_
    (conv => whnf)
    refine RetK.mk fun g M' hl hg => ⟨dl.take (i * 1), slice_eq hfl2.symm, RowC.mono ?_ hl, ?_⟩
    · rw [hfl2]
      refine hrow.wr (q := i * 1) j1 j2 (by rw [List.length_take, hrlen]; omega) (by omega) (fun o u hu => ?_)
      rw [List.getElem?_take] at hu
      split at hu
      · rename_i h2; exact .inr ⟨.inl h2, hrow.el o u hu⟩
      · cases hu
    · rw [← hLt]
      exact RowR.take hrl i
theorem delIntB_0I (M : Mem) (A : Option Addr) (cap : Nat) (f : FuncId) (a : Addr) : Ans Tryz.prog M 76 #[.slice A 0 cap, .func (.func f) #[] #[.pointer (some a)]] (.slice A 0 cap) := by
  have hix : Ans Tryz.prog M 119 #[.slice A 0 cap, .func (.func f) #[] #[.pointer (some a)]] (.int .i64 (-1)) := by
    refine ans_of T (l := [.slice A 0 cap, .func (.func f) #[] #[.pointer (some a)]]) mixed Tryz.func119 rfl (by kernel_rfl) (Nat.le_of_ble_eq_true rfl) ?_
    (conv => whnf)
    refine LoopK.mk Unit (fun _ => [(0, .v (.slice A 0 cap)), (1, .v (.func (.func f) #[] #[.pointer (some a)])), (7, .v (.int .i64 0)), (8, .v (.int .i64 0))]) (fun _ => []) (fun _ => M) (fun _ => 0) () ⟨⟨⟨rfl, rfl, rfl, rfl, trivial⟩, trivial, rfl, rfl⟩, rfl⟩ ?_
    intro _
    (conv => whnf)
    exact rfl
  refine ans_of T (l := [.slice A 0 cap, .func (.func f) #[] #[.pointer (some a)]]) mixed Tryz.func76 rfl (by kernel_rfl) (Nat.le_of_ble_eq_true rfl) ?_
  (conv => whnf)
  refine CallK.mk _ hix ?_
  (conv => whnf)
  exact rfl
theorem delIntB_kI {wr : Bool} {M N : Mem} {A : Option Addr} {cap : Nat} {l : List Int} {ds : List Value} {K : Value → Mem → Prop} (hw : wr = true) (h : RowN M N 1 A l.length cap ds) (hn : l.length ≤ 1000) (hMN : Le M N) (f : FuncId) (a : Addr) (p : Int → Bool)
    (Mc : Mem) (hcN : Le Mc N) (hcd : ∀ a u ad, A = some ad → 0 < l.length → Mc a = some u → a.block ≠ ad.block) (hr : RowR Mc RInt 1 l ds)
    (hcl : ∀ M1 : Mem, Le Mc M1 → ∀ x ∈ l, AnsR Tryz.prog M1 f #[.int .i64 x, .pointer (some a)] (fun _ v => v = .bool (p x)))
    (k : ∀ N' ds', Le M N' → RowN M N' 1 A (l.filter (fun x => !p x)).length cap ds' → RowR N' RInt 1 (l.filter (fun x => !p x)) ds' → Le Mc N' → K (.slice A (l.filter (fun x => !p x)).length cap) N') : CallK Tryz.prog wr M N 76 #[.slice A l.length cap, .func (.func f) #[] #[.pointer (some a)]] K := by
  rcases Nat.eq_zero_or_pos l.length with hz | hz
  · have hl0 : l = [] := List.eq_nil_of_length_eq_zero hz
    subst hl0
    exact CallK.mk _ (delIntB_0I N A cap f a) (k N ds hMN h (hr.mono (fun _ _ h => RInt.mono hcN _ _ h)) hcN)
  rcases h with ⟨rfl, h1, h2, h3⟩ | ⟨ad, rfl, hrow, hf⟩
  · omega
  have hb : ∀ a u, rest N (fun a => if a.block = ad.block then N a else none) a = some u → a.block ≠ ad.block := fun a u hu he => by
    obtain ⟨g1, g2⟩ := rest_at hu
    simp only [if_pos he] at g1
    rw [g1] at g2; cases g2
  have hrl : Le (rest N (fun a => if a.block = ad.block then N a else none)) N := fun a u hu => (rest_at hu).2
  have hof : ∀ a u, N a = some u → a.block ≠ ad.block → rest N (fun a => if a.block = ad.block then N a else none) a = some u := fun a u hu he => rest_of (by simp only [if_neg he]) hu
  have hco : Le Mc (rest N (fun a => if a.block = ad.block then N a else none)) := fun a u hu => hof a u (hcN a u hu) (hcd a u ad rfl hz hu)
  refine CallK.mb (rest N (fun a => if a.block = ad.block then N a else none)) _ hw (delIntB_gI _ N ad cap l ds hrow (hr.mono (RInt.mono hco)) hn hrl (fun a u g1 g2 => ?_) hb f a p (fun M1 h1 x hx0 => hcl M1 (hco.trans h1) x hx0)) hrl (fun a u g1 g2 => ?_) (fun a u a' u' g1 g2 g3 => ?_) (fun v Mx M' hv hl hlb hnew => ?_)
  · by_cases he : a.block = ad.block
    · exact he
    · rw [hof a u g1 he] at g2; cases g2
  · cases hm : M a with
    | none => rfl
    | some w =>
      rw [hof a u g1 (hf a w hm)] at g2; cases g2
  · have : a.block = ad.block := by
      by_cases he : a.block = ad.block
      · exact he
      · rw [hof a u g1 he] at g2; cases g2
    rw [this]
    exact fun he => hb a' u' g3 he.symm
  obtain ⟨ds', rfl, hrow', hr'⟩ := hv
  refine k M' ds' (fun a u hu => hlb a u (hof a u (hMN a u hu) (hf a u hu))) (.inr ⟨ad, rfl, hrow'.mono hl, hf⟩) ?_ (hco.trans hlb)
  exact hr'.mono (fun _ _ h => RInt.mono hlb _ _ h)
end Go.Proofs.YtgeofmoojifkmaaGreat.Hlp
