/- slices.Clone, Insert, Delete over rows in known memory. -/
import Derived.Test.YtefhbbmklpnpoaaGreatHlpD
import Derived.Lib.Overlaps
namespace Go.Proofs.YtefhbbmklpnpoaaGreat.Hlp
open Go Go.RowKit Go.Proofs Go.Proofs.YtefhbbmklpnpoaaGreat.Lw
set_option linter.unusedVariables false
set_option linter.unusedSimpArgs false
set_option maxRecDepth 100000
set_option maxHeartbeats 4000000
def SrcOk (M : Mem) (base : Option Addr) (m : Nat) (ds : List Value) : Prop := ds.length = m ∧ ∀ o u, ds[o]? = some u → ∃ ad, base = some ad ∧ M (ad.add o) = some u
/-- A row in known memory: its cells, and room as far as its capacity. -/
structure RowC (M : Mem) (ad : Addr) (z n cap : Nat) (ds : List Value) : Prop where
  len : ds.length = n * z
  le : n ≤ cap
  el : ∀ o u, ds[o]? = some u → M (ad.add o) = some u
  room : ∀ o, o < cap * z → ∃ u, M (ad.add o) = some u
theorem RowC.mono {M M' : Mem} {ad : Addr} {z n cap : Nat} {ds : List Value} (h : RowC M ad z n cap ds) (hl : Le M M') : RowC M' ad z n cap ds :=
  ⟨h.len, h.le, fun o u hu => hl _ _ (h.el o u hu), fun o ho => let ⟨u, hu⟩ := h.room o ho; ⟨u, hl _ _ hu⟩⟩
theorem RowC.eq {M : Mem} {ad : Addr} {z n n' cap : Nat} {ds ds' : List Value} (h : RowC M ad z n cap ds) (hn : n = n') (hd : ds = ds') : RowC M ad z n' cap ds' := by subst hn hd; exact h
/-- Cells written within a row's room. -/
theorem RowC.wr {M M' : Mem} {ad : Addr} {z n cap : Nat} {ds : List Value} (h : RowC M ad z n cap ds) {q : Nat} {vs : List Value} (k1 : ∀ o u, vs[o]? = some u → M' ((ad.add q).add o) = some u) (k2 : ∀ a, (∀ o, o < vs.length → a ≠ (ad.add q).add o) → M' a = M a)
    {n' : Nat} {ds' : List Value} (hl : ds'.length = n' * z) (hn : n' ≤ cap) (hd : ∀ o u, ds'[o]? = some u → (q ≤ o ∧ vs[o - q]? = some u) ∨ ((o < q ∨ q + vs.length ≤ o) ∧ M (ad.add o) = some u)) : RowC M' ad z n' cap ds' := by
  have out : ∀ o, (o < q ∨ q + vs.length ≤ o) → M' (ad.add o) = M (ad.add o) := fun o ho => k2 _ fun p hp he => by
    rw [add_add] at he
    have := add_inj he
    omega
  refine ⟨hl, hn, fun o u hu => ?_, fun o ho => ?_⟩
  · rcases hd o u hu with ⟨h1, h2⟩ | ⟨h1, h2⟩
    · have := k1 _ u h2
      rwa [add_add, show q + (o - q) = o by omega] at this
    · rw [out o h1]; exact h2
  · by_cases hq : q ≤ o ∧ o < q + vs.length
    · have h1 : o - q < vs.length := by omega
      have := k1 (o - q) _ (List.getElem?_eq_getElem h1)
      rw [add_add, show q + (o - q) = o by omega] at this
      exact ⟨_, this⟩
    · rw [out o (by omega)]; exact h.room o ho
/-- The room behind a row, as a list of whatever lies there. -/
theorem room_list {M : Mem} {ad : Addr} {q : Nat} : ∀ (m : Nat), (∀ o, o < m → ∃ u, M (ad.add (q + o)) = some u) → ∃ ts : List Value, ts.length = m ∧ ∀ o u, ts[o]? = some u → M (ad.add (q + o)) = some u
  | 0, _ => ⟨[], rfl, fun o u hu => by simp at hu⟩
  | m + 1, h => by
    obtain ⟨ts, h1, h2⟩ := room_list m (fun o ho => h o (by omega))
    obtain ⟨u, hu⟩ := h m (by omega)
    refine ⟨ts ++ [u], by simp [h1], fun o v hv => ?_⟩
    rcases Nat.lt_or_ge o ts.length with ho | ho
    · rw [List.getElem?_append_left ho] at hv
      exact h2 o v hv
    · rw [List.getElem?_append_right ho] at hv
      have : o - ts.length = 0 := by
        rcases Nat.eq_zero_or_pos (o - ts.length) with h3 | h3
        · exact h3
        · rw [List.getElem?_eq_none (by simp; omega)] at hv; cases hv
      rw [this] at hv
      simp only [List.getElem?_cons_zero, Option.some.injEq] at hv
      subst hv
      rw [show o = m by omega]; exact hu
theorem allOne_take : ∀ {l : List Value} (k : Nat), allOne l = true → allOne (l.take k) = true
  | [], k, h => by simp; rfl
  | v :: r, 0, h => rfl
  | v :: r, k + 1, h => by simp only [allOne, Bool.and_eq_true, List.take_succ_cons] at h ⊢; exact ⟨h.1, allOne_take k h.2⟩
theorem allOne_drop : ∀ {l : List Value} (k : Nat), allOne l = true → allOne (l.drop k) = true
  | [], k, h => by simp; rfl
  | v :: r, 0, h => h
  | v :: r, k + 1, h => by simp only [allOne, Bool.and_eq_true, List.drop_succ_cons] at h ⊢; exact allOne_drop k h.2
theorem WrL.eq {wr : Bool} {base M : Mem} {ad : Addr} {vs vs' : List Value} {K : Mem → Prop} (e : vs' = vs) (h : WrL wr base M ad vs K) : WrL wr base M ad vs' K := e ▸ h
theorem add_block (ad : Addr) (o : Nat) : (ad.add o).block = ad.block := by unfold Addr.add; split <;> rfl
theorem flat_take {z : Nat} : ∀ {css : List (List Value)} (k : Nat), (∀ cs ∈ css, cs.length = z) → css.flatten.take (k * z) = (css.take k).flatten
  | [], k, _ => by simp
  | cs :: r, 0, _ => by simp
  | cs :: r, k + 1, h => by
    have h1 := h cs (List.mem_cons_self ..)
    rw [List.flatten_cons, List.take_succ_cons, List.flatten_cons, Nat.add_mul, Nat.one_mul, Nat.add_comm, ← h1, List.take_length_add_append, h1, flat_take k fun c hc => h c (List.mem_cons_of_mem _ hc)]
theorem flat_drop {z : Nat} : ∀ {css : List (List Value)} (k : Nat), (∀ cs ∈ css, cs.length = z) → css.flatten.drop (k * z) = (css.drop k).flatten
  | [], k, _ => by simp
  | cs :: r, 0, _ => by simp
  | cs :: r, k + 1, h => by
    have h1 := h cs (List.mem_cons_self ..)
    rw [List.flatten_cons, List.drop_succ_cons, Nat.add_mul, Nat.one_mul, Nat.add_comm, ← h1, List.drop_length_add_append, h1, flat_drop k fun c hc => h c (List.mem_cons_of_mem _ hc)]
theorem RowR.take {α : Type} {M : Mem} {R : Mem → α → List Value → Prop} {z : Nat} {l : List α} {ds : List Value} (h : RowR M R z l ds) (k : Nat) : RowR M R z (l.take k) (ds.take (k * z)) := by
  obtain ⟨css, rfl, h1, h2, h3⟩ := h.ex
  rw [flat_take k fun cs hc => (h2 cs hc).1]
  refine ⟨css.take k, rfl, by simp [h1], fun cs hc => h2 cs (List.mem_of_mem_take hc), fun i x hx => ?_⟩
  rw [List.getElem?_take] at hx
  split at hx
  · rename_i hi
    obtain ⟨cs, g1, g2⟩ := h3 i x hx
    exact ⟨cs, by rw [List.getElem?_take, if_pos hi]; exact g1, g2⟩
  · cases hx
theorem RowR.drop {α : Type} {M : Mem} {R : Mem → α → List Value → Prop} {z : Nat} {l : List α} {ds : List Value} (h : RowR M R z l ds) (k : Nat) : RowR M R z (l.drop k) (ds.drop (k * z)) := by
  obtain ⟨css, rfl, h1, h2, h3⟩ := h.ex
  rw [flat_drop k fun cs hc => (h2 cs hc).1]
  refine ⟨css.drop k, rfl, by simp [h1], fun cs hc => h2 cs (List.mem_of_mem_drop hc), fun i x hx => ?_⟩
  rw [List.getElem?_drop] at hx
  obtain ⟨cs, g1, g2⟩ := h3 _ x hx
  exact ⟨cs, by rw [List.getElem?_drop]; exact g1, g2⟩
theorem RowC.sl {α : Type} {M M' : Mem} {R : Mem → α → List Value → Prop} {z by_ cap : Nat} {ad : Addr} {l : List α} {ds : List Value} (h : RowC M ad z l.length cap ds) (r : RowR M' R z l ds) (hR : ∀ x cs, R M' x cs → R M x cs) (hl : l.length ≤ 9223372036854775807) : SlR M R z by_ (some ad) cap l := by
  obtain ⟨css, rfl, h1, h2, h3⟩ := r.ex
  refine ⟨h.le, hl, fun i x hx => ?_⟩
  obtain ⟨cs, g1, g2⟩ := h3 i x hx
  refine ⟨ad, cs, rfl, hR x cs g2, (h2 cs (List.mem_of_getElem? g1)).1, fun j u hu => ?_⟩
  rw [add_add]
  exact h.el _ u (flat_get (fun c hc => (h2 c hc).1) g1 hu)
theorem add0 (ad : Addr) : ad.add 0 = ad := by simp [Addr.add]
/-- The state of a row that is handed on: none yet, or one that lies apart from what was known first. -/
def RowN (M0 N : Mem) (z : Nat) (A : Option Addr) (n cap : Nat) (ds : List Value) : Prop := (A = none ∧ n = 0 ∧ cap = 0 ∧ ds = []) ∨ ∃ ad, A = some ad ∧ RowC N ad z n cap ds ∧ ∀ a u, M0 a = some u → a.block ≠ ad.block
theorem RowN.sl {α : Type} {M0 M M' : Mem} {R : Mem → α → List Value → Prop} {z by_ cap : Nat} {A : Option Addr} {l : List α} {ds : List Value} (h : RowN M0 M z A l.length cap ds) (r : RowR M' R z l ds) (hR : ∀ x cs, R M' x cs → R M x cs) (hl : l.length ≤ 9223372036854775807) : SlR M R z by_ A cap l := by
  rcases h with ⟨_, h1, _⟩ | ⟨ad, rfl, h1, _⟩
  · rw [List.eq_nil_of_length_eq_zero h1]; exact SlR.nil
  · exact h1.sl r hR hl
/-- The rows of which a call is told: one block, or two. -/
def bk (N : Mem) (b1 b2 : Nat) : Mem := fun a => if a.block = b1 ∨ a.block = b2 then N a else none
theorem bk_le (N : Mem) (b1 b2 : Nat) : Le (bk N b1 b2) N := fun a u h => by unfold bk at h; split at h; exact h; cases h
theorem bk_at {N : Mem} {b1 b2 : Nat} {a : Addr} {u : Value} (h : bk N b1 b2 a = some u) : (a.block = b1 ∨ a.block = b2) ∧ N a = some u := by unfold bk at h; split at h; (rename_i hb; exact ⟨hb, h⟩); cases h
theorem bk_of {N : Mem} {b1 b2 : Nat} {a : Addr} {u : Value} (hb : a.block = b1 ∨ a.block = b2) (h : N a = some u) : bk N b1 b2 a = some u := by unfold bk; rw [if_pos hb]; exact h
theorem bk_no {N : Mem} {b1 b2 : Nat} {a : Addr} {u : Value} (hn : bk N b1 b2 a = none) (h : N a = some u) : a.block ≠ b1 ∧ a.block ≠ b2 := by
  unfold bk at hn
  split at hn
  · rw [h] at hn; cases hn
  · rename_i hb; exact ⟨fun h => hb (.inl h), fun h => hb (.inr h)⟩
theorem bk_hd (N : Mem) (b1 b2 : Nat) : ∀ ad u ad' u', bk N b1 b2 ad = some u → N ad' = some u' → bk N b1 b2 ad' = none → ad.block ≠ ad'.block := fun ad u ad' u' h1 h2 h3 he => by
  obtain ⟨h4, _⟩ := bk_at h1
  obtain ⟨h5, h6⟩ := bk_no h3 h2
  rcases h4 with h4 | h4
  · exact h5 (he ▸ h4)
  · exact h6 (he ▸ h4)
theorem RowC.bk {N : Mem} {ad : Addr} {z n cap : Nat} {ds : List Value} {b1 b2 : Nat} (h : RowC N ad z n cap ds) (hb : ad.block = b1 ∨ ad.block = b2) : RowC (bk N b1 b2) ad z n cap ds :=
  ⟨h.len, h.le, fun o u hu => bk_of (by rw [add_block]; exact hb) (h.el o u hu), fun o ho => let ⟨u, hu⟩ := h.room o ho; ⟨u, bk_of (by rw [add_block]; exact hb) hu⟩⟩
theorem i64_pn {n k : Nat} (h : n + k ≤ 9223372036854775807) : IntKind.i64.wrap ((n : Int) + (k : Int)) = ((n + k : Nat) : Int) := by rw [i64_in (by omega) (by omega)]; push_cast; rfl
theorem i64_sn {n k : Nat} (hk : k ≤ n) (h : n ≤ 9223372036854775807) : IntKind.i64.wrap ((n : Int) - (k : Int)) = ((n - k : Nat) : Int) := by rw [i64_in (by omega) (by omega)]; omega
theorem cloneHead_f (M : Mem) (l : List GHead) (A : Option Addr) (c : Nat) (h : SlR M RHead 5 48 A c l) (hn : l.length ≤ 1000) : AnsR Tryz.prog M 97 #[.slice A l.length c] (fun M' v => ∃ A' cap' ds, v = .slice A' l.length cap' ∧ RowR M RHead 5 l ds ∧ RowN M M' 5 A' l.length cap' ds) := by
  refine ansR_of T (l := [.slice A l.length c]) mixed Tryz.func97 rfl (by kernel_rfl) (Nat.le_of_ble_eq_true rfl) ?_
  obtain ⟨ds, h1, h2, h3⟩ := h.row (fun x cs hx => (RHead.one x cs hx).1)
  cases A with
  | none =>
    have hl : l = [] := by
      cases l with
      | nil => rfl
      | cons x r => obtain ⟨ad, _, h4, _⟩ := h.el 0 x rfl; cases h4
    subst hl
    have hd : ds = [] := List.eq_nil_of_length_eq_zero (by simpa using h2)
    subst hd
    repeat' ((conv => whnf); first | with_reducible refine CondK.tt ?_ | with_reducible refine CondK.ff ?_ | fail)
    exact RetK.mk fun g M' hl hg => ⟨none, 0, [], rfl, h1, .inl ⟨rfl, rfl, rfl, rfl⟩⟩
  | some ad =>
    repeat' ((conv => whnf); first | with_reducible refine CondK.tt ?_ | with_reducible refine CondK.ff ?_ | fail)
    refine SrcK.mk ds h2 h3 ?_
    (conv => whnf)
    refine AppK.mk (by show (2 * _ + 512) * 48 ≤ 281474976710656; omega) (by omega) (.inr rfl) h1.all (fun cap3 hcap3 => ?_)
    (conv => whnf)
    refine RetK.fc fun g M' hl hg hc => ⟨_, cap3, ds, slice_eq (by omega), h1, .inr ⟨_, rfl, ⟨h2, by omega, fun o u hu => ?_, fun o ho => ?_⟩, fun a u hu => (hg 1 _ rfl).1 a u hu⟩⟩
    · have := (hg 1 _ rfl).2 o u hu
      unfold Addr.add
      split
      · rename_i h0; subst h0; exact this
      · simpa using this
    · obtain ⟨u, hu⟩ := hc 1 _ _ _ _ (List.mem_singleton.mpr rfl) rfl o ho
      refine ⟨u, ?_⟩
      unfold Addr.add
      split
      · rename_i h0; subst h0; exact hu
      · simpa using hu
theorem delHead_g (M : Mem) (ad : Addr) (n cap i : Nat) (ds : List Value) (h : RowC M ad 5 n cap ds) (hall : allOne ds = true) (hi : i < n) (hn : n ≤ 1000) : AnsG Tryz.prog M 148 #[.slice (some ad) n cap, .int .i64 (i : Int), .int .i64 ((i + 1 : Nat) : Int)] (fun v M' => v = .slice (some ad) (n - 1) cap ∧ RowC M' ad 5 (n - 1) cap (ds.take (i * 5) ++ ds.drop ((i + 1) * 5))) := by
  have hcap := h.le
  have hlen := h.len
  refine ansG_of T (l := [.slice (some ad) n cap, .int .i64 (i : Int), .int .i64 ((i + 1 : Nat) : Int)]) mixed Tryz.func148 rfl (by kernel_rfl) (Nat.le_of_ble_eq_true rfl) ?_
  (conv => whnf)
  refine Sl3K.mk i (i + 1) n rfl rfl rfl (by omega) (by omega) (by omega) ?_
  (conv => whnf)
  refine CondK.no' (by simp; omega) ?_
  (conv => whnf)
  refine DrawN.t 6 (by kernel_rfl) ?_
  (conv => whnf)
  refine SlN.mk 0 i (some ad) i cap rfl rfl (by omega) (by omega) (by rw [if_neg (by omega)]; simp [add0]) (by omega) (by omega) ?_
  (conv => whnf)
  obtain ⟨A2, hA2⟩ : ∃ A2, (if cap = i + 1 then some ad else (some ad).map (·.add ((i + 1) * 5))) = A2 := ⟨_, rfl⟩
  refine SlN.mk (i + 1) n A2 (n - (i + 1)) (cap - (i + 1)) rfl rfl (by omega) (by omega) hA2 rfl rfl ?_
  (conv => whnf)
  refine SrcK.mk (ds.drop ((i + 1) * 5)) (by show _ = (n - (i + 1)) * 5; rw [List.length_drop, hlen, ← Nat.sub_mul]) (fun o u hu => ?_) ?_
  · rw [List.getElem?_drop] at hu
    have hlt : (i + 1) * 5 + o < ds.length := by
      rcases Nat.lt_or_ge ((i + 1) * 5 + o) ds.length with h1 | h1
      · exact h1
      · rw [List.getElem?_eq_none h1] at hu; cases hu
    rw [if_neg (by omega)] at hA2
    subst hA2
    exact ⟨_, rfl, by rw [add_add]; exact h.el _ u hu⟩
  refine AppX.w (by omega) (WrL.mk rfl (fun o ho => ?_) (fun _ _ => rfl) (allOne_drop _ hall) (fun M1 k1 k2 => ?_))
  · rw [List.length_drop, hlen] at ho
    obtain ⟨u, hu⟩ := h.room (i * 5 + o) (by omega)
    show (M ((ad.add (i * 5)).add o)).isSome = true
    rw [add_add, hu]; rfl
  have hr1 : RowC M1 ad 5 (n - 1) cap (ds.take (i * 5) ++ ds.drop ((i + 1) * 5)) := by
    refine h.wr (q := i * 5) k1 k2 (by rw [List.length_append, List.length_take, List.length_drop, hlen]; omega) (by omega) (fun o u hu => ?_)
    have htl : (ds.take (i * 5)).length = i * 5 := by rw [List.length_take, hlen]; omega
    rcases Nat.lt_or_ge o (i * 5) with h1 | h1
    · rw [List.getElem?_append_left (by omega), List.getElem?_take, if_pos h1] at hu
      exact .inr ⟨.inl h1, h.el o u hu⟩
    · rw [List.getElem?_append_right (by omega), htl] at hu
      exact .inl ⟨h1, hu⟩
  (conv => whnf)
  refine SlN.mk (n - 1) n (some (ad.add ((n - 1) * 5))) 1 (cap - (n - 1)) (by omega) rfl (by omega) (by omega) (by rw [if_neg (by omega)]; rfl) (by omega) rfl ?_
  (conv => whnf)
  refine WrL.mk rfl (fun o ho => ?_) (fun _ _ => rfl) rfl (fun M2 j1 j2 => ?_)
  · replace ho : o < 5 := ho
    obtain ⟨u, hu⟩ := hr1.room ((n - 1) * 5 + o) (by omega)
    show (M1 ((ad.add ((n - 1) * 5)).add o)).isSome = true
    rw [add_add, hu]; rfl
  (conv => whnf)
  refine RetK.mk fun g M' hl hg => ⟨slice_eq (by omega), RowC.mono ?_ hl⟩
  refine hr1.wr (q := (n - 1) * 5) j1 j2 hr1.len hr1.le (fun o u hu => .inr ⟨.inl ?_, hr1.el o u hu⟩)
  rcases Nat.lt_or_ge o ((n - 1) * 5) with h1 | h1
  · exact h1
  · rw [List.getElem?_eq_none (by rw [hr1.len]; exact h1)] at hu; cases hu
theorem delHead_k {wr : Bool} {M N : Mem} {A : Option Addr} {n cap i : Nat} {ds : List Value} {K : Value → Mem → Prop} {j : Int} (hj : j = ((i + 1 : Nat) : Int)) (hw : wr = true) (h : RowN M N 5 A n cap ds) (hMN : Le M N) (hall : allOne ds = true) (hi : i < n) (hn : n ≤ 1000)
    (k : ∀ N', Le M N' → RowN M N' 5 A (n - 1) cap (ds.take (i * 5) ++ ds.drop ((i + 1) * 5)) → K (.slice A (n - 1) cap) N') : CallK Tryz.prog wr M N 148 #[.slice A n cap, .int .i64 (i : Int), .int .i64 j] K := by
  subst hj
  rcases h with ⟨_, h1, _⟩ | ⟨ad, rfl, hr, hf⟩
  · omega
  refine CallK.mg (bk N ad.block ad.block) _ hw (delHead_g _ ad n cap i ds (hr.bk (.inl rfl)) hall hi hn) (bk_le _ _ _) (fun a u hu => ?_) (bk_hd _ _ _) (fun v Mx M' hv hl hkeep hdom hnew => ?_)
  · cases hm : M a with
    | none => rfl
    | some w =>
      obtain ⟨hb, _⟩ := bk_at hu
      have := hf a w hm
      rcases hb with hb | hb <;> exact absurd hb this
  obtain ⟨rfl, hrow⟩ := hv
  refine k M' (fun a u hu => hkeep a u ?_ (hMN a u hu)) (.inr ⟨ad, rfl, hrow.mono hl, hf⟩)
  cases hm : bk N ad.block ad.block a with
  | none => rfl
  | some w =>
    obtain ⟨hb, _⟩ := bk_at hm
    have := hf a u hu
    rcases hb with hb | hb <;> exact absurd hb this
theorem overlapsHead_run {M : Mem} {w : World} (hw : Know M w) (hpl : ∀ ad u, M ad = some u → Pl w ad.block) {a b : Addr} {la ca lb cb : Nat} {ua ub : Value} (hua : M a = some ua) (hub : M b = some ub) (hne : a.block ≠ b.block) : (callFunc 161 #[.slice (some a) la ca, .slice (some b) lb cb]).run Tryz.prog w = .ok (.value (.bool false)) w := by
  obtain ⟨c1, t1, e1⟩ := hpl a ua hua
  obtain ⟨c2, t2, e2⟩ := hpl b ub hub
  have hk := hw b ub hub
  have hk2 : c2.size ≠ 0 := by
    intro h0
    simp only [World.cell?, e2] at hk
    split at hk
    · cases hk
    · rw [Array.getElem?_eq_none (by omega)] at hk; cases hk
  rw [run_callFunc_extern Tryz.func161 (by kernel_rfl) (by kernel_rfl) (by kernel_rfl) (e := Extern.SlicesOverlaps.overlaps #[36, 36] #[4]) (by kernel_rfl)]
  rw [Lib.run_overlaps_apart w 36 4 61 (by kernel_rfl) 5 (fun w => prun_run (by kernel_rfl) w) a b la ca lb cb hne t1 t2 c1.size c2.size (by simp [World.shape?, e1]) (by simp [World.shape?, e2]) hk2 (by simp [World.frozen?, e1]) (by simp [World.frozen?, e1])]
  rfl
theorem insHead_g (M : Mem) (ad av : Addr) (n cap cv i : Nat) (ds vs : List Value) (h : RowC M ad 5 n cap ds) (hall : allOne ds = true) (hvl : vs.length = 5) (hva : allOne vs = true) (hv : ∀ o u, vs[o]? = some u → M (av.add o) = some u) (hne0 : 0 < cap → av.block ≠ ad.block) (hi : i ≤ n) (hn : n ≤ 1000) : AnsG Tryz.prog M 149 #[.slice (some ad) n cap, .int .i64 (i : Int), .slice (some av) 1 cv] (fun v M' => ∃ ad' cap', v = .slice (some ad') (n + 1) cap' ∧ RowC M' ad' 5 (n + 1) cap' (ds.take (i * 5) ++ vs ++ ds.drop (i * 5)) ∧ (ad' = ad ∨ ∀ a u, M a = some u → a.block ≠ ad'.block)) := by
  have hcap := h.le
  have hlen := h.len
  have hsv : SrcOk M (some av) (1 * 5) vs := ⟨by rw [hvl], fun o u hu => ⟨av, rfl, hv o u hu⟩⟩
  refine ansG_of T (l := [.slice (some ad) n cap, .int .i64 (i : Int), .slice (some av) 1 cv]) mixed Tryz.func149 rfl (by kernel_rfl) (Nat.le_of_ble_eq_true rfl) ?_
  (conv => whnf)
  refine SlN.mk i n _ (n - i) (cap - i) rfl rfl hi (by omega) rfl rfl rfl ?_
  (conv => whnf)
  by_cases hin : i = n
  · subst hin
    have et : ds.take (i * 5) ++ vs ++ ds.drop (i * 5) = ds ++ vs := by rw [List.take_of_length_le (by omega), List.drop_eq_nil_of_le (by omega), List.append_nil]
    rw [et]
    refine CondK.yes' (by simp) ?_
    (conv => whnf)
    refine SrcK.mk vs hsv.1 hsv.2 ?_
    by_cases hc : i + 1 ≤ cap
    · refine AppX.w hc (WrL.mk rfl (fun o ho => ?_) (fun _ _ => rfl) hva (fun M1 k1 k2 => ?_))
      · obtain ⟨u, hu⟩ := h.room (i * 5 + o) (by omega)
        show (M ((ad.add (i * 5)).add o)).isSome = true
        rw [add_add, hu]; rfl
      (conv => whnf)
      refine RetK.mk fun g M' hl hg => ⟨ad, cap, rfl, RowC.mono ?_ hl, .inl rfl⟩
      refine h.wr (q := i * 5) k1 k2 (by simp only [List.length_append, hlen, hvl]; omega) hc (fun o u hu => ?_)
      rcases Nat.lt_or_ge o (i * 5) with h1 | h1
      · rw [List.getElem?_append_left (by omega)] at hu
        exact .inr ⟨.inl h1, h.el o u hu⟩
      · rw [List.getElem?_append_right (by omega), hlen] at hu
        exact .inl ⟨h1, hu⟩
    · refine AppX.g hc ds hlen h.el (allOne_append hall hva) (by omega) (by show (2 * _ + 512) * 48 ≤ 281474976710656; omega) (fun cap' hcap' => ?_)
      (conv => whnf)
      refine RetK.fc fun g M' hl hg hc => ⟨_, cap', rfl, ⟨by simp only [List.length_append, hlen, hvl]; omega, hcap', fun o u hu => ?_, fun o ho => ?_⟩, .inr fun a u hu => (hg 0 _ rfl).1 a u hu⟩
      · have := (hg 0 _ rfl).2 o u hu
        unfold Addr.add
        split
        · rename_i h0; subst h0; exact this
        · simpa using this
      · obtain ⟨u, hu⟩ := hc 0 _ _ _ _ (List.mem_singleton.mpr rfl) rfl o ho
        refine ⟨u, ?_⟩
        unfold Addr.add
        split
        · rename_i h0; subst h0; exact hu
        · simpa using hu
  have hlt : i < n := by omega
  refine CondK.no' (by simp; omega) ?_
  (conv => whnf)
  have hpn : IntKind.i64.wrap ((n : Int) + ((1 : Nat) : Int)) = ((n + 1 : Nat) : Int) := i64_succ (by omega)
  by_cases hc : n + 1 ≤ cap
  · -- in its place
    have hne := hne0 (by omega)
    refine CondK.no' (show decide (IntKind.i64.wrap ((n : Int) + ((1 : Nat) : Int)) > (cap : Int)) = false from by rw [hpn]; exact decide_eq_false (by omega)) ?_
    (conv => whnf)
    refine SlN.mk 0 (n + 1) (some ad) (n + 1) cap rfl hpn (by omega) hc (by rw [if_neg (by omega)]; simp [add0]) (by omega) (by omega) ?_
    (conv => whnf)
    have hpi : IntKind.i64.wrap ((i : Int) + ((1 : Nat) : Int)) = ((i + 1 : Nat) : Int) := i64_succ (by omega)
    refine SlN.mk (i + 1) (n + 1) (some (ad.add ((i + 1) * 5))) (n - i) (cap - (i + 1)) hpi rfl (by omega) hc (by rw [if_neg (by omega)]; rfl) (by omega) rfl ?_
    (conv => whnf)
    obtain ⟨u1, hu1⟩ := h.room ((i + 1) * 5) (by omega)
    refine CallK.ex (.bool false) rfl (fun w hw hpl => overlapsHead_run hw (fun a u hu => hpl a u hu rfl) (ua := vs[0]'(by omega)) (by have := hv 0 _ (List.getElem?_eq_getElem (by omega)); rwa [add0] at this) hu1 (by
      unfold Addr.add
      split <;> exact hne)) ?_
    (conv => whnf)
    obtain ⟨ts, ht1, ht2⟩ := room_list (M := M) (ad := ad) (q := n * 5) 5 (fun o ho => h.room _ (by omega))
    refine DrawN.t 8 (by kernel_rfl) ?_
    (conv => whnf)
    refine SlN.mk (i + 1) (n + 1) (some (ad.add ((i + 1) * 5))) (n - i) (cap - (i + 1)) hpi rfl (by omega) hc (by rw [if_neg (by omega)]; rfl) (by omega) rfl ?_
    (conv => whnf)
    refine SlN.mk i (n + 1) (some (ad.add (i * 5))) (n + 1 - i) (cap - i) rfl rfl (by omega) hc (by rw [if_neg (by omega)]; rfl) rfl rfl ?_
    (conv => whnf)
    refine SrcK.mk (ds.drop (i * 5) ++ ts) (by show _ = (n + 1 - i) * 5; rw [List.length_append, List.length_drop, hlen, ht1]; omega) (fun o u hu => ?_) ?_
    · refine ⟨_, rfl, ?_⟩
      rw [add_add]
      have hdl : (ds.drop (i * 5)).length = n * 5 - i * 5 := by rw [List.length_drop, hlen]
      rcases Nat.lt_or_ge o (n * 5 - i * 5) with h1 | h1
      · rw [List.getElem?_append_left (by omega), List.getElem?_drop] at hu
        exact h.el _ u hu
      · rw [List.getElem?_append_right (by omega), hdl] at hu
        have := ht2 _ u hu
        rwa [show n * 5 + (o - (n * 5 - i * 5)) = i * 5 + o by omega] at this
    refine WrL.eq (vs := ds.drop (i * 5)) (by
      show List.take (min (n + 1 - i) (n - i) * 5) _ = _
      rw [show min (n + 1 - i) (n - i) = n - i by omega, List.take_append_of_le_length (by rw [List.length_drop, hlen]; omega), List.take_of_length_le (by rw [List.length_drop, hlen]; omega)]) ?_
    refine WrL.mk rfl (fun o ho => ?_) (fun _ _ => rfl) (allOne_drop _ hall) (fun M1 k1 k2 => ?_)
    · rw [List.length_drop, hlen] at ho
      obtain ⟨u, hu⟩ := h.room ((i + 1) * 5 + o) (by omega)
      show (M ((ad.add ((i + 1) * 5)).add o)).isSome = true
      rw [add_add, hu]; rfl
    have hv1 : ∀ o u, vs[o]? = some u → M1 (av.add o) = some u := fun o u hu => by
      rw [k2 _ (fun p hp he => by
        have := congrArg Addr.block he
        rw [add_add] at this
        unfold Addr.add at this
        split at this <;> split at this <;> exact hne this)]
      exact hv o u hu
    have htl : (ds.take (i * 5)).length = i * 5 := by rw [List.length_take, hlen]; omega
    -- the row, its i-th element still the old one
    have hr1 : RowC M1 ad 5 (n + 1) cap (ds.take (i * 5) ++ (ds.drop (i * 5)).take 5 ++ ds.drop (i * 5)) := by
      refine h.wr (q := (i + 1) * 5) k1 k2 (by simp only [List.length_append, List.length_take, List.length_drop, hlen]; omega) hc (fun o u hu => ?_)
      have hl2 : (ds.take (i * 5) ++ (ds.drop (i * 5)).take 5).length = (i + 1) * 5 := by simp only [List.length_append, List.length_take, List.length_drop, hlen]; omega
      rcases Nat.lt_or_ge o ((i + 1) * 5) with h1 | h1
      · rw [List.getElem?_append_left (by omega)] at hu
        refine .inr ⟨.inl h1, h.el o u ?_⟩
        rcases Nat.lt_or_ge o (i * 5) with h2 | h2
        · rw [List.getElem?_append_left (by omega), List.getElem?_take, if_pos h2] at hu
          exact hu
        · rw [List.getElem?_append_right (by omega), htl, List.getElem?_take, if_pos (by omega), List.getElem?_drop, show i * 5 + (o - i * 5) = o by omega] at hu
          exact hu
      · rw [List.getElem?_append_right (by omega), hl2] at hu
        exact .inl ⟨h1, hu⟩
    (conv => whnf)
    refine SlN.mk i (n + 1) (some (ad.add (i * 5))) (n + 1 - i) (cap - i) rfl rfl (by omega) hc (by rw [if_neg (by omega)]; rfl) rfl rfl ?_
    (conv => whnf)
    refine SrcK.mk vs (by show _ = 1 * 5; rw [hvl]) (fun o u hu => ⟨av, rfl, hv1 o u hu⟩) ?_
    refine WrL.eq (vs := vs) (by show List.take (min 1 (n + 1 - i) * 5) _ = _; rw [show min 1 (n + 1 - i) = 1 by omega, List.take_of_length_le (by omega)]) ?_
    refine WrL.mk rfl (fun o ho => ?_) (fun _ _ => rfl) hva (fun M2 j1 j2 => ?_)
    · obtain ⟨u, hu⟩ := hr1.room (i * 5 + o) (by omega)
      show (M1 ((ad.add (i * 5)).add o)).isSome = true
      rw [add_add, hu]; rfl
    (conv => whnf)
    refine RetK.mk fun g M' hl hg => ⟨ad, cap, rfl, RowC.mono ?_ hl, .inl rfl⟩
    refine hr1.wr (q := i * 5) j1 j2 (by simp only [List.length_append, List.length_take, List.length_drop, hlen, hvl]; omega) hc (fun o u hu => ?_)
    have hl2 : (ds.take (i * 5) ++ vs).length = (i + 1) * 5 := by rw [List.length_append, htl, hvl]; omega
    rcases Nat.lt_or_ge o ((i + 1) * 5) with h1 | h1
    · rw [List.getElem?_append_left (by omega)] at hu
      rcases Nat.lt_or_ge o (i * 5) with h2 | h2
      · rw [List.getElem?_append_left (by omega)] at hu
        refine .inr ⟨.inl h2, hr1.el o u ?_⟩
        rw [List.getElem?_append_left (by simp only [List.length_append, List.length_take, List.length_drop, hlen]; omega), List.getElem?_append_left (by omega)]
        exact hu
      · rw [List.getElem?_append_right (by omega), htl] at hu
        exact .inl ⟨h2, hu⟩
    · rw [List.getElem?_append_right (by omega), hl2] at hu
      refine .inr ⟨.inr (by omega), hr1.el o u ?_⟩
      rw [List.getElem?_append_right (by simp only [List.length_append, List.length_take, List.length_drop, hlen]; omega)]
      rw [show (ds.take (i * 5) ++ (ds.drop (i * 5)).take 5).length = (i + 1) * 5 by simp only [List.length_append, List.length_take, List.length_drop, hlen]; omega]
      exact hu
  · -- a new row
    refine CondK.yes' (show decide (IntKind.i64.wrap ((n : Int) + ((1 : Nat) : Int)) > (cap : Int)) = true from by rw [hpn]; exact decide_eq_true (by omega)) ?_
    (conv => whnf)
    refine SlN.mk 0 i (some ad) i cap rfl rfl (by omega) (by omega) (by rw [if_neg (by omega)]; simp [add0]) (by omega) (by omega) ?_
    (conv => whnf)
    refine AppZ.mk (n + 1 - i) (by rw [hpn]; exact i64_sn (by omega) (by omega)) (by omega) (ds.take (i * 5)) (by show _ = i * 5; rw [List.length_take, hlen]; omega) (fun o u hu => h.el o u (by rw [List.getElem?_take] at hu; split at hu; exact hu; cases hu)) (by omega) (by show (2 * _ + 512) * 48 ≤ 281474976710656; omega) (fun cap' hcap' => ?_)
    (conv => whnf)
    refine PubK.fr fun a2 M1 hl1 hc1 hroom hfresh hdom => ?_
    obtain ⟨m, hm⟩ : ∃ m, m = i + (n + 1 - i) := ⟨_, rfl⟩
    have hmn : m = n + 1 := by omega
    rw [← hm] at hcap' ⊢
    have htl : (ds.take (i * 5)).length = i * 5 := by rw [List.length_take, hlen]; omega
    have hzl : (List.replicate (n + 1 - i) ([.string ⟨#[]⟩, .int .i64 0, .int .i64 0, .int .i64 0, .int .i64 0] : List Value)).flatten.length = (n + 1 - i) * 5 := flatten_len rfl _
    have hr0 : RowC M1 a2 5 m cap' (ds.take (i * 5) ++ (List.replicate (n + 1 - i) ([.string ⟨#[]⟩, .int .i64 0, .int .i64 0, .int .i64 0, .int .i64 0] : List Value)).flatten) := ⟨by rw [List.length_append, htl, hzl]; omega, hcap', hc1, hroom⟩
    have hv1 : ∀ o u, vs[o]? = some u → M1 (av.add o) = some u := fun o u hu => hl1 _ _ (hv o u hu)
    have hne2 : av.block ≠ a2.block := by
      have := hfresh _ _ (hv 0 _ (List.getElem?_eq_getElem (by omega)))
      rwa [add0] at this
    (conv => whnf)
    refine SlN.mk i m (some (a2.add (i * 5))) (m - i) (cap' - i) rfl rfl (by omega) (by omega) (by rw [if_neg (by omega)]; rfl) rfl rfl ?_
    (conv => whnf)
    refine SrcK.mk vs (by show _ = 1 * 5; rw [hvl]) (fun o u hu => ⟨av, rfl, hv1 o u hu⟩) ?_
    refine WrL.eq (vs := vs) (by show List.take (min 1 (m - i) * 5) _ = _; rw [show min 1 (m - i) = 1 by omega, List.take_of_length_le (by omega)]) ?_
    refine WrL.mk rfl (fun o ho => ?_) (fun _ _ => rfl) hva (fun M2 j1 j2 => ?_)
    · obtain ⟨u, hu⟩ := hr0.room (i * 5 + o) (by omega)
      show (M1 ((a2.add (i * 5)).add o)).isSome = true
      rw [add_add, hu]; rfl
    have hr1 : RowC M2 a2 5 (i + 1) cap' (ds.take (i * 5) ++ vs) := by
      refine hr0.wr (q := i * 5) j1 j2 (by rw [List.length_append, htl, hvl]; omega) (by omega) (fun o u hu => ?_)
      rcases Nat.lt_or_ge o (i * 5) with h2 | h2
      · rw [List.getElem?_append_left (by omega)] at hu
        exact .inr ⟨.inl h2, hr0.el o u (by rw [List.getElem?_append_left (by omega)]; exact hu)⟩
      · rw [List.getElem?_append_right (by omega), htl] at hu
        exact .inl ⟨h2, hu⟩
    have hds2 : ∀ o u, ds[o]? = some u → M2 (ad.add o) = some u := fun o u hu => by
      have h9 := hfresh _ _ (h.el o u hu)
      rw [j2 _ (fun p hp he => by
        have := congrArg Addr.block he
        rw [add_add] at this
        apply h9
        rw [this]
        unfold Addr.add
        split <;> rfl)]
      exact hl1 _ _ (h.el o u hu)
    (conv => whnf)
    refine DrawN.t 8 (by kernel_rfl) ?_
    (conv => whnf)
    have hpi : IntKind.i64.wrap ((i : Int) + ((1 : Nat) : Int)) = ((i + 1 : Nat) : Int) := i64_succ (by omega)
    obtain ⟨A3, hA3⟩ : ∃ A3, (if cap' = i + 1 then some a2 else (some a2).map (·.add ((i + 1) * 5))) = A3 := ⟨_, rfl⟩
    have hA3' : A3 = some (a2.add ((i + 1) * 5)) := by rw [← hA3, if_neg (by omega)]; rfl
    subst hA3'
    refine SlN.mk (i + 1) m _ (m - (i + 1)) (cap' - (i + 1)) hpi rfl (by omega) (by omega) hA3 rfl rfl ?_
    (conv => whnf)
    obtain ⟨A4, hA4⟩ : ∃ A4, (if cap = i then some ad else (some ad).map (·.add (i * 5))) = A4 := ⟨_, rfl⟩
    refine SlN.mk i n A4 (n - i) (cap - i) rfl rfl (by omega) (by omega) hA4 rfl rfl ?_
    (conv => whnf)
    refine SrcK.mk (ds.drop (i * 5)) (by show _ = (n - i) * 5; rw [List.length_drop, hlen, ← Nat.sub_mul]) (fun o u hu => ?_) ?_
    · rw [List.getElem?_drop] at hu
      rw [if_neg (by omega)] at hA4
      subst hA4
      exact ⟨_, rfl, by rw [add_add]; exact hds2 _ u hu⟩
    refine WrL.eq (vs := ds.drop (i * 5)) (by show List.take (min (n - i) (m - (i + 1)) * 5) _ = _; rw [show min (n - i) (m - (i + 1)) = n - i by omega, List.take_of_length_le (by rw [List.length_drop, hlen]; omega)]) ?_
    refine WrL.mk rfl (fun o ho => ?_) (fun _ _ => rfl) (allOne_drop _ hall) (fun M3 q1 q2 => ?_)
    · rw [List.length_drop, hlen] at ho
      obtain ⟨u, hu⟩ := hr1.room ((i + 1) * 5 + o) (by omega)
      show (M2 ((a2.add ((i + 1) * 5)).add o)).isSome = true
      rw [add_add, hu]; rfl
    (conv => whnf)
    refine RetK.mk fun g M' hl hg => ⟨a2, cap', slice_eq (by omega), RowC.mono ?_ hl, .inr fun a u hu => hfresh a u hu⟩
    refine hr1.wr (q := (i + 1) * 5) q1 q2 (by simp only [List.length_append, List.length_take, List.length_drop, hlen, hvl]; omega) (by omega) (fun o u hu => ?_)
    have hl2 : (ds.take (i * 5) ++ vs).length = (i + 1) * 5 := by rw [List.length_append, htl, hvl]; omega
    rcases Nat.lt_or_ge o ((i + 1) * 5) with h1 | h1
    · rw [List.getElem?_append_left (by omega)] at hu
      exact .inr ⟨.inl h1, hr1.el o u hu⟩
    · rw [List.getElem?_append_right (by omega), hl2] at hu
      exact .inl ⟨h1, hu⟩
theorem insHead_0 (M : Mem) (av : Addr) (cv : Nat) (vs : List Value) (hvl : vs.length = 5) (hva : allOne vs = true) (hv : ∀ o u, vs[o]? = some u → M (av.add o) = some u) : AnsG Tryz.prog M 149 #[.slice none 0 0, .int .i64 0, .slice (some av) 1 cv] (fun v M' => ∃ ad' cap', v = .slice (some ad') 1 cap' ∧ RowC M' ad' 5 1 cap' vs ∧ ∀ a u, M a = some u → a.block ≠ ad'.block) := by
  refine ansG_of T (l := [.slice none 0 0, .int .i64 0, .slice (some av) 1 cv]) mixed Tryz.func149 rfl (by kernel_rfl) (Nat.le_of_ble_eq_true rfl) ?_
  (conv => whnf)
  refine SlN.mk 0 0 none 0 0 rfl rfl (by omega) (by omega) rfl rfl rfl ?_
  (conv => whnf)
  refine SrcK.mk vs (by show _ = 1 * 5; rw [hvl]) (fun o u hu => ⟨av, rfl, hv o u hu⟩) ?_
  refine AppK.mk (by decide) (by decide) (.inl (by decide)) hva (fun cap' hcap' => ?_)
  (conv => whnf)
  refine RetK.fc fun g M' hl hg hc => ⟨_, cap', rfl, ⟨by rw [hvl], hcap', fun o u hu => ?_, fun o ho => ?_⟩, fun a u hu => (hg 0 _ rfl).1 a u hu⟩
  · have := (hg 0 _ rfl).2 o u hu
    unfold Addr.add
    split
    · rename_i h0; subst h0; exact this
    · simpa using this
  · obtain ⟨u, hu⟩ := hc 0 _ _ _ _ (List.mem_singleton.mpr rfl) rfl o ho
    refine ⟨u, ?_⟩
    unfold Addr.add
    split
    · rename_i h0; subst h0; exact hu
    · simpa using hu
theorem insHead_k {wr : Bool} {M N N1 : Mem} {A : Option Addr} {av : Addr} {n cap cv i : Nat} {ds vs : List Value} {K : Value → Mem → Prop} (hw : wr = true) (h : RowN M N 5 A n cap ds) (hMN : Le M N) (hN : Le N N1) (hfr : ∀ a u, N a = some u → a.block ≠ av.block) (hall : allOne ds = true) (hvl : vs.length = 5) (hva : allOne vs = true) (hv : ∀ o u, vs[o]? = some u → N1 (av.add o) = some u) (hi : i ≤ n) (hn : n ≤ 1000)
    (k : ∀ N' A' cap', Le M N' → RowN M N' 5 A' (n + 1) cap' (ds.take (i * 5) ++ vs ++ ds.drop (i * 5)) → K (.slice A' (n + 1) cap') N') : CallK Tryz.prog wr M N1 149 #[.slice A n cap, .int .i64 (i : Int), .slice (some av) 1 cv] K := by
  have hv0 : ∀ {b1 b2 : Nat}, av.block = b1 ∨ av.block = b2 → ∀ o u, vs[o]? = some u → bk N1 b1 b2 (av.add o) = some u := fun hb o u hu => bk_of (by rw [add_block]; exact hb) (hv o u hu)
  rcases h with ⟨rfl, h1, h2, h3⟩ | ⟨ad, rfl, hr, hf⟩
  · subst h1 h2 h3
    have hi0 : i = 0 := by omega
    subst hi0
    refine CallK.mg (bk N1 av.block av.block) _ hw (insHead_0 _ av cv vs hvl hva (hv0 (.inl rfl))) (bk_le _ _ _) (fun a u hu => ?_) (bk_hd _ _ _) (fun v Mx M' hv hl hkeep hdom hnew => ?_)
    · cases hm : M a with
      | none => rfl
      | some w =>
        obtain ⟨hb, _⟩ := bk_at hu
        have := hfr a w (hMN a w hm)
        rcases hb with hb | hb <;> exact absurd hb this
    obtain ⟨ad', cap', rfl, hrow, hfx⟩ := hv
    refine k M' (some ad') cap' (fun a u hu => hkeep a u ?_ (hN _ _ (hMN a u hu))) (.inr ⟨ad', rfl, (hrow.mono hl).eq rfl (by simp), fun a u hu => ?_⟩)
    · cases hm : bk N1 av.block av.block a with
      | none => rfl
      | some w =>
        obtain ⟨hb, _⟩ := bk_at hm
        have := hfr a u (hMN a u hu)
        rcases hb with hb | hb <;> exact absurd hb this
    · rcases hnew _ _ (hrow.el 0 _ (List.getElem?_eq_getElem (by rw [hrow.len]; decide))) with ⟨a', u0, g1, g2⟩ | g
      · exact absurd (by rw [add_block] at g2; exact g2) (hfx a' u0 g1)
      · have := g a u (hN _ _ (hMN a u hu))
        rwa [add_block] at this
  refine CallK.mg (bk N1 ad.block av.block) _ hw (insHead_g _ ad av n cap cv i ds vs ((hr.mono hN).bk (.inl rfl)) hall hvl hva (hv0 (.inr rfl)) (fun hc he => ?_) hi hn) (bk_le _ _ _) (fun a u hu => ?_) (bk_hd _ _ _) (fun v Mx M' hv hl hkeep hdom hnew => ?_)
  · obtain ⟨u, hu⟩ := hr.room 0 (by omega)
    have := hfr _ u hu
    rw [add_block] at this
    exact this he.symm
  · cases hm : M a with
    | none => rfl
    | some w =>
      obtain ⟨hb, _⟩ := bk_at hu
      rcases hb with hb | hb
      · exact absurd hb (hf a w hm)
      · exact absurd hb (hfr a w (hMN a w hm))
  obtain ⟨ad', cap', rfl, hrow, hfx⟩ := hv
  refine k M' (some ad') cap' (fun a u hu => hkeep a u ?_ (hN _ _ (hMN a u hu))) (.inr ⟨ad', rfl, hrow.mono hl, fun a u hu => ?_⟩)
  · cases hm : bk N1 ad.block av.block a with
    | none => rfl
    | some w =>
      obtain ⟨hb, _⟩ := bk_at hm
      rcases hb with hb | hb
      · exact absurd hb (hf a u hu)
      · exact absurd hb (hfr a u (hMN a u hu))
  · rcases hfx with rfl | hfx
    · exact hf a u hu
    · rcases hnew _ _ (hrow.el 0 _ (List.getElem?_eq_getElem (by rw [hrow.len]; omega))) with ⟨a', u0, g1, g2⟩ | g
      · exact absurd (by rw [add_block] at g2; exact g2) (hfx a' u0 g1)
      · have := g a u (hN _ _ (hMN a u hu))
        rwa [add_block] at this
end Go.Proofs.YtefhbbmklpnpoaaGreat.Hlp
