/- slices.Clone, Insert, Delete over rows in known memory. -/
import Derived.Test.YthlnapamdcmlkaaHlpC
import Derived.Lib.Overlaps
namespace Go.Proofs.Ythlnapamdcmlkaa.Hlp
open Go Go.RowKit Go.Proofs Go.Proofs.Ythlnapamdcmlkaa.Lw
set_option linter.unusedVariables false
set_option linter.unusedSimpArgs false
set_option maxRecDepth 100000
set_option maxHeartbeats 4000000
def SrcOk (M : Mem) (base : Option Addr) (m : Nat) (ds : List Value) : Prop := ds.length = m ∧ ∀ o u, ds[o]? = some u → ∃ ad, base = some ad ∧ M (ad.add o) = some u
/-- A row in known memory: its cells, and room as far as its capacity. -/
structure RowC (M : Mem) (ad : Addr) (z n cap : Nat) (ds : List Value) : Prop where
  len : ds.length = n * z
  le : n ≤ cap
  el : ∀ o u, ds[o]? = some u → M (ad.add o) = some u
  room : ∀ o, o < cap * z → ∃ u, M (ad.add o) = some u
theorem RowC.mono {M M' : Mem} {ad : Addr} {z n cap : Nat} {ds : List Value} (h : RowC M ad z n cap ds) (hl : Le M M') : RowC M' ad z n cap ds :=
  ⟨h.len, h.le, fun o u hu => hl _ _ (h.el o u hu), fun o ho => let ⟨u, hu⟩ := h.room o ho; ⟨u, hl _ _ hu⟩⟩
theorem RowC.eq {M : Mem} {ad : Addr} {z n n' cap : Nat} {ds ds' : List Value} (h : RowC M ad z n cap ds) (hn : n = n') (hd : ds = ds') : RowC M ad z n' cap ds' := by subst hn hd; exact h
/-- Cells written within a row's room. -/
theorem RowC.wr {M M' : Mem} {ad : Addr} {z n cap : Nat} {ds : List Value} (h : RowC M ad z n cap ds) {q : Nat} {vs : List Value} (k1 : ∀ o u, vs[o]? = some u → M' ((ad.add q).add o) = some u) (k2 : ∀ a, (∀ o, o < vs.length → a ≠ (ad.add q).add o) → M' a = M a)
    {n' : Nat} {ds' : List Value} (hl : ds'.length = n' * z) (hn : n' ≤ cap) (hd : ∀ o u, ds'[o]? = some u → (q ≤ o ∧ vs[o - q]? = some u) ∨ ((o < q ∨ q + vs.length ≤ o) ∧ M (ad.add o) = some u)) : RowC M' ad z n' cap ds' := by
  have out : ∀ o, (o < q ∨ q + vs.length ≤ o) → M' (ad.add o) = M (ad.add o) := fun o ho => k2 _ fun p hp he => by
    rw [add_add] at he
    have := add_inj he
    omega
  refine ⟨hl, hn, fun o u hu => ?_, fun o ho => ?_⟩
  · rcases hd o u hu with ⟨h1, h2⟩ | ⟨h1, h2⟩
    · have := k1 _ u h2
      rwa [add_add, show q + (o - q) = o by omega] at this
    · rw [out o h1]; exact h2
  · by_cases hq : q ≤ o ∧ o < q + vs.length
    · have h1 : o - q < vs.length := by omega
      have := k1 (o - q) _ (List.getElem?_eq_getElem h1)
      rw [add_add, show q + (o - q) = o by omega] at this
      exact ⟨_, this⟩
    · rw [out o (by omega)]; exact h.room o ho
/-- The room behind a row, as a list of whatever lies there. -/
theorem room_list {M : Mem} {ad : Addr} {q : Nat} : ∀ (m : Nat), (∀ o, o < m → ∃ u, M (ad.add (q + o)) = some u) → ∃ ts : List Value, ts.length = m ∧ ∀ o u, ts[o]? = some u → M (ad.add (q + o)) = some u
  | 0, _ => ⟨[], rfl, fun o u hu => by simp at hu⟩
  | m + 1, h => by
    obtain ⟨ts, h1, h2⟩ := room_list m (fun o ho => h o (by omega))
    obtain ⟨u, hu⟩ := h m (by omega)
    refine ⟨ts ++ [u], by simp [h1], fun o v hv => ?_⟩
    rcases Nat.lt_or_ge o ts.length with ho | ho
    · rw [List.getElem?_append_left ho] at hv
      exact h2 o v hv
    · rw [List.getElem?_append_right ho] at hv
      have : o - ts.length = 0 := by
        rcases Nat.eq_zero_or_pos (o - ts.length) with h3 | h3
        · exact h3
        · rw [List.getElem?_eq_none (by simp; omega)] at hv; cases hv
      rw [this] at hv
      simp only [List.getElem?_cons_zero, Option.some.injEq] at hv
      subst hv
      rw [show o = m by omega]; exact hu
theorem allOne_take : ∀ {l : List Value} (k : Nat), allOne l = true → allOne (l.take k) = true
  | [], k, h => by simp; rfl
  | v :: r, 0, h => rfl
  | v :: r, k + 1, h => by simp only [allOne, Bool.and_eq_true, List.take_succ_cons] at h ⊢; exact ⟨h.1, allOne_take k h.2⟩
theorem allOne_drop : ∀ {l : List Value} (k : Nat), allOne l = true → allOne (l.drop k) = true
  | [], k, h => by simp; rfl
  | v :: r, 0, h => h
  | v :: r, k + 1, h => by simp only [allOne, Bool.and_eq_true, List.drop_succ_cons] at h ⊢; exact allOne_drop k h.2
theorem WrL.eq {wr : Bool} {base M : Mem} {ad : Addr} {vs vs' : List Value} {K : Mem → Prop} (e : vs' = vs) (h : WrL wr base M ad vs K) : WrL wr base M ad vs' K := e ▸ h
theorem add_block (ad : Addr) (o : Nat) : (ad.add o).block = ad.block := by unfold Addr.add; split <;> rfl
theorem flat_take {z : Nat} : ∀ {css : List (List Value)} (k : Nat), (∀ cs ∈ css, cs.length = z) → css.flatten.take (k * z) = (css.take k).flatten
  | [], k, _ => by simp
  | cs :: r, 0, _ => by simp
  | cs :: r, k + 1, h => by
    have h1 := h cs (List.mem_cons_self ..)
    rw [List.flatten_cons, List.take_succ_cons, List.flatten_cons, Nat.add_mul, Nat.one_mul, Nat.add_comm, ← h1, List.take_length_add_append, h1, flat_take k fun c hc => h c (List.mem_cons_of_mem _ hc)]
theorem flat_drop {z : Nat} : ∀ {css : List (List Value)} (k : Nat), (∀ cs ∈ css, cs.length = z) → css.flatten.drop (k * z) = (css.drop k).flatten
  | [], k, _ => by simp
  | cs :: r, 0, _ => by simp
  | cs :: r, k + 1, h => by
    have h1 := h cs (List.mem_cons_self ..)
    rw [List.flatten_cons, List.drop_succ_cons, Nat.add_mul, Nat.one_mul, Nat.add_comm, ← h1, List.drop_length_add_append, h1, flat_drop k fun c hc => h c (List.mem_cons_of_mem _ hc)]
theorem RowR.take {α : Type} {M : Mem} {R : Mem → α → List Value → Prop} {z : Nat} {l : List α} {ds : List Value} (h : RowR M R z l ds) (k : Nat) : RowR M R z (l.take k) (ds.take (k * z)) := by
  obtain ⟨css, rfl, h1, h2, h3⟩ := h.ex
  rw [flat_take k fun cs hc => (h2 cs hc).1]
  refine ⟨css.take k, rfl, by simp [h1], fun cs hc => h2 cs (List.mem_of_mem_take hc), fun i x hx => ?_⟩
  rw [List.getElem?_take] at hx
  split at hx
  · rename_i hi
    obtain ⟨cs, g1, g2⟩ := h3 i x hx
    exact ⟨cs, by rw [List.getElem?_take, if_pos hi]; exact g1, g2⟩
  · cases hx
theorem RowR.drop {α : Type} {M : Mem} {R : Mem → α → List Value → Prop} {z : Nat} {l : List α} {ds : List Value} (h : RowR M R z l ds) (k : Nat) : RowR M R z (l.drop k) (ds.drop (k * z)) := by
  obtain ⟨css, rfl, h1, h2, h3⟩ := h.ex
  rw [flat_drop k fun cs hc => (h2 cs hc).1]
  refine ⟨css.drop k, rfl, by simp [h1], fun cs hc => h2 cs (List.mem_of_mem_drop hc), fun i x hx => ?_⟩
  rw [List.getElem?_drop] at hx
  obtain ⟨cs, g1, g2⟩ := h3 _ x hx
  exact ⟨cs, by rw [List.getElem?_drop]; exact g1, g2⟩
theorem RowC.sl {α : Type} {M M' : Mem} {R : Mem → α → List Value → Prop} {z by_ cap : Nat} {ad : Addr} {l : List α} {ds : List Value} (h : RowC M ad z l.length cap ds) (r : RowR M' R z l ds) (hR : ∀ x cs, R M' x cs → R M x cs) (hl : l.length ≤ 9223372036854775807) : SlR M R z by_ (some ad) cap l := by
  obtain ⟨css, rfl, h1, h2, h3⟩ := r.ex
  refine ⟨h.le, hl, fun i x hx => ?_⟩
  obtain ⟨cs, g1, g2⟩ := h3 i x hx
  refine ⟨ad, cs, rfl, hR x cs g2, (h2 cs (List.mem_of_getElem? g1)).1, fun j u hu => ?_⟩
  rw [add_add]
  exact h.el _ u (flat_get (fun c hc => (h2 c hc).1) g1 hu)
theorem add0 (ad : Addr) : ad.add 0 = ad := by simp [Addr.add]
/-- The state of a row that is handed on: none yet, or one that lies apart from what was known first. -/
def RowN (M0 N : Mem) (z : Nat) (A : Option Addr) (n cap : Nat) (ds : List Value) : Prop := (A = none ∧ n = 0 ∧ cap = 0 ∧ ds = []) ∨ ∃ ad, A = some ad ∧ RowC N ad z n cap ds ∧ ∀ a u, M0 a = some u → a.block ≠ ad.block
theorem RowN.sl {α : Type} {M0 M M' : Mem} {R : Mem → α → List Value → Prop} {z by_ cap : Nat} {A : Option Addr} {l : List α} {ds : List Value} (h : RowN M0 M z A l.length cap ds) (r : RowR M' R z l ds) (hR : ∀ x cs, R M' x cs → R M x cs) (hl : l.length ≤ 9223372036854775807) : SlR M R z by_ A cap l := by
  rcases h with ⟨_, h1, _⟩ | ⟨ad, rfl, h1, _⟩
  · rw [List.eq_nil_of_length_eq_zero h1]; exact SlR.nil
  · exact h1.sl r hR hl
/-- The rows of which a call is told: one block, or two. -/
def bk (N : Mem) (b1 b2 : Nat) : Mem := fun a => if a.block = b1 ∨ a.block = b2 then N a else none
theorem bk_le (N : Mem) (b1 b2 : Nat) : Le (bk N b1 b2) N := fun a u h => by unfold bk at h; split at h; exact h; cases h
theorem bk_at {N : Mem} {b1 b2 : Nat} {a : Addr} {u : Value} (h : bk N b1 b2 a = some u) : (a.block = b1 ∨ a.block = b2) ∧ N a = some u := by unfold bk at h; split at h; (rename_i hb; exact ⟨hb, h⟩); cases h
theorem bk_of {N : Mem} {b1 b2 : Nat} {a : Addr} {u : Value} (hb : a.block = b1 ∨ a.block = b2) (h : N a = some u) : bk N b1 b2 a = some u := by unfold bk; rw [if_pos hb]; exact h
theorem bk_no {N : Mem} {b1 b2 : Nat} {a : Addr} {u : Value} (hn : bk N b1 b2 a = none) (h : N a = some u) : a.block ≠ b1 ∧ a.block ≠ b2 := by
  unfold bk at hn
  split at hn
  · rw [h] at hn; cases hn
  · rename_i hb; exact ⟨fun h => hb (.inl h), fun h => hb (.inr h)⟩
theorem bk_hd (N : Mem) (b1 b2 : Nat) : ∀ ad u ad' u', bk N b1 b2 ad = some u → N ad' = some u' → bk N b1 b2 ad' = none → ad.block ≠ ad'.block := fun ad u ad' u' h1 h2 h3 he => by
  obtain ⟨h4, _⟩ := bk_at h1
  obtain ⟨h5, h6⟩ := bk_no h3 h2
  rcases h4 with h4 | h4
  · exact h5 (he ▸ h4)
  · exact h6 (he ▸ h4)
theorem RowC.bk {N : Mem} {ad : Addr} {z n cap : Nat} {ds : List Value} {b1 b2 : Nat} (h : RowC N ad z n cap ds) (hb : ad.block = b1 ∨ ad.block = b2) : RowC (bk N b1 b2) ad z n cap ds :=
  ⟨h.len, h.le, fun o u hu => bk_of (by rw [add_block]; exact hb) (h.el o u hu), fun o ho => let ⟨u, hu⟩ := h.room o ho; ⟨u, bk_of (by rw [add_block]; exact hb) hu⟩⟩
theorem i64_pn {n k : Nat} (h : n + k ≤ 9223372036854775807) : IntKind.i64.wrap ((n : Int) + (k : Int)) = ((n + k : Nat) : Int) := by rw [i64_in (by omega) (by omega)]; push_cast; rfl
theorem i64_sn {n k : Nat} (hk : k ≤ n) (h : n ≤ 9223372036854775807) : IntKind.i64.wrap ((n : Int) - (k : Int)) = ((n - k : Nat) : Int) := by rw [i64_in (by omega) (by omega)]; omega
theorem cloneCall_f (M : Mem) (l : List GCall) (A : Option Addr) (c : Nat) (h : SlR M RCall 14 136 A c l) (hn : l.length ≤ 1000) : AnsR Try.prog M 30 #[.slice A l.length c] (fun M' v => ∃ A' cap' ds, v = .slice A' l.length cap' ∧ RowR M RCall 14 l ds ∧ RowN M M' 14 A' l.length cap' ds) := by
  refine ansR_of T (l := [.slice A l.length c]) mixed Try.func30 rfl (by kernel_rfl) (Nat.le_of_ble_eq_true rfl) ?_
  obtain ⟨ds, h1, h2, h3⟩ := h.row (fun x cs hx => (RCall.one x cs hx).1)
  cases A with
  | none =>
    have hl : l = [] := by
      cases l with
      | nil => rfl
      | cons x r => obtain ⟨ad, _, h4, _⟩ := h.el 0 x rfl; cases h4
    subst hl
    have hd : ds = [] := List.eq_nil_of_length_eq_zero (by simpa using h2)
    subst hd
    repeat' ((conv => whnf); first | with_reducible refine CondK.tt ?_ | with_reducible refine CondK.ff ?_ | fail)
    exact RetK.mk fun g M' hl hg => ⟨none, 0, [], rfl, h1, .inl ⟨rfl, rfl, rfl, rfl⟩⟩
  | some ad =>
    repeat' ((conv => whnf); first | with_reducible refine CondK.tt ?_ | with_reducible refine CondK.ff ?_ | fail)
    refine SrcK.mk ds h2 h3 ?_
    (conv => whnf)
    refine AppK.mk (by show (2 * _ + 512) * 136 ≤ 281474976710656; omega) (by omega) (.inr rfl) h1.all (fun cap3 hcap3 => ?_)
    (conv => whnf)
    refine RetK.fc fun g M' hl hg hc => ⟨_, cap3, ds, slice_eq (by omega), h1, .inr ⟨_, rfl, ⟨h2, by omega, fun o u hu => ?_, fun o ho => ?_⟩, fun a u hu => (hg 1 _ rfl).1 a u hu⟩⟩
    · have := (hg 1 _ rfl).2 o u hu
      unfold Addr.add
      split
      · rename_i h0; subst h0; exact this
      · simpa using this
    · obtain ⟨u, hu⟩ := hc 1 _ _ _ _ (List.mem_singleton.mpr rfl) rfl o ho
      refine ⟨u, ?_⟩
      unfold Addr.add
      split
      · rename_i h0; subst h0; exact hu
      · simpa using hu
theorem delCall_g (M : Mem) (ad : Addr) (n cap i : Nat) (ds : List Value) (h : RowC M ad 14 n cap ds) (hall : allOne ds = true) (hi : i < n) (hn : n ≤ 1000) : AnsG Try.prog M 46 #[.slice (some ad) n cap, .int .i64 (i : Int), .int .i64 ((i + 1 : Nat) : Int)] (fun v M' => v = .slice (some ad) (n - 1) cap ∧ RowC M' ad 14 (n - 1) cap (ds.take (i * 14) ++ ds.drop ((i + 1) * 14))) := by
  have hcap := h.le
  have hlen := h.len
  refine ansG_of T (l := [.slice (some ad) n cap, .int .i64 (i : Int), .int .i64 ((i + 1 : Nat) : Int)]) mixed Try.func46 rfl (by kernel_rfl) (Nat.le_of_ble_eq_true rfl) ?_
  (conv => whnf)
  refine Sl3K.mk i (i + 1) n rfl rfl rfl (by omega) (by omega) (by omega) ?_
  (conv => whnf)
  refine CondK.no' (by simp; omega) ?_
  (conv => whnf)
  refine DrawN.t 6 (by kernel_rfl) ?_
  (conv => whnf)
  refine SlN.mk 0 i (some ad) i cap rfl rfl (by omega) (by omega) (by rw [if_neg (by omega)]; simp [add0]) (by omega) (by omega) ?_
  (conv => whnf)
  obtain ⟨A2, hA2⟩ : ∃ A2, (if cap = i + 1 then some ad else (some ad).map (·.add ((i + 1) * 14))) = A2 := ⟨_, rfl⟩
  refine SlN.mk (i + 1) n A2 (n - (i + 1)) (cap - (i + 1)) rfl rfl (by omega) (by omega) hA2 rfl rfl ?_
  (conv => whnf)
  refine SrcK.mk (ds.drop ((i + 1) * 14)) (by show _ = (n - (i + 1)) * 14; rw [List.length_drop, hlen, ← Nat.sub_mul]) (fun o u hu => ?_) ?_
  · rw [List.getElem?_drop] at hu
    have hlt : (i + 1) * 14 + o < ds.length := by
      rcases Nat.lt_or_ge ((i + 1) * 14 + o) ds.length with h1 | h1
      · exact h1
      · rw [List.getElem?_eq_none h1] at hu; cases hu
    rw [if_neg (by omega)] at hA2
    subst hA2
    exact ⟨_, rfl, by rw [add_add]; exact h.el _ u hu⟩
  refine AppX.w (by omega) (WrL.mk rfl (fun o ho => ?_) (fun _ _ => rfl) (allOne_drop _ hall) (fun M1 k1 k2 => ?_))
  · rw [List.length_drop, hlen] at ho
    obtain ⟨u, hu⟩ := h.room (i * 14 + o) (by omega)
    show (M ((ad.add (i * 14)).add o)).isSome = true
    rw [add_add, hu]; rfl
  have hr1 : RowC M1 ad 14 (n - 1) cap (ds.take (i * 14) ++ ds.drop ((i + 1) * 14)) := by
    refine h.wr (q := i * 14) k1 k2 (by rw [List.length_append, List.length_take, List.length_drop, hlen]; omega) (by omega) (fun o u hu => ?_)
    have htl : (ds.take (i * 14)).length = i * 14 := by rw [List.length_take, hlen]; omega
    rcases Nat.lt_or_ge o (i * 14) with h1 | h1
    · rw [List.getElem?_append_left (by omega), List.getElem?_take, if_pos h1] at hu
      exact .inr ⟨.inl h1, h.el o u hu⟩
    · rw [List.getElem?_append_right (by omega), htl] at hu
      exact .inl ⟨h1, hu⟩
  (conv => whnf)
  refine SlN.mk (n - 1) n (some (ad.add ((n - 1) * 14))) 1 (cap - (n - 1)) (by omega) rfl (by omega) (by omega) (by rw [if_neg (by omega)]; rfl) (by omega) rfl ?_
  (conv => whnf)
  refine WrL.mk rfl (fun o ho => ?_) (fun _ _ => rfl) rfl (fun M2 j1 j2 => ?_)
  · replace ho : o < 14 := ho
    obtain ⟨u, hu⟩ := hr1.room ((n - 1) * 14 + o) (by omega)
    show (M1 ((ad.add ((n - 1) * 14)).add o)).isSome = true
    rw [add_add, hu]; rfl
  (conv => whnf)
  refine RetK.mk fun g M' hl hg => ⟨slice_eq (by omega), RowC.mono ?_ hl⟩
  refine hr1.wr (q := (n - 1) * 14) j1 j2 hr1.len hr1.le (fun o u hu => .inr ⟨.inl ?_, hr1.el o u hu⟩)
  rcases Nat.lt_or_ge o ((n - 1) * 14) with h1 | h1
  · exact h1
  · rw [List.getElem?_eq_none (by rw [hr1.len]; exact h1)] at hu; cases hu
theorem delCall_k {wr : Bool} {M N : Mem} {A : Option Addr} {n cap i : Nat} {ds : List Value} {K : Value → Mem → Prop} {j : Int} (hj : j = ((i + 1 : Nat) : Int)) (hw : wr = true) (h : RowN M N 14 A n cap ds) (hMN : Le M N) (hall : allOne ds = true) (hi : i < n) (hn : n ≤ 1000)
    (k : ∀ N', Le M N' → RowN M N' 14 A (n - 1) cap (ds.take (i * 14) ++ ds.drop ((i + 1) * 14)) → K (.slice A (n - 1) cap) N') : CallK Try.prog wr M N 46 #[.slice A n cap, .int .i64 (i : Int), .int .i64 j] K := by
  subst hj
  rcases h with ⟨_, h1, _⟩ | ⟨ad, rfl, hr, hf⟩
  · omega
  refine CallK.mg (bk N ad.block ad.block) _ hw (delCall_g _ ad n cap i ds (hr.bk (.inl rfl)) hall hi hn) (bk_le _ _ _) (fun a u hu => ?_) (bk_hd _ _ _) (fun v Mx M' hv hl hkeep hdom hnew => ?_)
  · cases hm : M a with
    | none => rfl
    | some w =>
      obtain ⟨hb, _⟩ := bk_at hu
      have := hf a w hm
      rcases hb with hb | hb <;> exact absurd hb this
  obtain ⟨rfl, hrow⟩ := hv
  refine k M' (fun a u hu => hkeep a u ?_ (hMN a u hu)) (.inr ⟨ad, rfl, hrow.mono hl, hf⟩)
  cases hm : bk N ad.block ad.block a with
  | none => rfl
  | some w =>
    obtain ⟨hb, _⟩ := bk_at hm
    have := hf a u hu
    rcases hb with hb | hb <;> exact absurd hb this
end Go.Proofs.Ythlnapamdcmlkaa.Hlp
