/- slices.Compact over []int64 by the shelf, as a contract that writes a known row. -/
import Derived.Test.YtgeofmoojifkmaaGreatFunVX
import Derived.Test.YtgeofmoojifkmaaGreatShelfC
import Derived.Lib.RowBridge
namespace Go.Proofs.YtgeofmoojifkmaaGreat.Hlp
open Go Go.RowKit Go.Proofs Go.Proofs.YtgeofmoojifkmaaGreat.Lw Go.Sort
set_option linter.unusedVariables false
set_option linter.unusedSimpArgs false
set_option maxRecDepth 100000
set_option maxHeartbeats 4000000
theorem compact_le (d : List Int) : (Lib.compact d).length ≤ d.length := by
  exact Lib.compact_length_le d
def cpd (d : List Int) : List Int := Lib.compact d ++ List.replicate (d.length - (Lib.compact d).length) 0
theorem cpd_len (d : List Int) : (cpd d).length = d.length := by
  have := compact_le d
  unfold cpd
  rw [List.length_append, List.length_replicate]
  omega
/-- slices.Compact over a row that memory M knows, and nothing else. -/
theorem compactInts_g (M : Mem) (ad : Addr) (cap : Nat) (d : List Int) (hne : 0 < d.length) (hlen : d.length ≤ 1048576) (hcap : d.length ≤ cap) (hc : ∀ o u, (cellsI d)[o]? = some u → M (ad.add o) = some u) (hM : ∀ a u, M a = some u → a.block = ad.block) :
    AnsG Tryz.prog M 30 #[.slice (some ad) d.length cap] (fun v M' => v = .slice (some ad) (Lib.compact d).length cap ∧ (∀ o u, (cellsI (Lib.compact d))[o]? = some u → M' (ad.add o) = some u) ∧ ∀ a u, M a = some u → ∃ u', M' a = some u') := by
  refine ⟨by kernel_rfl, fun w hw hpl => ?_⟩
  have h00 : ∃ u, (cellsI d)[0]? = some u := by unfold cellsI; rw [List.getElem?_map, List.getElem?_eq_getElem hne]; exact ⟨_, rfl⟩
  obtain ⟨u0, hu0⟩ := h00
  have hm0 := hc 0 u0 hu0
  have hspot : ∀ a u, M a = some u → a.spot = none := fun a u ha => by
    have h := hw _ _ ha
    unfold World.cell? at h
    cases hs : a.spot with
    | none => rfl
    | some s =>
      rw [hs] at h
      split at h
      · simp at h
      · cases h
  have hsp : ad.spot = none := by
    have := hspot _ _ hm0
    rwa [show ad.add 0 = ad from by simp [Addr.add]] at this
  obtain ⟨blk, off, spot⟩ := ad
  simp only at hsp
  subst hsp
  have hadd : ∀ o, (Addr.mk blk off none).add o = ⟨blk, off + o, none⟩ := fun o => by unfold Addr.add; split <;> simp_all
  obtain ⟨c0, ty, hblk⟩ := hpl _ _ hm0
  rw [hadd] at hblk
  have hbs : blk < w.heap.size := by
    rcases Nat.lt_or_ge blk w.heap.size with h | h
    · exact h
    · rw [Array.getElem?_eq_none h] at hblk; cases hblk
  have hH : Holds (Value.int .i64) w blk off d.toArray := fun j hj => by
    have hj' : j < d.length := by simpa using hj
    have e1 : d[j]? = some d[j] := List.getElem?_eq_getElem hj'
    refine ⟨?_, ?_⟩
    · have h := hw _ _ (hc j (.int .i64 d[j]) (by unfold cellsI; rw [List.getElem?_map, e1]; rfl))
      rw [hadd] at h
      rw [h, getB e1]
    · unfold World.frozen?
      rw [hblk]
      simp
  have hcon := AnyG.slices_Compact_int Tryz.compactInts blk off cap d w hH (by omega) hcap
  refine (show Calls Tryz.prog 30 _ w _ from hcon).mono fun e w' ⟨he, n, hw0⟩ => ?_
  have hw' : w' = grow (putRow (Value.int .i64) (Sort.ahead w n) blk off (cpd d).toArray) #[] := by rw [grow_empty]; exact hw0
  have hcl := compact_le d
  have hpre : ∀ o x, (Lib.compact d)[o]? = some x → (cpd d)[o]? = some x := fun o x hx => by
    unfold cpd
    rw [List.getElem?_append_left (by rcases Nat.lt_or_ge o (Lib.compact d).length with h | h; exact h; rw [List.getElem?_eq_none h] at hx; cases hx)]
    exact hx
  have hsz : (cpd d).toArray.size = d.toArray.size := by simp [cpd_len]
  have hH' : Holds (Value.int .i64) w' blk off (cpd d).toArray := by
    rw [hw']
    refine holds_grow _ _ _ _ _ _ (by simpa [putRow, mapBlock, Sort.ahead] using hbs) ?_
    exact holds_putRow _ _ _ _ d.toArray _ (holds_ahead _ _ _ _ _ _ hH) hsz
  have hother : ∀ k, k < w.heap.size → k ≠ blk → w'.heap[k]? = w.heap[k]? := fun k hk hne => by
    rw [hw']
    exact mapB_old w blk n _ #[] hk hne
  have hpl' : Pl w' blk := by
    rw [hw']
    exact ⟨_, _, mapB_pl w blk n _ #[] hblk hbs⟩
  have hsome : ∀ a u, M a = some u → ∃ u', w'.cell? a = some u' := fun a u ha => by
    have hb : a.block = blk := hM a u ha
    have hs := hspot a u ha
    have h := hw _ _ ha
    have h' : w'.heap[blk]? = some (.cells (putCells (Value.int .i64) off (cpd d).toArray c0) ty (0, 0)) := by rw [hw']; exact mapB_pl w blk n _ #[] hblk hbs
    unfold World.cell? at h ⊢
    rw [hb] at h ⊢
    rw [hblk] at h
    rw [h', hs]
    rw [hs] at h
    simp only [Option.isSome_none, Bool.false_eq_true, if_false] at h ⊢
    have hlt : a.off < c0.size := by
      rcases Nat.lt_or_ge a.off c0.size with h2 | h2
      · exact h2
      · rw [Array.getElem?_eq_none h2] at h; cases h
    exact ⟨_, Array.getElem?_eq_getElem (by simpa [putCells] using hlt)⟩
  refine ⟨.slice (some ⟨blk, off, none⟩) (Lib.compact d).length cap, fun a => if (M a).isSome then w'.cell? a else none, he, fun a u hu => ?_, fun a u hu => ?_, fun a u hu => ?_, ⟨rfl, fun o u hu => ?_, fun a u hu => ?_⟩, ?_⟩
  · simp only at hu
    split at hu
    · exact hu
    · cases hu
  · simp only at hu
    split at hu
    · rename_i h
      obtain ⟨u1, hu1⟩ := Option.isSome_iff_exists.1 h
      exact .inl ⟨a, u1, hu1, rfl⟩
    · cases hu
  · simp only at hu
    split at hu
    · rename_i h
      obtain ⟨u1, hu1⟩ := Option.isSome_iff_exists.1 h
      rw [hM _ _ hu1]
      exact hpl'
    · cases hu
  · obtain ⟨x, hx, rfl⟩ := cellsI_at hu
    have ho : o < d.length := by
      rcases Nat.lt_or_ge o (Lib.compact d).length with h | h
      · omega
      · rw [List.getElem?_eq_none h] at hx; cases hx
    have h2 := (hH' o (by rw [hsz]; simpa using ho)).1
    rw [getB (hpre o x hx)] at h2
    have h3 := hc o (.int .i64 d[o]) (by unfold cellsI; rw [List.getElem?_map, List.getElem?_eq_getElem ho]; rfl)
    simp only [h3, Option.isSome_some, if_true]
    rw [hadd, h2]
  · simp only [hu, Option.isSome_some, if_true]
    exact hsome a u hu
  · rw [hw']
    refine ⟨rfl, rfl, rfl, mapB_size w blk n _ #[], fun k hk hno => ?_⟩
    rw [← hw']
    exact hother k hk fun h => hno _ _ hm0 (by rw [hadd]; exact h.symm)
theorem compactInts_0 (M : Mem) (A : Option Addr) (cap : Nat) : Ans Tryz.prog M 30 #[.slice A 0 cap] (.slice A 0 cap) :=
  ⟨by kernel_rfl, fun w _ => (show Calls Tryz.prog 30 _ w _ from AnyG.slices_Compact_int_empty Tryz.compactInts A cap w).mono fun e w' ⟨he, hw⟩ => ⟨he, hw ▸ Below.refl _ _⟩⟩
theorem compactInts_k {wr : Bool} {M N : Mem} {A : Option Addr} {cap : Nat} {l : List Int} {ds : List Value} {K : Value → Mem → Prop} (hw : wr = true) (h : RowN M N 1 A l.length cap ds) (hr : RowR N RInt 1 l ds) (hn : l.length ≤ 1000) (hMN : Le M N)
    (k : ∀ N' ds', Le M N' → RowN M N' 1 A (Lib.compact l).length cap ds' → RowR N' RInt 1 (Lib.compact l) ds' → K (.slice A (Lib.compact l).length cap) N') : CallK Tryz.prog wr M N 30 #[.slice A l.length cap] K := by
  rcases Nat.eq_zero_or_pos l.length with hz | hz
  · have hl0 : l = [] := List.eq_nil_of_length_eq_zero hz
    subst hl0
    exact CallK.mk _ (compactInts_0 N A cap) (k N ds hMN h hr)
  rcases h with ⟨rfl, h1, h2, h3⟩ | ⟨ad, rfl, hrow, hf⟩
  · omega
  have hcl := compact_le l
  have hle := hrow.le
  refine CallK.mg (blk1 N ad.block) _ hw (compactInts_g (blk1 N ad.block) ad cap l hz (by omega) hle (fun o u hu => blk1_of (addB _ _) (hrow.el o u (rowI_at hr hu))) (fun a u hu => (blk1_at hu).1)) (fun a u hu => (blk1_at hu).2) (fun a u hu => ?_) (fun a u a' u' h1 h2 h3 he => blk1_no h3 h2 (he ▸ (blk1_at h1).1)) (fun v Mx N' hv hlx hkeep hdom hnew => ?_)
  · obtain ⟨g1, g2⟩ := blk1_at hu
    cases hm : M a with
    | none => rfl
    | some w => exact absurd g1 (hf a w hm)
  obtain ⟨rfl, hc, hdm⟩ := hv
  refine k N' (cellsI (Lib.compact l)) (fun a u hu => hkeep a u ?_ (hMN a u hu)) (.inr ⟨ad, rfl, ⟨by rw [cellsI_len]; omega, by omega, fun o u hu => hlx _ _ (hc o u hu), fun o ho => ?_⟩, hf⟩) (rowI _)
  · cases hb : blk1 N ad.block a with
    | none => rfl
    | some w => exact absurd (blk1_at hb).1 (hf a u hu)
  · obtain ⟨u, hu⟩ := hrow.room o ho
    obtain ⟨u', hu'⟩ := hdm _ _ (blk1_of (addB ad o) hu)
    exact ⟨u', hlx _ _ hu'⟩
end Go.Proofs.YtgeofmoojifkmaaGreat.Hlp
