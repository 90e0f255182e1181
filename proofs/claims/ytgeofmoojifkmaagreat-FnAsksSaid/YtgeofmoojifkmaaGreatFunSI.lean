/- slices.Sort over []int64 by the shelf, as a contract that writes a known row; slices.Clone over []int64. -/
import Derived.Test.YtgeofmoojifkmaaGreatFunDI
import Derived.Test.YtgeofmoojifkmaaGreatShelf
import Derived.Test.YtgeofmoojifkmaaGreatFunSV
namespace Go.Proofs.YtgeofmoojifkmaaGreat.Hlp
open Go Go.RowKit Go.Proofs Go.Proofs.YtgeofmoojifkmaaGreat.Lw Go.Sort
set_option linter.unusedVariables false
set_option linter.unusedSimpArgs false
set_option maxRecDepth 100000
set_option maxHeartbeats 4000000
def srt (d : List Int) : List Int := d.mergeSort fun x y => decide (x ≤ y)
theorem srt_len (d : List Int) : (srt d).length = d.length := List.length_mergeSort d
def cellsI (d : List Int) : List Value := d.map (Value.int .i64)
theorem cellsI_at {d : List Int} {o : Nat} {u : Value} (h : (cellsI d)[o]? = some u) : ∃ x, d[o]? = some x ∧ u = .int .i64 x := by
  unfold cellsI at h
  rw [List.getElem?_map] at h
  cases hd : d[o]? with
  | none => rw [hd] at h; cases h
  | some x => rw [hd] at h; cases h; exact ⟨x, rfl, rfl⟩
theorem getB {d : List Int} {o : Nat} {x : Int} (h : d[o]? = some x) : d.toArray[o]! = x := by
  have ho : o < d.length := by
    rcases Nat.lt_or_ge o d.length with h' | h'
    · exact h'
    · rw [List.getElem?_eq_none h'] at h; cases h
  rw [List.getElem?_eq_getElem ho] at h
  simp only [Option.some.injEq] at h
  simp [ho, h]
theorem mapC_old (w : World) (blk n : Nat) (f : Array Value → Array Value) (os : Array Obj) {k : Nat} (hk : k < w.heap.size) (hne : k ≠ blk) : (grow (mapBlock (Sort.ahead w n) blk f) os).heap[k]? = w.heap[k]? := mapB_old w blk n f os hk hne
/-- slices.Sort over a row that memory M knows, and nothing else. -/
theorem sortInts_g (M : Mem) (ad : Addr) (cap : Nat) (d : List Int) (hne : 0 < d.length) (hlen : d.length ≤ 1048576) (hc : ∀ o u, (cellsI d)[o]? = some u → M (ad.add o) = some u) (hM : ∀ a u, M a = some u → a.block = ad.block) :
    AnsG Tryz.prog M 29 #[.slice (some ad) d.length cap] (fun v M' => v = .tuple #[] ∧ (∀ o u, (cellsI (srt d))[o]? = some u → M' (ad.add o) = some u) ∧ ∀ a u, M a = some u → ∃ u', M' a = some u') := by
  refine ⟨by kernel_rfl, fun w hw hpl => ?_⟩
  have h00 : ∃ u, (cellsI d)[0]? = some u := by unfold cellsI; rw [List.getElem?_map, List.getElem?_eq_getElem hne]; exact ⟨_, rfl⟩
  obtain ⟨u0, hu0⟩ := h00
  have hm0 := hc 0 u0 hu0
  have hspot : ∀ a u, M a = some u → a.spot = none := fun a u ha => by
    have h := hw _ _ ha
    unfold World.cell? at h
    cases hs : a.spot with
    | none => rfl
    | some s =>
      rw [hs] at h
      split at h
      · simp at h
      · cases h
  have hsp : ad.spot = none := by
    have := hspot _ _ hm0
    rwa [show ad.add 0 = ad from by simp [Addr.add]] at this
  obtain ⟨blk, off, spot⟩ := ad
  simp only at hsp
  subst hsp
  have hadd : ∀ o, (Addr.mk blk off none).add o = ⟨blk, off + o, none⟩ := fun o => by unfold Addr.add; split <;> simp_all
  obtain ⟨c0, ty, hblk⟩ := hpl _ _ hm0
  rw [hadd] at hblk
  have hbs : blk < w.heap.size := by
    rcases Nat.lt_or_ge blk w.heap.size with h | h
    · exact h
    · rw [Array.getElem?_eq_none h] at hblk; cases hblk
  have hH : Holds (Value.int .i64) w blk off d.toArray := fun j hj => by
    have hj' : j < d.length := by simpa using hj
    have e1 : d[j]? = some d[j] := List.getElem?_eq_getElem hj'
    refine ⟨?_, ?_⟩
    · have h := hw _ _ (hc j (.int .i64 d[j]) (by unfold cellsI; rw [List.getElem?_map, e1]; rfl))
      rw [hadd] at h
      rw [h, getB e1]
    · unfold World.frozen?
      rw [hblk]
      simp
  have hcon := AnyG.slices_Sort_int Tryz.sortInts blk off cap d w hH hbs (by omega)
  refine (show Calls Tryz.prog 29 _ w _ from hcon).mono fun e w' ⟨he, n, os, hw'⟩ => ?_
  have hsz : (srt d).toArray.size = d.toArray.size := by simp [srt_len]
  have hH' : Holds (Value.int .i64) w' blk off (srt d).toArray := by
    rw [hw']
    refine holds_grow _ _ _ _ _ _ (by simpa [putRow, mapBlock, Sort.ahead] using hbs) ?_
    exact holds_putRow _ _ _ _ d.toArray _ (holds_ahead _ _ _ _ _ _ hH) hsz
  have hother : ∀ k, k < w.heap.size → k ≠ blk → w'.heap[k]? = w.heap[k]? := fun k hk hne => by
    rw [hw']
    exact mapB_old w blk n _ os hk hne
  have hpl' : Pl w' blk := by
    rw [hw']
    exact ⟨_, _, mapB_pl w blk n _ os hblk hbs⟩
  have hsome : ∀ a u, M a = some u → ∃ u', w'.cell? a = some u' := fun a u ha => by
    have hb : a.block = blk := hM a u ha
    have hs := hspot a u ha
    have h := hw _ _ ha
    have h' : w'.heap[blk]? = some (.cells (putCells (Value.int .i64) off (srt d).toArray c0) ty (0, 0)) := by rw [hw']; exact mapB_pl w blk n _ os hblk hbs
    unfold World.cell? at h ⊢
    rw [hb] at h ⊢
    rw [hblk] at h
    rw [h', hs]
    rw [hs] at h
    simp only [Option.isSome_none, Bool.false_eq_true, if_false] at h ⊢
    have hlt : a.off < c0.size := by
      rcases Nat.lt_or_ge a.off c0.size with h2 | h2
      · exact h2
      · rw [Array.getElem?_eq_none h2] at h; cases h
    exact ⟨_, Array.getElem?_eq_getElem (by simpa [putCells] using hlt)⟩
  refine ⟨.tuple #[], fun a => if (M a).isSome then w'.cell? a else none, he, fun a u hu => ?_, fun a u hu => ?_, fun a u hu => ?_, ⟨rfl, fun o u hu => ?_, fun a u hu => ?_⟩, ?_⟩
  · simp only at hu
    split at hu
    · exact hu
    · cases hu
  · simp only at hu
    split at hu
    · rename_i h
      obtain ⟨u1, hu1⟩ := Option.isSome_iff_exists.1 h
      exact .inl ⟨a, u1, hu1, rfl⟩
    · cases hu
  · simp only at hu
    split at hu
    · rename_i h
      obtain ⟨u1, hu1⟩ := Option.isSome_iff_exists.1 h
      rw [hM _ _ hu1]
      exact hpl'
    · cases hu
  · obtain ⟨x, hx, rfl⟩ := cellsI_at hu
    have ho : o < d.length := by
      rcases Nat.lt_or_ge o (srt d).length with h | h
      · rwa [srt_len] at h
      · rw [List.getElem?_eq_none h] at hx; cases hx
    have h2 := (hH' o (by rw [hsz]; simpa using ho)).1
    rw [getB hx] at h2
    have h3 := hc o (.int .i64 d[o]) (by unfold cellsI; rw [List.getElem?_map, List.getElem?_eq_getElem ho]; rfl)
    simp only [h3, Option.isSome_some, if_true]
    rw [hadd, h2]
  · simp only [hu, Option.isSome_some, if_true]
    exact hsome a u hu
  · rw [hw']
    refine ⟨rfl, rfl, rfl, mapB_size w blk n _ os, fun k hk hno => ?_⟩
    rw [← hw']
    exact hother k hk fun h => hno _ _ hm0 (by rw [hadd]; exact h.symm)
theorem sortInts_0 (M : Mem) (A : Option Addr) (cap : Nat) : Ans Tryz.prog M 29 #[.slice A 0 cap] (.tuple #[]) :=
  ⟨by kernel_rfl, fun w _ => (show Calls Tryz.prog 29 _ w _ from AnyG.slices_Sort_int_none Tryz.sortInts A cap w).mono fun e w' ⟨he, hw⟩ => ⟨he, hw ▸ Below.refl _ _⟩⟩
end Go.Proofs.YtgeofmoojifkmaaGreat.Hlp
