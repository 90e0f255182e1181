/- slices.SortFunc over []Ver: the comparing closure by a compact walk, the sort by the shelf, turned into a contract that writes a known row. -/
import Derived.Test.YtgeofmoojifkmaaGreatFunM
import Derived.Test.YtgeofmoojifkmaaGreatShelf
import Derived.WalkSmall
import Derived.LoopN
import Derived.StillTailTactics
namespace Go.Proofs.YtgeofmoojifkmaaGreat.Hlp
open Go Go.RowKit Go.Proofs Go.Proofs.YtgeofmoojifkmaaGreat.Lw Go.Sort
set_option linter.unusedVariables false
set_option linter.unusedSimpArgs false
set_option maxRecDepth 100000
set_option maxHeartbeats 4000000
def orV (p q : Int) : Int := if p = 0 then q else p
theorem isNaN_c (x : Int) (W : World) : Calls Tryz.prog 125 #[.int .i64 x] W fun e w' => e = .returned (.bool false) ∧ w' = W := by
  go_enter Tryz.func125, Tryz.ntmps125
  go_wp2
  go_ret
  exact ⟨rfl, rfl⟩
theorem cmp_c (x y : Int) (W : World) : Calls Tryz.prog 129 #[.int .i64 x, .int .i64 y] W fun e w' => e = .returned (.int .i64 (cmpI x y)) ∧ w' = W := by
  go_enter Tryz.func129, Tryz.ntmps129
  go_wp2_with (go_at_call 125; refine (isNaN_c _ _).mono ?_; rintro e w' ⟨rfl, rfl⟩)
  all_goals go_ret
  all_goals exact ⟨congrArg (fun z => Ending.returned (.int .i64 z)) (by unfold cmpI; split <;> (try split) <;> omega), rfl⟩
theorem or_c (p q : Int) (b : Nat) (W : World) (h0 : W.cell? ⟨b, 0, none⟩ = some (.int .i64 p)) (h1 : W.cell? ⟨b, 1, none⟩ = some (.int .i64 q)) : Calls Tryz.prog 128 #[.slice (some ⟨b, 0, none⟩) 2 2] W fun e w' => e = .returned (.int .i64 (orV p q)) ∧ w' = W := by
  go_enter Tryz.func128, Tryz.ntmps128
  go_wp2
  refine Go.wp_loop_rounds 3 ?_
  rw [Go.rounds_succ]
  go_wp2
  · go_ret
    exact ⟨congrArg (fun z => Ending.returned (.int .i64 z)) (by unfold orV; simp_all), rfl⟩
  rw [Go.rounds_succ]
  go_wp2
  · go_ret
    exact ⟨congrArg (fun z => Ending.returned (.int .i64 z)) (by unfold orV; simp_all), rfl⟩
  rw [Go.rounds_succ]
  go_wp2
  go_ret
  exact ⟨congrArg (fun z => Ending.returned (.int .i64 z)) (by unfold orV; simp_all), rfl⟩
theorem two0 (W : World) (p q : Array Value) (s t : TypeId) (i : Nat) (u : Value) (h : p[i]? = some u) : ((W.alloc (.cells p s)).alloc (.cells q t)).drew.cell? ⟨W.heap.size, i, none⟩ = some u := by
  unfold World.cell? World.alloc World.drew
  simp only [Array.getElem?_push, Array.size_push]
  rw [if_neg (by omega), if_pos trivial]
  exact h
theorem two1 (W : World) (p q : Array Value) (s t : TypeId) (i : Nat) (u : Value) (h : q[i]? = some u) : ((W.alloc (.cells p s)).alloc (.cells q t)).drew.cell? ⟨W.heap.size + 1, i, none⟩ = some u := by
  unfold World.cell? World.alloc World.drew
  simp only [Array.getElem?_push, Array.size_push]
  rw [if_pos trivial]
  exact h
theorem one0 (W : World) (p : Array Value) (s : TypeId) (i : Nat) (u : Value) (h : p[i]? = some u) : (W.alloc (.cells p s)).cell? ⟨W.heap.size, i, none⟩ = some u := by
  unfold World.cell? World.alloc
  simp only [Array.getElem?_push]
  rw [if_pos trivial]
  exact h
theorem grow_drew (W : World) (o1 o2 : Array Obj) (q : Nat) : grow ((grow W o1).drewN q) o2 = grow (W.drewN q) (o1 ++ o2) := by
  unfold grow World.drewN
  simp only [Array.append_assoc]
theorem cmpVers_c (a b c d : Int) (W : World) : Calls Tryz.prog 101 #[.agg #[.int .i64 a, .int .i64 b], .agg #[.int .i64 c, .int .i64 d]] W fun e w' => e = .returned (.int .i64 (orV (cmpI a c) (cmpI b d))) ∧ ∃ q os', w' = grow (W.drewN q) os' := by
  have h1 := fun W => cmp_c a c W
  have h2 := fun W => cmp_c b d W
  generalize cmpI a c = r1 at h1 ⊢
  generalize cmpI b d = r2 at h2 ⊢
  go_enter Tryz.func101, Tryz.ntmps101
  go_wp2
  generalize hV : (W.alloc (Obj.cells #[Value.int IntKind.i64 a, Value.int IntKind.i64 b] 38)).alloc (Obj.cells #[Value.int IntKind.i64 c, Value.int IntKind.i64 d] 38) = V
  have e0 : V.drew.cell? ⟨W.heap.size, 0, none⟩ = some (.int .i64 a) := hV ▸ two0 W _ _ _ _ 0 _ rfl
  have e1 : V.drew.cell? ⟨W.heap.size, 1, none⟩ = some (.int .i64 b) := hV ▸ two0 W _ _ _ _ 1 _ rfl
  have e2 : V.drew.cell? ⟨W.heap.size + 1, 0, none⟩ = some (.int .i64 c) := hV ▸ two1 W _ _ _ _ 0 _ rfl
  have e3 : V.drew.cell? ⟨W.heap.size + 1, 1, none⟩ = some (.int .i64 d) := hV ▸ two1 W _ _ _ _ 1 _ rfl
  have hg : ∃ q os', V.drew = grow (W.drewN q) os' := ⟨1, _, by rw [← hV, alloc_eq_grow, alloc_eq_grow, grow_grow]; rfl⟩
  clear hV
  refine wp_region_still_tail 10 (by kernel_rfl) (by kernel_rfl) ?_
  change wpStill _ _ V.drew (fun a' => wpList _ _ _ _ a' V.drew) _ _
  generalize V.drew = V2 at e0 e1 e2 e3 hg ⊢
  simp only [List.take_succ_cons, List.take_zero, List.drop_succ_cons, List.drop_zero]
  iterate 4 still_step
  still_call (h1 V2)
  iterate 4 still_step
  still_call (h2 V2)
  refine wpStill_nil ?_
  clear e0 e1 e2 e3
  go_wp2_with (go_at_call 128; refine (or_c r1 r2 V2.heap.size _ (one0 V2 _ _ 0 _ rfl) (one0 V2 _ _ 1 _ rfl)).mono ?_; rintro e w' ⟨rfl, rfl⟩)
  go_ret
  obtain ⟨q, os', rfl⟩ := hg
  exact ⟨rfl, q, _, by rw [alloc_eq_grow, grow_grow]⟩
theorem clo_c (a b c d : Int) (W : World) : Calls Tryz.prog 100 #[.agg #[.int .i64 a, .int .i64 b], .agg #[.int .i64 c, .int .i64 d]] W fun e w' => e = .returned (.int .i64 (orV (cmpI c a) (cmpI d b))) ∧ ∃ q os', w' = grow (W.drewN q) os' := by
  have h1 := fun W => cmpVers_c c d a b W
  generalize orV (cmpI c a) (cmpI d b) = r at h1 ⊢
  go_enter Tryz.func100, Tryz.ntmps100
  go_wp2_with (go_at_call 101; refine (h1 _).mono ?_; rintro e w' ⟨rfl, hg⟩)
  go_ret
  obtain ⟨q, os', rfl⟩ := hg
  exact ⟨rfl, q, _, by rw [alloc_eq_grow, alloc_eq_grow, grow_grow]; exact grow_drew _ _ _ _⟩
instance : Inhabited GVer := ⟨⟨0, 0⟩⟩
def encV (x : GVer) : List Value := [.int .i64 x.Epoch, .int .i64 x.Seq]
def clV (x y : GVer) : Int := orV (cmpI y.Epoch x.Epoch) (cmpI y.Seq x.Seq)
theorem clV_lt (x y : GVer) : ltOf clV x y = verLessF y x := by
  unfold ltOf clV orV cmpI verLessF
  rw [Bool.eq_iff_iff]
  simp only [decide_eq_true_eq, Bool.or_eq_true, Bool.and_eq_true]
  split <;> (try split) <;> (try split) <;> omega
theorem verLess_iff (x y : GVer) : verLessF x y = true ↔ x.Epoch < y.Epoch ∨ x.Epoch = y.Epoch ∧ x.Seq < y.Seq := by
  unfold verLessF
  simp only [decide_eq_true_eq, Bool.or_eq_true, Bool.and_eq_true]
theorem verLess_niff (x y : GVer) : verLessF x y = false ↔ ¬ (x.Epoch < y.Epoch ∨ x.Epoch = y.Epoch ∧ x.Seq < y.Seq) := by
  rw [← verLess_iff, Bool.not_eq_true]
theorem swoV : SWO (ltOf clV) where
  irrefl x := by rw [clV_lt, verLess_niff]; omega
  trans x y z h1 h2 := by rw [clV_lt, verLess_iff] at *; omega
  ntrans x y z h1 h2 := by rw [clV_lt, verLess_niff] at *; omega
theorem cloLays (blk off size : Nat) (w : World) : CmpLays Tryz.prog 100 #[] encV 2 clV blk off size w := fun _ _ _ _ x y => clo_c x.Epoch x.Seq y.Epoch y.Seq _
def cellsV (d : List GVer) : List Value := (d.map encV).flatten
theorem flatV (d : List GVer) : ∀ j, j < d.length * 2 → (cellsV d)[j]? = some ((encV d.toArray[j / 2]!)[j % 2]!) := by
  intro j hj
  have h1 : j / 2 < d.length := by omega
  have e1 : (d.map encV)[j / 2]? = some (encV d[j / 2]) := by rw [List.getElem?_map, List.getElem?_eq_getElem h1]; rfl
  have e3 : (encV d[j / 2])[j % 2]? = some ((encV d[j / 2])[j % 2]!) := by
    rcases (show j % 2 = 0 ∨ j % 2 = 1 by omega) with h | h <;> rw [h] <;> rfl
  have e2 := flat_get (z := 2) (css := d.map encV) (fun cs hc => by obtain ⟨x, _, rfl⟩ := List.mem_map.1 hc; rfl) e1 e3
  rw [show j / 2 * 2 + j % 2 = j by omega] at e2
  rw [cellsV, e2]
  have e4 : d.toArray[j / 2]! = d[j / 2] := by simp [h1]
  rw [e4]
theorem cellsV_len (d : List GVer) : (cellsV d).length = d.length * 2 := by
  induction d with
  | nil => rfl
  | cons x r ih => rw [cellsV, List.map_cons, List.flatten_cons, List.length_append, List.length_cons, show (encV x).length = 2 from rfl, show ((r.map encV).flatten).length = r.length * 2 from ih]; omega
theorem flatK_at (d : Array GVer) (j : Nat) (hj : j < d.size * 2) : (flatK encV 2 d)[j]! = (encV d[j / 2]!)[j % 2]! := get_flatK encV 2 d j hj
theorem mapB_old (w : World) (blk n : Nat) (f : Array Value → Array Value) (os : Array Obj) {k : Nat} (hk : k < w.heap.size) (hne : k ≠ blk) : (grow (mapBlock (Sort.ahead w n) blk f) os).heap[k]? = w.heap[k]? := by
  rw [heap_grow_old _ _ (by simpa [mapBlock, Sort.ahead] using hk)]
  simp [mapBlock, Sort.ahead, Array.getElem?_modify, Ne.symm hne]
theorem mapB_pl (w : World) (blk n : Nat) (f : Array Value → Array Value) (os : Array Obj) {c : Array Value} {ty : TypeId} (h : w.heap[blk]? = some (.cells c ty (0, 0))) (hk : blk < w.heap.size) : (grow (mapBlock (Sort.ahead w n) blk f) os).heap[blk]? = some (.cells (f c) ty (0, 0)) := by
  rw [heap_grow_old _ _ (by simpa [mapBlock, Sort.ahead] using hk)]
  show (mapBlock (Sort.ahead w n) blk f).heap[blk]? = _
  unfold mapBlock Sort.ahead
  simp only [Array.getElem?_modify, if_true, h, Option.map_some]
  rfl
theorem mapB_size (w : World) (blk n : Nat) (f : Array Value → Array Value) (os : Array Obj) : w.heap.size ≤ (grow (mapBlock (Sort.ahead w n) blk f) os).heap.size := by
  simp [mapBlock, Sort.ahead]
/-- slices.SortFunc over a row that memory M knows, and nothing else: the row is sorted in place, the greatest first. -/
theorem sortVers_g (M : Mem) (ad : Addr) (cap : Nat) (d : List GVer) (hne : 0 < d.length) (hlen : d.length ≤ 1048576) (hc : ∀ o u, (cellsV d)[o]? = some u → M (ad.add o) = some u) (hM : ∀ a u, M a = some u → a.block = ad.block) :
    AnsG Tryz.prog M 99 #[.slice (some ad) d.length cap, .func (.func 100) #[] #[]] (fun v M' => v = .tuple #[] ∧ ∃ d' : List GVer, d'.Perm d ∧ (∀ (i j : Nat) (x y : GVer), i < j → d'[i]? = some x → d'[j]? = some y → verLessF x y = false) ∧ (∀ o u, (cellsV d')[o]? = some u → M' (ad.add o) = some u)) := by
  refine ⟨by kernel_rfl, fun w hw hpl => ?_⟩
  have h00 : ∃ u, (cellsV d)[0]? = some u := ⟨_, flatV d 0 (by omega)⟩
  obtain ⟨u0, hu0⟩ := h00
  have hm0 := hc 0 u0 hu0
  have hsp : ad.spot = none := by
    have h := hw _ _ hm0
    rw [show ad.add 0 = ad from by simp [Addr.add]] at h
    unfold World.cell? at h
    cases hs : ad.spot with
    | none => rfl
    | some s =>
      rw [hs] at h
      split at h
      · simp at h
      · cases h
  obtain ⟨blk, off, spot⟩ := ad
  simp only at hsp
  subst hsp
  have hadd : ∀ o, (Addr.mk blk off none).add o = ⟨blk, off + o, none⟩ := fun o => by unfold Addr.add; split <;> simp_all
  obtain ⟨c0, ty, hblk⟩ := hpl _ _ hm0
  rw [hadd] at hblk
  have hbs : blk < w.heap.size := by
    rcases Nat.lt_or_ge blk w.heap.size with h | h
    · exact h
    · rw [Array.getElem?_eq_none h] at hblk; cases hblk
  have hH : HoldsK encV 2 w blk off d.toArray := fun j hj => by
    rw [size_flatK] at hj
    have hj' : j < d.length * 2 := by simpa using hj
    refine ⟨?_, ?_⟩
    · have h := hw _ _ (hc j _ (flatV d j hj'))
      rw [hadd] at h
      rw [h, flatK_at _ _ hj]
      rfl
    · unfold World.frozen?
      rw [hblk]
      simp
  have hcon := AnyQ.slices_SortFunc Tryz.sortVers 2 Tryz.isAgg38 Tryz.sizeOf38 encV (fun _ => rfl) (fun x v hv => by simp [encV] at hv; rcases hv with rfl | rfl <;> rfl) clV swoV 100 #[] blk off cap d.toArray w (enters_of Tryz.func100 (by kernel_rfl) rfl) (cloLays _ _ _ _) hH hbs (by simp; omega)
  refine (show Calls Tryz.prog 99 _ w _ from hcon).mono fun e w' ⟨he, d', n, os, hp, hs, hw'⟩ => ?_
  obtain ⟨hps, _, hpe⟩ := hp
  have hds : d'.size = d.length := by simpa using hps
  have hperm : d'.toList.Perm d := by
    have h := hpe
    rw [show d.toArray.size = d'.size from by rw [hds]; simp] at h
    rw [Array.extract_size] at h
    rw [show d'.size = d.toArray.size from by rw [hds]; simp, Array.extract_size] at h
    simpa using h
  have hlen' : d'.toList.length = d.length := hperm.length_eq
  have hH' : HoldsK encV 2 w' blk off d' := by rw [hw']; exact holdsK_sortWorldK encV 2 w blk off n d.toArray d' os hbs hH hps
  have hother : ∀ k, k < w.heap.size → k ≠ blk → w'.heap[k]? = w.heap[k]? := fun k hk hne => by
    rw [hw']
    exact mapB_old w blk n _ os hk hne
  have hpl' : Pl w' blk := by
    rw [hw']
    exact ⟨_, _, mapB_pl w blk n _ os hblk hbs⟩
  refine ⟨.tuple #[], fun a => if (M a).isSome then w'.cell? a else none, he, fun a u hu => ?_, fun a u hu => ?_, fun a u hu => ?_, ⟨rfl, d'.toList, hperm, fun i j x y hij hx hy => ?_, fun o u hu => ?_⟩, ?_⟩
  · simp only at hu
    split at hu
    · exact hu
    · cases hu
  · simp only at hu
    split at hu
    · rename_i h
      obtain ⟨u1, hu1⟩ := Option.isSome_iff_exists.1 h
      exact .inl ⟨a, u1, hu1, rfl⟩
    · cases hu
  · simp only at hu
    split at hu
    · rename_i h
      obtain ⟨u1, hu1⟩ := Option.isSome_iff_exists.1 h
      rw [hM _ _ hu1]
      exact hpl'
    · cases hu
  · have hi : i < d'.size := by
      rcases Nat.lt_or_ge i d'.toList.length with h | h
      · simpa using h
      · rw [List.getElem?_eq_none h] at hx; cases hx
    have hj : j < d'.size := by
      rcases Nat.lt_or_ge j d'.toList.length with h | h
      · simpa using h
      · rw [List.getElem?_eq_none h] at hy; cases hy
    have h := hs i j (Nat.zero_le _) hij (by simp; omega)
    rw [clV_lt] at h
    rw [show d'[i]! = x from by rw [getElem!_pos d' i hi]; rw [Array.getElem?_toList, Array.getElem?_eq_getElem hi] at hx; exact Option.some.inj hx, show d'[j]! = y from by rw [getElem!_pos d' j hj]; rw [Array.getElem?_toList, Array.getElem?_eq_getElem hj] at hy; exact Option.some.inj hy] at h
    exact h
  · have ho : o < d.length * 2 := by
      rcases Nat.lt_or_ge o (cellsV d'.toList).length with h | h
      · rw [cellsV_len, hlen'] at h; exact h
      · rw [List.getElem?_eq_none h] at hu; cases hu
    have h1 := flatV d'.toList o (by rw [hlen']; exact ho)
    rw [h1] at hu
    have h2 := (hH' o (by rw [size_flatK, hds]; exact ho)).1
    rw [flatK_at _ _ (by rw [hds]; exact ho)] at h2
    have h3 := hc o _ (flatV d o ho)
    simp only [h3, Option.isSome_some, if_true]
    rw [hadd, h2, ← Option.some.inj hu]
    simp
  · rw [hw']
    refine ⟨rfl, rfl, rfl, ?_, fun k hk hno => ?_⟩
    · exact mapB_size w blk n _ os
    · rw [← hw']
      exact hother k hk fun h => hno _ _ hm0 (by rw [hadd]; exact h.symm)
end Go.Proofs.YtgeofmoojifkmaaGreat.Hlp
