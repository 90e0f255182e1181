-- Printed by the session's own program out of the translation.
import Derived.Test.YtgdlpdkkncjbbaaMFnExactReportOkx0
import Derived.Test.YtgdlpdkkncjbbaaMFnExactReportOkx4
import Derived.Test.YtgdlpdkkncjbbaaMFnExactReportOkx5
namespace Go.Proofs.Ytgdlpdkkncjbbaa.MFnExactReportOk
open Go.RowKit Go.Proofs.YtgdlpdkkncjbbaaW.PrintWords Go.Proofs.YtgdlpdkkncjbbaaW.PrintLast Go.Proofs.YtgdlpdkkncjbbaaW.PrintMore
attribute [local go_sem] max2_int min2_int max_two min_two max_three min_three max_four min_four   -- for this text's walks alone
set_option linter.unusedVariables false
set_option linter.unusedSimpArgs false

/-! ### impl_ReportOk: function 49 -/
mutual
def impl_ReportOk.l0 : Nat → List (S116) → Int → Int → Int → List (S116) → Option (Bool)
  | 0, _, _, _, _, _ => none
  | k + 1, x6, x7, x8, x204000, x204001 => if x8 < x7 then (if 0 ≤ x8 then (if x8 < (x6.length : Int) then ((impl_NameOk.f k ((rd_T116 x6 x8).f0)).bind fun t207 => (if t207 = true then ((impl_realVer.f ((rd_T116 x6 x8).f1.f0) ((rd_T116 x6 x8).f1.f1)).bind fun t208 => (if t208 = true then ((impl_isPlace.f ((rd_T116 x6 x8).f2)).bind fun t209 => (if t209 = true then ((impl_between.f ((rd_T116 x6 x8).f3) 0 4294967295).bind fun t210 => (if t210 = true then ((impl_between.f ((rd_T116 x6 x8).f4) 0 4294967295).bind fun t211 => (impl_ReportOk.j1 k x8 x6 x7 x8 (!t211) x204000 x204001 ((rd_T116 x6 x8).f0) ((rd_T116 x6 x8).f1.f0) ((rd_T116 x6 x8).f1.f1) ((rd_T116 x6 x8).f2) ((rd_T116 x6 x8).f3) ((rd_T116 x6 x8).f4))) else (impl_ReportOk.j1 k x8 x6 x7 x8 true x204000 x204001 ((rd_T116 x6 x8).f0) ((rd_T116 x6 x8).f1.f0) ((rd_T116 x6 x8).f1.f1) ((rd_T116 x6 x8).f2) ((rd_T116 x6 x8).f3) ((rd_T116 x6 x8).f4)))) else (impl_ReportOk.j1 k x8 x6 x7 x8 true x204000 x204001 ((rd_T116 x6 x8).f0) ((rd_T116 x6 x8).f1.f0) ((rd_T116 x6 x8).f1.f1) ((rd_T116 x6 x8).f2) ((rd_T116 x6 x8).f3) ((rd_T116 x6 x8).f4)))) else (impl_ReportOk.j1 k x8 x6 x7 x8 true x204000 x204001 ((rd_T116 x6 x8).f0) ((rd_T116 x6 x8).f1.f0) ((rd_T116 x6 x8).f1.f1) ((rd_T116 x6 x8).f2) ((rd_T116 x6 x8).f3) ((rd_T116 x6 x8).f4)))) else (impl_ReportOk.j1 k x8 x6 x7 x8 true x204000 x204001 ((rd_T116 x6 x8).f0) ((rd_T116 x6 x8).f1.f0) ((rd_T116 x6 x8).f1.f1) ((rd_T116 x6 x8).f2) ((rd_T116 x6 x8).f3) ((rd_T116 x6 x8).f4)))) else (none)) else (none)) else ((impl_isNode.f x204000).bind fun t204 => (if t204 = true then (some (decide ((x204001.length : Int) ≤ 160))) else (some false)))
def impl_ReportOk.j1 : Nat → Int → List (S116) → Int → Int → Bool → Int → List (S116) → ByteArray → Int → Int → Int → Int → Int → Option (Bool)
  | 0, _, _, _, _, _, _, _, _, _, _, _, _, _ => none
  | k + 1, x3, x6, x7, x8, x40, x204000, x204001, x207000, x207001, x207002, x207003, x207004, x207005 => if x40 = true then (some false) else (if x3 > 0 then (if 0 ≤ (wrap64 (x3 - 1)) then (if (wrap64 (x3 - 1)) < (x204001.length : Int) then ((impl_compareProofs.f k ((rd_T116 x204001 (wrap64 (x3 - 1))).f0) ((rd_T116 x204001 (wrap64 (x3 - 1))).f1.f0) ((rd_T116 x204001 (wrap64 (x3 - 1))).f1.f1) ((rd_T116 x204001 (wrap64 (x3 - 1))).f2) ((rd_T116 x204001 (wrap64 (x3 - 1))).f3) ((rd_T116 x204001 (wrap64 (x3 - 1))).f4) x207000 x207001 x207002 x207003 x207004 x207005).bind fun t213 => (if t213 ≥ 0 then (some false) else (impl_ReportOk.l0 k x6 x7 (wrap64 (x8 + 1)) x204000 x204001))) else (none)) else (none)) else (impl_ReportOk.l0 k x6 x7 (wrap64 (x8 + 1)) x204000 x204001))
end
def impl_ReportOk.f (k : Nat) (a0_0 : Int) (l0_1 : List (S116)) : Option (Bool) := impl_ReportOk.l0 k l0_1 (l0_1.length : Int) 0 a0_0 l0_1
theorem impl_ReportOk.mono_l : ∀ k, (∀ y0 y1 y2 y3 y4, LeO (impl_ReportOk.l0 k y0 y1 y2 y3 y4) (impl_ReportOk.l0 (k + 1) y0 y1 y2 y3 y4)) ∧ (∀ y0 y1 y2 y3 y4 y5 y6 y7 y8 y9 y10 y11 y12, LeO (impl_ReportOk.j1 k y0 y1 y2 y3 y4 y5 y6 y7 y8 y9 y10 y11 y12) (impl_ReportOk.j1 (k + 1) y0 y1 y2 y3 y4 y5 y6 y7 y8 y9 y10 y11 y12))
  | 0 => ⟨fun _ _ _ _ _ r h => by simp [impl_ReportOk.l0] at h, fun _ _ _ _ _ _ _ _ _ _ _ _ _ r h => by simp [impl_ReportOk.j1] at h⟩
  | k + 1 => by
    obtain ⟨ih0, ih1⟩ := impl_ReportOk.mono_l k
    refine ⟨?_, ?_⟩
    · intro y0 y1 y2 y3 y4
      unfold impl_ReportOk.l0
      repeat' first
      | (with_reducible exact ih0 _ _ _ _ _)
      | (with_reducible exact ih1 _ _ _ _ _ _ _ _ _ _ _ _ _)
      | (with_reducible exact impl_NameOk.mono _ _)
      | (with_reducible exact impl_compareProofs.mono _ _ _ _ _ _ _ _ _ _ _ _ _)
      | (with_reducible exact LeO.refl _)
      | (with_reducible exact LeO.none _)
      | (with_reducible refine LeO.ite ?_ ?_)
      | (with_reducible refine LeO.bind ?_ (fun _ => ?_))
      | exact ih0 _ _ _ _ _
      | exact ih1 _ _ _ _ _ _ _ _ _ _ _ _ _
      | exact impl_NameOk.mono _ _
      | exact impl_compareProofs.mono _ _ _ _ _ _ _ _ _ _ _ _ _
      | exact LeO.none _
      | refine LeO.ite ?_ ?_
      | refine LeO.bind ?_ (fun _ => ?_)
    · intro y0 y1 y2 y3 y4 y5 y6 y7 y8 y9 y10 y11 y12
      unfold impl_ReportOk.j1
      repeat' first
      | (with_reducible exact ih0 _ _ _ _ _)
      | (with_reducible exact ih1 _ _ _ _ _ _ _ _ _ _ _ _ _)
      | (with_reducible exact impl_NameOk.mono _ _)
      | (with_reducible exact impl_compareProofs.mono _ _ _ _ _ _ _ _ _ _ _ _ _)
      | (with_reducible exact LeO.refl _)
      | (with_reducible exact LeO.none _)
      | (with_reducible refine LeO.ite ?_ ?_)
      | (with_reducible refine LeO.bind ?_ (fun _ => ?_))
      | exact ih0 _ _ _ _ _
      | exact ih1 _ _ _ _ _ _ _ _ _ _ _ _ _
      | exact impl_NameOk.mono _ _
      | exact impl_compareProofs.mono _ _ _ _ _ _ _ _ _ _ _ _ _
      | exact LeO.none _
      | refine LeO.ite ?_ ?_
      | refine LeO.bind ?_ (fun _ => ?_)
theorem impl_ReportOk.mono : ∀ a0 a1 k, LeO (impl_ReportOk.f k a0 a1) (impl_ReportOk.f (k + 1) a0 a1) := by
  intro a0 a1 k
  obtain ⟨ih0, ih1⟩ := impl_ReportOk.mono_l k
  unfold impl_ReportOk.f
  repeat' first
      | (with_reducible exact ih0 _ _ _ _ _)
      | (with_reducible exact ih1 _ _ _ _ _ _ _ _ _ _ _ _ _)
      | (with_reducible exact impl_NameOk.mono _ _)
      | (with_reducible exact impl_compareProofs.mono _ _ _ _ _ _ _ _ _ _ _ _ _)
      | (with_reducible exact LeO.refl _)
      | (with_reducible exact LeO.none _)
      | (with_reducible refine LeO.ite ?_ ?_)
      | (with_reducible refine LeO.bind ?_ (fun _ => ?_))
      | exact ih0 _ _ _ _ _
      | exact ih1 _ _ _ _ _ _ _ _ _ _ _ _ _
      | exact impl_NameOk.mono _ _
      | exact impl_compareProofs.mono _ _ _ _ _ _ _ _ _ _ _ _ _
      | exact LeO.none _
      | refine LeO.ite ?_ ?_
      | refine LeO.bind ?_ (fun _ => ?_)
def impl_ReportOk.T6 : Bool × List (List Nat × List Nat) := (true, [([], []), ([0], [0]), ([1], [1]), ([2], [2]), ([3, 2], [2, 3]), ([2], [2]), ([5, 2], [2, 5]), ([4, 6, 2], [2, 4, 6]), ([7, 2], [2, 7]), ([2], [2]), ([8, 9, 2, 2], [2, 8, 9]), ([10, 2], [2, 10]), ([2, 11], [2, 11])])
def impl_ReportOk.B6 : List Nat := [0, 1, 3, 7, 15, 7, 39, 127, 255, 7, 1023, 2047, 4095]
theorem impl_ReportOk.tab6 : rtab .any (opsOf Try.f49 6) = impl_ReportOk.T6 := by kernel_rfl
theorem impl_ReportOk.bits6 : waitsOk impl_ReportOk.T6.2 impl_ReportOk.B6 = true := by kernel_rfl
set_option maxHeartbeats 8000000 in
set_option maxRecDepth 100000 in
theorem impl_ReportOk.calls (k : Nat) (a0_0 : Int) (A0_1 : Option Addr) (c0_1 : Nat) (l0_1 : List (S116)) (r : Bool) (w : World) (hr0_1 : Kd.C k116 w A0_1 l0_1.length l0_1) (hc0_1 : l0_1.length ≤ c0_1) (h : impl_ReportOk.f k a0_0 l0_1 = some r) :
    Calls Try.prog 49 #[.agg #[.int .i64 a0_0, .slice A0_1 l0_1.length c0_1]] w fun e w' => e = .returned (.bool r) ∧ Below w.heap.size w w' := by
  have hu86 := Try.underlying86
  have hu116 := Try.underlying116
  have hu45 := Try.underlying45
  have HR0_1 := Aside0.mk hr0_1
  have HC0_1 := Aside0.mk hc0_1
  clear hr0_1 hc0_1
  have HB := Aside0.mk (Below.refl w.heap.size w)
  have H : (impl_ReportOk.l0 k l0_1 (l0_1.length : Int) 0 a0_0 l0_1) = some r := h
  clear h
  have H' := Aside0.mk H
  clear H
  go_enter Try.func49, Try.ntmps49
  go_wp2_with (first | ((with_reducible refine gate_dst (N := 1) rfl ?_); (try (refine gate_guard (by rfl) ?_; dsimp only)); refine box_event ?hg (N := 1) ?hd (cs := #[.int .i64 a0_0, .slice A0_1 l0_1.length c0_1]) (t := 86) ?hr ?_; (case hd => rfl); (case hg => rfl); (case hr => first | (go_simp; done) | (go_simp; rfl)); intro gb203 hg w2 hbox hb; have n0_ := Aside0.mk (below_step (by repeat (first | (with_reducible first | exact HB.out | apply below_alloc | apply pw_below_drewN | apply below_drew1) | exact HB.out)) hb); have n1_ := Aside0.mk (hbox); have n2_ := Aside0.mk ((by rw [hg]; exact (below_size (by repeat (first | (with_reducible first | exact HB.out | apply below_alloc | apply pw_below_drewN | apply below_drew1) | exact HB.out))) : w.heap.size ≤ gb203)); have n3_ := Aside0.mk ((by rw [hg]; exact (below_size (by repeat (first | (with_reducible first | exact HB.out | apply below_alloc | apply pw_below_drewN | apply below_drew1) | exact HB.out))) : w.heap.size ≤ gb203)); clear HB; have HB := n0_; have BK203 := n1_; have GW203 := n2_; have GE203 := n3_; clear n0_ n1_ n2_ n3_; clear hb hbox hg; have hcz3_0 : w2.cell? ⟨gb203, 0, none⟩ = some (.int .i64 a0_0) := (blk_cell BK203.out 0).trans rfl; have hcz3_1 : w2.cell? ⟨gb203, 1, none⟩ = some (.slice A0_1 l0_1.length c0_1) := (blk_cell BK203.out 1).trans rfl; have hfz3_0 := blk_frozen BK203.out 0; have hfz3_1 := blk_frozen BK203.out 1))
  go_loopg [8] k (fun kq v8 w' => ∃ (x8_1 : Int), v8 = .int .i64 x8_1 ∧ Aside0 (impl_ReportOk.l0 kq l0_1 (l0_1.length : Int) x8_1 a0_0 l0_1 = some r) ∧ Aside0 (kq ≤ k) ∧ Aside0 (w'.heap[gb203]? = some (.cells #[.int .i64 a0_0, (.slice A0_1 l0_1.length c0_1)] 86 (0, 0))) ∧ Aside0 (Below w.heap.size w w'))
  case atStart => exact ⟨(0), (by first | rfl | (simp; done) | (simp [*]; done)), H', ⟨Nat.le_refl _⟩, ⟨by (with_reducible repeat (first | refine blk_drewN ?_ _ | refine blk_drew ?_ | refine blk_alloc ?_ _)); exact BK203.out⟩, ⟨by repeat (first | (with_reducible first | exact HB.out | apply below_alloc | apply pw_below_drewN | apply below_drew1 | refine below_set ?_ GE203.out) | exact HB.out)⟩⟩
  case round =>
    clear H'
    try clear p2
    try clear hcz3_0
    try clear hcz3_1
    try clear hfz3_0
    try clear hfz3_1
    obtain ⟨x8_1, rfl, HA, HK1, BK203, HB⟩ := hrel
    cases gk with
    | zero => exact absurd HA.out (by simp [impl_ReportOk.l0])
    | succ k1 =>
      have H := HA.out
      clear HA
      simp only [impl_ReportOk.l0] at H
      by_cases c4 : x8_1 < (l0_1.length : Int)
      · rw [if_pos c4] at H
        have c4b0 : decide (x8_1 < (l0_1.length : Int)) = true := decide_eq_true c4
        clear c4
        by_cases c5 : 0 ≤ x8_1
        · rw [if_pos c5] at H
          have c5b0 : decide (0 ≤ x8_1) = true := decide_eq_true c5
          clear c5
          by_cases c6 : x8_1 < (l0_1.length : Int)
          · rw [if_pos c6] at H
            have c6b0 : decide (x8_1 < (l0_1.length : Int)) = true := decide_eq_true c6
            clear c6
            have HC7 := Aside0.mk H
            clear H
            have p205 : 0 ≤ (x8_1 : Int) := of_decide_eq_true (by first | (with_reducible assumption) | assumption)
            have q205 : x8_1 < (l0_1.length : Int) := of_decide_eq_true (by first | (with_reducible assumption) | assumption)
            obtain ⟨ad205, e205, hx205_0, hx205_1, hx205_2, hx205_3, hx205_4, hx205_5⟩ := at_T116 HR0_1.out x8_1 p205 q205
            cases e205
            replace hx205_0 := (HB.out.cell (World.block_lt_of_cell? w _ hx205_0)).trans hx205_0
            replace hx205_1 := (HB.out.cell (World.block_lt_of_cell? w _ hx205_1)).trans hx205_1
            replace hx205_2 := (HB.out.cell (World.block_lt_of_cell? w _ hx205_2)).trans hx205_2
            replace hx205_3 := (HB.out.cell (World.block_lt_of_cell? w _ hx205_3)).trans hx205_3
            replace hx205_4 := (HB.out.cell (World.block_lt_of_cell? w _ hx205_4)).trans hx205_4
            replace hx205_5 := (HB.out.cell (World.block_lt_of_cell? w _ hx205_5)).trans hx205_5
            replace p205 := eq_true p205
            replace q205 := eq_true q205
            go_upto_region 4 with (first | ((with_reducible refine gate_dst (N := 4) rfl ?_); (try (refine gate_guard (by rfl) ?_; dsimp only)); refine box_event ?hg (N := 4) ?hd (cs := #[.string (⟨#[]⟩ : ByteArray), .int .i64 0, .int .i64 0, .int .i64 0, .int .i64 0, .int .i64 0]) (t := 116) ?hr ?_; (case hd => rfl); (case hg => rfl); (case hr => first | (go_simp; done) | (go_simp; rfl)); intro gb206 hg w8 hbox hb; have n0_ := Aside0.mk (blk_below (g := gb203) (o := .cells #[.int .i64 a0_0, .slice (some ad205) l0_1.length c0_1] 86 (0, 0)) (by (with_reducible repeat (first | refine blk_drewN ?_ _ | refine blk_drew ?_ | refine blk_alloc ?_ _)); exact BK203.out) hb); have n1_ := Aside0.mk (below_step (by repeat (first | (with_reducible first | exact HB.out | apply below_alloc | apply pw_below_drewN | apply below_drew1 | refine below_set ?_ GE203.out) | exact HB.out)) hb); have n2_ := Aside0.mk (hbox); have n3_ := Aside0.mk ((by rw [hg]; exact (below_size (by repeat (first | (with_reducible first | exact HB.out | apply below_alloc | apply pw_below_drewN | apply below_drew1 | refine below_set ?_ GE203.out) | exact HB.out))) : w.heap.size ≤ gb206)); have n4_ := Aside0.mk ((by rw [hg]; exact (below_size (by repeat (first | (with_reducible first | exact HB.out | apply below_alloc | apply pw_below_drewN | apply below_drew1 | refine below_set ?_ GE203.out) | exact HB.out))) : w.heap.size ≤ gb206)); have n5_ := Aside0.mk ((by rw [hg]; exact Nat.ne_of_lt (blk_lt (g := gb203) (o := .cells #[.int .i64 a0_0, .slice (some ad205) l0_1.length c0_1] 86 (0, 0)) (by (with_reducible repeat (first | refine blk_drewN ?_ _ | refine blk_drew ?_ | refine blk_alloc ?_ _)); exact BK203.out)) : gb203 ≠ gb206)); have n6_ := Aside0.mk ((by rw [hg]; exact Nat.ne_of_gt (blk_lt (g := gb203) (o := .cells #[.int .i64 a0_0, .slice (some ad205) l0_1.length c0_1] 86 (0, 0)) (by (with_reducible repeat (first | refine blk_drewN ?_ _ | refine blk_drew ?_ | refine blk_alloc ?_ _)); exact BK203.out)) : gb206 ≠ gb203)); clear BK203; clear HB; have BK203 := n0_; have HB := n1_; have BK206 := n2_; have GW206 := n3_; have GE206 := n4_; have NB203_206 := n5_; have NB206_203 := n6_; clear n0_ n1_ n2_ n3_ n4_ n5_ n6_; clear hb hbox hg; have hnb9 := NB206_203.out; have hnc9 := NB203_206.out; have hcz10_0 : w8.cell? ⟨gb206, 0, none⟩ = some (.string (⟨#[]⟩ : ByteArray)) := (blk_cell BK206.out 0).trans rfl; have hcz10_1 : w8.cell? ⟨gb206, 1, none⟩ = some (.int .i64 0) := (blk_cell BK206.out 1).trans rfl; have hcz10_2 : w8.cell? ⟨gb206, 2, none⟩ = some (.int .i64 0) := (blk_cell BK206.out 2).trans rfl; have hcz10_3 : w8.cell? ⟨gb206, 3, none⟩ = some (.int .i64 0) := (blk_cell BK206.out 3).trans rfl; have hcz10_4 : w8.cell? ⟨gb206, 4, none⟩ = some (.int .i64 0) := (blk_cell BK206.out 4).trans rfl; have hcz10_5 : w8.cell? ⟨gb206, 5, none⟩ = some (.int .i64 0) := (blk_cell BK206.out 5).trans rfl; have hfz10_0 := blk_frozen BK206.out 0; have hfz10_1 := blk_frozen BK206.out 1; have hfz10_2 := blk_frozen BK206.out 2; have hfz10_3 := blk_frozen BK206.out 3; have hfz10_4 := blk_frozen BK206.out 4; have hfz10_5 := blk_frozen BK206.out 5))
            (try simp only [Act.put, List.setIfInBounds_toArray, List.set_cons_zero, List.set_cons_succ])
            go_cut [40] (fun v40 wc => ∃ (kq : Nat) (x40_6 : Bool), v40 = .bool x40_6 ∧ Aside0 (impl_ReportOk.j1 kq x8_1 l0_1 (l0_1.length : Int) x8_1 x40_6 a0_0 l0_1 ((rd_T116 l0_1 x8_1).f0) ((rd_T116 l0_1 x8_1).f1.f0) ((rd_T116 l0_1 x8_1).f1.f1) ((rd_T116 l0_1 x8_1).f2) ((rd_T116 l0_1 x8_1).f3) ((rd_T116 l0_1 x8_1).f4) = some r) ∧ Aside0 (kq ≤ k1) ∧ Aside0 (wc.heap[gb203]? = some (.cells #[.int .i64 a0_0, (.slice (some ad205) l0_1.length c0_1)] 86 (0, 0))) ∧ Aside0 (wc.heap[gb206]? = some (.cells #[.string ((rd_T116 l0_1 x8_1).f0), .int .i64 ((rd_T116 l0_1 x8_1).f1.f0), .int .i64 ((rd_T116 l0_1 x8_1).f1.f1), .int .i64 ((rd_T116 l0_1 x8_1).f2), .int .i64 ((rd_T116 l0_1 x8_1).f3), .int .i64 ((rd_T116 l0_1 x8_1).f4)] 116 (0, 0))) ∧ Aside0 (Below w.heap.size w wc))
            case first =>
              have H := HC7.out
              clear HC7
              replace H := Option.bind_eq_some_iff.mp H
              obtain ⟨t207, A110, H⟩ := H
              replace H : (if t207 = true then ((impl_realVer.f ((rd_T116 l0_1 x8_1).f1.f0) ((rd_T116 l0_1 x8_1).f1.f1)).bind fun t208 => (if t208 = true then ((impl_isPlace.f ((rd_T116 l0_1 x8_1).f2)).bind fun t209 => (if t209 = true then ((impl_between.f ((rd_T116 l0_1 x8_1).f3) 0 4294967295).bind fun t210 => (if t210 = true then ((impl_between.f ((rd_T116 l0_1 x8_1).f4) 0 4294967295).bind fun t211 => (impl_ReportOk.j1 k1 x8_1 l0_1 (l0_1.length : Int) x8_1 (!t211) a0_0 l0_1 ((rd_T116 l0_1 x8_1).f0) ((rd_T116 l0_1 x8_1).f1.f0) ((rd_T116 l0_1 x8_1).f1.f1) ((rd_T116 l0_1 x8_1).f2) ((rd_T116 l0_1 x8_1).f3) ((rd_T116 l0_1 x8_1).f4))) else (impl_ReportOk.j1 k1 x8_1 l0_1 (l0_1.length : Int) x8_1 true a0_0 l0_1 ((rd_T116 l0_1 x8_1).f0) ((rd_T116 l0_1 x8_1).f1.f0) ((rd_T116 l0_1 x8_1).f1.f1) ((rd_T116 l0_1 x8_1).f2) ((rd_T116 l0_1 x8_1).f3) ((rd_T116 l0_1 x8_1).f4)))) else (impl_ReportOk.j1 k1 x8_1 l0_1 (l0_1.length : Int) x8_1 true a0_0 l0_1 ((rd_T116 l0_1 x8_1).f0) ((rd_T116 l0_1 x8_1).f1.f0) ((rd_T116 l0_1 x8_1).f1.f1) ((rd_T116 l0_1 x8_1).f2) ((rd_T116 l0_1 x8_1).f3) ((rd_T116 l0_1 x8_1).f4)))) else (impl_ReportOk.j1 k1 x8_1 l0_1 (l0_1.length : Int) x8_1 true a0_0 l0_1 ((rd_T116 l0_1 x8_1).f0) ((rd_T116 l0_1 x8_1).f1.f0) ((rd_T116 l0_1 x8_1).f1.f1) ((rd_T116 l0_1 x8_1).f2) ((rd_T116 l0_1 x8_1).f3) ((rd_T116 l0_1 x8_1).f4)))) else (impl_ReportOk.j1 k1 x8_1 l0_1 (l0_1.length : Int) x8_1 true a0_0 l0_1 ((rd_T116 l0_1 x8_1).f0) ((rd_T116 l0_1 x8_1).f1.f0) ((rd_T116 l0_1 x8_1).f1.f1) ((rd_T116 l0_1 x8_1).f2) ((rd_T116 l0_1 x8_1).f3) ((rd_T116 l0_1 x8_1).f4))) = some r := H
              have A11 := Aside0.mk A110
              clear A110
              by_cases c12 : t207 = true
              · subst c12
                have H1 : ((impl_realVer.f ((rd_T116 l0_1 x8_1).f1.f0) ((rd_T116 l0_1 x8_1).f1.f1)).bind fun t208 => (if t208 = true then ((impl_isPlace.f ((rd_T116 l0_1 x8_1).f2)).bind fun t209 => (if t209 = true then ((impl_between.f ((rd_T116 l0_1 x8_1).f3) 0 4294967295).bind fun t210 => (if t210 = true then ((impl_between.f ((rd_T116 l0_1 x8_1).f4) 0 4294967295).bind fun t211 => (impl_ReportOk.j1 k1 x8_1 l0_1 (l0_1.length : Int) x8_1 (!t211) a0_0 l0_1 ((rd_T116 l0_1 x8_1).f0) ((rd_T116 l0_1 x8_1).f1.f0) ((rd_T116 l0_1 x8_1).f1.f1) ((rd_T116 l0_1 x8_1).f2) ((rd_T116 l0_1 x8_1).f3) ((rd_T116 l0_1 x8_1).f4))) else (impl_ReportOk.j1 k1 x8_1 l0_1 (l0_1.length : Int) x8_1 true a0_0 l0_1 ((rd_T116 l0_1 x8_1).f0) ((rd_T116 l0_1 x8_1).f1.f0) ((rd_T116 l0_1 x8_1).f1.f1) ((rd_T116 l0_1 x8_1).f2) ((rd_T116 l0_1 x8_1).f3) ((rd_T116 l0_1 x8_1).f4)))) else (impl_ReportOk.j1 k1 x8_1 l0_1 (l0_1.length : Int) x8_1 true a0_0 l0_1 ((rd_T116 l0_1 x8_1).f0) ((rd_T116 l0_1 x8_1).f1.f0) ((rd_T116 l0_1 x8_1).f1.f1) ((rd_T116 l0_1 x8_1).f2) ((rd_T116 l0_1 x8_1).f3) ((rd_T116 l0_1 x8_1).f4)))) else (impl_ReportOk.j1 k1 x8_1 l0_1 (l0_1.length : Int) x8_1 true a0_0 l0_1 ((rd_T116 l0_1 x8_1).f0) ((rd_T116 l0_1 x8_1).f1.f0) ((rd_T116 l0_1 x8_1).f1.f1) ((rd_T116 l0_1 x8_1).f2) ((rd_T116 l0_1 x8_1).f3) ((rd_T116 l0_1 x8_1).f4)))) = some r := by rw [if_pos rfl] at H; exact H
                clear H
                have H := H1
                clear H1
                replace H := Option.bind_eq_some_iff.mp H
                obtain ⟨t208, A130, H⟩ := H
                replace H : (if t208 = true then ((impl_isPlace.f ((rd_T116 l0_1 x8_1).f2)).bind fun t209 => (if t209 = true then ((impl_between.f ((rd_T116 l0_1 x8_1).f3) 0 4294967295).bind fun t210 => (if t210 = true then ((impl_between.f ((rd_T116 l0_1 x8_1).f4) 0 4294967295).bind fun t211 => (impl_ReportOk.j1 k1 x8_1 l0_1 (l0_1.length : Int) x8_1 (!t211) a0_0 l0_1 ((rd_T116 l0_1 x8_1).f0) ((rd_T116 l0_1 x8_1).f1.f0) ((rd_T116 l0_1 x8_1).f1.f1) ((rd_T116 l0_1 x8_1).f2) ((rd_T116 l0_1 x8_1).f3) ((rd_T116 l0_1 x8_1).f4))) else (impl_ReportOk.j1 k1 x8_1 l0_1 (l0_1.length : Int) x8_1 true a0_0 l0_1 ((rd_T116 l0_1 x8_1).f0) ((rd_T116 l0_1 x8_1).f1.f0) ((rd_T116 l0_1 x8_1).f1.f1) ((rd_T116 l0_1 x8_1).f2) ((rd_T116 l0_1 x8_1).f3) ((rd_T116 l0_1 x8_1).f4)))) else (impl_ReportOk.j1 k1 x8_1 l0_1 (l0_1.length : Int) x8_1 true a0_0 l0_1 ((rd_T116 l0_1 x8_1).f0) ((rd_T116 l0_1 x8_1).f1.f0) ((rd_T116 l0_1 x8_1).f1.f1) ((rd_T116 l0_1 x8_1).f2) ((rd_T116 l0_1 x8_1).f3) ((rd_T116 l0_1 x8_1).f4)))) else (impl_ReportOk.j1 k1 x8_1 l0_1 (l0_1.length : Int) x8_1 true a0_0 l0_1 ((rd_T116 l0_1 x8_1).f0) ((rd_T116 l0_1 x8_1).f1.f0) ((rd_T116 l0_1 x8_1).f1.f1) ((rd_T116 l0_1 x8_1).f2) ((rd_T116 l0_1 x8_1).f3) ((rd_T116 l0_1 x8_1).f4))) = some r := H
                have A13 := Aside0.mk A130
                clear A130
                by_cases c14 : t208 = true
                · subst c14
                  have H1 : ((impl_isPlace.f ((rd_T116 l0_1 x8_1).f2)).bind fun t209 => (if t209 = true then ((impl_between.f ((rd_T116 l0_1 x8_1).f3) 0 4294967295).bind fun t210 => (if t210 = true then ((impl_between.f ((rd_T116 l0_1 x8_1).f4) 0 4294967295).bind fun t211 => (impl_ReportOk.j1 k1 x8_1 l0_1 (l0_1.length : Int) x8_1 (!t211) a0_0 l0_1 ((rd_T116 l0_1 x8_1).f0) ((rd_T116 l0_1 x8_1).f1.f0) ((rd_T116 l0_1 x8_1).f1.f1) ((rd_T116 l0_1 x8_1).f2) ((rd_T116 l0_1 x8_1).f3) ((rd_T116 l0_1 x8_1).f4))) else (impl_ReportOk.j1 k1 x8_1 l0_1 (l0_1.length : Int) x8_1 true a0_0 l0_1 ((rd_T116 l0_1 x8_1).f0) ((rd_T116 l0_1 x8_1).f1.f0) ((rd_T116 l0_1 x8_1).f1.f1) ((rd_T116 l0_1 x8_1).f2) ((rd_T116 l0_1 x8_1).f3) ((rd_T116 l0_1 x8_1).f4)))) else (impl_ReportOk.j1 k1 x8_1 l0_1 (l0_1.length : Int) x8_1 true a0_0 l0_1 ((rd_T116 l0_1 x8_1).f0) ((rd_T116 l0_1 x8_1).f1.f0) ((rd_T116 l0_1 x8_1).f1.f1) ((rd_T116 l0_1 x8_1).f2) ((rd_T116 l0_1 x8_1).f3) ((rd_T116 l0_1 x8_1).f4)))) = some r := by rw [if_pos rfl] at H; exact H
                  clear H
                  have H := H1
                  clear H1
                  replace H := Option.bind_eq_some_iff.mp H
                  obtain ⟨t209, A150, H⟩ := H
                  replace H : (if t209 = true then ((impl_between.f ((rd_T116 l0_1 x8_1).f3) 0 4294967295).bind fun t210 => (if t210 = true then ((impl_between.f ((rd_T116 l0_1 x8_1).f4) 0 4294967295).bind fun t211 => (impl_ReportOk.j1 k1 x8_1 l0_1 (l0_1.length : Int) x8_1 (!t211) a0_0 l0_1 ((rd_T116 l0_1 x8_1).f0) ((rd_T116 l0_1 x8_1).f1.f0) ((rd_T116 l0_1 x8_1).f1.f1) ((rd_T116 l0_1 x8_1).f2) ((rd_T116 l0_1 x8_1).f3) ((rd_T116 l0_1 x8_1).f4))) else (impl_ReportOk.j1 k1 x8_1 l0_1 (l0_1.length : Int) x8_1 true a0_0 l0_1 ((rd_T116 l0_1 x8_1).f0) ((rd_T116 l0_1 x8_1).f1.f0) ((rd_T116 l0_1 x8_1).f1.f1) ((rd_T116 l0_1 x8_1).f2) ((rd_T116 l0_1 x8_1).f3) ((rd_T116 l0_1 x8_1).f4)))) else (impl_ReportOk.j1 k1 x8_1 l0_1 (l0_1.length : Int) x8_1 true a0_0 l0_1 ((rd_T116 l0_1 x8_1).f0) ((rd_T116 l0_1 x8_1).f1.f0) ((rd_T116 l0_1 x8_1).f1.f1) ((rd_T116 l0_1 x8_1).f2) ((rd_T116 l0_1 x8_1).f3) ((rd_T116 l0_1 x8_1).f4))) = some r := H
                  have A15 := Aside0.mk A150
                  clear A150
                  by_cases c16 : t209 = true
                  · subst c16
                    have H1 : ((impl_between.f ((rd_T116 l0_1 x8_1).f3) 0 4294967295).bind fun t210 => (if t210 = true then ((impl_between.f ((rd_T116 l0_1 x8_1).f4) 0 4294967295).bind fun t211 => (impl_ReportOk.j1 k1 x8_1 l0_1 (l0_1.length : Int) x8_1 (!t211) a0_0 l0_1 ((rd_T116 l0_1 x8_1).f0) ((rd_T116 l0_1 x8_1).f1.f0) ((rd_T116 l0_1 x8_1).f1.f1) ((rd_T116 l0_1 x8_1).f2) ((rd_T116 l0_1 x8_1).f3) ((rd_T116 l0_1 x8_1).f4))) else (impl_ReportOk.j1 k1 x8_1 l0_1 (l0_1.length : Int) x8_1 true a0_0 l0_1 ((rd_T116 l0_1 x8_1).f0) ((rd_T116 l0_1 x8_1).f1.f0) ((rd_T116 l0_1 x8_1).f1.f1) ((rd_T116 l0_1 x8_1).f2) ((rd_T116 l0_1 x8_1).f3) ((rd_T116 l0_1 x8_1).f4)))) = some r := by rw [if_pos rfl] at H; exact H
                    clear H
                    have H := H1
                    clear H1
                    replace H := Option.bind_eq_some_iff.mp H
                    obtain ⟨t210, A170, H⟩ := H
                    replace H : (if t210 = true then ((impl_between.f ((rd_T116 l0_1 x8_1).f4) 0 4294967295).bind fun t211 => (impl_ReportOk.j1 k1 x8_1 l0_1 (l0_1.length : Int) x8_1 (!t211) a0_0 l0_1 ((rd_T116 l0_1 x8_1).f0) ((rd_T116 l0_1 x8_1).f1.f0) ((rd_T116 l0_1 x8_1).f1.f1) ((rd_T116 l0_1 x8_1).f2) ((rd_T116 l0_1 x8_1).f3) ((rd_T116 l0_1 x8_1).f4))) else (impl_ReportOk.j1 k1 x8_1 l0_1 (l0_1.length : Int) x8_1 true a0_0 l0_1 ((rd_T116 l0_1 x8_1).f0) ((rd_T116 l0_1 x8_1).f1.f0) ((rd_T116 l0_1 x8_1).f1.f1) ((rd_T116 l0_1 x8_1).f2) ((rd_T116 l0_1 x8_1).f3) ((rd_T116 l0_1 x8_1).f4))) = some r := H
                    have A17 := Aside0.mk A170
                    clear A170
                    by_cases c18 : t210 = true
                    · subst c18
                      have H1 : ((impl_between.f ((rd_T116 l0_1 x8_1).f4) 0 4294967295).bind fun t211 => (impl_ReportOk.j1 k1 x8_1 l0_1 (l0_1.length : Int) x8_1 (!t211) a0_0 l0_1 ((rd_T116 l0_1 x8_1).f0) ((rd_T116 l0_1 x8_1).f1.f0) ((rd_T116 l0_1 x8_1).f1.f1) ((rd_T116 l0_1 x8_1).f2) ((rd_T116 l0_1 x8_1).f3) ((rd_T116 l0_1 x8_1).f4))) = some r := by rw [if_pos rfl] at H; exact H
                      clear H
                      have H := H1
                      clear H1
                      replace H := Option.bind_eq_some_iff.mp H
                      obtain ⟨t211, A190, H⟩ := H
                      replace H : (impl_ReportOk.j1 k1 x8_1 l0_1 (l0_1.length : Int) x8_1 (!t211) a0_0 l0_1 ((rd_T116 l0_1 x8_1).f0) ((rd_T116 l0_1 x8_1).f1.f0) ((rd_T116 l0_1 x8_1).f1.f1) ((rd_T116 l0_1 x8_1).f2) ((rd_T116 l0_1 x8_1).f3) ((rd_T116 l0_1 x8_1).f4)) = some r := H
                      have A19 := Aside0.mk A190
                      clear A190
                      have H' := Aside0.mk H
                      clear H
                      have hnb20 := NB206_203.out
                      have hnc20 := NB203_206.out
                      have hcz21_0 : w8.cell? ⟨gb206, 0, none⟩ = some (.string (⟨#[]⟩ : ByteArray)) := (blk_cell BK206.out 0).trans rfl
                      have hcz21_1 : w8.cell? ⟨gb206, 1, none⟩ = some (.int .i64 0) := (blk_cell BK206.out 1).trans rfl
                      have hcz21_2 : w8.cell? ⟨gb206, 2, none⟩ = some (.int .i64 0) := (blk_cell BK206.out 2).trans rfl
                      have hcz21_3 : w8.cell? ⟨gb206, 3, none⟩ = some (.int .i64 0) := (blk_cell BK206.out 3).trans rfl
                      have hcz21_4 : w8.cell? ⟨gb206, 4, none⟩ = some (.int .i64 0) := (blk_cell BK206.out 4).trans rfl
                      have hcz21_5 : w8.cell? ⟨gb206, 5, none⟩ = some (.int .i64 0) := (blk_cell BK206.out 5).trans rfl
                      have hfz21_0 := blk_frozen BK206.out 0
                      have hfz21_1 := blk_frozen BK206.out 1
                      have hfz21_2 := blk_frozen BK206.out 2
                      have hfz21_3 := blk_frozen BK206.out 3
                      have hfz21_4 := blk_frozen BK206.out 4
                      have hfz21_5 := blk_frozen BK206.out 5
                      go_wp2_with (first | ((with_reducible refine gate_callee (f := 65) rfl ?_); refine goesL_ (some 15) rfl rfl Try.func65 (by kernel_rfl) rfl #[.string ((rd_T116 l0_1 x8_1).f0)] rfl (by (try simp only [List.map_toArray, List.map_cons, List.map_nil]); first | done | rfl | (simp only [List.length_drop, List.length_take]; rfl)) ?_; (with_reducible refine (impl_NameOk.calls k1 ((rd_T116 l0_1 x8_1).f0) true _ A11.out).mono ?_); rintro e w' ⟨rfl, ⟨nd, rfl⟩⟩; refine ⟨_, rfl, ?_⟩) | (go_at_call 66; (with_reducible refine (impl_realVer.calls ((rd_T116 l0_1 x8_1).f1.f0) ((rd_T116 l0_1 x8_1).f1.f1) true _ A13.out).mono ?_); rintro e w22 ⟨rfl, hb⟩; have n0_ := Aside0.mk (blk_below (g := gb203) (o := .cells #[.int .i64 a0_0, .slice (some ad205) l0_1.length c0_1] 86 (0, 0)) (by (with_reducible repeat (first | refine blk_drewN ?_ _ | refine blk_drew ?_ | refine blk_alloc ?_ _)); refine blk_far ?_ NB203_206.out _; (with_reducible repeat (first | refine blk_drewN ?_ _ | refine blk_drew ?_ | refine blk_alloc ?_ _)); refine blk_far ?_ NB203_206.out _; (with_reducible repeat (first | refine blk_drewN ?_ _ | refine blk_drew ?_ | refine blk_alloc ?_ _)); refine blk_far ?_ NB203_206.out _; (with_reducible repeat (first | refine blk_drewN ?_ _ | refine blk_drew ?_ | refine blk_alloc ?_ _)); refine blk_far ?_ NB203_206.out _; (with_reducible repeat (first | refine blk_drewN ?_ _ | refine blk_drew ?_ | refine blk_alloc ?_ _)); refine blk_far ?_ NB203_206.out _; (with_reducible repeat (first | refine blk_drewN ?_ _ | refine blk_drew ?_ | refine blk_alloc ?_ _)); refine blk_far ?_ NB203_206.out _; (with_reducible repeat (first | refine blk_drewN ?_ _ | refine blk_drew ?_ | refine blk_alloc ?_ _)); exact BK203.out) hb); have n1_ := Aside0.mk (blk_below (g := gb206) (o := .cells #[.string ((rd_T116 l0_1 x8_1).f0), .int .i64 ((rd_T116 l0_1 x8_1).f1.f0), .int .i64 ((rd_T116 l0_1 x8_1).f1.f1), .int .i64 ((rd_T116 l0_1 x8_1).f2), .int .i64 ((rd_T116 l0_1 x8_1).f3), .int .i64 ((rd_T116 l0_1 x8_1).f4)] 116 (0, 0)) (by (with_reducible repeat (first | refine blk_drewN ?_ _ | refine blk_drew ?_ | refine blk_alloc ?_ _)); refine blk_put (cs := #[.string ((rd_T116 l0_1 x8_1).f0), .int .i64 ((rd_T116 l0_1 x8_1).f1.f0), .int .i64 ((rd_T116 l0_1 x8_1).f1.f1), .int .i64 ((rd_T116 l0_1 x8_1).f2), .int .i64 ((rd_T116 l0_1 x8_1).f3), .int .i64 0]) ?_ 5 _ rfl; (with_reducible repeat (first | refine blk_drewN ?_ _ | refine blk_drew ?_ | refine blk_alloc ?_ _)); refine blk_put (cs := #[.string ((rd_T116 l0_1 x8_1).f0), .int .i64 ((rd_T116 l0_1 x8_1).f1.f0), .int .i64 ((rd_T116 l0_1 x8_1).f1.f1), .int .i64 ((rd_T116 l0_1 x8_1).f2), .int .i64 0, .int .i64 0]) ?_ 4 _ rfl; (with_reducible repeat (first | refine blk_drewN ?_ _ | refine blk_drew ?_ | refine blk_alloc ?_ _)); refine blk_put (cs := #[.string ((rd_T116 l0_1 x8_1).f0), .int .i64 ((rd_T116 l0_1 x8_1).f1.f0), .int .i64 ((rd_T116 l0_1 x8_1).f1.f1), .int .i64 0, .int .i64 0, .int .i64 0]) ?_ 3 _ rfl; (with_reducible repeat (first | refine blk_drewN ?_ _ | refine blk_drew ?_ | refine blk_alloc ?_ _)); refine blk_put (cs := #[.string ((rd_T116 l0_1 x8_1).f0), .int .i64 ((rd_T116 l0_1 x8_1).f1.f0), .int .i64 0, .int .i64 0, .int .i64 0, .int .i64 0]) ?_ 2 _ rfl; (with_reducible repeat (first | refine blk_drewN ?_ _ | refine blk_drew ?_ | refine blk_alloc ?_ _)); refine blk_put (cs := #[.string ((rd_T116 l0_1 x8_1).f0), .int .i64 0, .int .i64 0, .int .i64 0, .int .i64 0, .int .i64 0]) ?_ 1 _ rfl; (with_reducible repeat (first | refine blk_drewN ?_ _ | refine blk_drew ?_ | refine blk_alloc ?_ _)); refine blk_put (cs := #[.string (⟨#[]⟩ : ByteArray), .int .i64 0, .int .i64 0, .int .i64 0, .int .i64 0, .int .i64 0]) ?_ 0 _ rfl; (with_reducible repeat (first | refine blk_drewN ?_ _ | refine blk_drew ?_ | refine blk_alloc ?_ _)); exact BK206.out) hb); have n2_ := Aside0.mk (below_step (by repeat (first | (with_reducible first | exact HB.out | apply below_alloc | apply pw_below_drewN | apply below_drew1 | refine below_set ?_ GE203.out | refine below_set ?_ GE206.out) | exact HB.out)) hb); clear BK203; clear BK206; clear HB; have BK203 := n0_; have BK206 := n1_; have HB := n2_; clear n0_ n1_ n2_; (try clear hb); (try clear hb2); (try clear hk); (try clear hi); have hcz23_0 : w22.cell? ⟨gb206, 0, none⟩ = some (.string ((rd_T116 l0_1 x8_1).f0)) := (blk_cell BK206.out 0).trans rfl; have hcz23_1 : w22.cell? ⟨gb206, 1, none⟩ = some (.int .i64 ((rd_T116 l0_1 x8_1).f1.f0)) := (blk_cell BK206.out 1).trans rfl; have hcz23_2 : w22.cell? ⟨gb206, 2, none⟩ = some (.int .i64 ((rd_T116 l0_1 x8_1).f1.f1)) := (blk_cell BK206.out 2).trans rfl; have hcz23_3 : w22.cell? ⟨gb206, 3, none⟩ = some (.int .i64 ((rd_T116 l0_1 x8_1).f2)) := (blk_cell BK206.out 3).trans rfl; have hcz23_4 : w22.cell? ⟨gb206, 4, none⟩ = some (.int .i64 ((rd_T116 l0_1 x8_1).f3)) := (blk_cell BK206.out 4).trans rfl; have hcz23_5 : w22.cell? ⟨gb206, 5, none⟩ = some (.int .i64 ((rd_T116 l0_1 x8_1).f4)) := (blk_cell BK206.out 5).trans rfl; have hfz23_0 := blk_frozen BK206.out 0; have hfz23_1 := blk_frozen BK206.out 1; have hfz23_2 := blk_frozen BK206.out 2; have hfz23_3 := blk_frozen BK206.out 3; have hfz23_4 := blk_frozen BK206.out 4; have hfz23_5 := blk_frozen BK206.out 5) | (go_at_call 92; (with_reducible refine (impl_isPlace.calls ((rd_T116 l0_1 x8_1).f2) true _ A15.out).mono ?_); rintro e w' ⟨rfl, ⟨nd, rfl⟩⟩) | (go_at_call 72; (with_reducible refine (impl_between.calls ((rd_T116 l0_1 x8_1).f3) 0 4294967295 true _ A17.out).mono ?_); rintro e w' ⟨rfl, ⟨nd, rfl⟩⟩) | (go_at_call 72; (with_reducible refine (impl_between.calls ((rd_T116 l0_1 x8_1).f4) 0 4294967295 t211 _ A19.out).mono ?_); rintro e w' ⟨rfl, ⟨nd, rfl⟩⟩))
                      go_meet
                      case rel => exact ⟨_, (!t211), (by first | rfl | (simp; done) | (simp [*]; done)), H', ⟨by have := HK1.out; first | omega | exact Nat.le_refl _⟩, ⟨by (with_reducible repeat (first | refine blk_drewN ?_ _ | refine blk_drew ?_ | refine blk_alloc ?_ _)); exact BK203.out⟩, ⟨by (with_reducible repeat (first | refine blk_drewN ?_ _ | refine blk_drew ?_ | refine blk_alloc ?_ _)); exact BK206.out⟩, ⟨by repeat (first | (with_reducible first | exact HB.out | apply below_alloc | apply pw_below_drewN | apply below_drew1 | refine below_set ?_ GE203.out | refine below_set ?_ GE206.out) | exact HB.out)⟩⟩
                    · replace c18 := Bool.eq_false_iff.mpr c18
                      subst c18
                      have H1 : (impl_ReportOk.j1 k1 x8_1 l0_1 (l0_1.length : Int) x8_1 true a0_0 l0_1 ((rd_T116 l0_1 x8_1).f0) ((rd_T116 l0_1 x8_1).f1.f0) ((rd_T116 l0_1 x8_1).f1.f1) ((rd_T116 l0_1 x8_1).f2) ((rd_T116 l0_1 x8_1).f3) ((rd_T116 l0_1 x8_1).f4)) = some r := by rw [if_neg (show ¬ (false = true) by decide)] at H; exact H
                      clear H
                      have H := H1
                      clear H1
                      have H' := Aside0.mk H
                      clear H
                      have hnb24 := NB206_203.out
                      have hnc24 := NB203_206.out
                      have hcz25_0 : w8.cell? ⟨gb206, 0, none⟩ = some (.string (⟨#[]⟩ : ByteArray)) := (blk_cell BK206.out 0).trans rfl
                      have hcz25_1 : w8.cell? ⟨gb206, 1, none⟩ = some (.int .i64 0) := (blk_cell BK206.out 1).trans rfl
                      have hcz25_2 : w8.cell? ⟨gb206, 2, none⟩ = some (.int .i64 0) := (blk_cell BK206.out 2).trans rfl
                      have hcz25_3 : w8.cell? ⟨gb206, 3, none⟩ = some (.int .i64 0) := (blk_cell BK206.out 3).trans rfl
                      have hcz25_4 : w8.cell? ⟨gb206, 4, none⟩ = some (.int .i64 0) := (blk_cell BK206.out 4).trans rfl
                      have hcz25_5 : w8.cell? ⟨gb206, 5, none⟩ = some (.int .i64 0) := (blk_cell BK206.out 5).trans rfl
                      have hfz25_0 := blk_frozen BK206.out 0
                      have hfz25_1 := blk_frozen BK206.out 1
                      have hfz25_2 := blk_frozen BK206.out 2
                      have hfz25_3 := blk_frozen BK206.out 3
                      have hfz25_4 := blk_frozen BK206.out 4
                      have hfz25_5 := blk_frozen BK206.out 5
                      go_wp2_with (first | ((with_reducible refine gate_callee (f := 65) rfl ?_); refine goesL_ (some 15) rfl rfl Try.func65 (by kernel_rfl) rfl #[.string ((rd_T116 l0_1 x8_1).f0)] rfl (by (try simp only [List.map_toArray, List.map_cons, List.map_nil]); first | done | rfl | (simp only [List.length_drop, List.length_take]; rfl)) ?_; (with_reducible refine (impl_NameOk.calls k1 ((rd_T116 l0_1 x8_1).f0) true _ A11.out).mono ?_); rintro e w' ⟨rfl, ⟨nd, rfl⟩⟩; refine ⟨_, rfl, ?_⟩) | (go_at_call 66; (with_reducible refine (impl_realVer.calls ((rd_T116 l0_1 x8_1).f1.f0) ((rd_T116 l0_1 x8_1).f1.f1) true _ A13.out).mono ?_); rintro e w26 ⟨rfl, hb⟩; have n0_ := Aside0.mk (blk_below (g := gb203) (o := .cells #[.int .i64 a0_0, .slice (some ad205) l0_1.length c0_1] 86 (0, 0)) (by (with_reducible repeat (first | refine blk_drewN ?_ _ | refine blk_drew ?_ | refine blk_alloc ?_ _)); refine blk_far ?_ NB203_206.out _; (with_reducible repeat (first | refine blk_drewN ?_ _ | refine blk_drew ?_ | refine blk_alloc ?_ _)); refine blk_far ?_ NB203_206.out _; (with_reducible repeat (first | refine blk_drewN ?_ _ | refine blk_drew ?_ | refine blk_alloc ?_ _)); refine blk_far ?_ NB203_206.out _; (with_reducible repeat (first | refine blk_drewN ?_ _ | refine blk_drew ?_ | refine blk_alloc ?_ _)); refine blk_far ?_ NB203_206.out _; (with_reducible repeat (first | refine blk_drewN ?_ _ | refine blk_drew ?_ | refine blk_alloc ?_ _)); refine blk_far ?_ NB203_206.out _; (with_reducible repeat (first | refine blk_drewN ?_ _ | refine blk_drew ?_ | refine blk_alloc ?_ _)); refine blk_far ?_ NB203_206.out _; (with_reducible repeat (first | refine blk_drewN ?_ _ | refine blk_drew ?_ | refine blk_alloc ?_ _)); exact BK203.out) hb); have n1_ := Aside0.mk (blk_below (g := gb206) (o := .cells #[.string ((rd_T116 l0_1 x8_1).f0), .int .i64 ((rd_T116 l0_1 x8_1).f1.f0), .int .i64 ((rd_T116 l0_1 x8_1).f1.f1), .int .i64 ((rd_T116 l0_1 x8_1).f2), .int .i64 ((rd_T116 l0_1 x8_1).f3), .int .i64 ((rd_T116 l0_1 x8_1).f4)] 116 (0, 0)) (by (with_reducible repeat (first | refine blk_drewN ?_ _ | refine blk_drew ?_ | refine blk_alloc ?_ _)); refine blk_put (cs := #[.string ((rd_T116 l0_1 x8_1).f0), .int .i64 ((rd_T116 l0_1 x8_1).f1.f0), .int .i64 ((rd_T116 l0_1 x8_1).f1.f1), .int .i64 ((rd_T116 l0_1 x8_1).f2), .int .i64 ((rd_T116 l0_1 x8_1).f3), .int .i64 0]) ?_ 5 _ rfl; (with_reducible repeat (first | refine blk_drewN ?_ _ | refine blk_drew ?_ | refine blk_alloc ?_ _)); refine blk_put (cs := #[.string ((rd_T116 l0_1 x8_1).f0), .int .i64 ((rd_T116 l0_1 x8_1).f1.f0), .int .i64 ((rd_T116 l0_1 x8_1).f1.f1), .int .i64 ((rd_T116 l0_1 x8_1).f2), .int .i64 0, .int .i64 0]) ?_ 4 _ rfl; (with_reducible repeat (first | refine blk_drewN ?_ _ | refine blk_drew ?_ | refine blk_alloc ?_ _)); refine blk_put (cs := #[.string ((rd_T116 l0_1 x8_1).f0), .int .i64 ((rd_T116 l0_1 x8_1).f1.f0), .int .i64 ((rd_T116 l0_1 x8_1).f1.f1), .int .i64 0, .int .i64 0, .int .i64 0]) ?_ 3 _ rfl; (with_reducible repeat (first | refine blk_drewN ?_ _ | refine blk_drew ?_ | refine blk_alloc ?_ _)); refine blk_put (cs := #[.string ((rd_T116 l0_1 x8_1).f0), .int .i64 ((rd_T116 l0_1 x8_1).f1.f0), .int .i64 0, .int .i64 0, .int .i64 0, .int .i64 0]) ?_ 2 _ rfl; (with_reducible repeat (first | refine blk_drewN ?_ _ | refine blk_drew ?_ | refine blk_alloc ?_ _)); refine blk_put (cs := #[.string ((rd_T116 l0_1 x8_1).f0), .int .i64 0, .int .i64 0, .int .i64 0, .int .i64 0, .int .i64 0]) ?_ 1 _ rfl; (with_reducible repeat (first | refine blk_drewN ?_ _ | refine blk_drew ?_ | refine blk_alloc ?_ _)); refine blk_put (cs := #[.string (⟨#[]⟩ : ByteArray), .int .i64 0, .int .i64 0, .int .i64 0, .int .i64 0, .int .i64 0]) ?_ 0 _ rfl; (with_reducible repeat (first | refine blk_drewN ?_ _ | refine blk_drew ?_ | refine blk_alloc ?_ _)); exact BK206.out) hb); have n2_ := Aside0.mk (below_step (by repeat (first | (with_reducible first | exact HB.out | apply below_alloc | apply pw_below_drewN | apply below_drew1 | refine below_set ?_ GE203.out | refine below_set ?_ GE206.out) | exact HB.out)) hb); clear BK203; clear BK206; clear HB; have BK203 := n0_; have BK206 := n1_; have HB := n2_; clear n0_ n1_ n2_; (try clear hb); (try clear hb2); (try clear hk); (try clear hi); have hcz27_0 : w26.cell? ⟨gb206, 0, none⟩ = some (.string ((rd_T116 l0_1 x8_1).f0)) := (blk_cell BK206.out 0).trans rfl; have hcz27_1 : w26.cell? ⟨gb206, 1, none⟩ = some (.int .i64 ((rd_T116 l0_1 x8_1).f1.f0)) := (blk_cell BK206.out 1).trans rfl; have hcz27_2 : w26.cell? ⟨gb206, 2, none⟩ = some (.int .i64 ((rd_T116 l0_1 x8_1).f1.f1)) := (blk_cell BK206.out 2).trans rfl; have hcz27_3 : w26.cell? ⟨gb206, 3, none⟩ = some (.int .i64 ((rd_T116 l0_1 x8_1).f2)) := (blk_cell BK206.out 3).trans rfl; have hcz27_4 : w26.cell? ⟨gb206, 4, none⟩ = some (.int .i64 ((rd_T116 l0_1 x8_1).f3)) := (blk_cell BK206.out 4).trans rfl; have hcz27_5 : w26.cell? ⟨gb206, 5, none⟩ = some (.int .i64 ((rd_T116 l0_1 x8_1).f4)) := (blk_cell BK206.out 5).trans rfl; have hfz27_0 := blk_frozen BK206.out 0; have hfz27_1 := blk_frozen BK206.out 1; have hfz27_2 := blk_frozen BK206.out 2; have hfz27_3 := blk_frozen BK206.out 3; have hfz27_4 := blk_frozen BK206.out 4; have hfz27_5 := blk_frozen BK206.out 5) | (go_at_call 92; (with_reducible refine (impl_isPlace.calls ((rd_T116 l0_1 x8_1).f2) true _ A15.out).mono ?_); rintro e w' ⟨rfl, ⟨nd, rfl⟩⟩) | (go_at_call 72; (with_reducible refine (impl_between.calls ((rd_T116 l0_1 x8_1).f3) 0 4294967295 false _ A17.out).mono ?_); rintro e w' ⟨rfl, ⟨nd, rfl⟩⟩))
                      go_meet
                      case rel => exact ⟨_, (true), (by first | rfl | (simp; done) | (simp [*]; done)), H', ⟨by have := HK1.out; first | omega | exact Nat.le_refl _⟩, ⟨by (with_reducible repeat (first | refine blk_drewN ?_ _ | refine blk_drew ?_ | refine blk_alloc ?_ _)); exact BK203.out⟩, ⟨by (with_reducible repeat (first | refine blk_drewN ?_ _ | refine blk_drew ?_ | refine blk_alloc ?_ _)); exact BK206.out⟩, ⟨by repeat (first | (with_reducible first | exact HB.out | apply below_alloc | apply pw_below_drewN | apply below_drew1 | refine below_set ?_ GE203.out | refine below_set ?_ GE206.out) | exact HB.out)⟩⟩
                  · replace c16 := Bool.eq_false_iff.mpr c16
                    subst c16
                    have H1 : (impl_ReportOk.j1 k1 x8_1 l0_1 (l0_1.length : Int) x8_1 true a0_0 l0_1 ((rd_T116 l0_1 x8_1).f0) ((rd_T116 l0_1 x8_1).f1.f0) ((rd_T116 l0_1 x8_1).f1.f1) ((rd_T116 l0_1 x8_1).f2) ((rd_T116 l0_1 x8_1).f3) ((rd_T116 l0_1 x8_1).f4)) = some r := by rw [if_neg (show ¬ (false = true) by decide)] at H; exact H
                    clear H
                    have H := H1
                    clear H1
                    have H' := Aside0.mk H
                    clear H
                    have hnb28 := NB206_203.out
                    have hnc28 := NB203_206.out
                    have hcz29_0 : w8.cell? ⟨gb206, 0, none⟩ = some (.string (⟨#[]⟩ : ByteArray)) := (blk_cell BK206.out 0).trans rfl
                    have hcz29_1 : w8.cell? ⟨gb206, 1, none⟩ = some (.int .i64 0) := (blk_cell BK206.out 1).trans rfl
                    have hcz29_2 : w8.cell? ⟨gb206, 2, none⟩ = some (.int .i64 0) := (blk_cell BK206.out 2).trans rfl
                    have hcz29_3 : w8.cell? ⟨gb206, 3, none⟩ = some (.int .i64 0) := (blk_cell BK206.out 3).trans rfl
                    have hcz29_4 : w8.cell? ⟨gb206, 4, none⟩ = some (.int .i64 0) := (blk_cell BK206.out 4).trans rfl
                    have hcz29_5 : w8.cell? ⟨gb206, 5, none⟩ = some (.int .i64 0) := (blk_cell BK206.out 5).trans rfl
                    have hfz29_0 := blk_frozen BK206.out 0
                    have hfz29_1 := blk_frozen BK206.out 1
                    have hfz29_2 := blk_frozen BK206.out 2
                    have hfz29_3 := blk_frozen BK206.out 3
                    have hfz29_4 := blk_frozen BK206.out 4
                    have hfz29_5 := blk_frozen BK206.out 5
                    go_wp2_with (first | ((with_reducible refine gate_callee (f := 65) rfl ?_); refine goesL_ (some 15) rfl rfl Try.func65 (by kernel_rfl) rfl #[.string ((rd_T116 l0_1 x8_1).f0)] rfl (by (try simp only [List.map_toArray, List.map_cons, List.map_nil]); first | done | rfl | (simp only [List.length_drop, List.length_take]; rfl)) ?_; (with_reducible refine (impl_NameOk.calls k1 ((rd_T116 l0_1 x8_1).f0) true _ A11.out).mono ?_); rintro e w' ⟨rfl, ⟨nd, rfl⟩⟩; refine ⟨_, rfl, ?_⟩) | (go_at_call 66; (with_reducible refine (impl_realVer.calls ((rd_T116 l0_1 x8_1).f1.f0) ((rd_T116 l0_1 x8_1).f1.f1) true _ A13.out).mono ?_); rintro e w30 ⟨rfl, hb⟩; have n0_ := Aside0.mk (blk_below (g := gb203) (o := .cells #[.int .i64 a0_0, .slice (some ad205) l0_1.length c0_1] 86 (0, 0)) (by (with_reducible repeat (first | refine blk_drewN ?_ _ | refine blk_drew ?_ | refine blk_alloc ?_ _)); refine blk_far ?_ NB203_206.out _; (with_reducible repeat (first | refine blk_drewN ?_ _ | refine blk_drew ?_ | refine blk_alloc ?_ _)); refine blk_far ?_ NB203_206.out _; (with_reducible repeat (first | refine blk_drewN ?_ _ | refine blk_drew ?_ | refine blk_alloc ?_ _)); refine blk_far ?_ NB203_206.out _; (with_reducible repeat (first | refine blk_drewN ?_ _ | refine blk_drew ?_ | refine blk_alloc ?_ _)); refine blk_far ?_ NB203_206.out _; (with_reducible repeat (first | refine blk_drewN ?_ _ | refine blk_drew ?_ | refine blk_alloc ?_ _)); refine blk_far ?_ NB203_206.out _; (with_reducible repeat (first | refine blk_drewN ?_ _ | refine blk_drew ?_ | refine blk_alloc ?_ _)); refine blk_far ?_ NB203_206.out _; (with_reducible repeat (first | refine blk_drewN ?_ _ | refine blk_drew ?_ | refine blk_alloc ?_ _)); exact BK203.out) hb); have n1_ := Aside0.mk (blk_below (g := gb206) (o := .cells #[.string ((rd_T116 l0_1 x8_1).f0), .int .i64 ((rd_T116 l0_1 x8_1).f1.f0), .int .i64 ((rd_T116 l0_1 x8_1).f1.f1), .int .i64 ((rd_T116 l0_1 x8_1).f2), .int .i64 ((rd_T116 l0_1 x8_1).f3), .int .i64 ((rd_T116 l0_1 x8_1).f4)] 116 (0, 0)) (by (with_reducible repeat (first | refine blk_drewN ?_ _ | refine blk_drew ?_ | refine blk_alloc ?_ _)); refine blk_put (cs := #[.string ((rd_T116 l0_1 x8_1).f0), .int .i64 ((rd_T116 l0_1 x8_1).f1.f0), .int .i64 ((rd_T116 l0_1 x8_1).f1.f1), .int .i64 ((rd_T116 l0_1 x8_1).f2), .int .i64 ((rd_T116 l0_1 x8_1).f3), .int .i64 0]) ?_ 5 _ rfl; (with_reducible repeat (first | refine blk_drewN ?_ _ | refine blk_drew ?_ | refine blk_alloc ?_ _)); refine blk_put (cs := #[.string ((rd_T116 l0_1 x8_1).f0), .int .i64 ((rd_T116 l0_1 x8_1).f1.f0), .int .i64 ((rd_T116 l0_1 x8_1).f1.f1), .int .i64 ((rd_T116 l0_1 x8_1).f2), .int .i64 0, .int .i64 0]) ?_ 4 _ rfl; (with_reducible repeat (first | refine blk_drewN ?_ _ | refine blk_drew ?_ | refine blk_alloc ?_ _)); refine blk_put (cs := #[.string ((rd_T116 l0_1 x8_1).f0), .int .i64 ((rd_T116 l0_1 x8_1).f1.f0), .int .i64 ((rd_T116 l0_1 x8_1).f1.f1), .int .i64 0, .int .i64 0, .int .i64 0]) ?_ 3 _ rfl; (with_reducible repeat (first | refine blk_drewN ?_ _ | refine blk_drew ?_ | refine blk_alloc ?_ _)); refine blk_put (cs := #[.string ((rd_T116 l0_1 x8_1).f0), .int .i64 ((rd_T116 l0_1 x8_1).f1.f0), .int .i64 0, .int .i64 0, .int .i64 0, .int .i64 0]) ?_ 2 _ rfl; (with_reducible repeat (first | refine blk_drewN ?_ _ | refine blk_drew ?_ | refine blk_alloc ?_ _)); refine blk_put (cs := #[.string ((rd_T116 l0_1 x8_1).f0), .int .i64 0, .int .i64 0, .int .i64 0, .int .i64 0, .int .i64 0]) ?_ 1 _ rfl; (with_reducible repeat (first | refine blk_drewN ?_ _ | refine blk_drew ?_ | refine blk_alloc ?_ _)); refine blk_put (cs := #[.string (⟨#[]⟩ : ByteArray), .int .i64 0, .int .i64 0, .int .i64 0, .int .i64 0, .int .i64 0]) ?_ 0 _ rfl; (with_reducible repeat (first | refine blk_drewN ?_ _ | refine blk_drew ?_ | refine blk_alloc ?_ _)); exact BK206.out) hb); have n2_ := Aside0.mk (below_step (by repeat (first | (with_reducible first | exact HB.out | apply below_alloc | apply pw_below_drewN | apply below_drew1 | refine below_set ?_ GE203.out | refine below_set ?_ GE206.out) | exact HB.out)) hb); clear BK203; clear BK206; clear HB; have BK203 := n0_; have BK206 := n1_; have HB := n2_; clear n0_ n1_ n2_; (try clear hb); (try clear hb2); (try clear hk); (try clear hi); have hcz31_0 : w30.cell? ⟨gb206, 0, none⟩ = some (.string ((rd_T116 l0_1 x8_1).f0)) := (blk_cell BK206.out 0).trans rfl; have hcz31_1 : w30.cell? ⟨gb206, 1, none⟩ = some (.int .i64 ((rd_T116 l0_1 x8_1).f1.f0)) := (blk_cell BK206.out 1).trans rfl; have hcz31_2 : w30.cell? ⟨gb206, 2, none⟩ = some (.int .i64 ((rd_T116 l0_1 x8_1).f1.f1)) := (blk_cell BK206.out 2).trans rfl; have hcz31_3 : w30.cell? ⟨gb206, 3, none⟩ = some (.int .i64 ((rd_T116 l0_1 x8_1).f2)) := (blk_cell BK206.out 3).trans rfl; have hcz31_4 : w30.cell? ⟨gb206, 4, none⟩ = some (.int .i64 ((rd_T116 l0_1 x8_1).f3)) := (blk_cell BK206.out 4).trans rfl; have hcz31_5 : w30.cell? ⟨gb206, 5, none⟩ = some (.int .i64 ((rd_T116 l0_1 x8_1).f4)) := (blk_cell BK206.out 5).trans rfl; have hfz31_0 := blk_frozen BK206.out 0; have hfz31_1 := blk_frozen BK206.out 1; have hfz31_2 := blk_frozen BK206.out 2; have hfz31_3 := blk_frozen BK206.out 3; have hfz31_4 := blk_frozen BK206.out 4; have hfz31_5 := blk_frozen BK206.out 5) | (go_at_call 92; (with_reducible refine (impl_isPlace.calls ((rd_T116 l0_1 x8_1).f2) false _ A15.out).mono ?_); rintro e w' ⟨rfl, ⟨nd, rfl⟩⟩))
                    go_meet
                    case rel => exact ⟨_, (true), (by first | rfl | (simp; done) | (simp [*]; done)), H', ⟨by have := HK1.out; first | omega | exact Nat.le_refl _⟩, ⟨by (with_reducible repeat (first | refine blk_drewN ?_ _ | refine blk_drew ?_ | refine blk_alloc ?_ _)); exact BK203.out⟩, ⟨by (with_reducible repeat (first | refine blk_drewN ?_ _ | refine blk_drew ?_ | refine blk_alloc ?_ _)); exact BK206.out⟩, ⟨by repeat (first | (with_reducible first | exact HB.out | apply below_alloc | apply pw_below_drewN | apply below_drew1 | refine below_set ?_ GE203.out | refine below_set ?_ GE206.out) | exact HB.out)⟩⟩
                · replace c14 := Bool.eq_false_iff.mpr c14
                  subst c14
                  have H1 : (impl_ReportOk.j1 k1 x8_1 l0_1 (l0_1.length : Int) x8_1 true a0_0 l0_1 ((rd_T116 l0_1 x8_1).f0) ((rd_T116 l0_1 x8_1).f1.f0) ((rd_T116 l0_1 x8_1).f1.f1) ((rd_T116 l0_1 x8_1).f2) ((rd_T116 l0_1 x8_1).f3) ((rd_T116 l0_1 x8_1).f4)) = some r := by rw [if_neg (show ¬ (false = true) by decide)] at H; exact H
                  clear H
                  have H := H1
                  clear H1
                  have H' := Aside0.mk H
                  clear H
                  have hnb32 := NB206_203.out
                  have hnc32 := NB203_206.out
                  have hcz33_0 : w8.cell? ⟨gb206, 0, none⟩ = some (.string (⟨#[]⟩ : ByteArray)) := (blk_cell BK206.out 0).trans rfl
                  have hcz33_1 : w8.cell? ⟨gb206, 1, none⟩ = some (.int .i64 0) := (blk_cell BK206.out 1).trans rfl
                  have hcz33_2 : w8.cell? ⟨gb206, 2, none⟩ = some (.int .i64 0) := (blk_cell BK206.out 2).trans rfl
                  have hcz33_3 : w8.cell? ⟨gb206, 3, none⟩ = some (.int .i64 0) := (blk_cell BK206.out 3).trans rfl
                  have hcz33_4 : w8.cell? ⟨gb206, 4, none⟩ = some (.int .i64 0) := (blk_cell BK206.out 4).trans rfl
                  have hcz33_5 : w8.cell? ⟨gb206, 5, none⟩ = some (.int .i64 0) := (blk_cell BK206.out 5).trans rfl
                  have hfz33_0 := blk_frozen BK206.out 0
                  have hfz33_1 := blk_frozen BK206.out 1
                  have hfz33_2 := blk_frozen BK206.out 2
                  have hfz33_3 := blk_frozen BK206.out 3
                  have hfz33_4 := blk_frozen BK206.out 4
                  have hfz33_5 := blk_frozen BK206.out 5
                  go_wp2_with (first | ((with_reducible refine gate_callee (f := 65) rfl ?_); refine goesL_ (some 15) rfl rfl Try.func65 (by kernel_rfl) rfl #[.string ((rd_T116 l0_1 x8_1).f0)] rfl (by (try simp only [List.map_toArray, List.map_cons, List.map_nil]); first | done | rfl | (simp only [List.length_drop, List.length_take]; rfl)) ?_; (with_reducible refine (impl_NameOk.calls k1 ((rd_T116 l0_1 x8_1).f0) true _ A11.out).mono ?_); rintro e w' ⟨rfl, ⟨nd, rfl⟩⟩; refine ⟨_, rfl, ?_⟩) | (go_at_call 66; (with_reducible refine (impl_realVer.calls ((rd_T116 l0_1 x8_1).f1.f0) ((rd_T116 l0_1 x8_1).f1.f1) false _ A13.out).mono ?_); rintro e w34 ⟨rfl, hb⟩; have n0_ := Aside0.mk (blk_below (g := gb203) (o := .cells #[.int .i64 a0_0, .slice (some ad205) l0_1.length c0_1] 86 (0, 0)) (by (with_reducible repeat (first | refine blk_drewN ?_ _ | refine blk_drew ?_ | refine blk_alloc ?_ _)); refine blk_far ?_ NB203_206.out _; (with_reducible repeat (first | refine blk_drewN ?_ _ | refine blk_drew ?_ | refine blk_alloc ?_ _)); refine blk_far ?_ NB203_206.out _; (with_reducible repeat (first | refine blk_drewN ?_ _ | refine blk_drew ?_ | refine blk_alloc ?_ _)); refine blk_far ?_ NB203_206.out _; (with_reducible repeat (first | refine blk_drewN ?_ _ | refine blk_drew ?_ | refine blk_alloc ?_ _)); refine blk_far ?_ NB203_206.out _; (with_reducible repeat (first | refine blk_drewN ?_ _ | refine blk_drew ?_ | refine blk_alloc ?_ _)); refine blk_far ?_ NB203_206.out _; (with_reducible repeat (first | refine blk_drewN ?_ _ | refine blk_drew ?_ | refine blk_alloc ?_ _)); refine blk_far ?_ NB203_206.out _; (with_reducible repeat (first | refine blk_drewN ?_ _ | refine blk_drew ?_ | refine blk_alloc ?_ _)); exact BK203.out) hb); have n1_ := Aside0.mk (blk_below (g := gb206) (o := .cells #[.string ((rd_T116 l0_1 x8_1).f0), .int .i64 ((rd_T116 l0_1 x8_1).f1.f0), .int .i64 ((rd_T116 l0_1 x8_1).f1.f1), .int .i64 ((rd_T116 l0_1 x8_1).f2), .int .i64 ((rd_T116 l0_1 x8_1).f3), .int .i64 ((rd_T116 l0_1 x8_1).f4)] 116 (0, 0)) (by (with_reducible repeat (first | refine blk_drewN ?_ _ | refine blk_drew ?_ | refine blk_alloc ?_ _)); refine blk_put (cs := #[.string ((rd_T116 l0_1 x8_1).f0), .int .i64 ((rd_T116 l0_1 x8_1).f1.f0), .int .i64 ((rd_T116 l0_1 x8_1).f1.f1), .int .i64 ((rd_T116 l0_1 x8_1).f2), .int .i64 ((rd_T116 l0_1 x8_1).f3), .int .i64 0]) ?_ 5 _ rfl; (with_reducible repeat (first | refine blk_drewN ?_ _ | refine blk_drew ?_ | refine blk_alloc ?_ _)); refine blk_put (cs := #[.string ((rd_T116 l0_1 x8_1).f0), .int .i64 ((rd_T116 l0_1 x8_1).f1.f0), .int .i64 ((rd_T116 l0_1 x8_1).f1.f1), .int .i64 ((rd_T116 l0_1 x8_1).f2), .int .i64 0, .int .i64 0]) ?_ 4 _ rfl; (with_reducible repeat (first | refine blk_drewN ?_ _ | refine blk_drew ?_ | refine blk_alloc ?_ _)); refine blk_put (cs := #[.string ((rd_T116 l0_1 x8_1).f0), .int .i64 ((rd_T116 l0_1 x8_1).f1.f0), .int .i64 ((rd_T116 l0_1 x8_1).f1.f1), .int .i64 0, .int .i64 0, .int .i64 0]) ?_ 3 _ rfl; (with_reducible repeat (first | refine blk_drewN ?_ _ | refine blk_drew ?_ | refine blk_alloc ?_ _)); refine blk_put (cs := #[.string ((rd_T116 l0_1 x8_1).f0), .int .i64 ((rd_T116 l0_1 x8_1).f1.f0), .int .i64 0, .int .i64 0, .int .i64 0, .int .i64 0]) ?_ 2 _ rfl; (with_reducible repeat (first | refine blk_drewN ?_ _ | refine blk_drew ?_ | refine blk_alloc ?_ _)); refine blk_put (cs := #[.string ((rd_T116 l0_1 x8_1).f0), .int .i64 0, .int .i64 0, .int .i64 0, .int .i64 0, .int .i64 0]) ?_ 1 _ rfl; (with_reducible repeat (first | refine blk_drewN ?_ _ | refine blk_drew ?_ | refine blk_alloc ?_ _)); refine blk_put (cs := #[.string (⟨#[]⟩ : ByteArray), .int .i64 0, .int .i64 0, .int .i64 0, .int .i64 0, .int .i64 0]) ?_ 0 _ rfl; (with_reducible repeat (first | refine blk_drewN ?_ _ | refine blk_drew ?_ | refine blk_alloc ?_ _)); exact BK206.out) hb); have n2_ := Aside0.mk (below_step (by repeat (first | (with_reducible first | exact HB.out | apply below_alloc | apply pw_below_drewN | apply below_drew1 | refine below_set ?_ GE203.out | refine below_set ?_ GE206.out) | exact HB.out)) hb); clear BK203; clear BK206; clear HB; have BK203 := n0_; have BK206 := n1_; have HB := n2_; clear n0_ n1_ n2_; (try clear hb); (try clear hb2); (try clear hk); (try clear hi)))
                  go_meet
                  case rel => exact ⟨_, (true), (by first | rfl | (simp; done) | (simp [*]; done)), H', ⟨by have := HK1.out; first | omega | exact Nat.le_refl _⟩, ⟨by (with_reducible repeat (first | refine blk_drewN ?_ _ | refine blk_drew ?_ | refine blk_alloc ?_ _)); exact BK203.out⟩, ⟨by (with_reducible repeat (first | refine blk_drewN ?_ _ | refine blk_drew ?_ | refine blk_alloc ?_ _)); exact BK206.out⟩, ⟨by repeat (first | (with_reducible first | exact HB.out | apply below_alloc | apply pw_below_drewN | apply below_drew1 | refine below_set ?_ GE203.out | refine below_set ?_ GE206.out) | exact HB.out)⟩⟩
              · replace c12 := Bool.eq_false_iff.mpr c12
                subst c12
                have H1 : (impl_ReportOk.j1 k1 x8_1 l0_1 (l0_1.length : Int) x8_1 true a0_0 l0_1 ((rd_T116 l0_1 x8_1).f0) ((rd_T116 l0_1 x8_1).f1.f0) ((rd_T116 l0_1 x8_1).f1.f1) ((rd_T116 l0_1 x8_1).f2) ((rd_T116 l0_1 x8_1).f3) ((rd_T116 l0_1 x8_1).f4)) = some r := by rw [if_neg (show ¬ (false = true) by decide)] at H; exact H
                clear H
                have H := H1
                clear H1
                have H' := Aside0.mk H
                clear H
                have hnb35 := NB206_203.out
                have hnc35 := NB203_206.out
                have hcz36_0 : w8.cell? ⟨gb206, 0, none⟩ = some (.string (⟨#[]⟩ : ByteArray)) := (blk_cell BK206.out 0).trans rfl
                have hcz36_1 : w8.cell? ⟨gb206, 1, none⟩ = some (.int .i64 0) := (blk_cell BK206.out 1).trans rfl
                have hcz36_2 : w8.cell? ⟨gb206, 2, none⟩ = some (.int .i64 0) := (blk_cell BK206.out 2).trans rfl
                have hcz36_3 : w8.cell? ⟨gb206, 3, none⟩ = some (.int .i64 0) := (blk_cell BK206.out 3).trans rfl
                have hcz36_4 : w8.cell? ⟨gb206, 4, none⟩ = some (.int .i64 0) := (blk_cell BK206.out 4).trans rfl
                have hcz36_5 : w8.cell? ⟨gb206, 5, none⟩ = some (.int .i64 0) := (blk_cell BK206.out 5).trans rfl
                have hfz36_0 := blk_frozen BK206.out 0
                have hfz36_1 := blk_frozen BK206.out 1
                have hfz36_2 := blk_frozen BK206.out 2
                have hfz36_3 := blk_frozen BK206.out 3
                have hfz36_4 := blk_frozen BK206.out 4
                have hfz36_5 := blk_frozen BK206.out 5
                go_wp2_with (first | ((with_reducible refine gate_callee (f := 65) rfl ?_); refine goesL_ (some 15) rfl rfl Try.func65 (by kernel_rfl) rfl #[.string ((rd_T116 l0_1 x8_1).f0)] rfl (by (try simp only [List.map_toArray, List.map_cons, List.map_nil]); first | done | rfl | (simp only [List.length_drop, List.length_take]; rfl)) ?_; (with_reducible refine (impl_NameOk.calls k1 ((rd_T116 l0_1 x8_1).f0) false _ A11.out).mono ?_); rintro e w' ⟨rfl, ⟨nd, rfl⟩⟩; refine ⟨_, rfl, ?_⟩))
                go_meet
                case rel => exact ⟨_, (true), (by first | rfl | (simp; done) | (simp [*]; done)), H', ⟨by have := HK1.out; first | omega | exact Nat.le_refl _⟩, ⟨by (with_reducible repeat (first | refine blk_drewN ?_ _ | refine blk_drew ?_ | refine blk_alloc ?_ _)); refine blk_far ?_ NB203_206.out _; (with_reducible repeat (first | refine blk_drewN ?_ _ | refine blk_drew ?_ | refine blk_alloc ?_ _)); refine blk_far ?_ NB203_206.out _; (with_reducible repeat (first | refine blk_drewN ?_ _ | refine blk_drew ?_ | refine blk_alloc ?_ _)); refine blk_far ?_ NB203_206.out _; (with_reducible repeat (first | refine blk_drewN ?_ _ | refine blk_drew ?_ | refine blk_alloc ?_ _)); refine blk_far ?_ NB203_206.out _; (with_reducible repeat (first | refine blk_drewN ?_ _ | refine blk_drew ?_ | refine blk_alloc ?_ _)); refine blk_far ?_ NB203_206.out _; (with_reducible repeat (first | refine blk_drewN ?_ _ | refine blk_drew ?_ | refine blk_alloc ?_ _)); refine blk_far ?_ NB203_206.out _; (with_reducible repeat (first | refine blk_drewN ?_ _ | refine blk_drew ?_ | refine blk_alloc ?_ _)); exact BK203.out⟩, ⟨by (with_reducible repeat (first | refine blk_drewN ?_ _ | refine blk_drew ?_ | refine blk_alloc ?_ _)); refine blk_put (cs := #[.string ((rd_T116 l0_1 x8_1).f0), .int .i64 ((rd_T116 l0_1 x8_1).f1.f0), .int .i64 ((rd_T116 l0_1 x8_1).f1.f1), .int .i64 ((rd_T116 l0_1 x8_1).f2), .int .i64 ((rd_T116 l0_1 x8_1).f3), .int .i64 0]) ?_ 5 _ rfl; (with_reducible repeat (first | refine blk_drewN ?_ _ | refine blk_drew ?_ | refine blk_alloc ?_ _)); refine blk_put (cs := #[.string ((rd_T116 l0_1 x8_1).f0), .int .i64 ((rd_T116 l0_1 x8_1).f1.f0), .int .i64 ((rd_T116 l0_1 x8_1).f1.f1), .int .i64 ((rd_T116 l0_1 x8_1).f2), .int .i64 0, .int .i64 0]) ?_ 4 _ rfl; (with_reducible repeat (first | refine blk_drewN ?_ _ | refine blk_drew ?_ | refine blk_alloc ?_ _)); refine blk_put (cs := #[.string ((rd_T116 l0_1 x8_1).f0), .int .i64 ((rd_T116 l0_1 x8_1).f1.f0), .int .i64 ((rd_T116 l0_1 x8_1).f1.f1), .int .i64 0, .int .i64 0, .int .i64 0]) ?_ 3 _ rfl; (with_reducible repeat (first | refine blk_drewN ?_ _ | refine blk_drew ?_ | refine blk_alloc ?_ _)); refine blk_put (cs := #[.string ((rd_T116 l0_1 x8_1).f0), .int .i64 ((rd_T116 l0_1 x8_1).f1.f0), .int .i64 0, .int .i64 0, .int .i64 0, .int .i64 0]) ?_ 2 _ rfl; (with_reducible repeat (first | refine blk_drewN ?_ _ | refine blk_drew ?_ | refine blk_alloc ?_ _)); refine blk_put (cs := #[.string ((rd_T116 l0_1 x8_1).f0), .int .i64 0, .int .i64 0, .int .i64 0, .int .i64 0, .int .i64 0]) ?_ 1 _ rfl; (with_reducible repeat (first | refine blk_drewN ?_ _ | refine blk_drew ?_ | refine blk_alloc ?_ _)); refine blk_put (cs := #[.string (⟨#[]⟩ : ByteArray), .int .i64 0, .int .i64 0, .int .i64 0, .int .i64 0, .int .i64 0]) ?_ 0 _ rfl; (with_reducible repeat (first | refine blk_drewN ?_ _ | refine blk_drew ?_ | refine blk_alloc ?_ _)); exact BK206.out⟩, ⟨by repeat (first | (with_reducible first | exact HB.out | apply below_alloc | apply pw_below_drewN | apply below_drew1 | refine below_set ?_ GE203.out | refine below_set ?_ GE206.out) | exact HB.out)⟩⟩
            case rest =>
              clear HC7
              try clear c1
              try clear c2
              try clear p2
              try clear q2
              try clear hx2
              try clear c3
              try clear c4
              try clear c4b0
              try clear c5
              try clear c5b0
              try clear c6
              try clear c6b0
              try clear c9
              try clear c12
              try clear c14
              try clear c16
              try clear c18
              try clear c20
              try clear p20
              try clear q20
              try clear hx20
              try clear c24
              try clear c28
              try clear c32
              try clear c35
              try clear hcz10_0
              try clear hcz10_1
              try clear hcz10_2
              try clear hcz10_3
              try clear hcz10_4
              try clear hcz10_5
              try clear hcz21_0
              try clear hcz21_1
              try clear hcz21_2
              try clear hcz21_3
              try clear hcz21_4
              try clear hcz21_5
              try clear hcz23_0
              try clear hcz23_1
              try clear hcz23_2
              try clear hcz23_3
              try clear hcz23_4
              try clear hcz23_5
              try clear hcz25_0
              try clear hcz25_1
              try clear hcz25_2
              try clear hcz25_3
              try clear hcz25_4
              try clear hcz25_5
              try clear hcz27_0
              try clear hcz27_1
              try clear hcz27_2
              try clear hcz27_3
              try clear hcz27_4
              try clear hcz27_5
              try clear hcz29_0
              try clear hcz29_1
              try clear hcz29_2
              try clear hcz29_3
              try clear hcz29_4
              try clear hcz29_5
              try clear hcz31_0
              try clear hcz31_1
              try clear hcz31_2
              try clear hcz31_3
              try clear hcz31_4
              try clear hcz31_5
              try clear hcz33_0
              try clear hcz33_1
              try clear hcz33_2
              try clear hcz33_3
              try clear hcz33_4
              try clear hcz33_5
              try clear hcz36_0
              try clear hcz36_1
              try clear hcz36_2
              try clear hcz36_3
              try clear hcz36_4
              try clear hcz36_5
              try clear hcz3_0
              try clear hcz3_1
              try clear hfz10_0
              try clear hfz10_1
              try clear hfz10_2
              try clear hfz10_3
              try clear hfz10_4
              try clear hfz10_5
              try clear hfz21_0
              try clear hfz21_1
              try clear hfz21_2
              try clear hfz21_3
              try clear hfz21_4
              try clear hfz21_5
              try clear hfz23_0
              try clear hfz23_1
              try clear hfz23_2
              try clear hfz23_3
              try clear hfz23_4
              try clear hfz23_5
              try clear hfz25_0
              try clear hfz25_1
              try clear hfz25_2
              try clear hfz25_3
              try clear hfz25_4
              try clear hfz25_5
              try clear hfz27_0
              try clear hfz27_1
              try clear hfz27_2
              try clear hfz27_3
              try clear hfz27_4
              try clear hfz27_5
              try clear hfz29_0
              try clear hfz29_1
              try clear hfz29_2
              try clear hfz29_3
              try clear hfz29_4
              try clear hfz29_5
              try clear hfz31_0
              try clear hfz31_1
              try clear hfz31_2
              try clear hfz31_3
              try clear hfz31_4
              try clear hfz31_5
              try clear hfz33_0
              try clear hfz33_1
              try clear hfz33_2
              try clear hfz33_3
              try clear hfz33_4
              try clear hfz33_5
              try clear hfz36_0
              try clear hfz36_1
              try clear hfz36_2
              try clear hfz36_3
              try clear hfz36_4
              try clear hfz36_5
              try clear hfz3_0
              try clear hfz3_1
              try clear hx205_0
              try clear hx205_1
              try clear hx205_2
              try clear hx205_3
              try clear hx205_4
              try clear hx205_5
              try clear p2
              try clear p205
              try clear q205
              obtain ⟨kq, x40_6, rfl, HA, HJ6, BK203, BK206, HB⟩ := hcut
              cases kq with
              | zero => exact absurd HA.out (by simp [impl_ReportOk.j1])
              | succ kj6 =>
                have H := HA.out
                clear HA
                simp only [impl_ReportOk.j1] at H
                by_cases c37 : x40_6 = true
                · subst c37
                  have H1 : (some false) = some r := by rw [if_pos rfl] at H; exact H
                  clear H
                  have H := H1
                  clear H1
                  obtain rfl := Option.some.inj H
                  go_wp2
                  go_ret
                  exact ⟨by first | rfl | (simp [errW_none, errW_some] <;> rfl) | (simp [*, errW_none, errW_some] <;> rfl), by repeat (first | (with_reducible first | exact HB.out | apply below_alloc | apply pw_below_drewN | apply below_drew1 | refine below_set ?_ GE203.out | refine below_set ?_ GE206.out) | exact HB.out)⟩
                · replace c37 := Bool.eq_false_iff.mpr c37
                  subst c37
                  have H1 : (if x8_1 > 0 then (if 0 ≤ (wrap64 (x8_1 - 1)) then (if (wrap64 (x8_1 - 1)) < (l0_1.length : Int) then ((impl_compareProofs.f kj6 ((rd_T116 l0_1 (wrap64 (x8_1 - 1))).f0) ((rd_T116 l0_1 (wrap64 (x8_1 - 1))).f1.f0) ((rd_T116 l0_1 (wrap64 (x8_1 - 1))).f1.f1) ((rd_T116 l0_1 (wrap64 (x8_1 - 1))).f2) ((rd_T116 l0_1 (wrap64 (x8_1 - 1))).f3) ((rd_T116 l0_1 (wrap64 (x8_1 - 1))).f4) ((rd_T116 l0_1 x8_1).f0) ((rd_T116 l0_1 x8_1).f1.f0) ((rd_T116 l0_1 x8_1).f1.f1) ((rd_T116 l0_1 x8_1).f2) ((rd_T116 l0_1 x8_1).f3) ((rd_T116 l0_1 x8_1).f4)).bind fun t213 => (if t213 ≥ 0 then (some false) else (impl_ReportOk.l0 kj6 l0_1 (l0_1.length : Int) (wrap64 (x8_1 + 1)) a0_0 l0_1))) else (none)) else (none)) else (impl_ReportOk.l0 kj6 l0_1 (l0_1.length : Int) (wrap64 (x8_1 + 1)) a0_0 l0_1)) = some r := by rw [if_neg (show ¬ (false = true) by decide)] at H; exact H
                  clear H
                  have H := H1
                  clear H1
                  by_cases c38 : x8_1 > 0
                  · rw [if_pos c38] at H
                    have c38b0 : decide (0 < x8_1) = true := decide_eq_true c38
                    clear c38
                    obtain ⟨ji39, hji39⟩ : ∃ j_ : Int, (wrap64 (x8_1 - 1)) = j_ := ⟨_, rfl⟩
                    replace H : (if 0 ≤ (ji39) then (if (ji39) < (l0_1.length : Int) then ((impl_compareProofs.f kj6 ((rd_T116 l0_1 (ji39)).f0) ((rd_T116 l0_1 (ji39)).f1.f0) ((rd_T116 l0_1 (ji39)).f1.f1) ((rd_T116 l0_1 (ji39)).f2) ((rd_T116 l0_1 (ji39)).f3) ((rd_T116 l0_1 (ji39)).f4) ((rd_T116 l0_1 x8_1).f0) ((rd_T116 l0_1 x8_1).f1.f0) ((rd_T116 l0_1 x8_1).f1.f1) ((rd_T116 l0_1 x8_1).f2) ((rd_T116 l0_1 x8_1).f3) ((rd_T116 l0_1 x8_1).f4)).bind fun t213 => (if t213 ≥ 0 then (some false) else (impl_ReportOk.l0 kj6 l0_1 (l0_1.length : Int) (wrap64 (x8_1 + 1)) a0_0 l0_1))) else (none)) else (none)) = some r := by first | (rw [hji39] at H; exact H) | (simp only [hji39] at H ⊢; exact H)
                    have hji39w : (IntKind.i64.wrap (x8_1 - 1)) = ji39 := (i64_w _).trans hji39
                    by_cases c40 : 0 ≤ (ji39)
                    · rw [if_pos c40] at H
                      have c40b0 : decide (0 ≤ (ji39)) = true := decide_eq_true c40
                      clear c40
                      by_cases c41 : (ji39) < (l0_1.length : Int)
                      · rw [if_pos c41] at H
                        have c41b0 : decide ((ji39) < (l0_1.length : Int)) = true := decide_eq_true c41
                        clear c41
                        replace H := Option.bind_eq_some_iff.mp H
                        obtain ⟨t213, A420, H⟩ := H
                        replace H : (if t213 ≥ 0 then (some false) else (impl_ReportOk.l0 kj6 l0_1 (l0_1.length : Int) (wrap64 (x8_1 + 1)) a0_0 l0_1)) = some r := H
                        have A42 := Aside0.mk A420
                        clear A420
                        by_cases c43 : t213 ≥ 0
                        · rw [if_pos c43] at H
                          have c43b0 : decide (0 ≤ t213) = true := decide_eq_true c43
                          clear c43
                          obtain rfl := Option.some.inj H
                          try go_wp2
                          have n0_ := Aside0.mk (blk_drew BK203.out)
                          have n1_ := Aside0.mk (blk_drew BK206.out)
                          have n2_ := Aside0.mk (below_drew1 HB.out)
                          clear BK203
                          clear BK206
                          clear HB
                          have BK203 := n0_
                          have BK206 := n1_
                          have HB := n2_
                          clear n0_ n1_ n2_
                          have p212 : 0 ≤ ((ji39) : Int) := of_decide_eq_true (by first | (with_reducible assumption) | assumption)
                          have q212 : (ji39) < (l0_1.length : Int) := of_decide_eq_true (by first | (with_reducible assumption) | assumption)
                          obtain ⟨ad212, e212, hx212_0, hx212_1, hx212_2, hx212_3, hx212_4, hx212_5⟩ := at_T116 HR0_1.out (ji39) p212 q212
                          have hw212_5 := hx212_5
                          have hw212_4 := hx212_4
                          have hw212_3 := hx212_3
                          have hw212_2 := hx212_2
                          have hw212_1 := hx212_1
                          have hw212_0 := hx212_0
                          obtain rfl : ad205 = ad212 := (by injection e212)
                          replace hx212_0 := (HB.out.cell (World.block_lt_of_cell? w _ hx212_0)).trans hx212_0
                          replace hx212_1 := (HB.out.cell (World.block_lt_of_cell? w _ hx212_1)).trans hx212_1
                          replace hx212_2 := (HB.out.cell (World.block_lt_of_cell? w _ hx212_2)).trans hx212_2
                          replace hx212_3 := (HB.out.cell (World.block_lt_of_cell? w _ hx212_3)).trans hx212_3
                          replace hx212_4 := (HB.out.cell (World.block_lt_of_cell? w _ hx212_4)).trans hx212_4
                          replace hx212_5 := (HB.out.cell (World.block_lt_of_cell? w _ hx212_5)).trans hx212_5
                          replace p212 := eq_true p212
                          replace q212 := eq_true q212
                          refine start_ (n := 13) (S := fun w' => w'.cell? ⟨gb203, 0, none⟩ = some (.int .i64 a0_0) ∧ w'.cell? ⟨gb203, 1, none⟩ = some (.slice (some ad205) l0_1.length c0_1) ∧ w'.cell? ⟨gb206, 0, none⟩ = some (.string ((rd_T116 l0_1 x8_1).f0)) ∧ w'.cell? ⟨gb206, 1, none⟩ = some (.int .i64 ((rd_T116 l0_1 x8_1).f1.f0)) ∧ w'.cell? ⟨gb206, 2, none⟩ = some (.int .i64 ((rd_T116 l0_1 x8_1).f1.f1)) ∧ w'.cell? ⟨gb206, 3, none⟩ = some (.int .i64 ((rd_T116 l0_1 x8_1).f2)) ∧ w'.cell? ⟨gb206, 4, none⟩ = some (.int .i64 ((rd_T116 l0_1 x8_1).f3)) ∧ w'.cell? ⟨gb206, 5, none⟩ = some (.int .i64 ((rd_T116 l0_1 x8_1).f4)) ∧ w'.cell? (ad205.add (((ji39)).toNat * 6)) = some (.string ((rd_T116 l0_1 (ji39)).f0)) ∧ w'.cell? ⟨(ad205.add (((ji39)).toNat * 6)).block, (ad205.add (((ji39)).toNat * 6)).off + 1, none⟩ = some (.int .i64 ((rd_T116 l0_1 (ji39)).f1.f0)) ∧ w'.cell? ⟨(ad205.add (((ji39)).toNat * 6)).block, (ad205.add (((ji39)).toNat * 6)).off + 2, none⟩ = some (.int .i64 ((rd_T116 l0_1 (ji39)).f1.f1)) ∧ w'.cell? ⟨(ad205.add (((ji39)).toNat * 6)).block, (ad205.add (((ji39)).toNat * 6)).off + 3, none⟩ = some (.int .i64 ((rd_T116 l0_1 (ji39)).f2)) ∧ w'.cell? ⟨(ad205.add (((ji39)).toNat * 6)).block, (ad205.add (((ji39)).toNat * 6)).off + 4, none⟩ = some (.int .i64 ((rd_T116 l0_1 (ji39)).f3)) ∧ w'.cell? ⟨(ad205.add (((ji39)).toNat * 6)).block, (ad205.add (((ji39)).toNat * 6)).off + 5, none⟩ = some (.int .i64 ((rd_T116 l0_1 (ji39)).f4))) (ds := []) #[false, false, false, false, false, false, false, false, false, false, false, false, false] (by kernel_rfl) rfl rfl ⟨(blk_cell BK203.out 0).trans rfl, (blk_cell BK203.out 1).trans rfl, (blk_cell BK206.out 0).trans rfl, (blk_cell BK206.out 1).trans rfl, (blk_cell BK206.out 2).trans rfl, (blk_cell BK206.out 3).trans rfl, (blk_cell BK206.out 4).trans rfl, (blk_cell BK206.out 5).trans rfl, ((HB.out.cell (World.block_lt_of_cell? w _ hw212_0)).trans hw212_0), ((HB.out.cell (World.block_lt_of_cell? w _ hw212_1)).trans hw212_1), ((HB.out.cell (World.block_lt_of_cell? w _ hw212_2)).trans hw212_2), ((HB.out.cell (World.block_lt_of_cell? w _ hw212_3)).trans hw212_3), ((HB.out.cell (World.block_lt_of_cell? w _ hw212_4)).trans hw212_4), ((HB.out.cell (World.block_lt_of_cell? w _ hw212_5)).trans hw212_5)⟩ (fun hHeld => ?_); refine with_tabW impl_ReportOk.tab6 impl_ReportOk.bits6 (fun HT_ HW_ => ?_)
                          generalize wc.drew = w44 at BK203 BK206 HB hx212_0 hx212_1 hx212_2 hx212_3 hx212_4 hx212_5 hHeld ⊢
                          refine pure_ (i := 0) (N := some 41) (v := ?_) (a' := ?_) #[true, false, false, false, false, false, false, false, false, false, false, false, false] rfl rfl (any_of HT_.out (by kernel_rfl)) (fun _ _ _ h => h) (Or.inl ⟨by rfl, ?_⟩) ?_ ?_
                          rotate_left
                          · intro w'
                            go_simp
                            with_reducible rfl
                          rotate_left
                          · simp only [Act.put, List.setIfInBounds_toArray, List.set_cons_zero, List.set_cons_succ, i64_w, i32_w]
                            rfl
                          refine pure_ (i := 1) (N := some 42) (v := ?_) (a' := ?_) #[true, true, false, false, false, false, false, false, false, false, false, false, false] rfl rfl (any_of HT_.out (by kernel_rfl)) (fun _ _ _ h => h) (Or.inl ⟨by rfl, ?_⟩) ?_ ?_
                          rotate_left
                          · intro w'
                            go_simp
                            with_reducible rfl
                          rotate_left
                          · simp only [Act.put, List.setIfInBounds_toArray, List.set_cons_zero, List.set_cons_succ, i64_w, i32_w]
                            rfl
                          refine pure_ (i := 2) (N := some 43) (v := ?_) (a' := ?_) #[true, true, true, false, false, false, false, false, false, false, false, false, false] rfl rfl (any_of HT_.out (by kernel_rfl)) (fun _ _ _ h => h) (Or.inl ⟨by rfl, ?_⟩) ?_ ?_
                          rotate_left
                          · intro w'
                            go_simp
                            with_reducible rfl
                          rotate_left
                          · simp only [Act.put, List.setIfInBounds_toArray, List.set_cons_zero, List.set_cons_succ, i64_w, i32_w]
                            rfl
                          refine pure_ (i := 3) (N := some 44) (v := ?_) (a' := ?_) #[true, true, true, true, false, false, false, false, false, false, false, false, false] rfl rfl (any_of HT_.out (by kernel_rfl)) (fun _ _ _ h => h) (Or.inl ⟨by rfl, ?_⟩) ?_ ?_
                          rotate_left
                          · intro w'
                            go_simp
                            with_reducible rfl
                          rotate_left
                          · simp only [Act.put, List.setIfInBounds_toArray, List.set_cons_zero, List.set_cons_succ, i64_w, i32_w]
                            rfl
                          refine pure_ (i := 5) (N := some 46) (v := ?_) (a' := ?_) #[true, true, true, true, false, true, false, false, false, false, false, false, false] rfl rfl (any_of HT_.out (by kernel_rfl)) (fun _ _ _ h => h) (Or.inl ⟨by rfl, ?_⟩) ?_ ?_
                          rotate_left
                          · intro w'
                            go_simp
                            with_reducible rfl
                          rotate_left
                          · simp only [Act.put, List.setIfInBounds_toArray, List.set_cons_zero, List.set_cons_succ, i64_w, i32_w]
                            rfl
                          refine pure_ (i := 6) (N := some 47) (v := ?_) (a' := ?_) #[true, true, true, true, false, true, true, false, false, false, false, false, false] rfl rfl (any_of HT_.out (by kernel_rfl)) (fun _ _ _ h => h) (Or.inl ⟨by rfl, ?_⟩) ?_ ?_
                          rotate_left
                          · intro w'
                            go_simp
                            with_reducible rfl
                          rotate_left
                          · simp only [Act.put, List.setIfInBounds_toArray, List.set_cons_zero, List.set_cons_succ, i64_w, i32_w]
                            rfl
                          refine take_ (i := 4) (N := some 45) (v := ?_) (a' := ?_) #[true, true, true, true, true, true, true, false, false, false, false, false, false] rfl rfl (take_ofW HT_.out HW_.out (by kernel_rfl)) (fun _ _ _ h => h) (Or.inl ⟨by rfl, ?_⟩) hHeld ?_ ?_
                          rotate_left
                          · rintro w' ⟨s0, s1, s2, s3, s4, s5, s6, s7, s8, s9, s10, s11, s12, s13⟩
                            go_simp
                            with_reducible rfl
                          rotate_left
                          · simp only [Act.put, List.setIfInBounds_toArray, List.set_cons_zero, List.set_cons_succ, i64_w, i32_w]
                            rfl
                          refine pure_ (i := 7) (N := some 48) (v := ?_) (a' := ?_) #[true, true, true, true, true, true, true, true, false, false, false, false, false] rfl rfl (any_of HT_.out (by kernel_rfl)) (fun _ _ _ h => h) (Or.inl ⟨by rfl, ?_⟩) ?_ ?_
                          rotate_left
                          · intro w'
                            go_simp
                            with_reducible rfl
                          rotate_left
                          · simp only [Act.put, List.setIfInBounds_toArray, List.set_cons_zero, List.set_cons_succ, i64_w, i32_w]
                            rfl
                          refine take_ (i := 8) (N := some 49) (v := ?_) (a' := ?_) #[true, true, true, true, true, true, true, true, true, false, false, false, false] rfl rfl (take_ofW HT_.out HW_.out (by kernel_rfl)) (fun _ _ _ h => h) (Or.inl ⟨by rfl, ?_⟩) hHeld ?_ ?_
                          rotate_left
                          · rintro w' ⟨s0, s1, s2, s3, s4, s5, s6, s7, s8, s9, s10, s11, s12, s13⟩
                            go_simp
                            with_reducible rfl
                          rotate_left
                          · simp only [Act.put, List.setIfInBounds_toArray, List.set_cons_zero, List.set_cons_succ, i64_w, i32_w]
                            rfl
                          refine take_ (i := 9) (N := some 50) (v := ?_) (a' := ?_) #[true, true, true, true, true, true, true, true, true, true, false, false, false] rfl rfl (take_ofW HT_.out HW_.out (by kernel_rfl)) (fun _ _ _ h => h) (Or.inl ⟨by rfl, ?_⟩) hHeld ?_ ?_
                          rotate_left
                          · rintro w' ⟨s0, s1, s2, s3, s4, s5, s6, s7, s8, s9, s10, s11, s12, s13⟩
                            go_simp
                            with_reducible rfl
                          rotate_left
                          · simp only [Act.put, List.setIfInBounds_toArray, List.set_cons_zero, List.set_cons_succ, i64_w, i32_w]
                            rfl
                          refine one_ (i := 10) (N := some 51) #[true, true, true, true, true, true, true, true, true, true, true, false, false] rfl rfl (one_of HT_.out (by kernel_rfl)) (by decide) (fun K hK => ?_)
                          refine goes_ Try.func93 (by kernel_rfl) rfl #[.agg #[.string ((rd_T116 l0_1 (ji39)).f0), .int .i64 ((rd_T116 l0_1 (ji39)).f1.f0), .int .i64 ((rd_T116 l0_1 (ji39)).f1.f1), .int .i64 ((rd_T116 l0_1 (ji39)).f2), .int .i64 ((rd_T116 l0_1 (ji39)).f3), .int .i64 ((rd_T116 l0_1 (ji39)).f4)], .agg #[.string ((rd_T116 l0_1 x8_1).f0), .int .i64 ((rd_T116 l0_1 x8_1).f1.f0), .int .i64 ((rd_T116 l0_1 x8_1).f1.f1), .int .i64 ((rd_T116 l0_1 x8_1).f2), .int .i64 ((rd_T116 l0_1 x8_1).f3), .int .i64 ((rd_T116 l0_1 x8_1).f4)]] (by rfl) rfl rfl (by (try simp only [List.map_toArray, List.map_cons, List.map_nil]); first | done | (simp only [hji39]; rfl) | rfl | (simp only [List.length_drop, List.length_take]; rfl)) ?_
                          with_reducible refine (impl_compareProofs.calls kj6 ((rd_T116 l0_1 (ji39)).f0) ((rd_T116 l0_1 (ji39)).f1.f0) ((rd_T116 l0_1 (ji39)).f1.f1) ((rd_T116 l0_1 (ji39)).f2) ((rd_T116 l0_1 (ji39)).f3) ((rd_T116 l0_1 (ji39)).f4) ((rd_T116 l0_1 x8_1).f0) ((rd_T116 l0_1 x8_1).f1.f0) ((rd_T116 l0_1 x8_1).f1.f1) ((rd_T116 l0_1 x8_1).f2) ((rd_T116 l0_1 x8_1).f3) ((rd_T116 l0_1 x8_1).f4) t213 _ A42.out).mono ?_
                          rintro e w45 ⟨rfl, hb⟩
                          refine ⟨_, rfl, ?_⟩
                          have n0_ := Aside0.mk (blk_below (g := gb203) (o := .cells #[.int .i64 a0_0, .slice (some ad205) l0_1.length c0_1] 86 (0, 0)) (by (with_reducible repeat (first | refine blk_drewN ?_ _ | refine blk_drew ?_ | refine blk_alloc ?_ _)); exact BK203.out) hb)
                          have n1_ := Aside0.mk (blk_below (g := gb206) (o := .cells #[.string ((rd_T116 l0_1 x8_1).f0), .int .i64 ((rd_T116 l0_1 x8_1).f1.f0), .int .i64 ((rd_T116 l0_1 x8_1).f1.f1), .int .i64 ((rd_T116 l0_1 x8_1).f2), .int .i64 ((rd_T116 l0_1 x8_1).f3), .int .i64 ((rd_T116 l0_1 x8_1).f4)] 116 (0, 0)) (by (with_reducible repeat (first | refine blk_drewN ?_ _ | refine blk_drew ?_ | refine blk_alloc ?_ _)); exact BK206.out) hb)
                          have n2_ := Aside0.mk (below_step (by repeat (first | (with_reducible first | exact HB.out | apply below_alloc | apply pw_below_drewN | apply below_drew1 | refine below_set ?_ GE203.out | refine below_set ?_ GE206.out) | exact HB.out)) hb)
                          clear BK203
                          clear BK206
                          clear HB
                          have BK203 := n0_
                          have BK206 := n1_
                          have HB := n2_
                          clear n0_ n1_ n2_
                          (try clear hb)
                          (try clear hb2)
                          (try clear hk)
                          (try clear hi)
                          refine hK.out _ _ ⟨(blk_cell BK203.out 0).trans rfl, (blk_cell BK203.out 1).trans rfl, (blk_cell BK206.out 0).trans rfl, (blk_cell BK206.out 1).trans rfl, (blk_cell BK206.out 2).trans rfl, (blk_cell BK206.out 3).trans rfl, (blk_cell BK206.out 4).trans rfl, (blk_cell BK206.out 5).trans rfl, ((HB.out.cell (World.block_lt_of_cell? w _ hw212_0)).trans hw212_0), ((HB.out.cell (World.block_lt_of_cell? w _ hw212_1)).trans hw212_1), ((HB.out.cell (World.block_lt_of_cell? w _ hw212_2)).trans hw212_2), ((HB.out.cell (World.block_lt_of_cell? w _ hw212_3)).trans hw212_3), ((HB.out.cell (World.block_lt_of_cell? w _ hw212_4)).trans hw212_4), ((HB.out.cell (World.block_lt_of_cell? w _ hw212_5)).trans hw212_5)⟩ (fun hHeld => ?_)
                          clear hK K
                          refine norm_ (a' := ?_) ?_ ?_
                          rotate_left
                          · show Act.put _ (some 51) _ = _
                            simp only [Act.put, List.setIfInBounds_toArray, List.set_cons_zero, List.set_cons_succ, i64_w, i32_w]
                            rfl
                          refine pure_ (i := 11) (N := some 52) (v := ?_) (a' := ?_) #[true, true, true, true, true, true, true, true, true, true, true, true, false] rfl rfl (any_of HT_.out (by kernel_rfl)) (fun _ _ _ h => h) (Or.inl ⟨by rfl, ?_⟩) ?_ ?_
                          rotate_left
                          · intro w'
                            go_simp
                            with_reducible rfl
                          rotate_left
                          · simp only [Act.put, List.setIfInBounds_toArray, List.set_cons_zero, List.set_cons_succ, i64_w, i32_w]
                            rfl
                          refine pure_ (i := 12) (N := some 53) (v := ?_) (a' := ?_) #[true, true, true, true, true, true, true, true, true, true, true, true, true] rfl rfl (any_of HT_.out (by kernel_rfl)) (fun _ _ _ h => h) (Or.inl ⟨by rfl, ?_⟩) ?_ ?_
                          rotate_left
                          · intro w'
                            go_simp
                            with_reducible rfl
                          rotate_left
                          · simp only [Act.put, List.setIfInBounds_toArray, List.set_cons_zero, List.set_cons_succ, i64_w, i32_w]
                            rfl
                          refine done_ (done_of HT_.out (by kernel_rfl)) ?_
                          try go_wp2
                          go_ret
                          exact ⟨by first | rfl | (simp [errW_none, errW_some] <;> rfl) | (simp only [← hji39]; first | rfl | (simp [errW_none, errW_some] <;> rfl)) | (simp [*, errW_none, errW_some] <;> rfl), by repeat (first | (with_reducible first | exact HB.out | apply below_alloc | apply pw_below_drewN | apply below_drew1 | refine below_set ?_ GE203.out | refine below_set ?_ GE206.out) | exact HB.out)⟩
                        · rw [if_neg c43] at H
                          have c43b0 : decide (0 ≤ t213) = false := decide_eq_false c43
                          clear c43
                          have H' := Aside0.mk H
                          clear H
                          try go_wp2
                          have n0_ := Aside0.mk (blk_drew BK203.out)
                          have n1_ := Aside0.mk (blk_drew BK206.out)
                          have n2_ := Aside0.mk (below_drew1 HB.out)
                          clear BK203
                          clear BK206
                          clear HB
                          have BK203 := n0_
                          have BK206 := n1_
                          have HB := n2_
                          clear n0_ n1_ n2_
                          have p212 : 0 ≤ ((ji39) : Int) := of_decide_eq_true (by first | (with_reducible assumption) | assumption)
                          have q212 : (ji39) < (l0_1.length : Int) := of_decide_eq_true (by first | (with_reducible assumption) | assumption)
                          obtain ⟨ad212, e212, hx212_0, hx212_1, hx212_2, hx212_3, hx212_4, hx212_5⟩ := at_T116 HR0_1.out (ji39) p212 q212
                          have hw212_5 := hx212_5
                          have hw212_4 := hx212_4
                          have hw212_3 := hx212_3
                          have hw212_2 := hx212_2
                          have hw212_1 := hx212_1
                          have hw212_0 := hx212_0
                          obtain rfl : ad205 = ad212 := (by injection e212)
                          replace hx212_0 := (HB.out.cell (World.block_lt_of_cell? w _ hx212_0)).trans hx212_0
                          replace hx212_1 := (HB.out.cell (World.block_lt_of_cell? w _ hx212_1)).trans hx212_1
                          replace hx212_2 := (HB.out.cell (World.block_lt_of_cell? w _ hx212_2)).trans hx212_2
                          replace hx212_3 := (HB.out.cell (World.block_lt_of_cell? w _ hx212_3)).trans hx212_3
                          replace hx212_4 := (HB.out.cell (World.block_lt_of_cell? w _ hx212_4)).trans hx212_4
                          replace hx212_5 := (HB.out.cell (World.block_lt_of_cell? w _ hx212_5)).trans hx212_5
                          replace p212 := eq_true p212
                          replace q212 := eq_true q212
                          refine start_ (n := 13) (S := fun w' => w'.cell? ⟨gb203, 0, none⟩ = some (.int .i64 a0_0) ∧ w'.cell? ⟨gb203, 1, none⟩ = some (.slice (some ad205) l0_1.length c0_1) ∧ w'.cell? ⟨gb206, 0, none⟩ = some (.string ((rd_T116 l0_1 x8_1).f0)) ∧ w'.cell? ⟨gb206, 1, none⟩ = some (.int .i64 ((rd_T116 l0_1 x8_1).f1.f0)) ∧ w'.cell? ⟨gb206, 2, none⟩ = some (.int .i64 ((rd_T116 l0_1 x8_1).f1.f1)) ∧ w'.cell? ⟨gb206, 3, none⟩ = some (.int .i64 ((rd_T116 l0_1 x8_1).f2)) ∧ w'.cell? ⟨gb206, 4, none⟩ = some (.int .i64 ((rd_T116 l0_1 x8_1).f3)) ∧ w'.cell? ⟨gb206, 5, none⟩ = some (.int .i64 ((rd_T116 l0_1 x8_1).f4)) ∧ w'.cell? (ad205.add (((ji39)).toNat * 6)) = some (.string ((rd_T116 l0_1 (ji39)).f0)) ∧ w'.cell? ⟨(ad205.add (((ji39)).toNat * 6)).block, (ad205.add (((ji39)).toNat * 6)).off + 1, none⟩ = some (.int .i64 ((rd_T116 l0_1 (ji39)).f1.f0)) ∧ w'.cell? ⟨(ad205.add (((ji39)).toNat * 6)).block, (ad205.add (((ji39)).toNat * 6)).off + 2, none⟩ = some (.int .i64 ((rd_T116 l0_1 (ji39)).f1.f1)) ∧ w'.cell? ⟨(ad205.add (((ji39)).toNat * 6)).block, (ad205.add (((ji39)).toNat * 6)).off + 3, none⟩ = some (.int .i64 ((rd_T116 l0_1 (ji39)).f2)) ∧ w'.cell? ⟨(ad205.add (((ji39)).toNat * 6)).block, (ad205.add (((ji39)).toNat * 6)).off + 4, none⟩ = some (.int .i64 ((rd_T116 l0_1 (ji39)).f3)) ∧ w'.cell? ⟨(ad205.add (((ji39)).toNat * 6)).block, (ad205.add (((ji39)).toNat * 6)).off + 5, none⟩ = some (.int .i64 ((rd_T116 l0_1 (ji39)).f4))) (ds := []) #[false, false, false, false, false, false, false, false, false, false, false, false, false] (by kernel_rfl) rfl rfl ⟨(blk_cell BK203.out 0).trans rfl, (blk_cell BK203.out 1).trans rfl, (blk_cell BK206.out 0).trans rfl, (blk_cell BK206.out 1).trans rfl, (blk_cell BK206.out 2).trans rfl, (blk_cell BK206.out 3).trans rfl, (blk_cell BK206.out 4).trans rfl, (blk_cell BK206.out 5).trans rfl, ((HB.out.cell (World.block_lt_of_cell? w _ hw212_0)).trans hw212_0), ((HB.out.cell (World.block_lt_of_cell? w _ hw212_1)).trans hw212_1), ((HB.out.cell (World.block_lt_of_cell? w _ hw212_2)).trans hw212_2), ((HB.out.cell (World.block_lt_of_cell? w _ hw212_3)).trans hw212_3), ((HB.out.cell (World.block_lt_of_cell? w _ hw212_4)).trans hw212_4), ((HB.out.cell (World.block_lt_of_cell? w _ hw212_5)).trans hw212_5)⟩ (fun hHeld => ?_); refine with_tabW impl_ReportOk.tab6 impl_ReportOk.bits6 (fun HT_ HW_ => ?_)
                          generalize wc.drew = w46 at BK203 BK206 HB hx212_0 hx212_1 hx212_2 hx212_3 hx212_4 hx212_5 hHeld ⊢
                          refine pure_ (i := 0) (N := some 41) (v := ?_) (a' := ?_) #[true, false, false, false, false, false, false, false, false, false, false, false, false] rfl rfl (any_of HT_.out (by kernel_rfl)) (fun _ _ _ h => h) (Or.inl ⟨by rfl, ?_⟩) ?_ ?_
                          rotate_left
                          · intro w'
                            go_simp
                            with_reducible rfl
                          rotate_left
                          · simp only [Act.put, List.setIfInBounds_toArray, List.set_cons_zero, List.set_cons_succ, i64_w, i32_w]
                            rfl
                          refine pure_ (i := 1) (N := some 42) (v := ?_) (a' := ?_) #[true, true, false, false, false, false, false, false, false, false, false, false, false] rfl rfl (any_of HT_.out (by kernel_rfl)) (fun _ _ _ h => h) (Or.inl ⟨by rfl, ?_⟩) ?_ ?_
                          rotate_left
                          · intro w'
                            go_simp
                            with_reducible rfl
                          rotate_left
                          · simp only [Act.put, List.setIfInBounds_toArray, List.set_cons_zero, List.set_cons_succ, i64_w, i32_w]
                            rfl
                          refine pure_ (i := 2) (N := some 43) (v := ?_) (a' := ?_) #[true, true, true, false, false, false, false, false, false, false, false, false, false] rfl rfl (any_of HT_.out (by kernel_rfl)) (fun _ _ _ h => h) (Or.inl ⟨by rfl, ?_⟩) ?_ ?_
                          rotate_left
                          · intro w'
                            go_simp
                            with_reducible rfl
                          rotate_left
                          · simp only [Act.put, List.setIfInBounds_toArray, List.set_cons_zero, List.set_cons_succ, i64_w, i32_w]
                            rfl
                          refine pure_ (i := 3) (N := some 44) (v := ?_) (a' := ?_) #[true, true, true, true, false, false, false, false, false, false, false, false, false] rfl rfl (any_of HT_.out (by kernel_rfl)) (fun _ _ _ h => h) (Or.inl ⟨by rfl, ?_⟩) ?_ ?_
                          rotate_left
                          · intro w'
                            go_simp
                            with_reducible rfl
                          rotate_left
                          · simp only [Act.put, List.setIfInBounds_toArray, List.set_cons_zero, List.set_cons_succ, i64_w, i32_w]
                            rfl
                          refine pure_ (i := 5) (N := some 46) (v := ?_) (a' := ?_) #[true, true, true, true, false, true, false, false, false, false, false, false, false] rfl rfl (any_of HT_.out (by kernel_rfl)) (fun _ _ _ h => h) (Or.inl ⟨by rfl, ?_⟩) ?_ ?_
                          rotate_left
                          · intro w'
                            go_simp
                            with_reducible rfl
                          rotate_left
                          · simp only [Act.put, List.setIfInBounds_toArray, List.set_cons_zero, List.set_cons_succ, i64_w, i32_w]
                            rfl
                          refine pure_ (i := 6) (N := some 47) (v := ?_) (a' := ?_) #[true, true, true, true, false, true, true, false, false, false, false, false, false] rfl rfl (any_of HT_.out (by kernel_rfl)) (fun _ _ _ h => h) (Or.inl ⟨by rfl, ?_⟩) ?_ ?_
                          rotate_left
                          · intro w'
                            go_simp
                            with_reducible rfl
                          rotate_left
                          · simp only [Act.put, List.setIfInBounds_toArray, List.set_cons_zero, List.set_cons_succ, i64_w, i32_w]
                            rfl
                          refine take_ (i := 4) (N := some 45) (v := ?_) (a' := ?_) #[true, true, true, true, true, true, true, false, false, false, false, false, false] rfl rfl (take_ofW HT_.out HW_.out (by kernel_rfl)) (fun _ _ _ h => h) (Or.inl ⟨by rfl, ?_⟩) hHeld ?_ ?_
                          rotate_left
                          · rintro w' ⟨s0, s1, s2, s3, s4, s5, s6, s7, s8, s9, s10, s11, s12, s13⟩
                            go_simp
                            with_reducible rfl
                          rotate_left
                          · simp only [Act.put, List.setIfInBounds_toArray, List.set_cons_zero, List.set_cons_succ, i64_w, i32_w]
                            rfl
                          refine pure_ (i := 7) (N := some 48) (v := ?_) (a' := ?_) #[true, true, true, true, true, true, true, true, false, false, false, false, false] rfl rfl (any_of HT_.out (by kernel_rfl)) (fun _ _ _ h => h) (Or.inl ⟨by rfl, ?_⟩) ?_ ?_
                          rotate_left
                          · intro w'
                            go_simp
                            with_reducible rfl
                          rotate_left
                          · simp only [Act.put, List.setIfInBounds_toArray, List.set_cons_zero, List.set_cons_succ, i64_w, i32_w]
                            rfl
                          refine take_ (i := 8) (N := some 49) (v := ?_) (a' := ?_) #[true, true, true, true, true, true, true, true, true, false, false, false, false] rfl rfl (take_ofW HT_.out HW_.out (by kernel_rfl)) (fun _ _ _ h => h) (Or.inl ⟨by rfl, ?_⟩) hHeld ?_ ?_
                          rotate_left
                          · rintro w' ⟨s0, s1, s2, s3, s4, s5, s6, s7, s8, s9, s10, s11, s12, s13⟩
                            go_simp
                            with_reducible rfl
                          rotate_left
                          · simp only [Act.put, List.setIfInBounds_toArray, List.set_cons_zero, List.set_cons_succ, i64_w, i32_w]
                            rfl
                          refine take_ (i := 9) (N := some 50) (v := ?_) (a' := ?_) #[true, true, true, true, true, true, true, true, true, true, false, false, false] rfl rfl (take_ofW HT_.out HW_.out (by kernel_rfl)) (fun _ _ _ h => h) (Or.inl ⟨by rfl, ?_⟩) hHeld ?_ ?_
                          rotate_left
                          · rintro w' ⟨s0, s1, s2, s3, s4, s5, s6, s7, s8, s9, s10, s11, s12, s13⟩
                            go_simp
                            with_reducible rfl
                          rotate_left
                          · simp only [Act.put, List.setIfInBounds_toArray, List.set_cons_zero, List.set_cons_succ, i64_w, i32_w]
                            rfl
                          refine one_ (i := 10) (N := some 51) #[true, true, true, true, true, true, true, true, true, true, true, false, false] rfl rfl (one_of HT_.out (by kernel_rfl)) (by decide) (fun K hK => ?_)
                          refine goes_ Try.func93 (by kernel_rfl) rfl #[.agg #[.string ((rd_T116 l0_1 (ji39)).f0), .int .i64 ((rd_T116 l0_1 (ji39)).f1.f0), .int .i64 ((rd_T116 l0_1 (ji39)).f1.f1), .int .i64 ((rd_T116 l0_1 (ji39)).f2), .int .i64 ((rd_T116 l0_1 (ji39)).f3), .int .i64 ((rd_T116 l0_1 (ji39)).f4)], .agg #[.string ((rd_T116 l0_1 x8_1).f0), .int .i64 ((rd_T116 l0_1 x8_1).f1.f0), .int .i64 ((rd_T116 l0_1 x8_1).f1.f1), .int .i64 ((rd_T116 l0_1 x8_1).f2), .int .i64 ((rd_T116 l0_1 x8_1).f3), .int .i64 ((rd_T116 l0_1 x8_1).f4)]] (by rfl) rfl rfl (by (try simp only [List.map_toArray, List.map_cons, List.map_nil]); first | done | (simp only [hji39]; rfl) | rfl | (simp only [List.length_drop, List.length_take]; rfl)) ?_
                          with_reducible refine (impl_compareProofs.calls kj6 ((rd_T116 l0_1 (ji39)).f0) ((rd_T116 l0_1 (ji39)).f1.f0) ((rd_T116 l0_1 (ji39)).f1.f1) ((rd_T116 l0_1 (ji39)).f2) ((rd_T116 l0_1 (ji39)).f3) ((rd_T116 l0_1 (ji39)).f4) ((rd_T116 l0_1 x8_1).f0) ((rd_T116 l0_1 x8_1).f1.f0) ((rd_T116 l0_1 x8_1).f1.f1) ((rd_T116 l0_1 x8_1).f2) ((rd_T116 l0_1 x8_1).f3) ((rd_T116 l0_1 x8_1).f4) t213 _ A42.out).mono ?_
                          rintro e w47 ⟨rfl, hb⟩
                          refine ⟨_, rfl, ?_⟩
                          have n0_ := Aside0.mk (blk_below (g := gb203) (o := .cells #[.int .i64 a0_0, .slice (some ad205) l0_1.length c0_1] 86 (0, 0)) (by (with_reducible repeat (first | refine blk_drewN ?_ _ | refine blk_drew ?_ | refine blk_alloc ?_ _)); exact BK203.out) hb)
                          have n1_ := Aside0.mk (blk_below (g := gb206) (o := .cells #[.string ((rd_T116 l0_1 x8_1).f0), .int .i64 ((rd_T116 l0_1 x8_1).f1.f0), .int .i64 ((rd_T116 l0_1 x8_1).f1.f1), .int .i64 ((rd_T116 l0_1 x8_1).f2), .int .i64 ((rd_T116 l0_1 x8_1).f3), .int .i64 ((rd_T116 l0_1 x8_1).f4)] 116 (0, 0)) (by (with_reducible repeat (first | refine blk_drewN ?_ _ | refine blk_drew ?_ | refine blk_alloc ?_ _)); exact BK206.out) hb)
                          have n2_ := Aside0.mk (below_step (by repeat (first | (with_reducible first | exact HB.out | apply below_alloc | apply pw_below_drewN | apply below_drew1 | refine below_set ?_ GE203.out | refine below_set ?_ GE206.out) | exact HB.out)) hb)
                          clear BK203
                          clear BK206
                          clear HB
                          have BK203 := n0_
                          have BK206 := n1_
                          have HB := n2_
                          clear n0_ n1_ n2_
                          (try clear hb)
                          (try clear hb2)
                          (try clear hk)
                          (try clear hi)
                          refine hK.out _ _ ⟨(blk_cell BK203.out 0).trans rfl, (blk_cell BK203.out 1).trans rfl, (blk_cell BK206.out 0).trans rfl, (blk_cell BK206.out 1).trans rfl, (blk_cell BK206.out 2).trans rfl, (blk_cell BK206.out 3).trans rfl, (blk_cell BK206.out 4).trans rfl, (blk_cell BK206.out 5).trans rfl, ((HB.out.cell (World.block_lt_of_cell? w _ hw212_0)).trans hw212_0), ((HB.out.cell (World.block_lt_of_cell? w _ hw212_1)).trans hw212_1), ((HB.out.cell (World.block_lt_of_cell? w _ hw212_2)).trans hw212_2), ((HB.out.cell (World.block_lt_of_cell? w _ hw212_3)).trans hw212_3), ((HB.out.cell (World.block_lt_of_cell? w _ hw212_4)).trans hw212_4), ((HB.out.cell (World.block_lt_of_cell? w _ hw212_5)).trans hw212_5)⟩ (fun hHeld => ?_)
                          clear hK K
                          refine norm_ (a' := ?_) ?_ ?_
                          rotate_left
                          · show Act.put _ (some 51) _ = _
                            simp only [Act.put, List.setIfInBounds_toArray, List.set_cons_zero, List.set_cons_succ, i64_w, i32_w]
                            rfl
                          refine pure_ (i := 11) (N := some 52) (v := ?_) (a' := ?_) #[true, true, true, true, true, true, true, true, true, true, true, true, false] rfl rfl (any_of HT_.out (by kernel_rfl)) (fun _ _ _ h => h) (Or.inl ⟨by rfl, ?_⟩) ?_ ?_
                          rotate_left
                          · intro w'
                            go_simp
                            with_reducible rfl
                          rotate_left
                          · simp only [Act.put, List.setIfInBounds_toArray, List.set_cons_zero, List.set_cons_succ, i64_w, i32_w]
                            rfl
                          refine pure_ (i := 12) (N := some 53) (v := ?_) (a' := ?_) #[true, true, true, true, true, true, true, true, true, true, true, true, true] rfl rfl (any_of HT_.out (by kernel_rfl)) (fun _ _ _ h => h) (Or.inl ⟨by rfl, ?_⟩) ?_ ?_
                          rotate_left
                          · intro w'
                            go_simp
                            with_reducible rfl
                          rotate_left
                          · simp only [Act.put, List.setIfInBounds_toArray, List.set_cons_zero, List.set_cons_succ, i64_w, i32_w]
                            rfl
                          refine done_ (done_of HT_.out (by kernel_rfl)) ?_
                          try go_wp2
                          go_roundg kj6
                          case measure => have := HK1.out; have := HJ6.out; omega
                          case rel => exact ⟨(wrap64 (x8_1 + 1)), (by first | rfl | (simp; done) | (simp [*]; done)), H', ⟨by have := HK1.out; have := HJ6.out; omega⟩, ⟨by (with_reducible repeat (first | refine blk_drewN ?_ _ | refine blk_drew ?_ | refine blk_alloc ?_ _)); exact BK203.out⟩, ⟨by repeat (first | (with_reducible first | exact HB.out | apply below_alloc | apply pw_below_drewN | apply below_drew1 | refine below_set ?_ GE203.out | refine below_set ?_ GE206.out) | exact HB.out)⟩⟩
                      · rw [if_neg c41] at H
                        exact absurd H (by simp)
                    · rw [if_neg c40] at H
                      exact absurd H (by simp)
                  · rw [if_neg c38] at H
                    have c38b0 : decide (0 < x8_1) = false := decide_eq_false c38
                    clear c38
                    have H' := Aside0.mk H
                    clear H
                    try go_wp2
                    have n0_ := Aside0.mk (blk_drew BK203.out)
                    have n1_ := Aside0.mk (blk_drew BK206.out)
                    have n2_ := Aside0.mk (below_drew1 HB.out)
                    clear BK203
                    clear BK206
                    clear HB
                    have BK203 := n0_
                    have BK206 := n1_
                    have HB := n2_
                    clear n0_ n1_ n2_
                    refine start_ (n := 13) (S := fun w' => True) (ds := []) #[false, false, false, false, false, false, false, false, false, false, false, false, false] (by kernel_rfl) rfl rfl trivial (fun hHeld => ?_); refine with_tabW impl_ReportOk.tab6 impl_ReportOk.bits6 (fun HT_ HW_ => ?_)
                    generalize wc.drew = w48 at BK203 BK206 HB hHeld ⊢
                    refine pure_ (i := 0) (N := some 41) (v := ?_) (a' := ?_) #[true, false, false, false, false, false, false, false, false, false, false, false, false] rfl rfl (any_of HT_.out (by kernel_rfl)) (fun _ _ _ h => h) (Or.inl ⟨by rfl, ?_⟩) ?_ ?_
                    rotate_left
                    · intro w'
                      go_simp
                      with_reducible rfl
                    rotate_left
                    · simp only [Act.put, List.setIfInBounds_toArray, List.set_cons_zero, List.set_cons_succ, i64_w, i32_w]
                      rfl
                    refine pure_ (i := 1) (N := some 42) (v := ?_) (a' := ?_) #[true, true, false, false, false, false, false, false, false, false, false, false, false] rfl rfl (any_of HT_.out (by kernel_rfl)) (fun _ _ _ h => h) (Or.inl ⟨by rfl, ?_⟩) ?_ ?_
                    rotate_left
                    · intro w'
                      go_simp
                      with_reducible rfl
                    rotate_left
                    · simp only [Act.put, List.setIfInBounds_toArray, List.set_cons_zero, List.set_cons_succ, i64_w, i32_w]
                      rfl
                    refine pure_ (i := 2) (N := some 43) (v := ?_) (a' := ?_) #[true, true, true, false, false, false, false, false, false, false, false, false, false] rfl rfl (any_of HT_.out (by kernel_rfl)) (fun _ _ _ h => h) (Or.inl ⟨by rfl, ?_⟩) ?_ ?_
                    rotate_left
                    · intro w'
                      go_simp
                      with_reducible rfl
                    rotate_left
                    · simp only [Act.put, List.setIfInBounds_toArray, List.set_cons_zero, List.set_cons_succ, i64_w, i32_w]
                      rfl
                    refine pure_ (i := 3) (N := some 44) (v := undef) (a' := ?_) #[true, true, true, true, false, false, false, false, false, false, false, false, false] rfl rfl (any_of HT_.out (by kernel_rfl)) (fun _ _ _ h => h) (Or.inr ⟨by rfl, rfl⟩) ?_ ?_
                    rotate_left
                    · simp only [Act.put, List.setIfInBounds_toArray, List.set_cons_zero, List.set_cons_succ, i64_w, i32_w]
                      rfl
                    refine pure_ (i := 4) (N := some 45) (v := undef) (a' := ?_) #[true, true, true, true, true, false, false, false, false, false, false, false, false] rfl rfl (any_of HT_.out (by kernel_rfl)) (fun _ _ _ h => h) (Or.inr ⟨by rfl, rfl⟩) ?_ ?_
                    rotate_left
                    · simp only [Act.put, List.setIfInBounds_toArray, List.set_cons_zero, List.set_cons_succ, i64_w, i32_w]
                      rfl
                    refine pure_ (i := 5) (N := some 46) (v := undef) (a' := ?_) #[true, true, true, true, true, true, false, false, false, false, false, false, false] rfl rfl (any_of HT_.out (by kernel_rfl)) (fun _ _ _ h => h) (Or.inr ⟨by rfl, rfl⟩) ?_ ?_
                    rotate_left
                    · simp only [Act.put, List.setIfInBounds_toArray, List.set_cons_zero, List.set_cons_succ, i64_w, i32_w]
                      rfl
                    refine pure_ (i := 6) (N := some 47) (v := undef) (a' := ?_) #[true, true, true, true, true, true, true, false, false, false, false, false, false] rfl rfl (any_of HT_.out (by kernel_rfl)) (fun _ _ _ h => h) (Or.inr ⟨by rfl, rfl⟩) ?_ ?_
                    rotate_left
                    · simp only [Act.put, List.setIfInBounds_toArray, List.set_cons_zero, List.set_cons_succ, i64_w, i32_w]
                      rfl
                    refine pure_ (i := 7) (N := some 48) (v := undef) (a' := ?_) #[true, true, true, true, true, true, true, true, false, false, false, false, false] rfl rfl (any_of HT_.out (by kernel_rfl)) (fun _ _ _ h => h) (Or.inr ⟨by rfl, rfl⟩) ?_ ?_
                    rotate_left
                    · simp only [Act.put, List.setIfInBounds_toArray, List.set_cons_zero, List.set_cons_succ, i64_w, i32_w]
                      rfl
                    refine pure_ (i := 8) (N := some 49) (v := undef) (a' := ?_) #[true, true, true, true, true, true, true, true, true, false, false, false, false] rfl rfl (any_of HT_.out (by kernel_rfl)) (fun _ _ _ h => h) (Or.inr ⟨by rfl, rfl⟩) ?_ ?_
                    rotate_left
                    · simp only [Act.put, List.setIfInBounds_toArray, List.set_cons_zero, List.set_cons_succ, i64_w, i32_w]
                      rfl
                    refine pure_ (i := 9) (N := some 50) (v := undef) (a' := ?_) #[true, true, true, true, true, true, true, true, true, true, false, false, false] rfl rfl (any_of HT_.out (by kernel_rfl)) (fun _ _ _ h => h) (Or.inr ⟨by rfl, rfl⟩) ?_ ?_
                    rotate_left
                    · simp only [Act.put, List.setIfInBounds_toArray, List.set_cons_zero, List.set_cons_succ, i64_w, i32_w]
                      rfl
                    refine pure_ (i := 10) (N := some 51) (v := undef) (a' := ?_) #[true, true, true, true, true, true, true, true, true, true, true, false, false] rfl rfl (any_of HT_.out (by kernel_rfl)) (fun _ _ _ h => h) (Or.inr ⟨by rfl, rfl⟩) ?_ ?_
                    rotate_left
                    · simp only [Act.put, List.setIfInBounds_toArray, List.set_cons_zero, List.set_cons_succ, i64_w, i32_w]
                      rfl
                    refine pure_ (i := 11) (N := some 52) (v := undef) (a' := ?_) #[true, true, true, true, true, true, true, true, true, true, true, true, false] rfl rfl (any_of HT_.out (by kernel_rfl)) (fun _ _ _ h => h) (Or.inr ⟨by rfl, rfl⟩) ?_ ?_
                    rotate_left
                    · simp only [Act.put, List.setIfInBounds_toArray, List.set_cons_zero, List.set_cons_succ, i64_w, i32_w]
                      rfl
                    refine pure_ (i := 12) (N := some 53) (v := ?_) (a' := ?_) #[true, true, true, true, true, true, true, true, true, true, true, true, true] rfl rfl (any_of HT_.out (by kernel_rfl)) (fun _ _ _ h => h) (Or.inl ⟨by rfl, ?_⟩) ?_ ?_
                    rotate_left
                    · intro w'
                      go_simp
                      with_reducible rfl
                    rotate_left
                    · simp only [Act.put, List.setIfInBounds_toArray, List.set_cons_zero, List.set_cons_succ, i64_w, i32_w]
                      rfl
                    refine done_ (done_of HT_.out (by kernel_rfl)) ?_
                    try go_wp2
                    go_roundg kj6
                    case measure => have := HK1.out; have := HJ6.out; omega
                    case rel => exact ⟨(wrap64 (x8_1 + 1)), (by first | rfl | (simp; done) | (simp [*]; done)), H', ⟨by have := HK1.out; have := HJ6.out; omega⟩, ⟨by (with_reducible repeat (first | refine blk_drewN ?_ _ | refine blk_drew ?_ | refine blk_alloc ?_ _)); exact BK203.out⟩, ⟨by repeat (first | (with_reducible first | exact HB.out | apply below_alloc | apply pw_below_drewN | apply below_drew1 | refine below_set ?_ GE203.out | refine below_set ?_ GE206.out) | exact HB.out)⟩⟩
          · rw [if_neg c6] at H
            exact absurd H (by simp)
        · rw [if_neg c5] at H
          exact absurd H (by simp)
      · rw [if_neg c4] at H
        have c4b0 : decide (x8_1 < (l0_1.length : Int)) = false := decide_eq_false c4
        clear c4
        replace H := Option.bind_eq_some_iff.mp H
        obtain ⟨t204, A490, H⟩ := H
        replace H : (if t204 = true then (some (decide ((l0_1.length : Int) ≤ 160))) else (some false)) = some r := H
        have A49 := Aside0.mk A490
        clear A490
        by_cases c50 : t204 = true
        · subst c50
          have H1 : (some (decide ((l0_1.length : Int) ≤ 160))) = some r := by rw [if_pos rfl] at H; exact H
          clear H
          have H := H1
          clear H1
          obtain rfl := Option.some.inj H
          have hcz51_0 : wr.cell? ⟨gb203, 0, none⟩ = some (.int .i64 a0_0) := (blk_cell BK203.out 0).trans rfl
          have hcz51_1 : wr.cell? ⟨gb203, 1, none⟩ = some (.slice A0_1 l0_1.length c0_1) := (blk_cell BK203.out 1).trans rfl
          have hfz51_0 := blk_frozen BK203.out 0
          have hfz51_1 := blk_frozen BK203.out 1
          go_wp2_with (first | ((with_reducible refine gate_callee (f := 94) rfl ?_); refine goesL_ (some 57) rfl rfl Try.func94 (by kernel_rfl) rfl #[.int .i64 a0_0] rfl (by (try simp only [List.map_toArray, List.map_cons, List.map_nil]); first | done | rfl | (simp only [List.length_drop, List.length_take]; rfl)) ?_; (with_reducible refine (impl_isNode.calls a0_0 true _ A49.out).mono ?_); rintro e w' ⟨rfl, ⟨nd, rfl⟩⟩; refine ⟨_, rfl, ?_⟩))
          go_ret
          exact ⟨by first | rfl | (simp [errW_none, errW_some] <;> rfl) | (simp [*, errW_none, errW_some] <;> rfl), by repeat (first | (with_reducible first | exact HB.out | apply below_alloc | apply pw_below_drewN | apply below_drew1 | refine below_set ?_ GE203.out) | exact HB.out)⟩
        · replace c50 := Bool.eq_false_iff.mpr c50
          subst c50
          have H1 : (some false) = some r := by rw [if_neg (show ¬ (false = true) by decide)] at H; exact H
          clear H
          have H := H1
          clear H1
          obtain rfl := Option.some.inj H
          have hcz52_0 : wr.cell? ⟨gb203, 0, none⟩ = some (.int .i64 a0_0) := (blk_cell BK203.out 0).trans rfl
          have hcz52_1 : wr.cell? ⟨gb203, 1, none⟩ = some (.slice A0_1 l0_1.length c0_1) := (blk_cell BK203.out 1).trans rfl
          have hfz52_0 := blk_frozen BK203.out 0
          have hfz52_1 := blk_frozen BK203.out 1
          go_wp2_with (first | ((with_reducible refine gate_callee (f := 94) rfl ?_); refine goesL_ (some 57) rfl rfl Try.func94 (by kernel_rfl) rfl #[.int .i64 a0_0] rfl (by (try simp only [List.map_toArray, List.map_cons, List.map_nil]); first | done | rfl | (simp only [List.length_drop, List.length_take]; rfl)) ?_; (with_reducible refine (impl_isNode.calls a0_0 false _ A49.out).mono ?_); rintro e w' ⟨rfl, ⟨nd, rfl⟩⟩; refine ⟨_, rfl, ?_⟩))
          go_ret
          exact ⟨by first | rfl | (simp [errW_none, errW_some] <;> rfl) | (simp [*, errW_none, errW_some] <;> rfl), by repeat (first | (with_reducible first | exact HB.out | apply below_alloc | apply pw_below_drewN | apply below_drew1 | refine below_set ?_ GE203.out) | exact HB.out)⟩

end Go.Proofs.Ytgdlpdkkncjbbaa.MFnExactReportOk
