-- Printed by the session's own program out of the translation.
import Derived.Test.YtgdlpdkkncjbbaaMFnExactReportOkx0
import Derived.Test.YtgdlpdkkncjbbaaMFnExactReportOkx2
namespace Go.Proofs.Ytgdlpdkkncjbbaa.MFnExactReportOk
open Go.RowKit Go.Proofs.YtgdlpdkkncjbbaaW.PrintWords Go.Proofs.YtgdlpdkkncjbbaaW.PrintLast Go.Proofs.YtgdlpdkkncjbbaaW.PrintMore
attribute [local go_sem] max2_int min2_int max_two min_two max_three min_three max_four min_four   -- for this text's walks alone
set_option linter.unusedVariables false
set_option linter.unusedSimpArgs false

/-! ### spec_l26OK: function 90 -/
mutual
def spec_l26OK.j0 : Nat → Bool → Int → List (S116) → Option (Bool)
  | 0, _, _, _ => none
  | k + 1, x13, x130000, x130001 => if x13 = true then (some false) else (spec_l26OK.l0 k 0 x130000 x130001)
def spec_l26OK.l0 : Nat → Int → Int → List (S116) → Option (Bool)
  | 0, _, _, _ => none
  | k + 1, x3, x130000, x130001 => if x3 < (x130001.length : Int) then (if 0 ≤ x3 then ((spec_l26Proof.f k ((rd_T116 x130001 x3).f0) ((rd_T116 x130001 x3).f1.f0) ((rd_T116 x130001 x3).f1.f1) ((rd_T116 x130001 x3).f2) ((rd_T116 x130001 x3).f3) ((rd_T116 x130001 x3).f4)).bind fun t132 => (if t132 = true then (if x3 > 0 then (if 0 ≤ (wrap64 (x3 - 1)) then (if (wrap64 (x3 - 1)) < (x130001.length : Int) then ((spec_l26Key.f ((rd_T116 x130001 (wrap64 (x3 - 1))).f0) ((rd_T116 x130001 (wrap64 (x3 - 1))).f1.f0) ((rd_T116 x130001 (wrap64 (x3 - 1))).f1.f1) ((rd_T116 x130001 (wrap64 (x3 - 1))).f2) ((rd_T116 x130001 (wrap64 (x3 - 1))).f3) ((rd_T116 x130001 (wrap64 (x3 - 1))).f4)).bind fun bt134 => ((spec_l26Key.f ((rd_T116 x130001 x3).f0) ((rd_T116 x130001 x3).f1.f0) ((rd_T116 x130001 x3).f1.f1) ((rd_T116 x130001 x3).f2) ((rd_T116 x130001 x3).f3) ((rd_T116 x130001 x3).f4)).bind fun bt141 => ((spec_l17ChunkLess.f bt134.1 bt134.2.1 bt134.2.2.1 bt134.2.2.2.1 bt134.2.2.2.2.1 bt134.2.2.2.2.2 bt141.1 bt141.2.1 bt141.2.2.1 bt141.2.2.2.1 bt141.2.2.2.2.1 bt141.2.2.2.2.2).bind fun t147 => (if t147 = true then (spec_l26OK.l0 k (wrap64 (x3 + 1)) x130000 x130001) else (some false))))) else (none)) else (none)) else (spec_l26OK.l0 k (wrap64 (x3 + 1)) x130000 x130001)) else (some false))) else (none)) else (some true)
end
def spec_l26OK.f (k : Nat) (a0_0 : Int) (l0_1 : List (S116)) : Option (Bool) := (spec_l00In.f a0_0 0 15).bind fun t130 => (if t130 = true then (spec_l26OK.j0 k (decide ((l0_1.length : Int) > 160)) a0_0 l0_1) else (spec_l26OK.j0 k true a0_0 l0_1))
theorem spec_l26OK.mono_l : ∀ k, (∀ y0 y1 y2, LeO (spec_l26OK.j0 k y0 y1 y2) (spec_l26OK.j0 (k + 1) y0 y1 y2)) ∧ (∀ y0 y1 y2, LeO (spec_l26OK.l0 k y0 y1 y2) (spec_l26OK.l0 (k + 1) y0 y1 y2))
  | 0 => ⟨fun _ _ _ r h => by simp [spec_l26OK.j0] at h, fun _ _ _ r h => by simp [spec_l26OK.l0] at h⟩
  | k + 1 => by
    obtain ⟨ih0, ih1⟩ := spec_l26OK.mono_l k
    refine ⟨?_, ?_⟩
    · intro y0 y1 y2
      unfold spec_l26OK.j0
      repeat' first
      | (with_reducible exact ih0 _ _ _)
      | (with_reducible exact ih1 _ _ _)
      | (with_reducible exact spec_l26Proof.mono _ _ _ _ _ _ _)
      | (with_reducible exact LeO.refl _)
      | (with_reducible exact LeO.none _)
      | (with_reducible refine LeO.ite ?_ ?_)
      | (with_reducible refine LeO.bind ?_ (fun _ => ?_))
      | exact ih0 _ _ _
      | exact ih1 _ _ _
      | exact spec_l26Proof.mono _ _ _ _ _ _ _
      | exact LeO.none _
      | refine LeO.ite ?_ ?_
      | refine LeO.bind ?_ (fun _ => ?_)
    · intro y0 y1 y2
      unfold spec_l26OK.l0
      repeat' first
      | (with_reducible exact ih0 _ _ _)
      | (with_reducible exact ih1 _ _ _)
      | (with_reducible exact spec_l26Proof.mono _ _ _ _ _ _ _)
      | (with_reducible exact LeO.refl _)
      | (with_reducible exact LeO.none _)
      | (with_reducible refine LeO.ite ?_ ?_)
      | (with_reducible refine LeO.bind ?_ (fun _ => ?_))
      | exact ih0 _ _ _
      | exact ih1 _ _ _
      | exact spec_l26Proof.mono _ _ _ _ _ _ _
      | exact LeO.none _
      | refine LeO.ite ?_ ?_
      | refine LeO.bind ?_ (fun _ => ?_)
theorem spec_l26OK.mono : ∀ a0 a1 k, LeO (spec_l26OK.f k a0 a1) (spec_l26OK.f (k + 1) a0 a1) := by
  intro a0 a1 k
  obtain ⟨ih0, ih1⟩ := spec_l26OK.mono_l k
  unfold spec_l26OK.f
  repeat' first
      | (with_reducible exact ih0 _ _ _)
      | (with_reducible exact ih1 _ _ _)
      | (with_reducible exact spec_l26Proof.mono _ _ _ _ _ _ _)
      | (with_reducible exact LeO.refl _)
      | (with_reducible exact LeO.none _)
      | (with_reducible refine LeO.ite ?_ ?_)
      | (with_reducible refine LeO.bind ?_ (fun _ => ?_))
      | exact ih0 _ _ _
      | exact ih1 _ _ _
      | exact spec_l26Proof.mono _ _ _ _ _ _ _
      | exact LeO.none _
      | refine LeO.ite ?_ ?_
      | refine LeO.bind ?_ (fun _ => ?_)
def spec_l26OK.T6 : Bool × List (List Nat × List Nat) := (true, [([], []), ([0], [0]), ([], []), ([1, 2], [1, 2]), ([3], [3]), ([4], [4]), ([5], [5]), ([6, 5], [6]), ([7], [7]), ([8, 7], [7, 8]), ([9, 7, 7], [7, 9]), ([10], [10]), ([11, 10], [10, 11]), ([10], [10]), ([13, 10], [10, 13]), ([12, 14, 10], [10, 12, 14]), ([15, 10], [10, 15]), ([16, 10, 10], [10, 16]), ([10], [10]), ([18, 10], [10, 18]), ([10], [10]), ([19, 20, 10], [10, 19, 20]), ([21, 10], [10, 21]), ([22, 17, 10], [10, 22]), ([17, 23, 23, 10], [10, 17, 23]), ([24, 10], [10, 24]), ([10, 25, 7], [7, 10, 25]), ([7, 26], [7, 26])])
def spec_l26OK.B6 : List Nat := [0, 1, 0, 7, 15, 31, 63, 127, 255, 511, 1023, 2047, 4095, 2047, 10239, 32767, 65535, 131071, 2047, 264191, 2047, 1837055, 3934207, 8388607, 16777215, 33554431, 67108863, 134217727]
theorem spec_l26OK.tab6 : rtab .any (opsOf Try.f90 6) = spec_l26OK.T6 := by kernel_rfl
theorem spec_l26OK.bits6 : waitsOk spec_l26OK.T6.2 spec_l26OK.B6 = true := by kernel_rfl
set_option maxHeartbeats 8000000 in
set_option maxRecDepth 100000 in
theorem spec_l26OK.calls (k : Nat) (a0_0 : Int) (A0_1 : Option Addr) (c0_1 : Nat) (l0_1 : List (S116)) (r : Bool) (w : World) (hr0_1 : Kd.C k116 w A0_1 l0_1.length l0_1) (hc0_1 : l0_1.length ≤ c0_1) (h : spec_l26OK.f k a0_0 l0_1 = some r) :
    Calls Try.prog 90 #[.agg #[.int .i64 a0_0, .slice A0_1 l0_1.length c0_1]] w fun e w' => e = .returned (.bool r) ∧ Below w.heap.size w w' := by
  have hu86 := Try.underlying86
  have hu116 := Try.underlying116
  have HR0_1 := Aside0.mk hr0_1
  have HC0_1 := Aside0.mk hc0_1
  clear hr0_1 hc0_1
  have HB := Aside0.mk (Below.refl w.heap.size w)
  have H : ((spec_l00In.f a0_0 0 15).bind fun t130 => (if t130 = true then (spec_l26OK.j0 k (decide ((l0_1.length : Int) > 160)) a0_0 l0_1) else (spec_l26OK.j0 k true a0_0 l0_1))) = some r := h
  clear h
  have HC2 := Aside0.mk H
  clear H
  go_enter Try.func90, Try.ntmps90
  go_upto_region 1 with (first | ((with_reducible refine gate_dst (N := 1) rfl ?_); (try (refine gate_guard (by rfl) ?_; dsimp only)); refine box_event ?hg (N := 1) ?hd (cs := #[.int .i64 a0_0, .slice A0_1 l0_1.length c0_1]) (t := 86) ?hr ?_; (case hd => rfl); (case hg => rfl); (case hr => first | (go_simp; done) | (go_simp; rfl)); intro gb129 hg w3 hbox hb; have n0_ := Aside0.mk (below_step (by repeat (first | (with_reducible first | exact HB.out | apply below_alloc | apply pw_below_drewN | apply below_drew1) | exact HB.out)) hb); have n1_ := Aside0.mk (hbox); have n2_ := Aside0.mk ((by rw [hg]; exact (below_size (by repeat (first | (with_reducible first | exact HB.out | apply below_alloc | apply pw_below_drewN | apply below_drew1) | exact HB.out))) : w.heap.size ≤ gb129)); have n3_ := Aside0.mk ((by rw [hg]; exact (below_size (by repeat (first | (with_reducible first | exact HB.out | apply below_alloc | apply pw_below_drewN | apply below_drew1) | exact HB.out))) : w.heap.size ≤ gb129)); clear HB; have HB := n0_; have BK129 := n1_; have GW129 := n2_; have GE129 := n3_; clear n0_ n1_ n2_ n3_; clear hb hbox hg))
  (try simp only [Act.put, List.setIfInBounds_toArray, List.set_cons_zero, List.set_cons_succ])
  go_cut [13] (fun v13 wc => ∃ (kq : Nat) (x13_1 : Bool), v13 = .bool x13_1 ∧ Aside0 (spec_l26OK.j0 kq x13_1 a0_0 l0_1 = some r) ∧ Aside0 (kq ≤ k) ∧ Aside0 (wc.heap[gb129]? = some (.cells #[.int .i64 a0_0, (.slice A0_1 l0_1.length c0_1)] 86 (0, 0))) ∧ Aside0 (Below w.heap.size w wc))
  case first =>
    have H := HC2.out
    clear HC2
    replace H := Option.bind_eq_some_iff.mp H
    obtain ⟨t130, A40, H⟩ := H
    replace H : (if t130 = true then (spec_l26OK.j0 k (decide ((l0_1.length : Int) > 160)) a0_0 l0_1) else (spec_l26OK.j0 k true a0_0 l0_1)) = some r := H
    have A4 := Aside0.mk A40
    clear A40
    by_cases c5 : t130 = true
    · subst c5
      have H1 : (spec_l26OK.j0 k (decide ((l0_1.length : Int) > 160)) a0_0 l0_1) = some r := by rw [if_pos rfl] at H; exact H
      clear H
      have H := H1
      clear H1
      have H' := Aside0.mk H
      clear H
      have hcz6_0 : w3.cell? ⟨gb129, 0, none⟩ = some (.int .i64 a0_0) := (blk_cell BK129.out 0).trans rfl
      have hcz6_1 : w3.cell? ⟨gb129, 1, none⟩ = some (.slice A0_1 l0_1.length c0_1) := (blk_cell BK129.out 1).trans rfl
      have hfz6_0 := blk_frozen BK129.out 0
      have hfz6_1 := blk_frozen BK129.out 1
      go_wp2_with (first | ((with_reducible refine gate_callee (f := 77) rfl ?_); refine goesL_ (some 6) rfl rfl Try.func77 (by kernel_rfl) rfl #[.int .i64 a0_0, .int .i64 0, .int .i64 15] rfl (by (try simp only [List.map_toArray, List.map_cons, List.map_nil]); first | done | rfl | (simp only [List.length_drop, List.length_take]; rfl)) ?_; (with_reducible refine (spec_l00In.calls a0_0 0 15 true _ A4.out).mono ?_); rintro e w' ⟨rfl, ⟨nd, rfl⟩⟩; refine ⟨_, rfl, ?_⟩))
      go_meet
      case rel => exact ⟨_, (decide ((l0_1.length : Int) > 160)), (by first | rfl | (simp; done) | (simp [*]; done)), H', ⟨by first | omega | exact Nat.le_refl _⟩, ⟨by (with_reducible repeat (first | refine blk_drewN ?_ _ | refine blk_drew ?_ | refine blk_alloc ?_ _)); exact BK129.out⟩, ⟨by repeat (first | (with_reducible first | exact HB.out | apply below_alloc | apply pw_below_drewN | apply below_drew1 | refine below_set ?_ GE129.out) | exact HB.out)⟩⟩
    · replace c5 := Bool.eq_false_iff.mpr c5
      subst c5
      have H1 : (spec_l26OK.j0 k true a0_0 l0_1) = some r := by rw [if_neg (show ¬ (false = true) by decide)] at H; exact H
      clear H
      have H := H1
      clear H1
      have H' := Aside0.mk H
      clear H
      have hcz7_0 : w3.cell? ⟨gb129, 0, none⟩ = some (.int .i64 a0_0) := (blk_cell BK129.out 0).trans rfl
      have hcz7_1 : w3.cell? ⟨gb129, 1, none⟩ = some (.slice A0_1 l0_1.length c0_1) := (blk_cell BK129.out 1).trans rfl
      have hfz7_0 := blk_frozen BK129.out 0
      have hfz7_1 := blk_frozen BK129.out 1
      go_wp2_with (first | ((with_reducible refine gate_callee (f := 77) rfl ?_); refine goesL_ (some 6) rfl rfl Try.func77 (by kernel_rfl) rfl #[.int .i64 a0_0, .int .i64 0, .int .i64 15] rfl (by (try simp only [List.map_toArray, List.map_cons, List.map_nil]); first | done | rfl | (simp only [List.length_drop, List.length_take]; rfl)) ?_; (with_reducible refine (spec_l00In.calls a0_0 0 15 false _ A4.out).mono ?_); rintro e w' ⟨rfl, ⟨nd, rfl⟩⟩; refine ⟨_, rfl, ?_⟩))
      go_meet
      case rel => exact ⟨_, (true), (by first | rfl | (simp; done) | (simp [*]; done)), H', ⟨by first | omega | exact Nat.le_refl _⟩, ⟨by (with_reducible repeat (first | refine blk_drewN ?_ _ | refine blk_drew ?_ | refine blk_alloc ?_ _)); exact BK129.out⟩, ⟨by repeat (first | (with_reducible first | exact HB.out | apply below_alloc | apply pw_below_drewN | apply below_drew1 | refine below_set ?_ GE129.out) | exact HB.out)⟩⟩
  case rest =>
    clear HC2
    try clear p2
    try clear c5
    try clear c7
    try clear hcz6_0
    try clear hcz6_1
    try clear hcz7_0
    try clear hcz7_1
    try clear hfz6_0
    try clear hfz6_1
    try clear hfz7_0
    try clear hfz7_1
    obtain ⟨kq, x13_1, rfl, HA, HJ1, BK129, HB⟩ := hcut
    cases kq with
    | zero => exact absurd HA.out (by simp [spec_l26OK.j0])
    | succ kj1 =>
      have H := HA.out
      clear HA
      simp only [spec_l26OK.j0] at H
      by_cases c8 : x13_1 = true
      · subst c8
        have H1 : (some false) = some r := by rw [if_pos rfl] at H; exact H
        clear H
        have H := H1
        clear H1
        obtain rfl := Option.some.inj H
        go_wp2
        go_ret
        exact ⟨by first | rfl | (simp [errW_none, errW_some] <;> rfl) | (simp [*, errW_none, errW_some] <;> rfl), by repeat (first | (with_reducible first | exact HB.out | apply below_alloc | apply pw_below_drewN | apply below_drew1 | refine below_set ?_ GE129.out) | exact HB.out)⟩
      · replace c8 := Bool.eq_false_iff.mpr c8
        subst c8
        have H1 : (spec_l26OK.l0 kj1 0 a0_0 l0_1) = some r := by rw [if_neg (show ¬ (false = true) by decide)] at H; exact H
        clear H
        have H := H1
        clear H1
        have H' := Aside0.mk H
        clear H
        go_wp2
        go_loopg [3] kj1 (fun kq v3 w' => ∃ (x3_2 : Int), v3 = .int .i64 x3_2 ∧ Aside0 (spec_l26OK.l0 kq x3_2 a0_0 l0_1 = some r) ∧ Aside0 (kq ≤ kj1) ∧ Aside0 (w'.heap[gb129]? = some (.cells #[.int .i64 a0_0, (.slice A0_1 l0_1.length c0_1)] 86 (0, 0))) ∧ Aside0 (Below w.heap.size w w'))
        case atStart => exact ⟨(0), (by first | rfl | (simp; done) | (simp [*]; done)), H', ⟨Nat.le_refl _⟩, ⟨by (with_reducible repeat (first | refine blk_drewN ?_ _ | refine blk_drew ?_ | refine blk_alloc ?_ _)); exact BK129.out⟩, ⟨by repeat (first | (with_reducible first | exact HB.out | apply below_alloc | apply pw_below_drewN | apply below_drew1 | refine below_set ?_ GE129.out) | exact HB.out)⟩⟩
        case round =>
          clear H'
          try clear p2
          try clear c5
          try clear c7
          try clear c8
          try clear hcz6_0
          try clear hcz6_1
          try clear hcz7_0
          try clear hcz7_1
          try clear hfz6_0
          try clear hfz6_1
          try clear hfz7_0
          try clear hfz7_1
          try clear p2
          obtain ⟨x3_2, rfl, HA, HK2, BK129, HB⟩ := hrel
          cases gk with
          | zero => exact absurd HA.out (by simp [spec_l26OK.l0])
          | succ k2 =>
            have H := HA.out
            clear HA
            simp only [spec_l26OK.l0] at H
            by_cases c9 : x3_2 < (l0_1.length : Int)
            · rw [if_pos c9] at H
              have c9b0 : decide (x3_2 < (l0_1.length : Int)) = true := decide_eq_true c9
              clear c9
              by_cases c10 : 0 ≤ x3_2
              · rw [if_pos c10] at H
                have c10b0 : decide (0 ≤ x3_2) = true := decide_eq_true c10
                clear c10
                replace H := Option.bind_eq_some_iff.mp H
                obtain ⟨t132, A110, H⟩ := H
                replace H : (if t132 = true then (if x3_2 > 0 then (if 0 ≤ (wrap64 (x3_2 - 1)) then (if (wrap64 (x3_2 - 1)) < (l0_1.length : Int) then ((spec_l26Key.f ((rd_T116 l0_1 (wrap64 (x3_2 - 1))).f0) ((rd_T116 l0_1 (wrap64 (x3_2 - 1))).f1.f0) ((rd_T116 l0_1 (wrap64 (x3_2 - 1))).f1.f1) ((rd_T116 l0_1 (wrap64 (x3_2 - 1))).f2) ((rd_T116 l0_1 (wrap64 (x3_2 - 1))).f3) ((rd_T116 l0_1 (wrap64 (x3_2 - 1))).f4)).bind fun bt134 => ((spec_l26Key.f ((rd_T116 l0_1 x3_2).f0) ((rd_T116 l0_1 x3_2).f1.f0) ((rd_T116 l0_1 x3_2).f1.f1) ((rd_T116 l0_1 x3_2).f2) ((rd_T116 l0_1 x3_2).f3) ((rd_T116 l0_1 x3_2).f4)).bind fun bt141 => ((spec_l17ChunkLess.f bt134.1 bt134.2.1 bt134.2.2.1 bt134.2.2.2.1 bt134.2.2.2.2.1 bt134.2.2.2.2.2 bt141.1 bt141.2.1 bt141.2.2.1 bt141.2.2.2.1 bt141.2.2.2.2.1 bt141.2.2.2.2.2).bind fun t147 => (if t147 = true then (spec_l26OK.l0 k2 (wrap64 (x3_2 + 1)) a0_0 l0_1) else (some false))))) else (none)) else (none)) else (spec_l26OK.l0 k2 (wrap64 (x3_2 + 1)) a0_0 l0_1)) else (some false)) = some r := H
                have A11 := Aside0.mk A110
                clear A110
                by_cases c12 : t132 = true
                · subst c12
                  have H1 : (if x3_2 > 0 then (if 0 ≤ (wrap64 (x3_2 - 1)) then (if (wrap64 (x3_2 - 1)) < (l0_1.length : Int) then ((spec_l26Key.f ((rd_T116 l0_1 (wrap64 (x3_2 - 1))).f0) ((rd_T116 l0_1 (wrap64 (x3_2 - 1))).f1.f0) ((rd_T116 l0_1 (wrap64 (x3_2 - 1))).f1.f1) ((rd_T116 l0_1 (wrap64 (x3_2 - 1))).f2) ((rd_T116 l0_1 (wrap64 (x3_2 - 1))).f3) ((rd_T116 l0_1 (wrap64 (x3_2 - 1))).f4)).bind fun bt134 => ((spec_l26Key.f ((rd_T116 l0_1 x3_2).f0) ((rd_T116 l0_1 x3_2).f1.f0) ((rd_T116 l0_1 x3_2).f1.f1) ((rd_T116 l0_1 x3_2).f2) ((rd_T116 l0_1 x3_2).f3) ((rd_T116 l0_1 x3_2).f4)).bind fun bt141 => ((spec_l17ChunkLess.f bt134.1 bt134.2.1 bt134.2.2.1 bt134.2.2.2.1 bt134.2.2.2.2.1 bt134.2.2.2.2.2 bt141.1 bt141.2.1 bt141.2.2.1 bt141.2.2.2.1 bt141.2.2.2.2.1 bt141.2.2.2.2.2).bind fun t147 => (if t147 = true then (spec_l26OK.l0 k2 (wrap64 (x3_2 + 1)) a0_0 l0_1) else (some false))))) else (none)) else (none)) else (spec_l26OK.l0 k2 (wrap64 (x3_2 + 1)) a0_0 l0_1)) = some r := by rw [if_pos rfl] at H; exact H
                  clear H
                  have H := H1
                  clear H1
                  by_cases c13 : x3_2 > 0
                  · rw [if_pos c13] at H
                    have c13b0 : decide (0 < x3_2) = true := decide_eq_true c13
                    clear c13
                    obtain ⟨ji14, hji14⟩ : ∃ j_ : Int, (wrap64 (x3_2 - 1)) = j_ := ⟨_, rfl⟩
                    replace H : (if 0 ≤ (ji14) then (if (ji14) < (l0_1.length : Int) then ((spec_l26Key.f ((rd_T116 l0_1 (ji14)).f0) ((rd_T116 l0_1 (ji14)).f1.f0) ((rd_T116 l0_1 (ji14)).f1.f1) ((rd_T116 l0_1 (ji14)).f2) ((rd_T116 l0_1 (ji14)).f3) ((rd_T116 l0_1 (ji14)).f4)).bind fun bt134 => ((spec_l26Key.f ((rd_T116 l0_1 x3_2).f0) ((rd_T116 l0_1 x3_2).f1.f0) ((rd_T116 l0_1 x3_2).f1.f1) ((rd_T116 l0_1 x3_2).f2) ((rd_T116 l0_1 x3_2).f3) ((rd_T116 l0_1 x3_2).f4)).bind fun bt141 => ((spec_l17ChunkLess.f bt134.1 bt134.2.1 bt134.2.2.1 bt134.2.2.2.1 bt134.2.2.2.2.1 bt134.2.2.2.2.2 bt141.1 bt141.2.1 bt141.2.2.1 bt141.2.2.2.1 bt141.2.2.2.2.1 bt141.2.2.2.2.2).bind fun t147 => (if t147 = true then (spec_l26OK.l0 k2 (wrap64 (x3_2 + 1)) a0_0 l0_1) else (some false))))) else (none)) else (none)) = some r := by first | (rw [hji14] at H; exact H) | (simp only [hji14] at H ⊢; exact H)
                    (try rw [hji14] at A11)
                    have hji14w : (IntKind.i64.wrap (x3_2 - 1)) = ji14 := (i64_w _).trans hji14
                    by_cases c15 : 0 ≤ (ji14)
                    · rw [if_pos c15] at H
                      have c15b0 : decide (0 ≤ (ji14)) = true := decide_eq_true c15
                      clear c15
                      by_cases c16 : (ji14) < (l0_1.length : Int)
                      · rw [if_pos c16] at H
                        have c16b0 : decide ((ji14) < (l0_1.length : Int)) = true := decide_eq_true c16
                        clear c16
                        replace H := Option.bind_eq_some_iff.mp H
                        obtain ⟨⟨t134, t135, t136, t137, t138, t139⟩, A170, H⟩ := H
                        replace H : ((spec_l26Key.f ((rd_T116 l0_1 x3_2).f0) ((rd_T116 l0_1 x3_2).f1.f0) ((rd_T116 l0_1 x3_2).f1.f1) ((rd_T116 l0_1 x3_2).f2) ((rd_T116 l0_1 x3_2).f3) ((rd_T116 l0_1 x3_2).f4)).bind fun bt141 => ((spec_l17ChunkLess.f t134 t135 t136 t137 t138 t139 bt141.1 bt141.2.1 bt141.2.2.1 bt141.2.2.2.1 bt141.2.2.2.2.1 bt141.2.2.2.2.2).bind fun t147 => (if t147 = true then (spec_l26OK.l0 k2 (wrap64 (x3_2 + 1)) a0_0 l0_1) else (some false)))) = some r := H
                        have A17 := Aside0.mk A170
                        clear A170
                        replace H := Option.bind_eq_some_iff.mp H
                        obtain ⟨⟨t141, t142, t143, t144, t145, t146⟩, A180, H⟩ := H
                        replace H : ((spec_l17ChunkLess.f t134 t135 t136 t137 t138 t139 t141 t142 t143 t144 t145 t146).bind fun t147 => (if t147 = true then (spec_l26OK.l0 k2 (wrap64 (x3_2 + 1)) a0_0 l0_1) else (some false))) = some r := H
                        have A18 := Aside0.mk A180
                        clear A180
                        replace H := Option.bind_eq_some_iff.mp H
                        obtain ⟨t147, A190, H⟩ := H
                        replace H : (if t147 = true then (spec_l26OK.l0 k2 (wrap64 (x3_2 + 1)) a0_0 l0_1) else (some false)) = some r := H
                        have A19 := Aside0.mk A190
                        clear A190
                        by_cases c20 : t147 = true
                        · subst c20
                          have H1 : (spec_l26OK.l0 k2 (wrap64 (x3_2 + 1)) a0_0 l0_1) = some r := by rw [if_pos rfl] at H; exact H
                          clear H
                          have H := H1
                          clear H1
                          have H' := Aside0.mk H
                          clear H
                          have hcz21_0 : wr.cell? ⟨gb129, 0, none⟩ = some (.int .i64 a0_0) := (blk_cell BK129.out 0).trans rfl
                          have hcz21_1 : wr.cell? ⟨gb129, 1, none⟩ = some (.slice A0_1 l0_1.length c0_1) := (blk_cell BK129.out 1).trans rfl
                          have hfz21_0 := blk_frozen BK129.out 0
                          have hfz21_1 := blk_frozen BK129.out 1
                          try go_wp2
                          have n0_ := Aside0.mk (blk_drew BK129.out)
                          have n1_ := Aside0.mk (below_drew1 HB.out)
                          clear BK129
                          clear HB
                          have BK129 := n0_
                          have HB := n1_
                          clear n0_ n1_
                          have p131 : 0 ≤ (x3_2 : Int) := of_decide_eq_true (by first | (with_reducible assumption) | assumption)
                          have q131 : x3_2 < (l0_1.length : Int) := of_decide_eq_true (by first | (with_reducible assumption) | assumption)
                          obtain ⟨ad131, e131, hx131_0, hx131_1, hx131_2, hx131_3, hx131_4, hx131_5⟩ := at_T116 HR0_1.out x3_2 p131 q131
                          have hw131_5 := hx131_5
                          have hw131_4 := hx131_4
                          have hw131_3 := hx131_3
                          have hw131_2 := hx131_2
                          have hw131_1 := hx131_1
                          have hw131_0 := hx131_0
                          cases e131
                          replace hx131_0 := (HB.out.cell (World.block_lt_of_cell? w _ hx131_0)).trans hx131_0
                          replace hx131_1 := (HB.out.cell (World.block_lt_of_cell? w _ hx131_1)).trans hx131_1
                          replace hx131_2 := (HB.out.cell (World.block_lt_of_cell? w _ hx131_2)).trans hx131_2
                          replace hx131_3 := (HB.out.cell (World.block_lt_of_cell? w _ hx131_3)).trans hx131_3
                          replace hx131_4 := (HB.out.cell (World.block_lt_of_cell? w _ hx131_4)).trans hx131_4
                          replace hx131_5 := (HB.out.cell (World.block_lt_of_cell? w _ hx131_5)).trans hx131_5
                          replace p131 := eq_true p131
                          replace q131 := eq_true q131
                          have p133 : 0 ≤ ((ji14) : Int) := of_decide_eq_true (by first | (with_reducible assumption) | assumption)
                          have q133 : (ji14) < (l0_1.length : Int) := of_decide_eq_true (by first | (with_reducible assumption) | assumption)
                          obtain ⟨ad133, e133, hx133_0, hx133_1, hx133_2, hx133_3, hx133_4, hx133_5⟩ := at_T116 HR0_1.out (ji14) p133 q133
                          have hw133_5 := hx133_5
                          have hw133_4 := hx133_4
                          have hw133_3 := hx133_3
                          have hw133_2 := hx133_2
                          have hw133_1 := hx133_1
                          have hw133_0 := hx133_0
                          obtain rfl : ad131 = ad133 := (by injection e133)
                          replace hx133_0 := (HB.out.cell (World.block_lt_of_cell? w _ hx133_0)).trans hx133_0
                          replace hx133_1 := (HB.out.cell (World.block_lt_of_cell? w _ hx133_1)).trans hx133_1
                          replace hx133_2 := (HB.out.cell (World.block_lt_of_cell? w _ hx133_2)).trans hx133_2
                          replace hx133_3 := (HB.out.cell (World.block_lt_of_cell? w _ hx133_3)).trans hx133_3
                          replace hx133_4 := (HB.out.cell (World.block_lt_of_cell? w _ hx133_4)).trans hx133_4
                          replace hx133_5 := (HB.out.cell (World.block_lt_of_cell? w _ hx133_5)).trans hx133_5
                          replace p133 := eq_true p133
                          replace q133 := eq_true q133
                          have p140 : 0 ≤ (x3_2 : Int) := of_decide_eq_true (by first | (with_reducible assumption) | assumption)
                          have q140 : x3_2 < (l0_1.length : Int) := of_decide_eq_true (by first | (with_reducible assumption) | assumption)
                          obtain ⟨ad140, e140, hx140_0, hx140_1, hx140_2, hx140_3, hx140_4, hx140_5⟩ := at_T116 HR0_1.out x3_2 p140 q140
                          have hw140_5 := hx140_5
                          have hw140_4 := hx140_4
                          have hw140_3 := hx140_3
                          have hw140_2 := hx140_2
                          have hw140_1 := hx140_1
                          have hw140_0 := hx140_0
                          obtain rfl : ad131 = ad140 := (by injection e140)
                          replace hx140_0 := (HB.out.cell (World.block_lt_of_cell? w _ hx140_0)).trans hx140_0
                          replace hx140_1 := (HB.out.cell (World.block_lt_of_cell? w _ hx140_1)).trans hx140_1
                          replace hx140_2 := (HB.out.cell (World.block_lt_of_cell? w _ hx140_2)).trans hx140_2
                          replace hx140_3 := (HB.out.cell (World.block_lt_of_cell? w _ hx140_3)).trans hx140_3
                          replace hx140_4 := (HB.out.cell (World.block_lt_of_cell? w _ hx140_4)).trans hx140_4
                          replace hx140_5 := (HB.out.cell (World.block_lt_of_cell? w _ hx140_5)).trans hx140_5
                          replace p140 := eq_true p140
                          replace q140 := eq_true q140
                          refine start_ (n := 28) (S := fun w' => w'.cell? ⟨gb129, 0, none⟩ = some (.int .i64 a0_0) ∧ w'.cell? ⟨gb129, 1, none⟩ = some (.slice (some ad131) l0_1.length c0_1) ∧ w'.cell? (ad131.add ((x3_2).toNat * 6)) = some (.string ((rd_T116 l0_1 x3_2).f0)) ∧ w'.cell? ⟨(ad131.add ((x3_2).toNat * 6)).block, (ad131.add ((x3_2).toNat * 6)).off + 1, none⟩ = some (.int .i64 ((rd_T116 l0_1 x3_2).f1.f0)) ∧ w'.cell? ⟨(ad131.add ((x3_2).toNat * 6)).block, (ad131.add ((x3_2).toNat * 6)).off + 2, none⟩ = some (.int .i64 ((rd_T116 l0_1 x3_2).f1.f1)) ∧ w'.cell? ⟨(ad131.add ((x3_2).toNat * 6)).block, (ad131.add ((x3_2).toNat * 6)).off + 3, none⟩ = some (.int .i64 ((rd_T116 l0_1 x3_2).f2)) ∧ w'.cell? ⟨(ad131.add ((x3_2).toNat * 6)).block, (ad131.add ((x3_2).toNat * 6)).off + 4, none⟩ = some (.int .i64 ((rd_T116 l0_1 x3_2).f3)) ∧ w'.cell? ⟨(ad131.add ((x3_2).toNat * 6)).block, (ad131.add ((x3_2).toNat * 6)).off + 5, none⟩ = some (.int .i64 ((rd_T116 l0_1 x3_2).f4)) ∧ w'.cell? (ad131.add (((ji14)).toNat * 6)) = some (.string ((rd_T116 l0_1 (ji14)).f0)) ∧ w'.cell? ⟨(ad131.add (((ji14)).toNat * 6)).block, (ad131.add (((ji14)).toNat * 6)).off + 1, none⟩ = some (.int .i64 ((rd_T116 l0_1 (ji14)).f1.f0)) ∧ w'.cell? ⟨(ad131.add (((ji14)).toNat * 6)).block, (ad131.add (((ji14)).toNat * 6)).off + 2, none⟩ = some (.int .i64 ((rd_T116 l0_1 (ji14)).f1.f1)) ∧ w'.cell? ⟨(ad131.add (((ji14)).toNat * 6)).block, (ad131.add (((ji14)).toNat * 6)).off + 3, none⟩ = some (.int .i64 ((rd_T116 l0_1 (ji14)).f2)) ∧ w'.cell? ⟨(ad131.add (((ji14)).toNat * 6)).block, (ad131.add (((ji14)).toNat * 6)).off + 4, none⟩ = some (.int .i64 ((rd_T116 l0_1 (ji14)).f3)) ∧ w'.cell? ⟨(ad131.add (((ji14)).toNat * 6)).block, (ad131.add (((ji14)).toNat * 6)).off + 5, none⟩ = some (.int .i64 ((rd_T116 l0_1 (ji14)).f4)) ∧ w'.cell? (ad131.add ((x3_2).toNat * 6)) = some (.string ((rd_T116 l0_1 x3_2).f0)) ∧ w'.cell? ⟨(ad131.add ((x3_2).toNat * 6)).block, (ad131.add ((x3_2).toNat * 6)).off + 1, none⟩ = some (.int .i64 ((rd_T116 l0_1 x3_2).f1.f0)) ∧ w'.cell? ⟨(ad131.add ((x3_2).toNat * 6)).block, (ad131.add ((x3_2).toNat * 6)).off + 2, none⟩ = some (.int .i64 ((rd_T116 l0_1 x3_2).f1.f1)) ∧ w'.cell? ⟨(ad131.add ((x3_2).toNat * 6)).block, (ad131.add ((x3_2).toNat * 6)).off + 3, none⟩ = some (.int .i64 ((rd_T116 l0_1 x3_2).f2)) ∧ w'.cell? ⟨(ad131.add ((x3_2).toNat * 6)).block, (ad131.add ((x3_2).toNat * 6)).off + 4, none⟩ = some (.int .i64 ((rd_T116 l0_1 x3_2).f3)) ∧ w'.cell? ⟨(ad131.add ((x3_2).toNat * 6)).block, (ad131.add ((x3_2).toNat * 6)).off + 5, none⟩ = some (.int .i64 ((rd_T116 l0_1 x3_2).f4))) (ds := []) #[false, false, false, false, false, false, false, false, false, false, false, false, false, false, false, false, false, false, false, false, false, false, false, false, false, false, false, false] (by kernel_rfl) rfl rfl ⟨(blk_cell BK129.out 0).trans rfl, (blk_cell BK129.out 1).trans rfl, ((HB.out.cell (World.block_lt_of_cell? w _ hw131_0)).trans hw131_0), ((HB.out.cell (World.block_lt_of_cell? w _ hw131_1)).trans hw131_1), ((HB.out.cell (World.block_lt_of_cell? w _ hw131_2)).trans hw131_2), ((HB.out.cell (World.block_lt_of_cell? w _ hw131_3)).trans hw131_3), ((HB.out.cell (World.block_lt_of_cell? w _ hw131_4)).trans hw131_4), ((HB.out.cell (World.block_lt_of_cell? w _ hw131_5)).trans hw131_5), ((HB.out.cell (World.block_lt_of_cell? w _ hw133_0)).trans hw133_0), ((HB.out.cell (World.block_lt_of_cell? w _ hw133_1)).trans hw133_1), ((HB.out.cell (World.block_lt_of_cell? w _ hw133_2)).trans hw133_2), ((HB.out.cell (World.block_lt_of_cell? w _ hw133_3)).trans hw133_3), ((HB.out.cell (World.block_lt_of_cell? w _ hw133_4)).trans hw133_4), ((HB.out.cell (World.block_lt_of_cell? w _ hw133_5)).trans hw133_5), ((HB.out.cell (World.block_lt_of_cell? w _ hw140_0)).trans hw140_0), ((HB.out.cell (World.block_lt_of_cell? w _ hw140_1)).trans hw140_1), ((HB.out.cell (World.block_lt_of_cell? w _ hw140_2)).trans hw140_2), ((HB.out.cell (World.block_lt_of_cell? w _ hw140_3)).trans hw140_3), ((HB.out.cell (World.block_lt_of_cell? w _ hw140_4)).trans hw140_4), ((HB.out.cell (World.block_lt_of_cell? w _ hw140_5)).trans hw140_5)⟩ (fun hHeld => ?_); refine with_tabW spec_l26OK.tab6 spec_l26OK.bits6 (fun HT_ HW_ => ?_)
                          generalize wr.drew = w22 at BK129 HB hx131_0 hx131_1 hx131_2 hx131_3 hx131_4 hx131_5 hx133_0 hx133_1 hx133_2 hx133_3 hx133_4 hx133_5 hx140_0 hx140_1 hx140_2 hx140_3 hx140_4 hx140_5 hHeld ⊢
                          refine pure_ (i := 0) (N := some 21) (v := ?_) (a' := ?_) #[true, false, false, false, false, false, false, false, false, false, false, false, false, false, false, false, false, false, false, false, false, false, false, false, false, false, false, false] rfl rfl (any_of HT_.out (by kernel_rfl)) (fun _ _ _ h => h) (Or.inl ⟨by rfl, ?_⟩) ?_ ?_
                          rotate_left
                          · intro w'
                            go_simp
                            with_reducible rfl
                          rotate_left
                          · simp only [Act.put, List.setIfInBounds_toArray, List.set_cons_zero, List.set_cons_succ, i64_w, i32_w]
                            rfl
                          refine pure_ (i := 2) (N := some 23) (v := ?_) (a' := ?_) #[true, false, true, false, false, false, false, false, false, false, false, false, false, false, false, false, false, false, false, false, false, false, false, false, false, false, false, false] rfl rfl (any_of HT_.out (by kernel_rfl)) (fun _ _ _ h => h) (Or.inl ⟨by rfl, ?_⟩) ?_ ?_
                          rotate_left
                          · intro w'
                            go_simp
                            with_reducible rfl
                          rotate_left
                          · simp only [Act.put, List.setIfInBounds_toArray, List.set_cons_zero, List.set_cons_succ, i64_w, i32_w]
                            rfl
                          refine take_ (i := 1) (N := some 22) (v := ?_) (a' := ?_) #[true, true, true, false, false, false, false, false, false, false, false, false, false, false, false, false, false, false, false, false, false, false, false, false, false, false, false, false] rfl rfl (take_ofW HT_.out HW_.out (by kernel_rfl)) (fun _ _ _ h => h) (Or.inl ⟨by rfl, ?_⟩) hHeld ?_ ?_
                          rotate_left
                          · rintro w' ⟨s0, s1, s2, s3, s4, s5, s6, s7, s8, s9, s10, s11, s12, s13, s14, s15, s16, s17, s18, s19⟩
                            go_simp
                            with_reducible rfl
                          rotate_left
                          · simp only [Act.put, List.setIfInBounds_toArray, List.set_cons_zero, List.set_cons_succ, i64_w, i32_w]
                            rfl
                          refine pure_ (i := 3) (N := some 24) (v := ?_) (a' := ?_) #[true, true, true, true, false, false, false, false, false, false, false, false, false, false, false, false, false, false, false, false, false, false, false, false, false, false, false, false] rfl rfl (any_of HT_.out (by kernel_rfl)) (fun _ _ _ h => h) (Or.inl ⟨by rfl, ?_⟩) ?_ ?_
                          rotate_left
                          · intro w'
                            go_simp
                            with_reducible rfl
                          rotate_left
                          · simp only [Act.put, List.setIfInBounds_toArray, List.set_cons_zero, List.set_cons_succ, i64_w, i32_w]
                            rfl
                          refine take_ (i := 4) (N := some 25) (v := ?_) (a' := ?_) #[true, true, true, true, true, false, false, false, false, false, false, false, false, false, false, false, false, false, false, false, false, false, false, false, false, false, false, false] rfl rfl (take_ofW HT_.out HW_.out (by kernel_rfl)) (fun _ _ _ h => h) (Or.inl ⟨by rfl, ?_⟩) hHeld ?_ ?_
                          rotate_left
                          · rintro w' ⟨s0, s1, s2, s3, s4, s5, s6, s7, s8, s9, s10, s11, s12, s13, s14, s15, s16, s17, s18, s19⟩
                            go_simp
                            with_reducible rfl
                          rotate_left
                          · simp only [Act.put, List.setIfInBounds_toArray, List.set_cons_zero, List.set_cons_succ, i64_w, i32_w]
                            rfl
                          refine one_ (i := 5) (N := some 26) #[true, true, true, true, true, true, false, false, false, false, false, false, false, false, false, false, false, false, false, false, false, false, false, false, false, false, false, false] rfl rfl (one_of HT_.out (by kernel_rfl)) (by decide) (fun K hK => ?_)
                          refine goes_ Try.func111 (by kernel_rfl) rfl #[.agg #[.string ((rd_T116 l0_1 x3_2).f0), .int .i64 ((rd_T116 l0_1 x3_2).f1.f0), .int .i64 ((rd_T116 l0_1 x3_2).f1.f1), .int .i64 ((rd_T116 l0_1 x3_2).f2), .int .i64 ((rd_T116 l0_1 x3_2).f3), .int .i64 ((rd_T116 l0_1 x3_2).f4)]] (by rfl) rfl rfl (by (try simp only [List.map_toArray, List.map_cons, List.map_nil]); first | done | rfl | (simp only [List.length_drop, List.length_take]; rfl)) ?_
                          with_reducible refine (spec_l26Proof.calls k2 ((rd_T116 l0_1 x3_2).f0) ((rd_T116 l0_1 x3_2).f1.f0) ((rd_T116 l0_1 x3_2).f1.f1) ((rd_T116 l0_1 x3_2).f2) ((rd_T116 l0_1 x3_2).f3) ((rd_T116 l0_1 x3_2).f4) true _ A11.out).mono ?_
                          rintro e w23 ⟨rfl, hb⟩
                          refine ⟨_, rfl, ?_⟩
                          have n0_ := Aside0.mk (blk_below (g := gb129) (o := .cells #[.int .i64 a0_0, .slice (some ad131) l0_1.length c0_1] 86 (0, 0)) (by (with_reducible repeat (first | refine blk_drewN ?_ _ | refine blk_drew ?_ | refine blk_alloc ?_ _)); exact BK129.out) hb)
                          have n1_ := Aside0.mk (below_step (by repeat (first | (with_reducible first | exact HB.out | apply below_alloc | apply pw_below_drewN | apply below_drew1 | refine below_set ?_ GE129.out) | exact HB.out)) hb)
                          clear BK129
                          clear HB
                          have BK129 := n0_
                          have HB := n1_
                          clear n0_ n1_
                          (try clear hb)
                          (try clear hb2)
                          (try clear hk)
                          (try clear hi)
                          refine hK.out _ _ ⟨(blk_cell BK129.out 0).trans rfl, (blk_cell BK129.out 1).trans rfl, ((HB.out.cell (World.block_lt_of_cell? w _ hw131_0)).trans hw131_0), ((HB.out.cell (World.block_lt_of_cell? w _ hw131_1)).trans hw131_1), ((HB.out.cell (World.block_lt_of_cell? w _ hw131_2)).trans hw131_2), ((HB.out.cell (World.block_lt_of_cell? w _ hw131_3)).trans hw131_3), ((HB.out.cell (World.block_lt_of_cell? w _ hw131_4)).trans hw131_4), ((HB.out.cell (World.block_lt_of_cell? w _ hw131_5)).trans hw131_5), ((HB.out.cell (World.block_lt_of_cell? w _ hw133_0)).trans hw133_0), ((HB.out.cell (World.block_lt_of_cell? w _ hw133_1)).trans hw133_1), ((HB.out.cell (World.block_lt_of_cell? w _ hw133_2)).trans hw133_2), ((HB.out.cell (World.block_lt_of_cell? w _ hw133_3)).trans hw133_3), ((HB.out.cell (World.block_lt_of_cell? w _ hw133_4)).trans hw133_4), ((HB.out.cell (World.block_lt_of_cell? w _ hw133_5)).trans hw133_5), ((HB.out.cell (World.block_lt_of_cell? w _ hw140_0)).trans hw140_0), ((HB.out.cell (World.block_lt_of_cell? w _ hw140_1)).trans hw140_1), ((HB.out.cell (World.block_lt_of_cell? w _ hw140_2)).trans hw140_2), ((HB.out.cell (World.block_lt_of_cell? w _ hw140_3)).trans hw140_3), ((HB.out.cell (World.block_lt_of_cell? w _ hw140_4)).trans hw140_4), ((HB.out.cell (World.block_lt_of_cell? w _ hw140_5)).trans hw140_5)⟩ (fun hHeld => ?_)
                          clear hK K
                          refine norm_ (a' := ?_) ?_ ?_
                          rotate_left
                          · show Act.put _ (some 26) _ = _
                            simp only [Act.put, List.setIfInBounds_toArray, List.set_cons_zero, List.set_cons_succ, i64_w, i32_w]
                            rfl
                          refine pure_ (i := 6) (N := some 27) (v := ?_) (a' := ?_) #[true, true, true, true, true, true, true, false, false, false, false, false, false, false, false, false, false, false, false, false, false, false, false, false, false, false, false, false] rfl rfl (any_of HT_.out (by kernel_rfl)) (fun _ _ _ h => h) (Or.inl ⟨by rfl, ?_⟩) ?_ ?_
                          rotate_left
                          · intro w'
                            go_simp
                            with_reducible rfl
                          rotate_left
                          · simp only [Act.put, List.setIfInBounds_toArray, List.set_cons_zero, List.set_cons_succ, i64_w, i32_w]
                            rfl
                          refine pure_ (i := 7) (N := some 28) (v := ?_) (a' := ?_) #[true, true, true, true, true, true, true, true, false, false, false, false, false, false, false, false, false, false, false, false, false, false, false, false, false, false, false, false] rfl rfl (any_of HT_.out (by kernel_rfl)) (fun _ _ _ h => h) (Or.inl ⟨by rfl, ?_⟩) ?_ ?_
                          rotate_left
                          · intro w'
                            go_simp
                            with_reducible rfl
                          rotate_left
                          · simp only [Act.put, List.setIfInBounds_toArray, List.set_cons_zero, List.set_cons_succ, i64_w, i32_w]
                            rfl
                          refine pure_ (i := 8) (N := some 29) (v := ?_) (a' := ?_) #[true, true, true, true, true, true, true, true, true, false, false, false, false, false, false, false, false, false, false, false, false, false, false, false, false, false, false, false] rfl rfl (any_of HT_.out (by kernel_rfl)) (fun _ _ _ h => h) (Or.inl ⟨by rfl, ?_⟩) ?_ ?_
                          rotate_left
                          · intro w'
                            go_simp
                            with_reducible rfl
                          rotate_left
                          · simp only [Act.put, List.setIfInBounds_toArray, List.set_cons_zero, List.set_cons_succ, i64_w, i32_w]
                            rfl
                          refine pure_ (i := 9) (N := some 30) (v := ?_) (a' := ?_) #[true, true, true, true, true, true, true, true, true, true, false, false, false, false, false, false, false, false, false, false, false, false, false, false, false, false, false, false] rfl rfl (any_of HT_.out (by kernel_rfl)) (fun _ _ _ h => h) (Or.inl ⟨by rfl, ?_⟩) ?_ ?_
                          rotate_left
                          · intro w'
                            go_simp
                            with_reducible rfl
                          rotate_left
                          · simp only [Act.put, List.setIfInBounds_toArray, List.set_cons_zero, List.set_cons_succ, i64_w, i32_w]
                            rfl
                          refine pure_ (i := 10) (N := some 31) (v := ?_) (a' := ?_) #[true, true, true, true, true, true, true, true, true, true, true, false, false, false, false, false, false, false, false, false, false, false, false, false, false, false, false, false] rfl rfl (any_of HT_.out (by kernel_rfl)) (fun _ _ _ h => h) (Or.inl ⟨by rfl, ?_⟩) ?_ ?_
                          rotate_left
                          · intro w'
                            go_simp
                            with_reducible rfl
                          rotate_left
                          · simp only [Act.put, List.setIfInBounds_toArray, List.set_cons_zero, List.set_cons_succ, i64_w, i32_w]
                            rfl
                          refine pure_ (i := 11) (N := some 32) (v := ?_) (a' := ?_) #[true, true, true, true, true, true, true, true, true, true, true, true, false, false, false, false, false, false, false, false, false, false, false, false, false, false, false, false] rfl rfl (any_of HT_.out (by kernel_rfl)) (fun _ _ _ h => h) (Or.inl ⟨by rfl, ?_⟩) ?_ ?_
                          rotate_left
                          · intro w'
                            go_simp
                            with_reducible rfl
                          rotate_left
                          · simp only [Act.put, List.setIfInBounds_toArray, List.set_cons_zero, List.set_cons_succ, i64_w, i32_w]
                            rfl
                          refine pure_ (i := 13) (N := some 34) (v := ?_) (a' := ?_) #[true, true, true, true, true, true, true, true, true, true, true, true, false, true, false, false, false, false, false, false, false, false, false, false, false, false, false, false] rfl rfl (any_of HT_.out (by kernel_rfl)) (fun _ _ _ h => h) (Or.inl ⟨by rfl, ?_⟩) ?_ ?_
                          rotate_left
                          · intro w'
                            go_simp
                            with_reducible rfl
                          rotate_left
                          · simp only [Act.put, List.setIfInBounds_toArray, List.set_cons_zero, List.set_cons_succ, i64_w, i32_w]
                            rfl
                          refine pure_ (i := 14) (N := some 35) (v := ?_) (a' := ?_) #[true, true, true, true, true, true, true, true, true, true, true, true, false, true, true, false, false, false, false, false, false, false, false, false, false, false, false, false] rfl rfl (any_of HT_.out (by kernel_rfl)) (fun _ _ _ h => h) (Or.inl ⟨by rfl, ?_⟩) ?_ ?_
                          rotate_left
                          · intro w'
                            go_simp
                            with_reducible rfl
                          rotate_left
                          · simp only [Act.put, List.setIfInBounds_toArray, List.set_cons_zero, List.set_cons_succ, i64_w, i32_w]
                            rfl
                          refine pure_ (i := 18) (N := some 39) (v := ?_) (a' := ?_) #[true, true, true, true, true, true, true, true, true, true, true, true, false, true, true, false, false, false, true, false, false, false, false, false, false, false, false, false] rfl rfl (any_of HT_.out (by kernel_rfl)) (fun _ _ _ h => h) (Or.inl ⟨by rfl, ?_⟩) ?_ ?_
                          rotate_left
                          · intro w'
                            go_simp
                            with_reducible rfl
                          rotate_left
                          · simp only [Act.put, List.setIfInBounds_toArray, List.set_cons_zero, List.set_cons_succ, i64_w, i32_w]
                            rfl
                          refine pure_ (i := 20) (N := some 41) (v := ?_) (a' := ?_) #[true, true, true, true, true, true, true, true, true, true, true, true, false, true, true, false, false, false, true, false, true, false, false, false, false, false, false, false] rfl rfl (any_of HT_.out (by kernel_rfl)) (fun _ _ _ h => h) (Or.inl ⟨by rfl, ?_⟩) ?_ ?_
                          rotate_left
                          · intro w'
                            go_simp
                            with_reducible rfl
                          rotate_left
                          · simp only [Act.put, List.setIfInBounds_toArray, List.set_cons_zero, List.set_cons_succ, i64_w, i32_w]
                            rfl
                          refine take_ (i := 12) (N := some 33) (v := ?_) (a' := ?_) #[true, true, true, true, true, true, true, true, true, true, true, true, true, true, true, false, false, false, true, false, true, false, false, false, false, false, false, false] rfl rfl (take_ofW HT_.out HW_.out (by kernel_rfl)) (fun _ _ _ h => h) (Or.inl ⟨by rfl, ?_⟩) hHeld ?_ ?_
                          rotate_left
                          · rintro w' ⟨s0, s1, s2, s3, s4, s5, s6, s7, s8, s9, s10, s11, s12, s13, s14, s15, s16, s17, s18, s19⟩
                            go_simp
                            with_reducible rfl
                          rotate_left
                          · simp only [Act.put, List.setIfInBounds_toArray, List.set_cons_zero, List.set_cons_succ, i64_w, i32_w]
                            rfl
                          refine pure_ (i := 15) (N := some 36) (v := ?_) (a' := ?_) #[true, true, true, true, true, true, true, true, true, true, true, true, true, true, true, true, false, false, true, false, true, false, false, false, false, false, false, false] rfl rfl (any_of HT_.out (by kernel_rfl)) (fun _ _ _ h => h) (Or.inl ⟨by rfl, ?_⟩) ?_ ?_
                          rotate_left
                          · intro w'
                            go_simp
                            with_reducible rfl
                          rotate_left
                          · simp only [Act.put, List.setIfInBounds_toArray, List.set_cons_zero, List.set_cons_succ, i64_w, i32_w]
                            rfl
                          refine take_ (i := 16) (N := some 37) (v := ?_) (a' := ?_) #[true, true, true, true, true, true, true, true, true, true, true, true, true, true, true, true, true, false, true, false, true, false, false, false, false, false, false, false] rfl rfl (take_ofW HT_.out HW_.out (by kernel_rfl)) (fun _ _ _ h => h) (Or.inl ⟨by rfl, ?_⟩) hHeld ?_ ?_
                          rotate_left
                          · rintro w' ⟨s0, s1, s2, s3, s4, s5, s6, s7, s8, s9, s10, s11, s12, s13, s14, s15, s16, s17, s18, s19⟩
                            go_simp
                            with_reducible rfl
                          rotate_left
                          · simp only [Act.put, List.setIfInBounds_toArray, List.set_cons_zero, List.set_cons_succ, i64_w, i32_w]
                            rfl
                          refine take_ (i := 19) (N := some 40) (v := ?_) (a' := ?_) #[true, true, true, true, true, true, true, true, true, true, true, true, true, true, true, true, true, false, true, true, true, false, false, false, false, false, false, false] rfl rfl (take_ofW HT_.out HW_.out (by kernel_rfl)) (fun _ _ _ h => h) (Or.inl ⟨by rfl, ?_⟩) hHeld ?_ ?_
                          rotate_left
                          · rintro w' ⟨s0, s1, s2, s3, s4, s5, s6, s7, s8, s9, s10, s11, s12, s13, s14, s15, s16, s17, s18, s19⟩
                            go_simp
                            with_reducible rfl
                          rotate_left
                          · simp only [Act.put, List.setIfInBounds_toArray, List.set_cons_zero, List.set_cons_succ, i64_w, i32_w]
                            rfl
                          refine pure_ (i := 21) (N := some 42) (v := ?_) (a' := ?_) #[true, true, true, true, true, true, true, true, true, true, true, true, true, true, true, true, true, false, true, true, true, true, false, false, false, false, false, false] rfl rfl (any_of HT_.out (by kernel_rfl)) (fun _ _ _ h => h) (Or.inl ⟨by rfl, ?_⟩) ?_ ?_
                          rotate_left
                          · intro w'
                            go_simp
                            with_reducible rfl
                          rotate_left
                          · simp only [Act.put, List.setIfInBounds_toArray, List.set_cons_zero, List.set_cons_succ, i64_w, i32_w]
                            rfl
                          refine take_ (i := 22) (N := some 43) (v := ?_) (a' := ?_) #[true, true, true, true, true, true, true, true, true, true, true, true, true, true, true, true, true, false, true, true, true, true, true, false, false, false, false, false] rfl rfl (take_ofW HT_.out HW_.out (by kernel_rfl)) (fun _ _ _ h => h) (Or.inl ⟨by rfl, ?_⟩) hHeld ?_ ?_
                          rotate_left
                          · rintro w' ⟨s0, s1, s2, s3, s4, s5, s6, s7, s8, s9, s10, s11, s12, s13, s14, s15, s16, s17, s18, s19⟩
                            go_simp
                            with_reducible rfl
                          rotate_left
                          · simp only [Act.put, List.setIfInBounds_toArray, List.set_cons_zero, List.set_cons_succ, i64_w, i32_w]
                            rfl
                          refine one_ (i := 17) (N := some 38) #[true, true, true, true, true, true, true, true, true, true, true, true, true, true, true, true, true, true, true, true, true, true, true, false, false, false, false, false] rfl rfl (one_of HT_.out (by kernel_rfl)) (by decide) (fun K hK => ?_)
                          refine goes_ Try.func113 (by kernel_rfl) rfl #[.agg #[.string ((rd_T116 l0_1 (ji14)).f0), .int .i64 ((rd_T116 l0_1 (ji14)).f1.f0), .int .i64 ((rd_T116 l0_1 (ji14)).f1.f1), .int .i64 ((rd_T116 l0_1 (ji14)).f2), .int .i64 ((rd_T116 l0_1 (ji14)).f3), .int .i64 ((rd_T116 l0_1 (ji14)).f4)]] (by rfl) rfl rfl (by (try simp only [List.map_toArray, List.map_cons, List.map_nil]); first | done | (simp only [hji14]; rfl) | rfl | (simp only [List.length_drop, List.length_take]; rfl)) ?_
                          with_reducible refine (spec_l26Key.calls ((rd_T116 l0_1 (ji14)).f0) ((rd_T116 l0_1 (ji14)).f1.f0) ((rd_T116 l0_1 (ji14)).f1.f1) ((rd_T116 l0_1 (ji14)).f2) ((rd_T116 l0_1 (ji14)).f3) ((rd_T116 l0_1 (ji14)).f4) t134 t135 t136 t137 t138 t139 _ A17.out).mono ?_
                          rintro e w24 ⟨rfl, hb⟩
                          refine ⟨_, rfl, ?_⟩
                          have n0_ := Aside0.mk (blk_below (g := gb129) (o := .cells #[.int .i64 a0_0, .slice (some ad131) l0_1.length c0_1] 86 (0, 0)) (by (with_reducible repeat (first | refine blk_drewN ?_ _ | refine blk_drew ?_ | refine blk_alloc ?_ _)); exact BK129.out) hb)
                          have n1_ := Aside0.mk (below_step (by repeat (first | (with_reducible first | exact HB.out | apply below_alloc | apply pw_below_drewN | apply below_drew1 | refine below_set ?_ GE129.out) | exact HB.out)) hb)
                          clear BK129
                          clear HB
                          have BK129 := n0_
                          have HB := n1_
                          clear n0_ n1_
                          (try clear hb)
                          (try clear hb2)
                          (try clear hk)
                          (try clear hi)
                          refine hK.out _ _ ⟨(blk_cell BK129.out 0).trans rfl, (blk_cell BK129.out 1).trans rfl, ((HB.out.cell (World.block_lt_of_cell? w _ hw131_0)).trans hw131_0), ((HB.out.cell (World.block_lt_of_cell? w _ hw131_1)).trans hw131_1), ((HB.out.cell (World.block_lt_of_cell? w _ hw131_2)).trans hw131_2), ((HB.out.cell (World.block_lt_of_cell? w _ hw131_3)).trans hw131_3), ((HB.out.cell (World.block_lt_of_cell? w _ hw131_4)).trans hw131_4), ((HB.out.cell (World.block_lt_of_cell? w _ hw131_5)).trans hw131_5), ((HB.out.cell (World.block_lt_of_cell? w _ hw133_0)).trans hw133_0), ((HB.out.cell (World.block_lt_of_cell? w _ hw133_1)).trans hw133_1), ((HB.out.cell (World.block_lt_of_cell? w _ hw133_2)).trans hw133_2), ((HB.out.cell (World.block_lt_of_cell? w _ hw133_3)).trans hw133_3), ((HB.out.cell (World.block_lt_of_cell? w _ hw133_4)).trans hw133_4), ((HB.out.cell (World.block_lt_of_cell? w _ hw133_5)).trans hw133_5), ((HB.out.cell (World.block_lt_of_cell? w _ hw140_0)).trans hw140_0), ((HB.out.cell (World.block_lt_of_cell? w _ hw140_1)).trans hw140_1), ((HB.out.cell (World.block_lt_of_cell? w _ hw140_2)).trans hw140_2), ((HB.out.cell (World.block_lt_of_cell? w _ hw140_3)).trans hw140_3), ((HB.out.cell (World.block_lt_of_cell? w _ hw140_4)).trans hw140_4), ((HB.out.cell (World.block_lt_of_cell? w _ hw140_5)).trans hw140_5)⟩ (fun hHeld => ?_)
                          clear hK K
                          refine norm_ (a' := ?_) ?_ ?_
                          rotate_left
                          · show Act.put _ (some 38) _ = _
                            simp only [Act.put, List.setIfInBounds_toArray, List.set_cons_zero, List.set_cons_succ, i64_w, i32_w]
                            rfl
                          refine one_ (i := 23) (N := some 44) #[true, true, true, true, true, true, true, true, true, true, true, true, true, true, true, true, true, true, true, true, true, true, true, true, false, false, false, false] rfl rfl (one_of HT_.out (by kernel_rfl)) (by decide) (fun K hK => ?_)
                          refine goes_ Try.func113 (by kernel_rfl) rfl #[.agg #[.string ((rd_T116 l0_1 x3_2).f0), .int .i64 ((rd_T116 l0_1 x3_2).f1.f0), .int .i64 ((rd_T116 l0_1 x3_2).f1.f1), .int .i64 ((rd_T116 l0_1 x3_2).f2), .int .i64 ((rd_T116 l0_1 x3_2).f3), .int .i64 ((rd_T116 l0_1 x3_2).f4)]] (by rfl) rfl rfl (by (try simp only [List.map_toArray, List.map_cons, List.map_nil]); first | done | rfl | (simp only [List.length_drop, List.length_take]; rfl)) ?_
                          with_reducible refine (spec_l26Key.calls ((rd_T116 l0_1 x3_2).f0) ((rd_T116 l0_1 x3_2).f1.f0) ((rd_T116 l0_1 x3_2).f1.f1) ((rd_T116 l0_1 x3_2).f2) ((rd_T116 l0_1 x3_2).f3) ((rd_T116 l0_1 x3_2).f4) t141 t142 t143 t144 t145 t146 _ A18.out).mono ?_
                          rintro e w25 ⟨rfl, hb⟩
                          refine ⟨_, rfl, ?_⟩
                          have n0_ := Aside0.mk (blk_below (g := gb129) (o := .cells #[.int .i64 a0_0, .slice (some ad131) l0_1.length c0_1] 86 (0, 0)) (by (with_reducible repeat (first | refine blk_drewN ?_ _ | refine blk_drew ?_ | refine blk_alloc ?_ _)); exact BK129.out) hb)
                          have n1_ := Aside0.mk (below_step (by repeat (first | (with_reducible first | exact HB.out | apply below_alloc | apply pw_below_drewN | apply below_drew1 | refine below_set ?_ GE129.out) | exact HB.out)) hb)
                          clear BK129
                          clear HB
                          have BK129 := n0_
                          have HB := n1_
                          clear n0_ n1_
                          (try clear hb)
                          (try clear hb2)
                          (try clear hk)
                          (try clear hi)
                          refine hK.out _ _ ⟨(blk_cell BK129.out 0).trans rfl, (blk_cell BK129.out 1).trans rfl, ((HB.out.cell (World.block_lt_of_cell? w _ hw131_0)).trans hw131_0), ((HB.out.cell (World.block_lt_of_cell? w _ hw131_1)).trans hw131_1), ((HB.out.cell (World.block_lt_of_cell? w _ hw131_2)).trans hw131_2), ((HB.out.cell (World.block_lt_of_cell? w _ hw131_3)).trans hw131_3), ((HB.out.cell (World.block_lt_of_cell? w _ hw131_4)).trans hw131_4), ((HB.out.cell (World.block_lt_of_cell? w _ hw131_5)).trans hw131_5), ((HB.out.cell (World.block_lt_of_cell? w _ hw133_0)).trans hw133_0), ((HB.out.cell (World.block_lt_of_cell? w _ hw133_1)).trans hw133_1), ((HB.out.cell (World.block_lt_of_cell? w _ hw133_2)).trans hw133_2), ((HB.out.cell (World.block_lt_of_cell? w _ hw133_3)).trans hw133_3), ((HB.out.cell (World.block_lt_of_cell? w _ hw133_4)).trans hw133_4), ((HB.out.cell (World.block_lt_of_cell? w _ hw133_5)).trans hw133_5), ((HB.out.cell (World.block_lt_of_cell? w _ hw140_0)).trans hw140_0), ((HB.out.cell (World.block_lt_of_cell? w _ hw140_1)).trans hw140_1), ((HB.out.cell (World.block_lt_of_cell? w _ hw140_2)).trans hw140_2), ((HB.out.cell (World.block_lt_of_cell? w _ hw140_3)).trans hw140_3), ((HB.out.cell (World.block_lt_of_cell? w _ hw140_4)).trans hw140_4), ((HB.out.cell (World.block_lt_of_cell? w _ hw140_5)).trans hw140_5)⟩ (fun hHeld => ?_)
                          clear hK K
                          refine norm_ (a' := ?_) ?_ ?_
                          rotate_left
                          · show Act.put _ (some 44) _ = _
                            simp only [Act.put, List.setIfInBounds_toArray, List.set_cons_zero, List.set_cons_succ, i64_w, i32_w]
                            rfl
                          refine one_ (i := 24) (N := some 45) #[true, true, true, true, true, true, true, true, true, true, true, true, true, true, true, true, true, true, true, true, true, true, true, true, true, false, false, false] rfl rfl (one_of HT_.out (by kernel_rfl)) (by decide) (fun K hK => ?_)
                          refine goes_ Try.func112 (by kernel_rfl) rfl #[.agg #[.string t134, .int .i64 t135, .int .i64 t136, .int .i64 t137, .int .i64 t138, .string t139], .agg #[.string t141, .int .i64 t142, .int .i64 t143, .int .i64 t144, .int .i64 t145, .string t146]] (by rfl) rfl rfl (by (try simp only [List.map_toArray, List.map_cons, List.map_nil]); first | done | rfl | (simp only [List.length_drop, List.length_take]; rfl)) ?_
                          with_reducible refine (spec_l17ChunkLess.calls t134 t135 t136 t137 t138 t139 t141 t142 t143 t144 t145 t146 true _ A19.out).mono ?_
                          rintro e w26 ⟨rfl, hb⟩
                          refine ⟨_, rfl, ?_⟩
                          have n0_ := Aside0.mk (blk_below (g := gb129) (o := .cells #[.int .i64 a0_0, .slice (some ad131) l0_1.length c0_1] 86 (0, 0)) (by (with_reducible repeat (first | refine blk_drewN ?_ _ | refine blk_drew ?_ | refine blk_alloc ?_ _)); exact BK129.out) hb)
                          have n1_ := Aside0.mk (below_step (by repeat (first | (with_reducible first | exact HB.out | apply below_alloc | apply pw_below_drewN | apply below_drew1 | refine below_set ?_ GE129.out) | exact HB.out)) hb)
                          clear BK129
                          clear HB
                          have BK129 := n0_
                          have HB := n1_
                          clear n0_ n1_
                          (try clear hb)
                          (try clear hb2)
                          (try clear hk)
                          (try clear hi)
                          refine hK.out _ _ ⟨(blk_cell BK129.out 0).trans rfl, (blk_cell BK129.out 1).trans rfl, ((HB.out.cell (World.block_lt_of_cell? w _ hw131_0)).trans hw131_0), ((HB.out.cell (World.block_lt_of_cell? w _ hw131_1)).trans hw131_1), ((HB.out.cell (World.block_lt_of_cell? w _ hw131_2)).trans hw131_2), ((HB.out.cell (World.block_lt_of_cell? w _ hw131_3)).trans hw131_3), ((HB.out.cell (World.block_lt_of_cell? w _ hw131_4)).trans hw131_4), ((HB.out.cell (World.block_lt_of_cell? w _ hw131_5)).trans hw131_5), ((HB.out.cell (World.block_lt_of_cell? w _ hw133_0)).trans hw133_0), ((HB.out.cell (World.block_lt_of_cell? w _ hw133_1)).trans hw133_1), ((HB.out.cell (World.block_lt_of_cell? w _ hw133_2)).trans hw133_2), ((HB.out.cell (World.block_lt_of_cell? w _ hw133_3)).trans hw133_3), ((HB.out.cell (World.block_lt_of_cell? w _ hw133_4)).trans hw133_4), ((HB.out.cell (World.block_lt_of_cell? w _ hw133_5)).trans hw133_5), ((HB.out.cell (World.block_lt_of_cell? w _ hw140_0)).trans hw140_0), ((HB.out.cell (World.block_lt_of_cell? w _ hw140_1)).trans hw140_1), ((HB.out.cell (World.block_lt_of_cell? w _ hw140_2)).trans hw140_2), ((HB.out.cell (World.block_lt_of_cell? w _ hw140_3)).trans hw140_3), ((HB.out.cell (World.block_lt_of_cell? w _ hw140_4)).trans hw140_4), ((HB.out.cell (World.block_lt_of_cell? w _ hw140_5)).trans hw140_5)⟩ (fun hHeld => ?_)
                          clear hK K
                          refine norm_ (a' := ?_) ?_ ?_
                          rotate_left
                          · show Act.put _ (some 45) _ = _
                            simp only [Act.put, List.setIfInBounds_toArray, List.set_cons_zero, List.set_cons_succ, i64_w, i32_w]
                            rfl
                          refine pure_ (i := 25) (N := some 46) (v := ?_) (a' := ?_) #[true, true, true, true, true, true, true, true, true, true, true, true, true, true, true, true, true, true, true, true, true, true, true, true, true, true, false, false] rfl rfl (any_of HT_.out (by kernel_rfl)) (fun _ _ _ h => h) (Or.inl ⟨by rfl, ?_⟩) ?_ ?_
                          rotate_left
                          · intro w'
                            go_simp
                            with_reducible rfl
                          rotate_left
                          · simp only [Act.put, List.setIfInBounds_toArray, List.set_cons_zero, List.set_cons_succ, i64_w, i32_w]
                            rfl
                          refine pure_ (i := 26) (N := some 47) (v := ?_) (a' := ?_) #[true, true, true, true, true, true, true, true, true, true, true, true, true, true, true, true, true, true, true, true, true, true, true, true, true, true, true, false] rfl rfl (any_of HT_.out (by kernel_rfl)) (fun _ _ _ h => h) (Or.inl ⟨by rfl, ?_⟩) ?_ ?_
                          rotate_left
                          · intro w'
                            go_simp
                            with_reducible rfl
                          rotate_left
                          · simp only [Act.put, List.setIfInBounds_toArray, List.set_cons_zero, List.set_cons_succ, i64_w, i32_w]
                            rfl
                          refine pure_ (i := 27) (N := some 48) (v := ?_) (a' := ?_) #[true, true, true, true, true, true, true, true, true, true, true, true, true, true, true, true, true, true, true, true, true, true, true, true, true, true, true, true] rfl rfl (any_of HT_.out (by kernel_rfl)) (fun _ _ _ h => h) (Or.inl ⟨by rfl, ?_⟩) ?_ ?_
                          rotate_left
                          · intro w'
                            go_simp
                            with_reducible rfl
                          rotate_left
                          · simp only [Act.put, List.setIfInBounds_toArray, List.set_cons_zero, List.set_cons_succ, i64_w, i32_w]
                            rfl
                          refine done_ (done_of HT_.out (by kernel_rfl)) ?_
                          try go_wp2
                          go_roundg k2
                          case measure => have := HJ1.out; have := HK2.out; omega
                          case rel => exact ⟨(wrap64 (x3_2 + 1)), (by first | rfl | (simp; done) | (simp [*]; done)), H', ⟨by have := HJ1.out; have := HK2.out; omega⟩, ⟨by (with_reducible repeat (first | refine blk_drewN ?_ _ | refine blk_drew ?_ | refine blk_alloc ?_ _)); exact BK129.out⟩, ⟨by repeat (first | (with_reducible first | exact HB.out | apply below_alloc | apply pw_below_drewN | apply below_drew1 | refine below_set ?_ GE129.out) | exact HB.out)⟩⟩
                        · replace c20 := Bool.eq_false_iff.mpr c20
                          subst c20
                          have H1 : (some false) = some r := by rw [if_neg (show ¬ (false = true) by decide)] at H; exact H
                          clear H
                          have H := H1
                          clear H1
                          obtain rfl := Option.some.inj H
                          have hcz27_0 : wr.cell? ⟨gb129, 0, none⟩ = some (.int .i64 a0_0) := (blk_cell BK129.out 0).trans rfl
                          have hcz27_1 : wr.cell? ⟨gb129, 1, none⟩ = some (.slice A0_1 l0_1.length c0_1) := (blk_cell BK129.out 1).trans rfl
                          have hfz27_0 := blk_frozen BK129.out 0
                          have hfz27_1 := blk_frozen BK129.out 1
                          try go_wp2
                          have n0_ := Aside0.mk (blk_drew BK129.out)
                          have n1_ := Aside0.mk (below_drew1 HB.out)
                          clear BK129
                          clear HB
                          have BK129 := n0_
                          have HB := n1_
                          clear n0_ n1_
                          have p131 : 0 ≤ (x3_2 : Int) := of_decide_eq_true (by first | (with_reducible assumption) | assumption)
                          have q131 : x3_2 < (l0_1.length : Int) := of_decide_eq_true (by first | (with_reducible assumption) | assumption)
                          obtain ⟨ad131, e131, hx131_0, hx131_1, hx131_2, hx131_3, hx131_4, hx131_5⟩ := at_T116 HR0_1.out x3_2 p131 q131
                          have hw131_5 := hx131_5
                          have hw131_4 := hx131_4
                          have hw131_3 := hx131_3
                          have hw131_2 := hx131_2
                          have hw131_1 := hx131_1
                          have hw131_0 := hx131_0
                          cases e131
                          replace hx131_0 := (HB.out.cell (World.block_lt_of_cell? w _ hx131_0)).trans hx131_0
                          replace hx131_1 := (HB.out.cell (World.block_lt_of_cell? w _ hx131_1)).trans hx131_1
                          replace hx131_2 := (HB.out.cell (World.block_lt_of_cell? w _ hx131_2)).trans hx131_2
                          replace hx131_3 := (HB.out.cell (World.block_lt_of_cell? w _ hx131_3)).trans hx131_3
                          replace hx131_4 := (HB.out.cell (World.block_lt_of_cell? w _ hx131_4)).trans hx131_4
                          replace hx131_5 := (HB.out.cell (World.block_lt_of_cell? w _ hx131_5)).trans hx131_5
                          replace p131 := eq_true p131
                          replace q131 := eq_true q131
                          have p133 : 0 ≤ ((ji14) : Int) := of_decide_eq_true (by first | (with_reducible assumption) | assumption)
                          have q133 : (ji14) < (l0_1.length : Int) := of_decide_eq_true (by first | (with_reducible assumption) | assumption)
                          obtain ⟨ad133, e133, hx133_0, hx133_1, hx133_2, hx133_3, hx133_4, hx133_5⟩ := at_T116 HR0_1.out (ji14) p133 q133
                          have hw133_5 := hx133_5
                          have hw133_4 := hx133_4
                          have hw133_3 := hx133_3
                          have hw133_2 := hx133_2
                          have hw133_1 := hx133_1
                          have hw133_0 := hx133_0
                          obtain rfl : ad131 = ad133 := (by injection e133)
                          replace hx133_0 := (HB.out.cell (World.block_lt_of_cell? w _ hx133_0)).trans hx133_0
                          replace hx133_1 := (HB.out.cell (World.block_lt_of_cell? w _ hx133_1)).trans hx133_1
                          replace hx133_2 := (HB.out.cell (World.block_lt_of_cell? w _ hx133_2)).trans hx133_2
                          replace hx133_3 := (HB.out.cell (World.block_lt_of_cell? w _ hx133_3)).trans hx133_3
                          replace hx133_4 := (HB.out.cell (World.block_lt_of_cell? w _ hx133_4)).trans hx133_4
                          replace hx133_5 := (HB.out.cell (World.block_lt_of_cell? w _ hx133_5)).trans hx133_5
                          replace p133 := eq_true p133
                          replace q133 := eq_true q133
                          have p140 : 0 ≤ (x3_2 : Int) := of_decide_eq_true (by first | (with_reducible assumption) | assumption)
                          have q140 : x3_2 < (l0_1.length : Int) := of_decide_eq_true (by first | (with_reducible assumption) | assumption)
                          obtain ⟨ad140, e140, hx140_0, hx140_1, hx140_2, hx140_3, hx140_4, hx140_5⟩ := at_T116 HR0_1.out x3_2 p140 q140
                          have hw140_5 := hx140_5
                          have hw140_4 := hx140_4
                          have hw140_3 := hx140_3
                          have hw140_2 := hx140_2
                          have hw140_1 := hx140_1
                          have hw140_0 := hx140_0
                          obtain rfl : ad131 = ad140 := (by injection e140)
                          replace hx140_0 := (HB.out.cell (World.block_lt_of_cell? w _ hx140_0)).trans hx140_0
                          replace hx140_1 := (HB.out.cell (World.block_lt_of_cell? w _ hx140_1)).trans hx140_1
                          replace hx140_2 := (HB.out.cell (World.block_lt_of_cell? w _ hx140_2)).trans hx140_2
                          replace hx140_3 := (HB.out.cell (World.block_lt_of_cell? w _ hx140_3)).trans hx140_3
                          replace hx140_4 := (HB.out.cell (World.block_lt_of_cell? w _ hx140_4)).trans hx140_4
                          replace hx140_5 := (HB.out.cell (World.block_lt_of_cell? w _ hx140_5)).trans hx140_5
                          replace p140 := eq_true p140
                          replace q140 := eq_true q140
                          refine start_ (n := 28) (S := fun w' => w'.cell? ⟨gb129, 0, none⟩ = some (.int .i64 a0_0) ∧ w'.cell? ⟨gb129, 1, none⟩ = some (.slice (some ad131) l0_1.length c0_1) ∧ w'.cell? (ad131.add ((x3_2).toNat * 6)) = some (.string ((rd_T116 l0_1 x3_2).f0)) ∧ w'.cell? ⟨(ad131.add ((x3_2).toNat * 6)).block, (ad131.add ((x3_2).toNat * 6)).off + 1, none⟩ = some (.int .i64 ((rd_T116 l0_1 x3_2).f1.f0)) ∧ w'.cell? ⟨(ad131.add ((x3_2).toNat * 6)).block, (ad131.add ((x3_2).toNat * 6)).off + 2, none⟩ = some (.int .i64 ((rd_T116 l0_1 x3_2).f1.f1)) ∧ w'.cell? ⟨(ad131.add ((x3_2).toNat * 6)).block, (ad131.add ((x3_2).toNat * 6)).off + 3, none⟩ = some (.int .i64 ((rd_T116 l0_1 x3_2).f2)) ∧ w'.cell? ⟨(ad131.add ((x3_2).toNat * 6)).block, (ad131.add ((x3_2).toNat * 6)).off + 4, none⟩ = some (.int .i64 ((rd_T116 l0_1 x3_2).f3)) ∧ w'.cell? ⟨(ad131.add ((x3_2).toNat * 6)).block, (ad131.add ((x3_2).toNat * 6)).off + 5, none⟩ = some (.int .i64 ((rd_T116 l0_1 x3_2).f4)) ∧ w'.cell? (ad131.add (((ji14)).toNat * 6)) = some (.string ((rd_T116 l0_1 (ji14)).f0)) ∧ w'.cell? ⟨(ad131.add (((ji14)).toNat * 6)).block, (ad131.add (((ji14)).toNat * 6)).off + 1, none⟩ = some (.int .i64 ((rd_T116 l0_1 (ji14)).f1.f0)) ∧ w'.cell? ⟨(ad131.add (((ji14)).toNat * 6)).block, (ad131.add (((ji14)).toNat * 6)).off + 2, none⟩ = some (.int .i64 ((rd_T116 l0_1 (ji14)).f1.f1)) ∧ w'.cell? ⟨(ad131.add (((ji14)).toNat * 6)).block, (ad131.add (((ji14)).toNat * 6)).off + 3, none⟩ = some (.int .i64 ((rd_T116 l0_1 (ji14)).f2)) ∧ w'.cell? ⟨(ad131.add (((ji14)).toNat * 6)).block, (ad131.add (((ji14)).toNat * 6)).off + 4, none⟩ = some (.int .i64 ((rd_T116 l0_1 (ji14)).f3)) ∧ w'.cell? ⟨(ad131.add (((ji14)).toNat * 6)).block, (ad131.add (((ji14)).toNat * 6)).off + 5, none⟩ = some (.int .i64 ((rd_T116 l0_1 (ji14)).f4)) ∧ w'.cell? (ad131.add ((x3_2).toNat * 6)) = some (.string ((rd_T116 l0_1 x3_2).f0)) ∧ w'.cell? ⟨(ad131.add ((x3_2).toNat * 6)).block, (ad131.add ((x3_2).toNat * 6)).off + 1, none⟩ = some (.int .i64 ((rd_T116 l0_1 x3_2).f1.f0)) ∧ w'.cell? ⟨(ad131.add ((x3_2).toNat * 6)).block, (ad131.add ((x3_2).toNat * 6)).off + 2, none⟩ = some (.int .i64 ((rd_T116 l0_1 x3_2).f1.f1)) ∧ w'.cell? ⟨(ad131.add ((x3_2).toNat * 6)).block, (ad131.add ((x3_2).toNat * 6)).off + 3, none⟩ = some (.int .i64 ((rd_T116 l0_1 x3_2).f2)) ∧ w'.cell? ⟨(ad131.add ((x3_2).toNat * 6)).block, (ad131.add ((x3_2).toNat * 6)).off + 4, none⟩ = some (.int .i64 ((rd_T116 l0_1 x3_2).f3)) ∧ w'.cell? ⟨(ad131.add ((x3_2).toNat * 6)).block, (ad131.add ((x3_2).toNat * 6)).off + 5, none⟩ = some (.int .i64 ((rd_T116 l0_1 x3_2).f4))) (ds := []) #[false, false, false, false, false, false, false, false, false, false, false, false, false, false, false, false, false, false, false, false, false, false, false, false, false, false, false, false] (by kernel_rfl) rfl rfl ⟨(blk_cell BK129.out 0).trans rfl, (blk_cell BK129.out 1).trans rfl, ((HB.out.cell (World.block_lt_of_cell? w _ hw131_0)).trans hw131_0), ((HB.out.cell (World.block_lt_of_cell? w _ hw131_1)).trans hw131_1), ((HB.out.cell (World.block_lt_of_cell? w _ hw131_2)).trans hw131_2), ((HB.out.cell (World.block_lt_of_cell? w _ hw131_3)).trans hw131_3), ((HB.out.cell (World.block_lt_of_cell? w _ hw131_4)).trans hw131_4), ((HB.out.cell (World.block_lt_of_cell? w _ hw131_5)).trans hw131_5), ((HB.out.cell (World.block_lt_of_cell? w _ hw133_0)).trans hw133_0), ((HB.out.cell (World.block_lt_of_cell? w _ hw133_1)).trans hw133_1), ((HB.out.cell (World.block_lt_of_cell? w _ hw133_2)).trans hw133_2), ((HB.out.cell (World.block_lt_of_cell? w _ hw133_3)).trans hw133_3), ((HB.out.cell (World.block_lt_of_cell? w _ hw133_4)).trans hw133_4), ((HB.out.cell (World.block_lt_of_cell? w _ hw133_5)).trans hw133_5), ((HB.out.cell (World.block_lt_of_cell? w _ hw140_0)).trans hw140_0), ((HB.out.cell (World.block_lt_of_cell? w _ hw140_1)).trans hw140_1), ((HB.out.cell (World.block_lt_of_cell? w _ hw140_2)).trans hw140_2), ((HB.out.cell (World.block_lt_of_cell? w _ hw140_3)).trans hw140_3), ((HB.out.cell (World.block_lt_of_cell? w _ hw140_4)).trans hw140_4), ((HB.out.cell (World.block_lt_of_cell? w _ hw140_5)).trans hw140_5)⟩ (fun hHeld => ?_); refine with_tabW spec_l26OK.tab6 spec_l26OK.bits6 (fun HT_ HW_ => ?_)
                          generalize wr.drew = w28 at BK129 HB hx131_0 hx131_1 hx131_2 hx131_3 hx131_4 hx131_5 hx133_0 hx133_1 hx133_2 hx133_3 hx133_4 hx133_5 hx140_0 hx140_1 hx140_2 hx140_3 hx140_4 hx140_5 hHeld ⊢
                          refine pure_ (i := 0) (N := some 21) (v := ?_) (a' := ?_) #[true, false, false, false, false, false, false, false, false, false, false, false, false, false, false, false, false, false, false, false, false, false, false, false, false, false, false, false] rfl rfl (any_of HT_.out (by kernel_rfl)) (fun _ _ _ h => h) (Or.inl ⟨by rfl, ?_⟩) ?_ ?_
                          rotate_left
                          · intro w'
                            go_simp
                            with_reducible rfl
                          rotate_left
                          · simp only [Act.put, List.setIfInBounds_toArray, List.set_cons_zero, List.set_cons_succ, i64_w, i32_w]
                            rfl
                          refine pure_ (i := 2) (N := some 23) (v := ?_) (a' := ?_) #[true, false, true, false, false, false, false, false, false, false, false, false, false, false, false, false, false, false, false, false, false, false, false, false, false, false, false, false] rfl rfl (any_of HT_.out (by kernel_rfl)) (fun _ _ _ h => h) (Or.inl ⟨by rfl, ?_⟩) ?_ ?_
                          rotate_left
                          · intro w'
                            go_simp
                            with_reducible rfl
                          rotate_left
                          · simp only [Act.put, List.setIfInBounds_toArray, List.set_cons_zero, List.set_cons_succ, i64_w, i32_w]
                            rfl
                          refine take_ (i := 1) (N := some 22) (v := ?_) (a' := ?_) #[true, true, true, false, false, false, false, false, false, false, false, false, false, false, false, false, false, false, false, false, false, false, false, false, false, false, false, false] rfl rfl (take_ofW HT_.out HW_.out (by kernel_rfl)) (fun _ _ _ h => h) (Or.inl ⟨by rfl, ?_⟩) hHeld ?_ ?_
                          rotate_left
                          · rintro w' ⟨s0, s1, s2, s3, s4, s5, s6, s7, s8, s9, s10, s11, s12, s13, s14, s15, s16, s17, s18, s19⟩
                            go_simp
                            with_reducible rfl
                          rotate_left
                          · simp only [Act.put, List.setIfInBounds_toArray, List.set_cons_zero, List.set_cons_succ, i64_w, i32_w]
                            rfl
                          refine pure_ (i := 3) (N := some 24) (v := ?_) (a' := ?_) #[true, true, true, true, false, false, false, false, false, false, false, false, false, false, false, false, false, false, false, false, false, false, false, false, false, false, false, false] rfl rfl (any_of HT_.out (by kernel_rfl)) (fun _ _ _ h => h) (Or.inl ⟨by rfl, ?_⟩) ?_ ?_
                          rotate_left
                          · intro w'
                            go_simp
                            with_reducible rfl
                          rotate_left
                          · simp only [Act.put, List.setIfInBounds_toArray, List.set_cons_zero, List.set_cons_succ, i64_w, i32_w]
                            rfl
                          refine take_ (i := 4) (N := some 25) (v := ?_) (a' := ?_) #[true, true, true, true, true, false, false, false, false, false, false, false, false, false, false, false, false, false, false, false, false, false, false, false, false, false, false, false] rfl rfl (take_ofW HT_.out HW_.out (by kernel_rfl)) (fun _ _ _ h => h) (Or.inl ⟨by rfl, ?_⟩) hHeld ?_ ?_
                          rotate_left
                          · rintro w' ⟨s0, s1, s2, s3, s4, s5, s6, s7, s8, s9, s10, s11, s12, s13, s14, s15, s16, s17, s18, s19⟩
                            go_simp
                            with_reducible rfl
                          rotate_left
                          · simp only [Act.put, List.setIfInBounds_toArray, List.set_cons_zero, List.set_cons_succ, i64_w, i32_w]
                            rfl
                          refine one_ (i := 5) (N := some 26) #[true, true, true, true, true, true, false, false, false, false, false, false, false, false, false, false, false, false, false, false, false, false, false, false, false, false, false, false] rfl rfl (one_of HT_.out (by kernel_rfl)) (by decide) (fun K hK => ?_)
                          refine goes_ Try.func111 (by kernel_rfl) rfl #[.agg #[.string ((rd_T116 l0_1 x3_2).f0), .int .i64 ((rd_T116 l0_1 x3_2).f1.f0), .int .i64 ((rd_T116 l0_1 x3_2).f1.f1), .int .i64 ((rd_T116 l0_1 x3_2).f2), .int .i64 ((rd_T116 l0_1 x3_2).f3), .int .i64 ((rd_T116 l0_1 x3_2).f4)]] (by rfl) rfl rfl (by (try simp only [List.map_toArray, List.map_cons, List.map_nil]); first | done | rfl | (simp only [List.length_drop, List.length_take]; rfl)) ?_
                          with_reducible refine (spec_l26Proof.calls k2 ((rd_T116 l0_1 x3_2).f0) ((rd_T116 l0_1 x3_2).f1.f0) ((rd_T116 l0_1 x3_2).f1.f1) ((rd_T116 l0_1 x3_2).f2) ((rd_T116 l0_1 x3_2).f3) ((rd_T116 l0_1 x3_2).f4) true _ A11.out).mono ?_
                          rintro e w29 ⟨rfl, hb⟩
                          refine ⟨_, rfl, ?_⟩
                          have n0_ := Aside0.mk (blk_below (g := gb129) (o := .cells #[.int .i64 a0_0, .slice (some ad131) l0_1.length c0_1] 86 (0, 0)) (by (with_reducible repeat (first | refine blk_drewN ?_ _ | refine blk_drew ?_ | refine blk_alloc ?_ _)); exact BK129.out) hb)
                          have n1_ := Aside0.mk (below_step (by repeat (first | (with_reducible first | exact HB.out | apply below_alloc | apply pw_below_drewN | apply below_drew1 | refine below_set ?_ GE129.out) | exact HB.out)) hb)
                          clear BK129
                          clear HB
                          have BK129 := n0_
                          have HB := n1_
                          clear n0_ n1_
                          (try clear hb)
                          (try clear hb2)
                          (try clear hk)
                          (try clear hi)
                          refine hK.out _ _ ⟨(blk_cell BK129.out 0).trans rfl, (blk_cell BK129.out 1).trans rfl, ((HB.out.cell (World.block_lt_of_cell? w _ hw131_0)).trans hw131_0), ((HB.out.cell (World.block_lt_of_cell? w _ hw131_1)).trans hw131_1), ((HB.out.cell (World.block_lt_of_cell? w _ hw131_2)).trans hw131_2), ((HB.out.cell (World.block_lt_of_cell? w _ hw131_3)).trans hw131_3), ((HB.out.cell (World.block_lt_of_cell? w _ hw131_4)).trans hw131_4), ((HB.out.cell (World.block_lt_of_cell? w _ hw131_5)).trans hw131_5), ((HB.out.cell (World.block_lt_of_cell? w _ hw133_0)).trans hw133_0), ((HB.out.cell (World.block_lt_of_cell? w _ hw133_1)).trans hw133_1), ((HB.out.cell (World.block_lt_of_cell? w _ hw133_2)).trans hw133_2), ((HB.out.cell (World.block_lt_of_cell? w _ hw133_3)).trans hw133_3), ((HB.out.cell (World.block_lt_of_cell? w _ hw133_4)).trans hw133_4), ((HB.out.cell (World.block_lt_of_cell? w _ hw133_5)).trans hw133_5), ((HB.out.cell (World.block_lt_of_cell? w _ hw140_0)).trans hw140_0), ((HB.out.cell (World.block_lt_of_cell? w _ hw140_1)).trans hw140_1), ((HB.out.cell (World.block_lt_of_cell? w _ hw140_2)).trans hw140_2), ((HB.out.cell (World.block_lt_of_cell? w _ hw140_3)).trans hw140_3), ((HB.out.cell (World.block_lt_of_cell? w _ hw140_4)).trans hw140_4), ((HB.out.cell (World.block_lt_of_cell? w _ hw140_5)).trans hw140_5)⟩ (fun hHeld => ?_)
                          clear hK K
                          refine norm_ (a' := ?_) ?_ ?_
                          rotate_left
                          · show Act.put _ (some 26) _ = _
                            simp only [Act.put, List.setIfInBounds_toArray, List.set_cons_zero, List.set_cons_succ, i64_w, i32_w]
                            rfl
                          refine pure_ (i := 6) (N := some 27) (v := ?_) (a' := ?_) #[true, true, true, true, true, true, true, false, false, false, false, false, false, false, false, false, false, false, false, false, false, false, false, false, false, false, false, false] rfl rfl (any_of HT_.out (by kernel_rfl)) (fun _ _ _ h => h) (Or.inl ⟨by rfl, ?_⟩) ?_ ?_
                          rotate_left
                          · intro w'
                            go_simp
                            with_reducible rfl
                          rotate_left
                          · simp only [Act.put, List.setIfInBounds_toArray, List.set_cons_zero, List.set_cons_succ, i64_w, i32_w]
                            rfl
                          refine pure_ (i := 7) (N := some 28) (v := ?_) (a' := ?_) #[true, true, true, true, true, true, true, true, false, false, false, false, false, false, false, false, false, false, false, false, false, false, false, false, false, false, false, false] rfl rfl (any_of HT_.out (by kernel_rfl)) (fun _ _ _ h => h) (Or.inl ⟨by rfl, ?_⟩) ?_ ?_
                          rotate_left
                          · intro w'
                            go_simp
                            with_reducible rfl
                          rotate_left
                          · simp only [Act.put, List.setIfInBounds_toArray, List.set_cons_zero, List.set_cons_succ, i64_w, i32_w]
                            rfl
                          refine pure_ (i := 8) (N := some 29) (v := ?_) (a' := ?_) #[true, true, true, true, true, true, true, true, true, false, false, false, false, false, false, false, false, false, false, false, false, false, false, false, false, false, false, false] rfl rfl (any_of HT_.out (by kernel_rfl)) (fun _ _ _ h => h) (Or.inl ⟨by rfl, ?_⟩) ?_ ?_
                          rotate_left
                          · intro w'
                            go_simp
                            with_reducible rfl
                          rotate_left
                          · simp only [Act.put, List.setIfInBounds_toArray, List.set_cons_zero, List.set_cons_succ, i64_w, i32_w]
                            rfl
                          refine pure_ (i := 9) (N := some 30) (v := ?_) (a' := ?_) #[true, true, true, true, true, true, true, true, true, true, false, false, false, false, false, false, false, false, false, false, false, false, false, false, false, false, false, false] rfl rfl (any_of HT_.out (by kernel_rfl)) (fun _ _ _ h => h) (Or.inl ⟨by rfl, ?_⟩) ?_ ?_
                          rotate_left
                          · intro w'
                            go_simp
                            with_reducible rfl
                          rotate_left
                          · simp only [Act.put, List.setIfInBounds_toArray, List.set_cons_zero, List.set_cons_succ, i64_w, i32_w]
                            rfl
                          refine pure_ (i := 10) (N := some 31) (v := ?_) (a' := ?_) #[true, true, true, true, true, true, true, true, true, true, true, false, false, false, false, false, false, false, false, false, false, false, false, false, false, false, false, false] rfl rfl (any_of HT_.out (by kernel_rfl)) (fun _ _ _ h => h) (Or.inl ⟨by rfl, ?_⟩) ?_ ?_
                          rotate_left
                          · intro w'
                            go_simp
                            with_reducible rfl
                          rotate_left
                          · simp only [Act.put, List.setIfInBounds_toArray, List.set_cons_zero, List.set_cons_succ, i64_w, i32_w]
                            rfl
                          refine pure_ (i := 11) (N := some 32) (v := ?_) (a' := ?_) #[true, true, true, true, true, true, true, true, true, true, true, true, false, false, false, false, false, false, false, false, false, false, false, false, false, false, false, false] rfl rfl (any_of HT_.out (by kernel_rfl)) (fun _ _ _ h => h) (Or.inl ⟨by rfl, ?_⟩) ?_ ?_
                          rotate_left
                          · intro w'
                            go_simp
                            with_reducible rfl
                          rotate_left
                          · simp only [Act.put, List.setIfInBounds_toArray, List.set_cons_zero, List.set_cons_succ, i64_w, i32_w]
                            rfl
                          refine pure_ (i := 13) (N := some 34) (v := ?_) (a' := ?_) #[true, true, true, true, true, true, true, true, true, true, true, true, false, true, false, false, false, false, false, false, false, false, false, false, false, false, false, false] rfl rfl (any_of HT_.out (by kernel_rfl)) (fun _ _ _ h => h) (Or.inl ⟨by rfl, ?_⟩) ?_ ?_
                          rotate_left
                          · intro w'
                            go_simp
                            with_reducible rfl
                          rotate_left
                          · simp only [Act.put, List.setIfInBounds_toArray, List.set_cons_zero, List.set_cons_succ, i64_w, i32_w]
                            rfl
                          refine pure_ (i := 14) (N := some 35) (v := ?_) (a' := ?_) #[true, true, true, true, true, true, true, true, true, true, true, true, false, true, true, false, false, false, false, false, false, false, false, false, false, false, false, false] rfl rfl (any_of HT_.out (by kernel_rfl)) (fun _ _ _ h => h) (Or.inl ⟨by rfl, ?_⟩) ?_ ?_
                          rotate_left
                          · intro w'
                            go_simp
                            with_reducible rfl
                          rotate_left
                          · simp only [Act.put, List.setIfInBounds_toArray, List.set_cons_zero, List.set_cons_succ, i64_w, i32_w]
                            rfl
                          refine pure_ (i := 18) (N := some 39) (v := ?_) (a' := ?_) #[true, true, true, true, true, true, true, true, true, true, true, true, false, true, true, false, false, false, true, false, false, false, false, false, false, false, false, false] rfl rfl (any_of HT_.out (by kernel_rfl)) (fun _ _ _ h => h) (Or.inl ⟨by rfl, ?_⟩) ?_ ?_
                          rotate_left
                          · intro w'
                            go_simp
                            with_reducible rfl
                          rotate_left
                          · simp only [Act.put, List.setIfInBounds_toArray, List.set_cons_zero, List.set_cons_succ, i64_w, i32_w]
                            rfl
                          refine pure_ (i := 20) (N := some 41) (v := ?_) (a' := ?_) #[true, true, true, true, true, true, true, true, true, true, true, true, false, true, true, false, false, false, true, false, true, false, false, false, false, false, false, false] rfl rfl (any_of HT_.out (by kernel_rfl)) (fun _ _ _ h => h) (Or.inl ⟨by rfl, ?_⟩) ?_ ?_
                          rotate_left
                          · intro w'
                            go_simp
                            with_reducible rfl
                          rotate_left
                          · simp only [Act.put, List.setIfInBounds_toArray, List.set_cons_zero, List.set_cons_succ, i64_w, i32_w]
                            rfl
                          refine take_ (i := 12) (N := some 33) (v := ?_) (a' := ?_) #[true, true, true, true, true, true, true, true, true, true, true, true, true, true, true, false, false, false, true, false, true, false, false, false, false, false, false, false] rfl rfl (take_ofW HT_.out HW_.out (by kernel_rfl)) (fun _ _ _ h => h) (Or.inl ⟨by rfl, ?_⟩) hHeld ?_ ?_
                          rotate_left
                          · rintro w' ⟨s0, s1, s2, s3, s4, s5, s6, s7, s8, s9, s10, s11, s12, s13, s14, s15, s16, s17, s18, s19⟩
                            go_simp
                            with_reducible rfl
                          rotate_left
                          · simp only [Act.put, List.setIfInBounds_toArray, List.set_cons_zero, List.set_cons_succ, i64_w, i32_w]
                            rfl
                          refine pure_ (i := 15) (N := some 36) (v := ?_) (a' := ?_) #[true, true, true, true, true, true, true, true, true, true, true, true, true, true, true, true, false, false, true, false, true, false, false, false, false, false, false, false] rfl rfl (any_of HT_.out (by kernel_rfl)) (fun _ _ _ h => h) (Or.inl ⟨by rfl, ?_⟩) ?_ ?_
                          rotate_left
                          · intro w'
                            go_simp
                            with_reducible rfl
                          rotate_left
                          · simp only [Act.put, List.setIfInBounds_toArray, List.set_cons_zero, List.set_cons_succ, i64_w, i32_w]
                            rfl
                          refine take_ (i := 16) (N := some 37) (v := ?_) (a' := ?_) #[true, true, true, true, true, true, true, true, true, true, true, true, true, true, true, true, true, false, true, false, true, false, false, false, false, false, false, false] rfl rfl (take_ofW HT_.out HW_.out (by kernel_rfl)) (fun _ _ _ h => h) (Or.inl ⟨by rfl, ?_⟩) hHeld ?_ ?_
                          rotate_left
                          · rintro w' ⟨s0, s1, s2, s3, s4, s5, s6, s7, s8, s9, s10, s11, s12, s13, s14, s15, s16, s17, s18, s19⟩
                            go_simp
                            with_reducible rfl
                          rotate_left
                          · simp only [Act.put, List.setIfInBounds_toArray, List.set_cons_zero, List.set_cons_succ, i64_w, i32_w]
                            rfl
                          refine take_ (i := 19) (N := some 40) (v := ?_) (a' := ?_) #[true, true, true, true, true, true, true, true, true, true, true, true, true, true, true, true, true, false, true, true, true, false, false, false, false, false, false, false] rfl rfl (take_ofW HT_.out HW_.out (by kernel_rfl)) (fun _ _ _ h => h) (Or.inl ⟨by rfl, ?_⟩) hHeld ?_ ?_
                          rotate_left
                          · rintro w' ⟨s0, s1, s2, s3, s4, s5, s6, s7, s8, s9, s10, s11, s12, s13, s14, s15, s16, s17, s18, s19⟩
                            go_simp
                            with_reducible rfl
                          rotate_left
                          · simp only [Act.put, List.setIfInBounds_toArray, List.set_cons_zero, List.set_cons_succ, i64_w, i32_w]
                            rfl
                          refine pure_ (i := 21) (N := some 42) (v := ?_) (a' := ?_) #[true, true, true, true, true, true, true, true, true, true, true, true, true, true, true, true, true, false, true, true, true, true, false, false, false, false, false, false] rfl rfl (any_of HT_.out (by kernel_rfl)) (fun _ _ _ h => h) (Or.inl ⟨by rfl, ?_⟩) ?_ ?_
                          rotate_left
                          · intro w'
                            go_simp
                            with_reducible rfl
                          rotate_left
                          · simp only [Act.put, List.setIfInBounds_toArray, List.set_cons_zero, List.set_cons_succ, i64_w, i32_w]
                            rfl
                          refine take_ (i := 22) (N := some 43) (v := ?_) (a' := ?_) #[true, true, true, true, true, true, true, true, true, true, true, true, true, true, true, true, true, false, true, true, true, true, true, false, false, false, false, false] rfl rfl (take_ofW HT_.out HW_.out (by kernel_rfl)) (fun _ _ _ h => h) (Or.inl ⟨by rfl, ?_⟩) hHeld ?_ ?_
                          rotate_left
                          · rintro w' ⟨s0, s1, s2, s3, s4, s5, s6, s7, s8, s9, s10, s11, s12, s13, s14, s15, s16, s17, s18, s19⟩
                            go_simp
                            with_reducible rfl
                          rotate_left
                          · simp only [Act.put, List.setIfInBounds_toArray, List.set_cons_zero, List.set_cons_succ, i64_w, i32_w]
                            rfl
                          refine one_ (i := 17) (N := some 38) #[true, true, true, true, true, true, true, true, true, true, true, true, true, true, true, true, true, true, true, true, true, true, true, false, false, false, false, false] rfl rfl (one_of HT_.out (by kernel_rfl)) (by decide) (fun K hK => ?_)
                          refine goes_ Try.func113 (by kernel_rfl) rfl #[.agg #[.string ((rd_T116 l0_1 (ji14)).f0), .int .i64 ((rd_T116 l0_1 (ji14)).f1.f0), .int .i64 ((rd_T116 l0_1 (ji14)).f1.f1), .int .i64 ((rd_T116 l0_1 (ji14)).f2), .int .i64 ((rd_T116 l0_1 (ji14)).f3), .int .i64 ((rd_T116 l0_1 (ji14)).f4)]] (by rfl) rfl rfl (by (try simp only [List.map_toArray, List.map_cons, List.map_nil]); first | done | (simp only [hji14]; rfl) | rfl | (simp only [List.length_drop, List.length_take]; rfl)) ?_
                          with_reducible refine (spec_l26Key.calls ((rd_T116 l0_1 (ji14)).f0) ((rd_T116 l0_1 (ji14)).f1.f0) ((rd_T116 l0_1 (ji14)).f1.f1) ((rd_T116 l0_1 (ji14)).f2) ((rd_T116 l0_1 (ji14)).f3) ((rd_T116 l0_1 (ji14)).f4) t134 t135 t136 t137 t138 t139 _ A17.out).mono ?_
                          rintro e w30 ⟨rfl, hb⟩
                          refine ⟨_, rfl, ?_⟩
                          have n0_ := Aside0.mk (blk_below (g := gb129) (o := .cells #[.int .i64 a0_0, .slice (some ad131) l0_1.length c0_1] 86 (0, 0)) (by (with_reducible repeat (first | refine blk_drewN ?_ _ | refine blk_drew ?_ | refine blk_alloc ?_ _)); exact BK129.out) hb)
                          have n1_ := Aside0.mk (below_step (by repeat (first | (with_reducible first | exact HB.out | apply below_alloc | apply pw_below_drewN | apply below_drew1 | refine below_set ?_ GE129.out) | exact HB.out)) hb)
                          clear BK129
                          clear HB
                          have BK129 := n0_
                          have HB := n1_
                          clear n0_ n1_
                          (try clear hb)
                          (try clear hb2)
                          (try clear hk)
                          (try clear hi)
                          refine hK.out _ _ ⟨(blk_cell BK129.out 0).trans rfl, (blk_cell BK129.out 1).trans rfl, ((HB.out.cell (World.block_lt_of_cell? w _ hw131_0)).trans hw131_0), ((HB.out.cell (World.block_lt_of_cell? w _ hw131_1)).trans hw131_1), ((HB.out.cell (World.block_lt_of_cell? w _ hw131_2)).trans hw131_2), ((HB.out.cell (World.block_lt_of_cell? w _ hw131_3)).trans hw131_3), ((HB.out.cell (World.block_lt_of_cell? w _ hw131_4)).trans hw131_4), ((HB.out.cell (World.block_lt_of_cell? w _ hw131_5)).trans hw131_5), ((HB.out.cell (World.block_lt_of_cell? w _ hw133_0)).trans hw133_0), ((HB.out.cell (World.block_lt_of_cell? w _ hw133_1)).trans hw133_1), ((HB.out.cell (World.block_lt_of_cell? w _ hw133_2)).trans hw133_2), ((HB.out.cell (World.block_lt_of_cell? w _ hw133_3)).trans hw133_3), ((HB.out.cell (World.block_lt_of_cell? w _ hw133_4)).trans hw133_4), ((HB.out.cell (World.block_lt_of_cell? w _ hw133_5)).trans hw133_5), ((HB.out.cell (World.block_lt_of_cell? w _ hw140_0)).trans hw140_0), ((HB.out.cell (World.block_lt_of_cell? w _ hw140_1)).trans hw140_1), ((HB.out.cell (World.block_lt_of_cell? w _ hw140_2)).trans hw140_2), ((HB.out.cell (World.block_lt_of_cell? w _ hw140_3)).trans hw140_3), ((HB.out.cell (World.block_lt_of_cell? w _ hw140_4)).trans hw140_4), ((HB.out.cell (World.block_lt_of_cell? w _ hw140_5)).trans hw140_5)⟩ (fun hHeld => ?_)
                          clear hK K
                          refine norm_ (a' := ?_) ?_ ?_
                          rotate_left
                          · show Act.put _ (some 38) _ = _
                            simp only [Act.put, List.setIfInBounds_toArray, List.set_cons_zero, List.set_cons_succ, i64_w, i32_w]
                            rfl
                          refine one_ (i := 23) (N := some 44) #[true, true, true, true, true, true, true, true, true, true, true, true, true, true, true, true, true, true, true, true, true, true, true, true, false, false, false, false] rfl rfl (one_of HT_.out (by kernel_rfl)) (by decide) (fun K hK => ?_)
                          refine goes_ Try.func113 (by kernel_rfl) rfl #[.agg #[.string ((rd_T116 l0_1 x3_2).f0), .int .i64 ((rd_T116 l0_1 x3_2).f1.f0), .int .i64 ((rd_T116 l0_1 x3_2).f1.f1), .int .i64 ((rd_T116 l0_1 x3_2).f2), .int .i64 ((rd_T116 l0_1 x3_2).f3), .int .i64 ((rd_T116 l0_1 x3_2).f4)]] (by rfl) rfl rfl (by (try simp only [List.map_toArray, List.map_cons, List.map_nil]); first | done | rfl | (simp only [List.length_drop, List.length_take]; rfl)) ?_
                          with_reducible refine (spec_l26Key.calls ((rd_T116 l0_1 x3_2).f0) ((rd_T116 l0_1 x3_2).f1.f0) ((rd_T116 l0_1 x3_2).f1.f1) ((rd_T116 l0_1 x3_2).f2) ((rd_T116 l0_1 x3_2).f3) ((rd_T116 l0_1 x3_2).f4) t141 t142 t143 t144 t145 t146 _ A18.out).mono ?_
                          rintro e w31 ⟨rfl, hb⟩
                          refine ⟨_, rfl, ?_⟩
                          have n0_ := Aside0.mk (blk_below (g := gb129) (o := .cells #[.int .i64 a0_0, .slice (some ad131) l0_1.length c0_1] 86 (0, 0)) (by (with_reducible repeat (first | refine blk_drewN ?_ _ | refine blk_drew ?_ | refine blk_alloc ?_ _)); exact BK129.out) hb)
                          have n1_ := Aside0.mk (below_step (by repeat (first | (with_reducible first | exact HB.out | apply below_alloc | apply pw_below_drewN | apply below_drew1 | refine below_set ?_ GE129.out) | exact HB.out)) hb)
                          clear BK129
                          clear HB
                          have BK129 := n0_
                          have HB := n1_
                          clear n0_ n1_
                          (try clear hb)
                          (try clear hb2)
                          (try clear hk)
                          (try clear hi)
                          refine hK.out _ _ ⟨(blk_cell BK129.out 0).trans rfl, (blk_cell BK129.out 1).trans rfl, ((HB.out.cell (World.block_lt_of_cell? w _ hw131_0)).trans hw131_0), ((HB.out.cell (World.block_lt_of_cell? w _ hw131_1)).trans hw131_1), ((HB.out.cell (World.block_lt_of_cell? w _ hw131_2)).trans hw131_2), ((HB.out.cell (World.block_lt_of_cell? w _ hw131_3)).trans hw131_3), ((HB.out.cell (World.block_lt_of_cell? w _ hw131_4)).trans hw131_4), ((HB.out.cell (World.block_lt_of_cell? w _ hw131_5)).trans hw131_5), ((HB.out.cell (World.block_lt_of_cell? w _ hw133_0)).trans hw133_0), ((HB.out.cell (World.block_lt_of_cell? w _ hw133_1)).trans hw133_1), ((HB.out.cell (World.block_lt_of_cell? w _ hw133_2)).trans hw133_2), ((HB.out.cell (World.block_lt_of_cell? w _ hw133_3)).trans hw133_3), ((HB.out.cell (World.block_lt_of_cell? w _ hw133_4)).trans hw133_4), ((HB.out.cell (World.block_lt_of_cell? w _ hw133_5)).trans hw133_5), ((HB.out.cell (World.block_lt_of_cell? w _ hw140_0)).trans hw140_0), ((HB.out.cell (World.block_lt_of_cell? w _ hw140_1)).trans hw140_1), ((HB.out.cell (World.block_lt_of_cell? w _ hw140_2)).trans hw140_2), ((HB.out.cell (World.block_lt_of_cell? w _ hw140_3)).trans hw140_3), ((HB.out.cell (World.block_lt_of_cell? w _ hw140_4)).trans hw140_4), ((HB.out.cell (World.block_lt_of_cell? w _ hw140_5)).trans hw140_5)⟩ (fun hHeld => ?_)
                          clear hK K
                          refine norm_ (a' := ?_) ?_ ?_
                          rotate_left
                          · show Act.put _ (some 44) _ = _
                            simp only [Act.put, List.setIfInBounds_toArray, List.set_cons_zero, List.set_cons_succ, i64_w, i32_w]
                            rfl
                          refine one_ (i := 24) (N := some 45) #[true, true, true, true, true, true, true, true, true, true, true, true, true, true, true, true, true, true, true, true, true, true, true, true, true, false, false, false] rfl rfl (one_of HT_.out (by kernel_rfl)) (by decide) (fun K hK => ?_)
                          refine goes_ Try.func112 (by kernel_rfl) rfl #[.agg #[.string t134, .int .i64 t135, .int .i64 t136, .int .i64 t137, .int .i64 t138, .string t139], .agg #[.string t141, .int .i64 t142, .int .i64 t143, .int .i64 t144, .int .i64 t145, .string t146]] (by rfl) rfl rfl (by (try simp only [List.map_toArray, List.map_cons, List.map_nil]); first | done | rfl | (simp only [List.length_drop, List.length_take]; rfl)) ?_
                          with_reducible refine (spec_l17ChunkLess.calls t134 t135 t136 t137 t138 t139 t141 t142 t143 t144 t145 t146 false _ A19.out).mono ?_
                          rintro e w32 ⟨rfl, hb⟩
                          refine ⟨_, rfl, ?_⟩
                          have n0_ := Aside0.mk (blk_below (g := gb129) (o := .cells #[.int .i64 a0_0, .slice (some ad131) l0_1.length c0_1] 86 (0, 0)) (by (with_reducible repeat (first | refine blk_drewN ?_ _ | refine blk_drew ?_ | refine blk_alloc ?_ _)); exact BK129.out) hb)
                          have n1_ := Aside0.mk (below_step (by repeat (first | (with_reducible first | exact HB.out | apply below_alloc | apply pw_below_drewN | apply below_drew1 | refine below_set ?_ GE129.out) | exact HB.out)) hb)
                          clear BK129
                          clear HB
                          have BK129 := n0_
                          have HB := n1_
                          clear n0_ n1_
                          (try clear hb)
                          (try clear hb2)
                          (try clear hk)
                          (try clear hi)
                          refine hK.out _ _ ⟨(blk_cell BK129.out 0).trans rfl, (blk_cell BK129.out 1).trans rfl, ((HB.out.cell (World.block_lt_of_cell? w _ hw131_0)).trans hw131_0), ((HB.out.cell (World.block_lt_of_cell? w _ hw131_1)).trans hw131_1), ((HB.out.cell (World.block_lt_of_cell? w _ hw131_2)).trans hw131_2), ((HB.out.cell (World.block_lt_of_cell? w _ hw131_3)).trans hw131_3), ((HB.out.cell (World.block_lt_of_cell? w _ hw131_4)).trans hw131_4), ((HB.out.cell (World.block_lt_of_cell? w _ hw131_5)).trans hw131_5), ((HB.out.cell (World.block_lt_of_cell? w _ hw133_0)).trans hw133_0), ((HB.out.cell (World.block_lt_of_cell? w _ hw133_1)).trans hw133_1), ((HB.out.cell (World.block_lt_of_cell? w _ hw133_2)).trans hw133_2), ((HB.out.cell (World.block_lt_of_cell? w _ hw133_3)).trans hw133_3), ((HB.out.cell (World.block_lt_of_cell? w _ hw133_4)).trans hw133_4), ((HB.out.cell (World.block_lt_of_cell? w _ hw133_5)).trans hw133_5), ((HB.out.cell (World.block_lt_of_cell? w _ hw140_0)).trans hw140_0), ((HB.out.cell (World.block_lt_of_cell? w _ hw140_1)).trans hw140_1), ((HB.out.cell (World.block_lt_of_cell? w _ hw140_2)).trans hw140_2), ((HB.out.cell (World.block_lt_of_cell? w _ hw140_3)).trans hw140_3), ((HB.out.cell (World.block_lt_of_cell? w _ hw140_4)).trans hw140_4), ((HB.out.cell (World.block_lt_of_cell? w _ hw140_5)).trans hw140_5)⟩ (fun hHeld => ?_)
                          clear hK K
                          refine norm_ (a' := ?_) ?_ ?_
                          rotate_left
                          · show Act.put _ (some 45) _ = _
                            simp only [Act.put, List.setIfInBounds_toArray, List.set_cons_zero, List.set_cons_succ, i64_w, i32_w]
                            rfl
                          refine pure_ (i := 25) (N := some 46) (v := ?_) (a' := ?_) #[true, true, true, true, true, true, true, true, true, true, true, true, true, true, true, true, true, true, true, true, true, true, true, true, true, true, false, false] rfl rfl (any_of HT_.out (by kernel_rfl)) (fun _ _ _ h => h) (Or.inl ⟨by rfl, ?_⟩) ?_ ?_
                          rotate_left
                          · intro w'
                            go_simp
                            with_reducible rfl
                          rotate_left
                          · simp only [Act.put, List.setIfInBounds_toArray, List.set_cons_zero, List.set_cons_succ, i64_w, i32_w]
                            rfl
                          refine pure_ (i := 26) (N := some 47) (v := ?_) (a' := ?_) #[true, true, true, true, true, true, true, true, true, true, true, true, true, true, true, true, true, true, true, true, true, true, true, true, true, true, true, false] rfl rfl (any_of HT_.out (by kernel_rfl)) (fun _ _ _ h => h) (Or.inl ⟨by rfl, ?_⟩) ?_ ?_
                          rotate_left
                          · intro w'
                            go_simp
                            with_reducible rfl
                          rotate_left
                          · simp only [Act.put, List.setIfInBounds_toArray, List.set_cons_zero, List.set_cons_succ, i64_w, i32_w]
                            rfl
                          refine pure_ (i := 27) (N := some 48) (v := ?_) (a' := ?_) #[true, true, true, true, true, true, true, true, true, true, true, true, true, true, true, true, true, true, true, true, true, true, true, true, true, true, true, true] rfl rfl (any_of HT_.out (by kernel_rfl)) (fun _ _ _ h => h) (Or.inl ⟨by rfl, ?_⟩) ?_ ?_
                          rotate_left
                          · intro w'
                            go_simp
                            with_reducible rfl
                          rotate_left
                          · simp only [Act.put, List.setIfInBounds_toArray, List.set_cons_zero, List.set_cons_succ, i64_w, i32_w]
                            rfl
                          refine done_ (done_of HT_.out (by kernel_rfl)) ?_
                          try go_wp2
                          go_ret
                          exact ⟨by first | rfl | (simp [errW_none, errW_some] <;> rfl) | (simp only [← hji14]; first | rfl | (simp [errW_none, errW_some] <;> rfl)) | (simp [*, errW_none, errW_some] <;> rfl), by repeat (first | (with_reducible first | exact HB.out | apply below_alloc | apply pw_below_drewN | apply below_drew1 | refine below_set ?_ GE129.out) | exact HB.out)⟩
                      · rw [if_neg c16] at H
                        exact absurd H (by simp)
                    · rw [if_neg c15] at H
                      exact absurd H (by simp)
                  · rw [if_neg c13] at H
                    have c13b0 : decide (0 < x3_2) = false := decide_eq_false c13
                    clear c13
                    have H' := Aside0.mk H
                    clear H
                    have hcz33_0 : wr.cell? ⟨gb129, 0, none⟩ = some (.int .i64 a0_0) := (blk_cell BK129.out 0).trans rfl
                    have hcz33_1 : wr.cell? ⟨gb129, 1, none⟩ = some (.slice A0_1 l0_1.length c0_1) := (blk_cell BK129.out 1).trans rfl
                    have hfz33_0 := blk_frozen BK129.out 0
                    have hfz33_1 := blk_frozen BK129.out 1
                    try go_wp2
                    have n0_ := Aside0.mk (blk_drew BK129.out)
                    have n1_ := Aside0.mk (below_drew1 HB.out)
                    clear BK129
                    clear HB
                    have BK129 := n0_
                    have HB := n1_
                    clear n0_ n1_
                    have p131 : 0 ≤ (x3_2 : Int) := of_decide_eq_true (by first | (with_reducible assumption) | assumption)
                    have q131 : x3_2 < (l0_1.length : Int) := of_decide_eq_true (by first | (with_reducible assumption) | assumption)
                    obtain ⟨ad131, e131, hx131_0, hx131_1, hx131_2, hx131_3, hx131_4, hx131_5⟩ := at_T116 HR0_1.out x3_2 p131 q131
                    have hw131_5 := hx131_5
                    have hw131_4 := hx131_4
                    have hw131_3 := hx131_3
                    have hw131_2 := hx131_2
                    have hw131_1 := hx131_1
                    have hw131_0 := hx131_0
                    cases e131
                    replace hx131_0 := (HB.out.cell (World.block_lt_of_cell? w _ hx131_0)).trans hx131_0
                    replace hx131_1 := (HB.out.cell (World.block_lt_of_cell? w _ hx131_1)).trans hx131_1
                    replace hx131_2 := (HB.out.cell (World.block_lt_of_cell? w _ hx131_2)).trans hx131_2
                    replace hx131_3 := (HB.out.cell (World.block_lt_of_cell? w _ hx131_3)).trans hx131_3
                    replace hx131_4 := (HB.out.cell (World.block_lt_of_cell? w _ hx131_4)).trans hx131_4
                    replace hx131_5 := (HB.out.cell (World.block_lt_of_cell? w _ hx131_5)).trans hx131_5
                    replace p131 := eq_true p131
                    replace q131 := eq_true q131
                    refine start_ (n := 28) (S := fun w' => w'.cell? ⟨gb129, 0, none⟩ = some (.int .i64 a0_0) ∧ w'.cell? ⟨gb129, 1, none⟩ = some (.slice (some ad131) l0_1.length c0_1) ∧ w'.cell? (ad131.add ((x3_2).toNat * 6)) = some (.string ((rd_T116 l0_1 x3_2).f0)) ∧ w'.cell? ⟨(ad131.add ((x3_2).toNat * 6)).block, (ad131.add ((x3_2).toNat * 6)).off + 1, none⟩ = some (.int .i64 ((rd_T116 l0_1 x3_2).f1.f0)) ∧ w'.cell? ⟨(ad131.add ((x3_2).toNat * 6)).block, (ad131.add ((x3_2).toNat * 6)).off + 2, none⟩ = some (.int .i64 ((rd_T116 l0_1 x3_2).f1.f1)) ∧ w'.cell? ⟨(ad131.add ((x3_2).toNat * 6)).block, (ad131.add ((x3_2).toNat * 6)).off + 3, none⟩ = some (.int .i64 ((rd_T116 l0_1 x3_2).f2)) ∧ w'.cell? ⟨(ad131.add ((x3_2).toNat * 6)).block, (ad131.add ((x3_2).toNat * 6)).off + 4, none⟩ = some (.int .i64 ((rd_T116 l0_1 x3_2).f3)) ∧ w'.cell? ⟨(ad131.add ((x3_2).toNat * 6)).block, (ad131.add ((x3_2).toNat * 6)).off + 5, none⟩ = some (.int .i64 ((rd_T116 l0_1 x3_2).f4))) (ds := []) #[false, false, false, false, false, false, false, false, false, false, false, false, false, false, false, false, false, false, false, false, false, false, false, false, false, false, false, false] (by kernel_rfl) rfl rfl ⟨(blk_cell BK129.out 0).trans rfl, (blk_cell BK129.out 1).trans rfl, ((HB.out.cell (World.block_lt_of_cell? w _ hw131_0)).trans hw131_0), ((HB.out.cell (World.block_lt_of_cell? w _ hw131_1)).trans hw131_1), ((HB.out.cell (World.block_lt_of_cell? w _ hw131_2)).trans hw131_2), ((HB.out.cell (World.block_lt_of_cell? w _ hw131_3)).trans hw131_3), ((HB.out.cell (World.block_lt_of_cell? w _ hw131_4)).trans hw131_4), ((HB.out.cell (World.block_lt_of_cell? w _ hw131_5)).trans hw131_5)⟩ (fun hHeld => ?_); refine with_tabW spec_l26OK.tab6 spec_l26OK.bits6 (fun HT_ HW_ => ?_)
                    generalize wr.drew = w34 at BK129 HB hx131_0 hx131_1 hx131_2 hx131_3 hx131_4 hx131_5 hHeld ⊢
                    refine pure_ (i := 0) (N := some 21) (v := ?_) (a' := ?_) #[true, false, false, false, false, false, false, false, false, false, false, false, false, false, false, false, false, false, false, false, false, false, false, false, false, false, false, false] rfl rfl (any_of HT_.out (by kernel_rfl)) (fun _ _ _ h => h) (Or.inl ⟨by rfl, ?_⟩) ?_ ?_
                    rotate_left
                    · intro w'
                      go_simp
                      with_reducible rfl
                    rotate_left
                    · simp only [Act.put, List.setIfInBounds_toArray, List.set_cons_zero, List.set_cons_succ, i64_w, i32_w]
                      rfl
                    refine pure_ (i := 2) (N := some 23) (v := ?_) (a' := ?_) #[true, false, true, false, false, false, false, false, false, false, false, false, false, false, false, false, false, false, false, false, false, false, false, false, false, false, false, false] rfl rfl (any_of HT_.out (by kernel_rfl)) (fun _ _ _ h => h) (Or.inl ⟨by rfl, ?_⟩) ?_ ?_
                    rotate_left
                    · intro w'
                      go_simp
                      with_reducible rfl
                    rotate_left
                    · simp only [Act.put, List.setIfInBounds_toArray, List.set_cons_zero, List.set_cons_succ, i64_w, i32_w]
                      rfl
                    refine take_ (i := 1) (N := some 22) (v := ?_) (a' := ?_) #[true, true, true, false, false, false, false, false, false, false, false, false, false, false, false, false, false, false, false, false, false, false, false, false, false, false, false, false] rfl rfl (take_ofW HT_.out HW_.out (by kernel_rfl)) (fun _ _ _ h => h) (Or.inl ⟨by rfl, ?_⟩) hHeld ?_ ?_
                    rotate_left
                    · rintro w' ⟨s0, s1, s2, s3, s4, s5, s6, s7⟩
                      go_simp
                      with_reducible rfl
                    rotate_left
                    · simp only [Act.put, List.setIfInBounds_toArray, List.set_cons_zero, List.set_cons_succ, i64_w, i32_w]
                      rfl
                    refine pure_ (i := 3) (N := some 24) (v := ?_) (a' := ?_) #[true, true, true, true, false, false, false, false, false, false, false, false, false, false, false, false, false, false, false, false, false, false, false, false, false, false, false, false] rfl rfl (any_of HT_.out (by kernel_rfl)) (fun _ _ _ h => h) (Or.inl ⟨by rfl, ?_⟩) ?_ ?_
                    rotate_left
                    · intro w'
                      go_simp
                      with_reducible rfl
                    rotate_left
                    · simp only [Act.put, List.setIfInBounds_toArray, List.set_cons_zero, List.set_cons_succ, i64_w, i32_w]
                      rfl
                    refine take_ (i := 4) (N := some 25) (v := ?_) (a' := ?_) #[true, true, true, true, true, false, false, false, false, false, false, false, false, false, false, false, false, false, false, false, false, false, false, false, false, false, false, false] rfl rfl (take_ofW HT_.out HW_.out (by kernel_rfl)) (fun _ _ _ h => h) (Or.inl ⟨by rfl, ?_⟩) hHeld ?_ ?_
                    rotate_left
                    · rintro w' ⟨s0, s1, s2, s3, s4, s5, s6, s7⟩
                      go_simp
                      with_reducible rfl
                    rotate_left
                    · simp only [Act.put, List.setIfInBounds_toArray, List.set_cons_zero, List.set_cons_succ, i64_w, i32_w]
                      rfl
                    refine one_ (i := 5) (N := some 26) #[true, true, true, true, true, true, false, false, false, false, false, false, false, false, false, false, false, false, false, false, false, false, false, false, false, false, false, false] rfl rfl (one_of HT_.out (by kernel_rfl)) (by decide) (fun K hK => ?_)
                    refine goes_ Try.func111 (by kernel_rfl) rfl #[.agg #[.string ((rd_T116 l0_1 x3_2).f0), .int .i64 ((rd_T116 l0_1 x3_2).f1.f0), .int .i64 ((rd_T116 l0_1 x3_2).f1.f1), .int .i64 ((rd_T116 l0_1 x3_2).f2), .int .i64 ((rd_T116 l0_1 x3_2).f3), .int .i64 ((rd_T116 l0_1 x3_2).f4)]] (by rfl) rfl rfl (by (try simp only [List.map_toArray, List.map_cons, List.map_nil]); first | done | rfl | (simp only [List.length_drop, List.length_take]; rfl)) ?_
                    with_reducible refine (spec_l26Proof.calls k2 ((rd_T116 l0_1 x3_2).f0) ((rd_T116 l0_1 x3_2).f1.f0) ((rd_T116 l0_1 x3_2).f1.f1) ((rd_T116 l0_1 x3_2).f2) ((rd_T116 l0_1 x3_2).f3) ((rd_T116 l0_1 x3_2).f4) true _ A11.out).mono ?_
                    rintro e w35 ⟨rfl, hb⟩
                    refine ⟨_, rfl, ?_⟩
                    have n0_ := Aside0.mk (blk_below (g := gb129) (o := .cells #[.int .i64 a0_0, .slice (some ad131) l0_1.length c0_1] 86 (0, 0)) (by (with_reducible repeat (first | refine blk_drewN ?_ _ | refine blk_drew ?_ | refine blk_alloc ?_ _)); exact BK129.out) hb)
                    have n1_ := Aside0.mk (below_step (by repeat (first | (with_reducible first | exact HB.out | apply below_alloc | apply pw_below_drewN | apply below_drew1 | refine below_set ?_ GE129.out) | exact HB.out)) hb)
                    clear BK129
                    clear HB
                    have BK129 := n0_
                    have HB := n1_
                    clear n0_ n1_
                    (try clear hb)
                    (try clear hb2)
                    (try clear hk)
                    (try clear hi)
                    refine hK.out _ _ ⟨(blk_cell BK129.out 0).trans rfl, (blk_cell BK129.out 1).trans rfl, ((HB.out.cell (World.block_lt_of_cell? w _ hw131_0)).trans hw131_0), ((HB.out.cell (World.block_lt_of_cell? w _ hw131_1)).trans hw131_1), ((HB.out.cell (World.block_lt_of_cell? w _ hw131_2)).trans hw131_2), ((HB.out.cell (World.block_lt_of_cell? w _ hw131_3)).trans hw131_3), ((HB.out.cell (World.block_lt_of_cell? w _ hw131_4)).trans hw131_4), ((HB.out.cell (World.block_lt_of_cell? w _ hw131_5)).trans hw131_5)⟩ (fun hHeld => ?_)
                    clear hK K
                    refine norm_ (a' := ?_) ?_ ?_
                    rotate_left
                    · show Act.put _ (some 26) _ = _
                      simp only [Act.put, List.setIfInBounds_toArray, List.set_cons_zero, List.set_cons_succ, i64_w, i32_w]
                      rfl
                    refine pure_ (i := 6) (N := some 27) (v := ?_) (a' := ?_) #[true, true, true, true, true, true, true, false, false, false, false, false, false, false, false, false, false, false, false, false, false, false, false, false, false, false, false, false] rfl rfl (any_of HT_.out (by kernel_rfl)) (fun _ _ _ h => h) (Or.inl ⟨by rfl, ?_⟩) ?_ ?_
                    rotate_left
                    · intro w'
                      go_simp
                      with_reducible rfl
                    rotate_left
                    · simp only [Act.put, List.setIfInBounds_toArray, List.set_cons_zero, List.set_cons_succ, i64_w, i32_w]
                      rfl
                    refine pure_ (i := 7) (N := some 28) (v := ?_) (a' := ?_) #[true, true, true, true, true, true, true, true, false, false, false, false, false, false, false, false, false, false, false, false, false, false, false, false, false, false, false, false] rfl rfl (any_of HT_.out (by kernel_rfl)) (fun _ _ _ h => h) (Or.inl ⟨by rfl, ?_⟩) ?_ ?_
                    rotate_left
                    · intro w'
                      go_simp
                      with_reducible rfl
                    rotate_left
                    · simp only [Act.put, List.setIfInBounds_toArray, List.set_cons_zero, List.set_cons_succ, i64_w, i32_w]
                      rfl
                    refine pure_ (i := 8) (N := some 29) (v := ?_) (a' := ?_) #[true, true, true, true, true, true, true, true, true, false, false, false, false, false, false, false, false, false, false, false, false, false, false, false, false, false, false, false] rfl rfl (any_of HT_.out (by kernel_rfl)) (fun _ _ _ h => h) (Or.inl ⟨by rfl, ?_⟩) ?_ ?_
                    rotate_left
                    · intro w'
                      go_simp
                      with_reducible rfl
                    rotate_left
                    · simp only [Act.put, List.setIfInBounds_toArray, List.set_cons_zero, List.set_cons_succ, i64_w, i32_w]
                      rfl
                    refine pure_ (i := 9) (N := some 30) (v := ?_) (a' := ?_) #[true, true, true, true, true, true, true, true, true, true, false, false, false, false, false, false, false, false, false, false, false, false, false, false, false, false, false, false] rfl rfl (any_of HT_.out (by kernel_rfl)) (fun _ _ _ h => h) (Or.inl ⟨by rfl, ?_⟩) ?_ ?_
                    rotate_left
                    · intro w'
                      go_simp
                      with_reducible rfl
                    rotate_left
                    · simp only [Act.put, List.setIfInBounds_toArray, List.set_cons_zero, List.set_cons_succ, i64_w, i32_w]
                      rfl
                    refine pure_ (i := 10) (N := some 31) (v := ?_) (a' := ?_) #[true, true, true, true, true, true, true, true, true, true, true, false, false, false, false, false, false, false, false, false, false, false, false, false, false, false, false, false] rfl rfl (any_of HT_.out (by kernel_rfl)) (fun _ _ _ h => h) (Or.inl ⟨by rfl, ?_⟩) ?_ ?_
                    rotate_left
                    · intro w'
                      go_simp
                      with_reducible rfl
                    rotate_left
                    · simp only [Act.put, List.setIfInBounds_toArray, List.set_cons_zero, List.set_cons_succ, i64_w, i32_w]
                      rfl
                    refine pure_ (i := 11) (N := some 32) (v := undef) (a' := ?_) #[true, true, true, true, true, true, true, true, true, true, true, true, false, false, false, false, false, false, false, false, false, false, false, false, false, false, false, false] rfl rfl (any_of HT_.out (by kernel_rfl)) (fun _ _ _ h => h) (Or.inr ⟨by rfl, rfl⟩) ?_ ?_
                    rotate_left
                    · simp only [Act.put, List.setIfInBounds_toArray, List.set_cons_zero, List.set_cons_succ, i64_w, i32_w]
                      rfl
                    refine pure_ (i := 12) (N := some 33) (v := undef) (a' := ?_) #[true, true, true, true, true, true, true, true, true, true, true, true, true, false, false, false, false, false, false, false, false, false, false, false, false, false, false, false] rfl rfl (any_of HT_.out (by kernel_rfl)) (fun _ _ _ h => h) (Or.inr ⟨by rfl, rfl⟩) ?_ ?_
                    rotate_left
                    · simp only [Act.put, List.setIfInBounds_toArray, List.set_cons_zero, List.set_cons_succ, i64_w, i32_w]
                      rfl
                    refine pure_ (i := 13) (N := some 34) (v := undef) (a' := ?_) #[true, true, true, true, true, true, true, true, true, true, true, true, true, true, false, false, false, false, false, false, false, false, false, false, false, false, false, false] rfl rfl (any_of HT_.out (by kernel_rfl)) (fun _ _ _ h => h) (Or.inr ⟨by rfl, rfl⟩) ?_ ?_
                    rotate_left
                    · simp only [Act.put, List.setIfInBounds_toArray, List.set_cons_zero, List.set_cons_succ, i64_w, i32_w]
                      rfl
                    refine pure_ (i := 14) (N := some 35) (v := undef) (a' := ?_) #[true, true, true, true, true, true, true, true, true, true, true, true, true, true, true, false, false, false, false, false, false, false, false, false, false, false, false, false] rfl rfl (any_of HT_.out (by kernel_rfl)) (fun _ _ _ h => h) (Or.inr ⟨by rfl, rfl⟩) ?_ ?_
                    rotate_left
                    · simp only [Act.put, List.setIfInBounds_toArray, List.set_cons_zero, List.set_cons_succ, i64_w, i32_w]
                      rfl
                    refine pure_ (i := 15) (N := some 36) (v := undef) (a' := ?_) #[true, true, true, true, true, true, true, true, true, true, true, true, true, true, true, true, false, false, false, false, false, false, false, false, false, false, false, false] rfl rfl (any_of HT_.out (by kernel_rfl)) (fun _ _ _ h => h) (Or.inr ⟨by rfl, rfl⟩) ?_ ?_
                    rotate_left
                    · simp only [Act.put, List.setIfInBounds_toArray, List.set_cons_zero, List.set_cons_succ, i64_w, i32_w]
                      rfl
                    refine pure_ (i := 16) (N := some 37) (v := undef) (a' := ?_) #[true, true, true, true, true, true, true, true, true, true, true, true, true, true, true, true, true, false, false, false, false, false, false, false, false, false, false, false] rfl rfl (any_of HT_.out (by kernel_rfl)) (fun _ _ _ h => h) (Or.inr ⟨by rfl, rfl⟩) ?_ ?_
                    rotate_left
                    · simp only [Act.put, List.setIfInBounds_toArray, List.set_cons_zero, List.set_cons_succ, i64_w, i32_w]
                      rfl
                    refine pure_ (i := 17) (N := some 38) (v := undef) (a' := ?_) #[true, true, true, true, true, true, true, true, true, true, true, true, true, true, true, true, true, true, false, false, false, false, false, false, false, false, false, false] rfl rfl (any_of HT_.out (by kernel_rfl)) (fun _ _ _ h => h) (Or.inr ⟨by rfl, rfl⟩) ?_ ?_
                    rotate_left
                    · simp only [Act.put, List.setIfInBounds_toArray, List.set_cons_zero, List.set_cons_succ, i64_w, i32_w]
                      rfl
                    refine pure_ (i := 18) (N := some 39) (v := undef) (a' := ?_) #[true, true, true, true, true, true, true, true, true, true, true, true, true, true, true, true, true, true, true, false, false, false, false, false, false, false, false, false] rfl rfl (any_of HT_.out (by kernel_rfl)) (fun _ _ _ h => h) (Or.inr ⟨by rfl, rfl⟩) ?_ ?_
                    rotate_left
                    · simp only [Act.put, List.setIfInBounds_toArray, List.set_cons_zero, List.set_cons_succ, i64_w, i32_w]
                      rfl
                    refine pure_ (i := 19) (N := some 40) (v := undef) (a' := ?_) #[true, true, true, true, true, true, true, true, true, true, true, true, true, true, true, true, true, true, true, true, false, false, false, false, false, false, false, false] rfl rfl (any_of HT_.out (by kernel_rfl)) (fun _ _ _ h => h) (Or.inr ⟨by rfl, rfl⟩) ?_ ?_
                    rotate_left
                    · simp only [Act.put, List.setIfInBounds_toArray, List.set_cons_zero, List.set_cons_succ, i64_w, i32_w]
                      rfl
                    refine pure_ (i := 20) (N := some 41) (v := undef) (a' := ?_) #[true, true, true, true, true, true, true, true, true, true, true, true, true, true, true, true, true, true, true, true, true, false, false, false, false, false, false, false] rfl rfl (any_of HT_.out (by kernel_rfl)) (fun _ _ _ h => h) (Or.inr ⟨by rfl, rfl⟩) ?_ ?_
                    rotate_left
                    · simp only [Act.put, List.setIfInBounds_toArray, List.set_cons_zero, List.set_cons_succ, i64_w, i32_w]
                      rfl
                    refine pure_ (i := 21) (N := some 42) (v := undef) (a' := ?_) #[true, true, true, true, true, true, true, true, true, true, true, true, true, true, true, true, true, true, true, true, true, true, false, false, false, false, false, false] rfl rfl (any_of HT_.out (by kernel_rfl)) (fun _ _ _ h => h) (Or.inr ⟨by rfl, rfl⟩) ?_ ?_
                    rotate_left
                    · simp only [Act.put, List.setIfInBounds_toArray, List.set_cons_zero, List.set_cons_succ, i64_w, i32_w]
                      rfl
                    refine pure_ (i := 22) (N := some 43) (v := undef) (a' := ?_) #[true, true, true, true, true, true, true, true, true, true, true, true, true, true, true, true, true, true, true, true, true, true, true, false, false, false, false, false] rfl rfl (any_of HT_.out (by kernel_rfl)) (fun _ _ _ h => h) (Or.inr ⟨by rfl, rfl⟩) ?_ ?_
                    rotate_left
                    · simp only [Act.put, List.setIfInBounds_toArray, List.set_cons_zero, List.set_cons_succ, i64_w, i32_w]
                      rfl
                    refine pure_ (i := 23) (N := some 44) (v := undef) (a' := ?_) #[true, true, true, true, true, true, true, true, true, true, true, true, true, true, true, true, true, true, true, true, true, true, true, true, false, false, false, false] rfl rfl (any_of HT_.out (by kernel_rfl)) (fun _ _ _ h => h) (Or.inr ⟨by rfl, rfl⟩) ?_ ?_
                    rotate_left
                    · simp only [Act.put, List.setIfInBounds_toArray, List.set_cons_zero, List.set_cons_succ, i64_w, i32_w]
                      rfl
                    refine pure_ (i := 24) (N := some 45) (v := undef) (a' := ?_) #[true, true, true, true, true, true, true, true, true, true, true, true, true, true, true, true, true, true, true, true, true, true, true, true, true, false, false, false] rfl rfl (any_of HT_.out (by kernel_rfl)) (fun _ _ _ h => h) (Or.inr ⟨by rfl, rfl⟩) ?_ ?_
                    rotate_left
                    · simp only [Act.put, List.setIfInBounds_toArray, List.set_cons_zero, List.set_cons_succ, i64_w, i32_w]
                      rfl
                    refine pure_ (i := 25) (N := some 46) (v := undef) (a' := ?_) #[true, true, true, true, true, true, true, true, true, true, true, true, true, true, true, true, true, true, true, true, true, true, true, true, true, true, false, false] rfl rfl (any_of HT_.out (by kernel_rfl)) (fun _ _ _ h => h) (Or.inr ⟨by rfl, rfl⟩) ?_ ?_
                    rotate_left
                    · simp only [Act.put, List.setIfInBounds_toArray, List.set_cons_zero, List.set_cons_succ, i64_w, i32_w]
                      rfl
                    refine pure_ (i := 26) (N := some 47) (v := ?_) (a' := ?_) #[true, true, true, true, true, true, true, true, true, true, true, true, true, true, true, true, true, true, true, true, true, true, true, true, true, true, true, false] rfl rfl (any_of HT_.out (by kernel_rfl)) (fun _ _ _ h => h) (Or.inl ⟨by rfl, ?_⟩) ?_ ?_
                    rotate_left
                    · intro w'
                      go_simp
                      with_reducible rfl
                    rotate_left
                    · simp only [Act.put, List.setIfInBounds_toArray, List.set_cons_zero, List.set_cons_succ, i64_w, i32_w]
                      rfl
                    refine pure_ (i := 27) (N := some 48) (v := ?_) (a' := ?_) #[true, true, true, true, true, true, true, true, true, true, true, true, true, true, true, true, true, true, true, true, true, true, true, true, true, true, true, true] rfl rfl (any_of HT_.out (by kernel_rfl)) (fun _ _ _ h => h) (Or.inl ⟨by rfl, ?_⟩) ?_ ?_
                    rotate_left
                    · intro w'
                      go_simp
                      with_reducible rfl
                    rotate_left
                    · simp only [Act.put, List.setIfInBounds_toArray, List.set_cons_zero, List.set_cons_succ, i64_w, i32_w]
                      rfl
                    refine done_ (done_of HT_.out (by kernel_rfl)) ?_
                    try go_wp2
                    go_roundg k2
                    case measure => have := HJ1.out; have := HK2.out; omega
                    case rel => exact ⟨(wrap64 (x3_2 + 1)), (by first | rfl | (simp; done) | (simp [*]; done)), H', ⟨by have := HJ1.out; have := HK2.out; omega⟩, ⟨by (with_reducible repeat (first | refine blk_drewN ?_ _ | refine blk_drew ?_ | refine blk_alloc ?_ _)); exact BK129.out⟩, ⟨by repeat (first | (with_reducible first | exact HB.out | apply below_alloc | apply pw_below_drewN | apply below_drew1 | refine below_set ?_ GE129.out) | exact HB.out)⟩⟩
                · replace c12 := Bool.eq_false_iff.mpr c12
                  subst c12
                  have H1 : (some false) = some r := by rw [if_neg (show ¬ (false = true) by decide)] at H; exact H
                  clear H
                  have H := H1
                  clear H1
                  obtain rfl := Option.some.inj H
                  have hcz36_0 : wr.cell? ⟨gb129, 0, none⟩ = some (.int .i64 a0_0) := (blk_cell BK129.out 0).trans rfl
                  have hcz36_1 : wr.cell? ⟨gb129, 1, none⟩ = some (.slice A0_1 l0_1.length c0_1) := (blk_cell BK129.out 1).trans rfl
                  have hfz36_0 := blk_frozen BK129.out 0
                  have hfz36_1 := blk_frozen BK129.out 1
                  try go_wp2
                  have n0_ := Aside0.mk (blk_drew BK129.out)
                  have n1_ := Aside0.mk (below_drew1 HB.out)
                  clear BK129
                  clear HB
                  have BK129 := n0_
                  have HB := n1_
                  clear n0_ n1_
                  have p131 : 0 ≤ (x3_2 : Int) := of_decide_eq_true (by first | (with_reducible assumption) | assumption)
                  have q131 : x3_2 < (l0_1.length : Int) := of_decide_eq_true (by first | (with_reducible assumption) | assumption)
                  obtain ⟨ad131, e131, hx131_0, hx131_1, hx131_2, hx131_3, hx131_4, hx131_5⟩ := at_T116 HR0_1.out x3_2 p131 q131
                  have hw131_5 := hx131_5
                  have hw131_4 := hx131_4
                  have hw131_3 := hx131_3
                  have hw131_2 := hx131_2
                  have hw131_1 := hx131_1
                  have hw131_0 := hx131_0
                  cases e131
                  replace hx131_0 := (HB.out.cell (World.block_lt_of_cell? w _ hx131_0)).trans hx131_0
                  replace hx131_1 := (HB.out.cell (World.block_lt_of_cell? w _ hx131_1)).trans hx131_1
                  replace hx131_2 := (HB.out.cell (World.block_lt_of_cell? w _ hx131_2)).trans hx131_2
                  replace hx131_3 := (HB.out.cell (World.block_lt_of_cell? w _ hx131_3)).trans hx131_3
                  replace hx131_4 := (HB.out.cell (World.block_lt_of_cell? w _ hx131_4)).trans hx131_4
                  replace hx131_5 := (HB.out.cell (World.block_lt_of_cell? w _ hx131_5)).trans hx131_5
                  replace p131 := eq_true p131
                  replace q131 := eq_true q131
                  refine start_ (n := 28) (S := fun w' => w'.cell? ⟨gb129, 0, none⟩ = some (.int .i64 a0_0) ∧ w'.cell? ⟨gb129, 1, none⟩ = some (.slice (some ad131) l0_1.length c0_1) ∧ w'.cell? (ad131.add ((x3_2).toNat * 6)) = some (.string ((rd_T116 l0_1 x3_2).f0)) ∧ w'.cell? ⟨(ad131.add ((x3_2).toNat * 6)).block, (ad131.add ((x3_2).toNat * 6)).off + 1, none⟩ = some (.int .i64 ((rd_T116 l0_1 x3_2).f1.f0)) ∧ w'.cell? ⟨(ad131.add ((x3_2).toNat * 6)).block, (ad131.add ((x3_2).toNat * 6)).off + 2, none⟩ = some (.int .i64 ((rd_T116 l0_1 x3_2).f1.f1)) ∧ w'.cell? ⟨(ad131.add ((x3_2).toNat * 6)).block, (ad131.add ((x3_2).toNat * 6)).off + 3, none⟩ = some (.int .i64 ((rd_T116 l0_1 x3_2).f2)) ∧ w'.cell? ⟨(ad131.add ((x3_2).toNat * 6)).block, (ad131.add ((x3_2).toNat * 6)).off + 4, none⟩ = some (.int .i64 ((rd_T116 l0_1 x3_2).f3)) ∧ w'.cell? ⟨(ad131.add ((x3_2).toNat * 6)).block, (ad131.add ((x3_2).toNat * 6)).off + 5, none⟩ = some (.int .i64 ((rd_T116 l0_1 x3_2).f4))) (ds := []) #[false, false, false, false, false, false, false, false, false, false, false, false, false, false, false, false, false, false, false, false, false, false, false, false, false, false, false, false] (by kernel_rfl) rfl rfl ⟨(blk_cell BK129.out 0).trans rfl, (blk_cell BK129.out 1).trans rfl, ((HB.out.cell (World.block_lt_of_cell? w _ hw131_0)).trans hw131_0), ((HB.out.cell (World.block_lt_of_cell? w _ hw131_1)).trans hw131_1), ((HB.out.cell (World.block_lt_of_cell? w _ hw131_2)).trans hw131_2), ((HB.out.cell (World.block_lt_of_cell? w _ hw131_3)).trans hw131_3), ((HB.out.cell (World.block_lt_of_cell? w _ hw131_4)).trans hw131_4), ((HB.out.cell (World.block_lt_of_cell? w _ hw131_5)).trans hw131_5)⟩ (fun hHeld => ?_); refine with_tabW spec_l26OK.tab6 spec_l26OK.bits6 (fun HT_ HW_ => ?_)
                  generalize wr.drew = w37 at BK129 HB hx131_0 hx131_1 hx131_2 hx131_3 hx131_4 hx131_5 hHeld ⊢
                  refine pure_ (i := 0) (N := some 21) (v := ?_) (a' := ?_) #[true, false, false, false, false, false, false, false, false, false, false, false, false, false, false, false, false, false, false, false, false, false, false, false, false, false, false, false] rfl rfl (any_of HT_.out (by kernel_rfl)) (fun _ _ _ h => h) (Or.inl ⟨by rfl, ?_⟩) ?_ ?_
                  rotate_left
                  · intro w'
                    go_simp
                    with_reducible rfl
                  rotate_left
                  · simp only [Act.put, List.setIfInBounds_toArray, List.set_cons_zero, List.set_cons_succ, i64_w, i32_w]
                    rfl
                  refine pure_ (i := 2) (N := some 23) (v := ?_) (a' := ?_) #[true, false, true, false, false, false, false, false, false, false, false, false, false, false, false, false, false, false, false, false, false, false, false, false, false, false, false, false] rfl rfl (any_of HT_.out (by kernel_rfl)) (fun _ _ _ h => h) (Or.inl ⟨by rfl, ?_⟩) ?_ ?_
                  rotate_left
                  · intro w'
                    go_simp
                    with_reducible rfl
                  rotate_left
                  · simp only [Act.put, List.setIfInBounds_toArray, List.set_cons_zero, List.set_cons_succ, i64_w, i32_w]
                    rfl
                  refine take_ (i := 1) (N := some 22) (v := ?_) (a' := ?_) #[true, true, true, false, false, false, false, false, false, false, false, false, false, false, false, false, false, false, false, false, false, false, false, false, false, false, false, false] rfl rfl (take_ofW HT_.out HW_.out (by kernel_rfl)) (fun _ _ _ h => h) (Or.inl ⟨by rfl, ?_⟩) hHeld ?_ ?_
                  rotate_left
                  · rintro w' ⟨s0, s1, s2, s3, s4, s5, s6, s7⟩
                    go_simp
                    with_reducible rfl
                  rotate_left
                  · simp only [Act.put, List.setIfInBounds_toArray, List.set_cons_zero, List.set_cons_succ, i64_w, i32_w]
                    rfl
                  refine pure_ (i := 3) (N := some 24) (v := ?_) (a' := ?_) #[true, true, true, true, false, false, false, false, false, false, false, false, false, false, false, false, false, false, false, false, false, false, false, false, false, false, false, false] rfl rfl (any_of HT_.out (by kernel_rfl)) (fun _ _ _ h => h) (Or.inl ⟨by rfl, ?_⟩) ?_ ?_
                  rotate_left
                  · intro w'
                    go_simp
                    with_reducible rfl
                  rotate_left
                  · simp only [Act.put, List.setIfInBounds_toArray, List.set_cons_zero, List.set_cons_succ, i64_w, i32_w]
                    rfl
                  refine take_ (i := 4) (N := some 25) (v := ?_) (a' := ?_) #[true, true, true, true, true, false, false, false, false, false, false, false, false, false, false, false, false, false, false, false, false, false, false, false, false, false, false, false] rfl rfl (take_ofW HT_.out HW_.out (by kernel_rfl)) (fun _ _ _ h => h) (Or.inl ⟨by rfl, ?_⟩) hHeld ?_ ?_
                  rotate_left
                  · rintro w' ⟨s0, s1, s2, s3, s4, s5, s6, s7⟩
                    go_simp
                    with_reducible rfl
                  rotate_left
                  · simp only [Act.put, List.setIfInBounds_toArray, List.set_cons_zero, List.set_cons_succ, i64_w, i32_w]
                    rfl
                  refine one_ (i := 5) (N := some 26) #[true, true, true, true, true, true, false, false, false, false, false, false, false, false, false, false, false, false, false, false, false, false, false, false, false, false, false, false] rfl rfl (one_of HT_.out (by kernel_rfl)) (by decide) (fun K hK => ?_)
                  refine goes_ Try.func111 (by kernel_rfl) rfl #[.agg #[.string ((rd_T116 l0_1 x3_2).f0), .int .i64 ((rd_T116 l0_1 x3_2).f1.f0), .int .i64 ((rd_T116 l0_1 x3_2).f1.f1), .int .i64 ((rd_T116 l0_1 x3_2).f2), .int .i64 ((rd_T116 l0_1 x3_2).f3), .int .i64 ((rd_T116 l0_1 x3_2).f4)]] (by rfl) rfl rfl (by (try simp only [List.map_toArray, List.map_cons, List.map_nil]); first | done | rfl | (simp only [List.length_drop, List.length_take]; rfl)) ?_
                  with_reducible refine (spec_l26Proof.calls k2 ((rd_T116 l0_1 x3_2).f0) ((rd_T116 l0_1 x3_2).f1.f0) ((rd_T116 l0_1 x3_2).f1.f1) ((rd_T116 l0_1 x3_2).f2) ((rd_T116 l0_1 x3_2).f3) ((rd_T116 l0_1 x3_2).f4) false _ A11.out).mono ?_
                  rintro e w38 ⟨rfl, hb⟩
                  refine ⟨_, rfl, ?_⟩
                  have n0_ := Aside0.mk (blk_below (g := gb129) (o := .cells #[.int .i64 a0_0, .slice (some ad131) l0_1.length c0_1] 86 (0, 0)) (by (with_reducible repeat (first | refine blk_drewN ?_ _ | refine blk_drew ?_ | refine blk_alloc ?_ _)); exact BK129.out) hb)
                  have n1_ := Aside0.mk (below_step (by repeat (first | (with_reducible first | exact HB.out | apply below_alloc | apply pw_below_drewN | apply below_drew1 | refine below_set ?_ GE129.out) | exact HB.out)) hb)
                  clear BK129
                  clear HB
                  have BK129 := n0_
                  have HB := n1_
                  clear n0_ n1_
                  (try clear hb)
                  (try clear hb2)
                  (try clear hk)
                  (try clear hi)
                  refine hK.out _ _ ⟨(blk_cell BK129.out 0).trans rfl, (blk_cell BK129.out 1).trans rfl, ((HB.out.cell (World.block_lt_of_cell? w _ hw131_0)).trans hw131_0), ((HB.out.cell (World.block_lt_of_cell? w _ hw131_1)).trans hw131_1), ((HB.out.cell (World.block_lt_of_cell? w _ hw131_2)).trans hw131_2), ((HB.out.cell (World.block_lt_of_cell? w _ hw131_3)).trans hw131_3), ((HB.out.cell (World.block_lt_of_cell? w _ hw131_4)).trans hw131_4), ((HB.out.cell (World.block_lt_of_cell? w _ hw131_5)).trans hw131_5)⟩ (fun hHeld => ?_)
                  clear hK K
                  refine norm_ (a' := ?_) ?_ ?_
                  rotate_left
                  · show Act.put _ (some 26) _ = _
                    simp only [Act.put, List.setIfInBounds_toArray, List.set_cons_zero, List.set_cons_succ, i64_w, i32_w]
                    rfl
                  refine pure_ (i := 6) (N := some 27) (v := ?_) (a' := ?_) #[true, true, true, true, true, true, true, false, false, false, false, false, false, false, false, false, false, false, false, false, false, false, false, false, false, false, false, false] rfl rfl (any_of HT_.out (by kernel_rfl)) (fun _ _ _ h => h) (Or.inl ⟨by rfl, ?_⟩) ?_ ?_
                  rotate_left
                  · intro w'
                    go_simp
                    with_reducible rfl
                  rotate_left
                  · simp only [Act.put, List.setIfInBounds_toArray, List.set_cons_zero, List.set_cons_succ, i64_w, i32_w]
                    rfl
                  refine pure_ (i := 7) (N := some 28) (v := ?_) (a' := ?_) #[true, true, true, true, true, true, true, true, false, false, false, false, false, false, false, false, false, false, false, false, false, false, false, false, false, false, false, false] rfl rfl (any_of HT_.out (by kernel_rfl)) (fun _ _ _ h => h) (Or.inl ⟨by rfl, ?_⟩) ?_ ?_
                  rotate_left
                  · intro w'
                    go_simp
                    with_reducible rfl
                  rotate_left
                  · simp only [Act.put, List.setIfInBounds_toArray, List.set_cons_zero, List.set_cons_succ, i64_w, i32_w]
                    rfl
                  refine pure_ (i := 8) (N := some 29) (v := undef) (a' := ?_) #[true, true, true, true, true, true, true, true, true, false, false, false, false, false, false, false, false, false, false, false, false, false, false, false, false, false, false, false] rfl rfl (any_of HT_.out (by kernel_rfl)) (fun _ _ _ h => h) (Or.inr ⟨by rfl, rfl⟩) ?_ ?_
                  rotate_left
                  · simp only [Act.put, List.setIfInBounds_toArray, List.set_cons_zero, List.set_cons_succ, i64_w, i32_w]
                    rfl
                  refine pure_ (i := 9) (N := some 30) (v := undef) (a' := ?_) #[true, true, true, true, true, true, true, true, true, true, false, false, false, false, false, false, false, false, false, false, false, false, false, false, false, false, false, false] rfl rfl (any_of HT_.out (by kernel_rfl)) (fun _ _ _ h => h) (Or.inr ⟨by rfl, rfl⟩) ?_ ?_
                  rotate_left
                  · simp only [Act.put, List.setIfInBounds_toArray, List.set_cons_zero, List.set_cons_succ, i64_w, i32_w]
                    rfl
                  refine pure_ (i := 10) (N := some 31) (v := undef) (a' := ?_) #[true, true, true, true, true, true, true, true, true, true, true, false, false, false, false, false, false, false, false, false, false, false, false, false, false, false, false, false] rfl rfl (any_of HT_.out (by kernel_rfl)) (fun _ _ _ h => h) (Or.inr ⟨by rfl, rfl⟩) ?_ ?_
                  rotate_left
                  · simp only [Act.put, List.setIfInBounds_toArray, List.set_cons_zero, List.set_cons_succ, i64_w, i32_w]
                    rfl
                  refine pure_ (i := 11) (N := some 32) (v := undef) (a' := ?_) #[true, true, true, true, true, true, true, true, true, true, true, true, false, false, false, false, false, false, false, false, false, false, false, false, false, false, false, false] rfl rfl (any_of HT_.out (by kernel_rfl)) (fun _ _ _ h => h) (Or.inr ⟨by rfl, rfl⟩) ?_ ?_
                  rotate_left
                  · simp only [Act.put, List.setIfInBounds_toArray, List.set_cons_zero, List.set_cons_succ, i64_w, i32_w]
                    rfl
                  refine pure_ (i := 12) (N := some 33) (v := undef) (a' := ?_) #[true, true, true, true, true, true, true, true, true, true, true, true, true, false, false, false, false, false, false, false, false, false, false, false, false, false, false, false] rfl rfl (any_of HT_.out (by kernel_rfl)) (fun _ _ _ h => h) (Or.inr ⟨by rfl, rfl⟩) ?_ ?_
                  rotate_left
                  · simp only [Act.put, List.setIfInBounds_toArray, List.set_cons_zero, List.set_cons_succ, i64_w, i32_w]
                    rfl
                  refine pure_ (i := 13) (N := some 34) (v := undef) (a' := ?_) #[true, true, true, true, true, true, true, true, true, true, true, true, true, true, false, false, false, false, false, false, false, false, false, false, false, false, false, false] rfl rfl (any_of HT_.out (by kernel_rfl)) (fun _ _ _ h => h) (Or.inr ⟨by rfl, rfl⟩) ?_ ?_
                  rotate_left
                  · simp only [Act.put, List.setIfInBounds_toArray, List.set_cons_zero, List.set_cons_succ, i64_w, i32_w]
                    rfl
                  refine pure_ (i := 14) (N := some 35) (v := undef) (a' := ?_) #[true, true, true, true, true, true, true, true, true, true, true, true, true, true, true, false, false, false, false, false, false, false, false, false, false, false, false, false] rfl rfl (any_of HT_.out (by kernel_rfl)) (fun _ _ _ h => h) (Or.inr ⟨by rfl, rfl⟩) ?_ ?_
                  rotate_left
                  · simp only [Act.put, List.setIfInBounds_toArray, List.set_cons_zero, List.set_cons_succ, i64_w, i32_w]
                    rfl
                  refine pure_ (i := 15) (N := some 36) (v := undef) (a' := ?_) #[true, true, true, true, true, true, true, true, true, true, true, true, true, true, true, true, false, false, false, false, false, false, false, false, false, false, false, false] rfl rfl (any_of HT_.out (by kernel_rfl)) (fun _ _ _ h => h) (Or.inr ⟨by rfl, rfl⟩) ?_ ?_
                  rotate_left
                  · simp only [Act.put, List.setIfInBounds_toArray, List.set_cons_zero, List.set_cons_succ, i64_w, i32_w]
                    rfl
                  refine pure_ (i := 16) (N := some 37) (v := undef) (a' := ?_) #[true, true, true, true, true, true, true, true, true, true, true, true, true, true, true, true, true, false, false, false, false, false, false, false, false, false, false, false] rfl rfl (any_of HT_.out (by kernel_rfl)) (fun _ _ _ h => h) (Or.inr ⟨by rfl, rfl⟩) ?_ ?_
                  rotate_left
                  · simp only [Act.put, List.setIfInBounds_toArray, List.set_cons_zero, List.set_cons_succ, i64_w, i32_w]
                    rfl
                  refine pure_ (i := 17) (N := some 38) (v := undef) (a' := ?_) #[true, true, true, true, true, true, true, true, true, true, true, true, true, true, true, true, true, true, false, false, false, false, false, false, false, false, false, false] rfl rfl (any_of HT_.out (by kernel_rfl)) (fun _ _ _ h => h) (Or.inr ⟨by rfl, rfl⟩) ?_ ?_
                  rotate_left
                  · simp only [Act.put, List.setIfInBounds_toArray, List.set_cons_zero, List.set_cons_succ, i64_w, i32_w]
                    rfl
                  refine pure_ (i := 18) (N := some 39) (v := undef) (a' := ?_) #[true, true, true, true, true, true, true, true, true, true, true, true, true, true, true, true, true, true, true, false, false, false, false, false, false, false, false, false] rfl rfl (any_of HT_.out (by kernel_rfl)) (fun _ _ _ h => h) (Or.inr ⟨by rfl, rfl⟩) ?_ ?_
                  rotate_left
                  · simp only [Act.put, List.setIfInBounds_toArray, List.set_cons_zero, List.set_cons_succ, i64_w, i32_w]
                    rfl
                  refine pure_ (i := 19) (N := some 40) (v := undef) (a' := ?_) #[true, true, true, true, true, true, true, true, true, true, true, true, true, true, true, true, true, true, true, true, false, false, false, false, false, false, false, false] rfl rfl (any_of HT_.out (by kernel_rfl)) (fun _ _ _ h => h) (Or.inr ⟨by rfl, rfl⟩) ?_ ?_
                  rotate_left
                  · simp only [Act.put, List.setIfInBounds_toArray, List.set_cons_zero, List.set_cons_succ, i64_w, i32_w]
                    rfl
                  refine pure_ (i := 20) (N := some 41) (v := undef) (a' := ?_) #[true, true, true, true, true, true, true, true, true, true, true, true, true, true, true, true, true, true, true, true, true, false, false, false, false, false, false, false] rfl rfl (any_of HT_.out (by kernel_rfl)) (fun _ _ _ h => h) (Or.inr ⟨by rfl, rfl⟩) ?_ ?_
                  rotate_left
                  · simp only [Act.put, List.setIfInBounds_toArray, List.set_cons_zero, List.set_cons_succ, i64_w, i32_w]
                    rfl
                  refine pure_ (i := 21) (N := some 42) (v := undef) (a' := ?_) #[true, true, true, true, true, true, true, true, true, true, true, true, true, true, true, true, true, true, true, true, true, true, false, false, false, false, false, false] rfl rfl (any_of HT_.out (by kernel_rfl)) (fun _ _ _ h => h) (Or.inr ⟨by rfl, rfl⟩) ?_ ?_
                  rotate_left
                  · simp only [Act.put, List.setIfInBounds_toArray, List.set_cons_zero, List.set_cons_succ, i64_w, i32_w]
                    rfl
                  refine pure_ (i := 22) (N := some 43) (v := undef) (a' := ?_) #[true, true, true, true, true, true, true, true, true, true, true, true, true, true, true, true, true, true, true, true, true, true, true, false, false, false, false, false] rfl rfl (any_of HT_.out (by kernel_rfl)) (fun _ _ _ h => h) (Or.inr ⟨by rfl, rfl⟩) ?_ ?_
                  rotate_left
                  · simp only [Act.put, List.setIfInBounds_toArray, List.set_cons_zero, List.set_cons_succ, i64_w, i32_w]
                    rfl
                  refine pure_ (i := 23) (N := some 44) (v := undef) (a' := ?_) #[true, true, true, true, true, true, true, true, true, true, true, true, true, true, true, true, true, true, true, true, true, true, true, true, false, false, false, false] rfl rfl (any_of HT_.out (by kernel_rfl)) (fun _ _ _ h => h) (Or.inr ⟨by rfl, rfl⟩) ?_ ?_
                  rotate_left
                  · simp only [Act.put, List.setIfInBounds_toArray, List.set_cons_zero, List.set_cons_succ, i64_w, i32_w]
                    rfl
                  refine pure_ (i := 24) (N := some 45) (v := undef) (a' := ?_) #[true, true, true, true, true, true, true, true, true, true, true, true, true, true, true, true, true, true, true, true, true, true, true, true, true, false, false, false] rfl rfl (any_of HT_.out (by kernel_rfl)) (fun _ _ _ h => h) (Or.inr ⟨by rfl, rfl⟩) ?_ ?_
                  rotate_left
                  · simp only [Act.put, List.setIfInBounds_toArray, List.set_cons_zero, List.set_cons_succ, i64_w, i32_w]
                    rfl
                  refine pure_ (i := 25) (N := some 46) (v := undef) (a' := ?_) #[true, true, true, true, true, true, true, true, true, true, true, true, true, true, true, true, true, true, true, true, true, true, true, true, true, true, false, false] rfl rfl (any_of HT_.out (by kernel_rfl)) (fun _ _ _ h => h) (Or.inr ⟨by rfl, rfl⟩) ?_ ?_
                  rotate_left
                  · simp only [Act.put, List.setIfInBounds_toArray, List.set_cons_zero, List.set_cons_succ, i64_w, i32_w]
                    rfl
                  refine pure_ (i := 26) (N := some 47) (v := undef) (a' := ?_) #[true, true, true, true, true, true, true, true, true, true, true, true, true, true, true, true, true, true, true, true, true, true, true, true, true, true, true, false] rfl rfl (any_of HT_.out (by kernel_rfl)) (fun _ _ _ h => h) (Or.inr ⟨by rfl, rfl⟩) ?_ ?_
                  rotate_left
                  · simp only [Act.put, List.setIfInBounds_toArray, List.set_cons_zero, List.set_cons_succ, i64_w, i32_w]
                    rfl
                  refine pure_ (i := 27) (N := some 48) (v := ?_) (a' := ?_) #[true, true, true, true, true, true, true, true, true, true, true, true, true, true, true, true, true, true, true, true, true, true, true, true, true, true, true, true] rfl rfl (any_of HT_.out (by kernel_rfl)) (fun _ _ _ h => h) (Or.inl ⟨by rfl, ?_⟩) ?_ ?_
                  rotate_left
                  · intro w'
                    go_simp
                    with_reducible rfl
                  rotate_left
                  · simp only [Act.put, List.setIfInBounds_toArray, List.set_cons_zero, List.set_cons_succ, i64_w, i32_w]
                    rfl
                  refine done_ (done_of HT_.out (by kernel_rfl)) ?_
                  try go_wp2
                  go_ret
                  exact ⟨by first | rfl | (simp [errW_none, errW_some] <;> rfl) | (simp [*, errW_none, errW_some] <;> rfl), by repeat (first | (with_reducible first | exact HB.out | apply below_alloc | apply pw_below_drewN | apply below_drew1 | refine below_set ?_ GE129.out) | exact HB.out)⟩
              · rw [if_neg c10] at H
                exact absurd H (by simp)
            · rw [if_neg c9] at H
              have c9b0 : decide (x3_2 < (l0_1.length : Int)) = false := decide_eq_false c9
              clear c9
              obtain rfl := Option.some.inj H
              have hcz39_0 : wr.cell? ⟨gb129, 0, none⟩ = some (.int .i64 a0_0) := (blk_cell BK129.out 0).trans rfl
              have hcz39_1 : wr.cell? ⟨gb129, 1, none⟩ = some (.slice A0_1 l0_1.length c0_1) := (blk_cell BK129.out 1).trans rfl
              have hfz39_0 := blk_frozen BK129.out 0
              have hfz39_1 := blk_frozen BK129.out 1
              go_wp2
              go_ret
              exact ⟨by first | rfl | (simp [errW_none, errW_some] <;> rfl) | (simp [*, errW_none, errW_some] <;> rfl), by repeat (first | (with_reducible first | exact HB.out | apply below_alloc | apply pw_below_drewN | apply below_drew1 | refine below_set ?_ GE129.out) | exact HB.out)⟩

end Go.Proofs.Ytgdlpdkkncjbbaa.MFnExactReportOk
