/- The program's Chosen, walked over the machine: the loops. -/
import Derived.Test.YtmmgknhefobloaaFunMH
import Derived.Maps.RangeRun
namespace Go.Proofs.Ytmmgknhefobloaa.Hlp
open Go Go.RowKit Go.Proofs Go.Proofs.Ytmmgknhefobloaa.Lw
set_option linter.unusedVariables false
set_option linter.unusedSimpArgs false
set_option maxRecDepth 100000
set_option maxHeartbeats 4000000
/-- What the program's Chosen hands back. -/
def ChOut (l : List GMon) (e : Int) (w : World) (ex : Ending) (w' : World) : Prop :=
  (monsF l = false ∧ ex = .returned (.tuple #[.slice none 0 0, .bool false])) ∨
  (monsF l = true ∧ (∀ b, V e l b → mostC l.length (cntTo e b l) = false) ∧ ex = .returned (.tuple #[.slice none 0 0, .bool true])) ∨
  (monsF l = true ∧ ∃ b g, V e l b ∧ mostC l.length (cntTo e b l) = true ∧ w.heap.size ≤ g ∧ ex = .returned (.tuple #[.slice (some ⟨g, 0, none⟩) 1 1, .bool true]) ∧ w'.heap[g]? = some (.cells (List.toArray [.int .i64 (incTo e b l).Epoch, .int .i64 (incTo e b l).Kind, .int .i64 (incTo e b l).A, .int .i64 (incTo e b l).B]) 48 (0, 0)))
theorem wpList_run_append {P : Program} (w : World) {ops : Array Oper} {rest : List Oper} {o : Oper} {a : Act} {Q : Exit → Act → World → Prop} (hgd : o.guard = none) (s x : Operand) (t : TypeId)
    (ho : o.op = .call { callee := .builtin .append, args := #[s, x], argTypes := #[t, t] }) (v xv v' : Value) (w' : World) (hs : a.eval s = v) (hx : a.eval x = xv) (hr : (Builtin.append_ #[t, t] o.type #[v, xv]).run P w = .ok v' w')
    (h : wpList P ops Q rest (a.put o.dst v') w') : wpList P ops Q (o :: rest) a w := by
  refine wpList_plain hgd fun K' hK' => ?_
  unfold Oper.wp execOp
  simp only [ho, resolve, invoke, builtin, Sem.run_bind, Sem.run_pure, Result.andThen_ok, List.map_toArray, List.map_cons, List.map_nil, hs, hx, hr]
  exact hK' _ _ h
theorem cell_new (w : World) (cs : Array Value) (t : TypeId) (j : Nat) (u : Value) (h : cs[j]? = some u) : (w.alloc (.cells cs t)).cell? ⟨w.heap.size, j, none⟩ = some u := by
  unfold World.cell?
  rw [heap_alloc_new]
  simpa using h
theorem cell_old {w : World} {a : Addr} {u : Value} (h : w.cell? a = some u) (o : Obj) : (w.alloc o).cell? a = some u := by
  have hb := block_lt_of_cell h
  unfold World.cell? at h ⊢
  rw [heap_alloc_old w o hb]
  exact h
theorem alloc_size (w : World) (o : Obj) : (w.alloc o).heap.size = w.heap.size + 1 := Array.size_push ..
theorem cell_heap {w w' : World} {b j : Nat} {u : Value} (hb : w'.heap[b]? = w.heap[b]?) (h : w.cell? ⟨b, j, none⟩ = some u) : w'.cell? ⟨b, j, none⟩ = some u := by
  unfold World.cell? at h ⊢
  rw [hb]
  exact h
theorem acc_ok {l : List GMon} (h : monsF l = true) {k : Nat} {m : GMon} (hx : l[k]? = some m) (e : Int) : okB (slotF m.Slots e).Accepted ∧ m.Many = (l.length : Int) ∧ l.length ≤ 5 := by
  unfold monsF inR at h
  simp only [Bool.and_eq_true, decide_eq_true_eq] at h
  obtain ⟨⟨h0, h1⟩, h2⟩ := h
  rw [allR_iff] at h2
  have h3 := h2 k (List.getElem?_eq_some_iff.1 hx).1
  rw [monP_at hx] at h3
  simp only [Bool.and_eq_true, beq_iff_eq] at h3
  refine ⟨?_, h3.2, by omega⟩
  have h4 := h3.1.1
  unfold monOkF at h4
  simp only [Bool.and_eq_true] at h4
  have h5 := allR_iff.1 h4.2
  unfold slotF
  cases hf : m.Slots.find? (fun s => s.Epoch == e) with
  | none => exact ⟨⟨Int.le_refl 0, show (0 : Int) ≤ 999 by omega⟩, ⟨Int.le_refl 0, show (0 : Int) ≤ 999 by omega⟩⟩
  | some s =>
    obtain ⟨j, hj, rfl⟩ := List.getElem_of_mem (List.mem_of_find?_eq_some hf)
    have h6 := h5 j hj
    unfold slotP at h6
    rw [List.getElem?_eq_getElem hj] at h6
    simp only [Bool.and_eq_true] at h6
    have h7 := h6.1
    unfold slotOkF ballotOkF inR at h7
    simp only [Bool.and_eq_true, Bool.or_eq_true, decide_eq_true_eq] at h7
    show okB m.Slots[j].Accepted
    rcases h7.1.1.2 with h8 | h8
    · rw [h8]
      exact ⟨⟨Int.le_refl _, by decide⟩, ⟨Int.le_refl _, by decide⟩⟩
    · unfold okB
      omega
theorem chosen_c (M : Mem) (l : List GMon) (A : Option Addr) (c : Nat) (h : SlR M RMon 15 168 A c l) (e : Int) (w : World) (hw : Know M w) :
    Calls Try.prog 7 #[.slice A l.length c, .int .i64 e] w fun ex w' => Below w.heap.size w w' ∧ ChOut l e w ex w' := by
  have hl := h.len
  have hmm := @run_makeMap Try.prog
  go_enter Try.func7, Try.ntmps7
  go_wp2_with (go_at_call 19; refine ((monsOk_a M l A c h).2 _ hw).mono ?_)
  rintro ex w1 ⟨rfl, hb1⟩
  cases hmons : monsF l with
  | false =>
    go_wp2
    go_ret2
    exact ⟨hb1, .inl ⟨hmons, rfl⟩⟩
  | true =>
    go_wp2
    go_loopw [20] (fun i wr => ∃ k : Nat, k ≤ l.length ∧ i = .int .i64 k ∧ Below w.heap.size w wr ∧ w1.heap.size + 2 ≤ wr.heap.size ∧ ∃ f1 f2, VI e (w1.heap.size + 2) w1.heap.size (w1.heap.size + 1) k (l.take k) wr f1 f2) (fun i _ => l.length - (intOf i).toNat)
    case atStart =>
      exact ⟨0, Nat.zero_le _, rfl, (hb1.alloc hb1.size _).alloc (by rw [alloc_size]; have := hb1.size; omega) _, by rw [alloc_size, alloc_size]; omega, _, _, VI.start e _ _ _ (by rw [Go.heap_alloc_old _ _ (by rw [alloc_size]; omega)]; exact heap_alloc_new _ _) (by rw [← alloc_size w1 (Obj.map #[] 0)]; exact heap_alloc_new _ _)⟩
    case round =>
      obtain ⟨k, hk, rfl, hnx, hsz, f1, f2, hVI⟩ := hrel
      by_cases hlt : k < l.length
      · obtain ⟨m, hm⟩ : ∃ m, l[k] = m := ⟨_, rfl⟩
        have hx : l[k]? = some m := by rw [List.getElem?_eq_getElem hlt, hm]
        have htk : l.take (k + 1) = l.take k ++ [m] := by rw [List.take_succ_eq_append_getElem hlt, hm]
        obtain ⟨ad, rfl, A0, c0, A1, c1, A2, c2, bnx, ⟨s0, s1, s2⟩, x0, x1, x2, x3, x4, x5, x6, x7, x8, x9, x10, x11, x12, x13, x14⟩ := at_Mon h hx
        have hKr : Know M wr := fun a u hu => (hnx.cell (block_lt_of_cell (hw a u hu))).trans (hw a u hu)
        have f20 := (slot_a M m _ ⟨A0, c0, A1, c1, A2, c2, rfl, trivial, s0, s1, s2⟩ e).2
        replace x0 := hKr _ _ x0
        rw [add0'] at x0
        replace x1 := hKr _ _ x1
        rw [addJ] at x1
        replace x2 := hKr _ _ x2
        rw [addJ] at x2
        replace x3 := hKr _ _ x3
        rw [addJ] at x3
        replace x4 := hKr _ _ x4
        rw [addJ] at x4
        replace x5 := hKr _ _ x5
        rw [addJ] at x5
        replace x6 := hKr _ _ x6
        rw [addJ] at x6
        replace x7 := hKr _ _ x7
        rw [addJ] at x7
        replace x8 := hKr _ _ x8
        rw [addJ] at x8
        replace x9 := hKr _ _ x9
        rw [addJ] at x9
        replace x10 := hKr _ _ x10
        rw [addJ] at x10
        replace x11 := hKr _ _ x11
        rw [addJ] at x11
        replace x12 := hKr _ _ x12
        rw [addJ] at x12
        replace x13 := hKr _ _ x13
        rw [addJ] at x13
        replace x14 := hKr _ _ x14
        rw [addJ] at x14
        obtain ⟨s, hs⟩ : ∃ s, slotF m.Slots e = s := ⟨_, rfl⟩
        rw [hs] at f20
        have hKa : Know M (wr.alloc (.cells (List.toArray [.int .i64 m.Id, .int .i64 m.Many, .slice A0 m.Slots.length c0, .int .i64 m.Try.Epoch, .int .i64 m.Try.Ballot.No, .int .i64 m.Try.Ballot.By, .int .i64 m.Try.Inc.Epoch, .int .i64 m.Try.Inc.Kind, .int .i64 m.Try.Inc.A, .int .i64 m.Try.Inc.B, .int .i64 m.Try.Highest.No, .int .i64 m.Try.Highest.By, .slice A1 m.Try.Promises.length c1, .slice A2 m.Try.Accepts.length c2, .bool m.Try.Decided]) 52)) := fun a u hu => cell_old (hKr a u hu) _
        go_wp2_with (go_at_call 20; refine (f20 _ hKa).mono ?_)
        rintro ex w2 ⟨rfl, hb2⟩
        have hs2 : wr.heap.size + 1 ≤ w2.heap.size := by have := hb2.size; rw [alloc_size] at this; exact this
        have cId0 : w2.cell? ⟨wr.heap.size, 0, none⟩ = some (.int .i64 m.Id) := by
          rw [hb2.cell (by rw [alloc_size]; exact Nat.lt_succ_self _)]
          exact cell_new wr _ _ 0 _ rfl
        have cId : ∀ o, (w2.alloc o).cell? ⟨wr.heap.size, 0, none⟩ = some (.int .i64 m.Id) := fun o => cell_old cId0 o
        have hg2 : wr.grownBy w2 none := ⟨hb2.os, hb2.tape, hb2.output, by omega, fun j hj _ => (hb2.block j (by rw [alloc_size]; omega)).trans (heap_alloc_old wr _ hj)⟩
        have hbw2 : Below w.heap.size w w2 := hnx.grown hg2 hnx.size (fun j hj => by cases hj)
        by_cases hNo : s.Accepted.No = 0
        · by_cases hBy : s.Accepted.By = 0
          · have hz : (slotF m.Slots e).Accepted = ⟨0, 0⟩ := by
              rw [hs]
              cases hsa : s.Accepted
              rw [hsa] at hNo hBy
              simp only at hNo hBy
              subst hNo
              subst hBy
              rfl
            go_wp2
            go_roundw
            case rel =>
              exact ⟨k + 1, hlt, rfl, hbw2.alloc hbw2.size _, by rw [alloc_size]; omega, f1, f2, by rw [htk]; exact hVI.skip (hg2.trans (World.grownBy_alloc w2 _ none)) hz⟩
            case measure => simp [intOf]; omega
          · have hnz : s.Accepted ≠ ⟨0, 0⟩ := fun he => hBy (by rw [he])
            have hok := (acc_ok hmons hx e).1
            rw [hs] at hok
            have hl5 := (acc_ok hmons hx e).2.2
            have hgW : wr.grownBy ((w2.alloc (Obj.cells #[.int .i64 s.Epoch, .int .i64 s.Promised.No, .int .i64 s.Promised.By, .int .i64 0, .int .i64 s.Accepted.By, .int .i64 s.Inc.Epoch, .int .i64 s.Inc.Kind, .int .i64 s.Inc.A, .int .i64 s.Inc.B] 56)).alloc (Obj.cells #[.int .i64 m.Id] 2)) none := (hg2.trans (World.grownBy_alloc w2 _ none)).trans (World.grownBy_alloc _ _ none)
            have hcW : World.cell? ((w2.alloc (Obj.cells #[.int .i64 s.Epoch, .int .i64 s.Promised.No, .int .i64 s.Promised.By, .int .i64 0, .int .i64 s.Accepted.By, .int .i64 s.Inc.Epoch, .int .i64 s.Inc.Kind, .int .i64 s.Inc.A, .int .i64 s.Inc.B] 56)).alloc (Obj.cells #[.int .i64 m.Id] 2)) ⟨w2.heap.size + 1, 0, none⟩ = some (.int .i64 m.Id) := by
              have := cell_new (w2.alloc (Obj.cells #[.int .i64 s.Epoch, .int .i64 s.Promised.No, .int .i64 s.Promised.By, .int .i64 0, .int .i64 s.Accepted.By, .int .i64 s.Inc.Epoch, .int .i64 s.Inc.Kind, .int .i64 s.Inc.A, .int .i64 s.Inc.B] 56)) #[.int .i64 m.Id] 2 0 _ rfl
              rwa [alloc_size] at this
            obtain ⟨vOld, st, w3, v', w4, w5, w6, f1', f2', r3, r4, r5, k5, r6, hVI', hbel6, hs6⟩ := hVI.step (m := m) (by omega) (by rw [List.length_take]; omega) (by omega) hsz hgW (by rw [alloc_size, alloc_size]; omega) hcW (by rw [hs]) (by rw [hs]) hnz hok (B := w.heap.size) hb1.size (by have := hb1.size; omega) (by have := hb1.size; omega) ((hbw2.alloc hbw2.size _).alloc (by rw [alloc_size]; have := hbw2.size; omega) _) 40
            unfold encB at r3 r6
            unfold encI at r6
            unfold goInt at r5
            rw [hNo] at r3 r6
            have y3 : w5.cell? ⟨w2.heap.size, 3, none⟩ = some (.int .i64 0) := cell_heap (k5 w2.heap.size (by omega) (by rw [alloc_size, alloc_size]; omega)) (cell_old (cell_new w2 _ _ 3 _ rfl) _)
            have y4 : w5.cell? ⟨w2.heap.size, 4, none⟩ = some (.int .i64 s.Accepted.By) := cell_heap (k5 w2.heap.size (by omega) (by rw [alloc_size, alloc_size]; omega)) (cell_old (cell_new w2 _ _ 4 _ rfl) _)
            have y5 : w5.cell? ⟨w2.heap.size, 5, none⟩ = some (.int .i64 s.Inc.Epoch) := cell_heap (k5 w2.heap.size (by omega) (by rw [alloc_size, alloc_size]; omega)) (cell_old (cell_new w2 _ _ 5 _ rfl) _)
            have y6 : w5.cell? ⟨w2.heap.size, 6, none⟩ = some (.int .i64 s.Inc.Kind) := cell_heap (k5 w2.heap.size (by omega) (by rw [alloc_size, alloc_size]; omega)) (cell_old (cell_new w2 _ _ 6 _ rfl) _)
            have y7 : w5.cell? ⟨w2.heap.size, 7, none⟩ = some (.int .i64 s.Inc.A) := cell_heap (k5 w2.heap.size (by omega) (by rw [alloc_size, alloc_size]; omega)) (cell_old (cell_new w2 _ _ 7 _ rfl) _)
            have y8 : w5.cell? ⟨w2.heap.size, 8, none⟩ = some (.int .i64 s.Inc.B) := cell_heap (k5 w2.heap.size (by omega) (by rw [alloc_size, alloc_size]; omega)) (cell_old (cell_new w2 _ _ 8 _ rfl) _)
            clear hcW hgW hok hnz
            go_wp2_with (at_builtin; refine wpList_run_append _ rfl _ _ 40 rfl _ _ v' w4 rfl rfl r4 ?_)
            go_roundw
            case rel => exact ⟨k + 1, hlt, rfl, hbel6, by omega, f1', f2', by rw [htk]; exact hVI'⟩
            case measure => simp [intOf]; omega
        · have hnz : s.Accepted ≠ ⟨0, 0⟩ := fun he => hNo (by rw [he])
          have hok := (acc_ok hmons hx e).1
          rw [hs] at hok
          have hl5 := (acc_ok hmons hx e).2.2
          have hgW : wr.grownBy ((w2.alloc (Obj.cells #[.int .i64 s.Epoch, .int .i64 s.Promised.No, .int .i64 s.Promised.By, .int .i64 s.Accepted.No, .int .i64 s.Accepted.By, .int .i64 s.Inc.Epoch, .int .i64 s.Inc.Kind, .int .i64 s.Inc.A, .int .i64 s.Inc.B] 56)).alloc (Obj.cells #[.int .i64 m.Id] 2)) none := (hg2.trans (World.grownBy_alloc w2 _ none)).trans (World.grownBy_alloc _ _ none)
          have hcW : World.cell? ((w2.alloc (Obj.cells #[.int .i64 s.Epoch, .int .i64 s.Promised.No, .int .i64 s.Promised.By, .int .i64 s.Accepted.No, .int .i64 s.Accepted.By, .int .i64 s.Inc.Epoch, .int .i64 s.Inc.Kind, .int .i64 s.Inc.A, .int .i64 s.Inc.B] 56)).alloc (Obj.cells #[.int .i64 m.Id] 2)) ⟨w2.heap.size + 1, 0, none⟩ = some (.int .i64 m.Id) := by
            have := cell_new (w2.alloc (Obj.cells #[.int .i64 s.Epoch, .int .i64 s.Promised.No, .int .i64 s.Promised.By, .int .i64 s.Accepted.No, .int .i64 s.Accepted.By, .int .i64 s.Inc.Epoch, .int .i64 s.Inc.Kind, .int .i64 s.Inc.A, .int .i64 s.Inc.B] 56)) #[.int .i64 m.Id] 2 0 _ rfl
            rwa [alloc_size] at this
          obtain ⟨vOld, st, w3, v', w4, w5, w6, f1', f2', r3, r4, r5, k5, r6, hVI', hbel6, hs6⟩ := hVI.step (m := m) (by omega) (by rw [List.length_take]; omega) (by omega) hsz hgW (by rw [alloc_size, alloc_size]; omega) hcW (by rw [hs]) (by rw [hs]) hnz hok (B := w.heap.size) hb1.size (by have := hb1.size; omega) (by have := hb1.size; omega) ((hbw2.alloc hbw2.size _).alloc (by rw [alloc_size]; have := hbw2.size; omega) _) 40
          unfold encB at r3 r6
          unfold encI at r6
          unfold goInt at r5
          have y3 : w5.cell? ⟨w2.heap.size, 3, none⟩ = some (.int .i64 s.Accepted.No) := cell_heap (k5 w2.heap.size (by omega) (by rw [alloc_size, alloc_size]; omega)) (cell_old (cell_new w2 _ _ 3 _ rfl) _)
          have y4 : w5.cell? ⟨w2.heap.size, 4, none⟩ = some (.int .i64 s.Accepted.By) := cell_heap (k5 w2.heap.size (by omega) (by rw [alloc_size, alloc_size]; omega)) (cell_old (cell_new w2 _ _ 4 _ rfl) _)
          have y5 : w5.cell? ⟨w2.heap.size, 5, none⟩ = some (.int .i64 s.Inc.Epoch) := cell_heap (k5 w2.heap.size (by omega) (by rw [alloc_size, alloc_size]; omega)) (cell_old (cell_new w2 _ _ 5 _ rfl) _)
          have y6 : w5.cell? ⟨w2.heap.size, 6, none⟩ = some (.int .i64 s.Inc.Kind) := cell_heap (k5 w2.heap.size (by omega) (by rw [alloc_size, alloc_size]; omega)) (cell_old (cell_new w2 _ _ 6 _ rfl) _)
          have y7 : w5.cell? ⟨w2.heap.size, 7, none⟩ = some (.int .i64 s.Inc.A) := cell_heap (k5 w2.heap.size (by omega) (by rw [alloc_size, alloc_size]; omega)) (cell_old (cell_new w2 _ _ 7 _ rfl) _)
          have y8 : w5.cell? ⟨w2.heap.size, 8, none⟩ = some (.int .i64 s.Inc.B) := cell_heap (k5 w2.heap.size (by omega) (by rw [alloc_size, alloc_size]; omega)) (cell_old (cell_new w2 _ _ 8 _ rfl) _)
          clear hcW hgW hok hnz
          go_wp2_with (at_builtin; refine wpList_run_append _ rfl _ _ 40 rfl _ _ v' w4 rfl rfl r4 ?_)
          go_roundw
          case rel => exact ⟨k + 1, hlt, rfl, hbel6, by omega, f1', f2', by rw [htk]; exact hVI'⟩
          case measure => simp [intOf]; omega
      · have hke : k = l.length := by omega
        subst hke
        rw [List.take_length] at hVI
        obtain ⟨es, clock, hbm, hE⟩ := hVI.m1
        have hl1 := hVI.m1.lt
        have hrg := run_range_map (P := Try.prog) wr 61 47 40 w1.heap.size es clock (by kernel_rfl) hbm
        obtain ⟨wq, hwq⟩ : ∃ wq, wq = wr := ⟨_, rfl⟩
        subst hwq
        go_wp2
        go_loopw [49] (fun i wl => ∃ seen, wl.heap[wq.heap.size]? = some (.mapIter (some w1.heap.size) clock seen clock) ∧ Below wq.heap.size wq wl ∧ wq.heap.size < wl.heap.size ∧ ∀ x ∈ es.toList, seen.contains x.born = true → ∀ b, x.key = encB b → mostC l.length (cntTo e b l) = false) (fun i wl => (leftOf es (wl.iterSeen wq.heap.size)).size)
        case atStart =>
          exact ⟨#[], heap_alloc_new _ _, (Below.refl _ _).alloc (Nat.le_refl _) _, by rw [alloc_size]; omega, fun x hx hc => by simp at hc⟩
        case round =>
          obtain ⟨seen, hr, hbl, hlr, hseen⟩ := hrel
          have hbml := (hbl.block w1.heap.size hl1).trans hbm
          have hbB : Below w.heap.size w wr := hnx.trans (hbl.mono hnx.size)
          rcases run_next_at (P := Try.prog) wr 0 wq.heap.size w1.heap.size clock clock seen es clock hr hbml hE.st.1 (Nat.le_refl _) with ⟨h0, hrun⟩ | ⟨x, hxl, wx, hwx, hrun⟩
          · have hall := all_seen es seen h0
            go_wp2
            go_ret2
            refine ⟨hbB, .inr (.inl ⟨hmons, fun b hv => ?_, rfl⟩)⟩
            obtain ⟨v, xs, hf, _⟩ := hVI.row b hv
            obtain ⟨x, hx, hk, _⟩ := hE.has b v hf
            exact hseen x hx (hall x hx) b hk
          · have hxe := (mem_left hxl).1
            obtain ⟨b, hokb, hkb, hfb⟩ := hE.ent x hxe
            have hVb := hVI.no b _ hfb
            obtain ⟨v2, xs, hf2, hown⟩ := hVI.row b hVb
            rw [hfb] at hf2
            obtain ⟨g, cap, hv2⟩ : ∃ g cap, x.val = .slice (some ⟨g, 0, none⟩) (cntTo e b l) cap := by
              cases hf2
              rcases hown.2 with ⟨_, h0⟩ | ⟨g, cap, cur, hv, _⟩
              · have := hVb.2; omega
              · exact ⟨g, cap, hv⟩
            have hwxh : wx.heap = wr.heap := by rcases hwx with rfl | rfl <;> rfl
            have hwxo : Below wr.heap.size wr wx := by rcases hwx with rfl | rfl; exact Below.refl _ _; exact (Below.refl _ _).drew
            obtain ⟨wn, hwn⟩ : ∃ wn, Go.ChangeMaps.setBlock wx wq.heap.size (.mapIter (some w1.heap.size) clock (seen.push x.born) clock) = wn := ⟨_, rfl⟩
            have hwns : wn.heap.size = wr.heap.size := by rw [← hwn, ← hwxh]; simp [Go.ChangeMaps.setBlock]
            have hrn : wn.heap[wq.heap.size]? = some (.mapIter (some w1.heap.size) clock (seen.push x.born) clock) := by
              rw [← hwn]
              exact set_same (o := .mapIter (some w1.heap.size) clock seen clock) (by rw [hwxh]; exact hr)
            have hgn : wx.grownBy wn (some wq.heap.size) := by rw [← hwn]; exact set_grown
            have hbn : Below wq.heap.size wq wn := (hbl.trans (hwxo.mono hbl.size)).grown hgn (by rw [hwxh]; exact hbl.size) (fun j hj => by cases hj; exact Nat.le_refl _)
            have hbmn := (hbn.block w1.heap.size hl1).trans hbm
            have hent := run_entry_at (P := Try.prog) wn wq.heap.size w1.heap.size clock seen es clock x hrn hbmn hxe hE.st.2.1
            rw [hwn, hkb, hv2] at hrun
            rw [hkb, hv2] at hent
            unfold encB at hrun hent
            have hl0 : 0 < l.length := by
              have h1 := hmons
              unfold monsF inR at h1
              simp only [Bool.and_eq_true, decide_eq_true_eq] at h1
              omega
            obtain ⟨m, hm⟩ : ∃ m, l[0] = m := ⟨_, rfl⟩
            have hx0 : l[0]? = some m := by rw [List.getElem?_eq_getElem hl0, hm]
            obtain ⟨ad, rfl, A0, c0, A1, c1, A2, c2, bnx, ⟨s0, s1, s2⟩, x0, x1, x2, x3, x4, x5, x6, x7, x8, x9, x10, x11, x12, x13, x14⟩ := at_Mon h hx0
            have hBn : Below w.heap.size w wn := hnx.trans (hbn.mono hnx.size)
            have hKn : Know M wn := fun a u hu => (hBn.cell (block_lt_of_cell (hw a u hu))).trans (hw a u hu)
            have z0 : ∀ o, (wn.alloc o).cell? ad = _ := fun o => cell_old (hKn _ _ (by rw [add0', Nat.zero_mul, add0'] at x0; exact x0)) o
            have z1 : ∀ o, (wn.alloc o).cell? ⟨ad.block, ad.off + 1, none⟩ = _ := fun o => cell_old (hKn _ _ (by rw [addJ, Nat.zero_mul, add0'] at x1; exact x1)) o
            have z2 : ∀ o, (wn.alloc o).cell? ⟨ad.block, ad.off + 2, none⟩ = _ := fun o => cell_old (hKn _ _ (by rw [addJ, Nat.zero_mul, add0'] at x2; exact x2)) o
            have z3 : ∀ o, (wn.alloc o).cell? ⟨ad.block, ad.off + 3, none⟩ = _ := fun o => cell_old (hKn _ _ (by rw [addJ, Nat.zero_mul, add0'] at x3; exact x3)) o
            have z4 : ∀ o, (wn.alloc o).cell? ⟨ad.block, ad.off + 4, none⟩ = _ := fun o => cell_old (hKn _ _ (by rw [addJ, Nat.zero_mul, add0'] at x4; exact x4)) o
            have z5 : ∀ o, (wn.alloc o).cell? ⟨ad.block, ad.off + 5, none⟩ = _ := fun o => cell_old (hKn _ _ (by rw [addJ, Nat.zero_mul, add0'] at x5; exact x5)) o
            have z6 : ∀ o, (wn.alloc o).cell? ⟨ad.block, ad.off + 6, none⟩ = _ := fun o => cell_old (hKn _ _ (by rw [addJ, Nat.zero_mul, add0'] at x6; exact x6)) o
            have z7 : ∀ o, (wn.alloc o).cell? ⟨ad.block, ad.off + 7, none⟩ = _ := fun o => cell_old (hKn _ _ (by rw [addJ, Nat.zero_mul, add0'] at x7; exact x7)) o
            have z8 : ∀ o, (wn.alloc o).cell? ⟨ad.block, ad.off + 8, none⟩ = _ := fun o => cell_old (hKn _ _ (by rw [addJ, Nat.zero_mul, add0'] at x8; exact x8)) o
            have z9 : ∀ o, (wn.alloc o).cell? ⟨ad.block, ad.off + 9, none⟩ = _ := fun o => cell_old (hKn _ _ (by rw [addJ, Nat.zero_mul, add0'] at x9; exact x9)) o
            have z10 : ∀ o, (wn.alloc o).cell? ⟨ad.block, ad.off + 10, none⟩ = _ := fun o => cell_old (hKn _ _ (by rw [addJ, Nat.zero_mul, add0'] at x10; exact x10)) o
            have z11 : ∀ o, (wn.alloc o).cell? ⟨ad.block, ad.off + 11, none⟩ = _ := fun o => cell_old (hKn _ _ (by rw [addJ, Nat.zero_mul, add0'] at x11; exact x11)) o
            have z12 : ∀ o, (wn.alloc o).cell? ⟨ad.block, ad.off + 12, none⟩ = _ := fun o => cell_old (hKn _ _ (by rw [addJ, Nat.zero_mul, add0'] at x12; exact x12)) o
            have z13 : ∀ o, (wn.alloc o).cell? ⟨ad.block, ad.off + 13, none⟩ = _ := fun o => cell_old (hKn _ _ (by rw [addJ, Nat.zero_mul, add0'] at x13; exact x13)) o
            have z14 : ∀ o, (wn.alloc o).cell? ⟨ad.block, ad.off + 14, none⟩ = _ := fun o => cell_old (hKn _ _ (by rw [addJ, Nat.zero_mul, add0'] at x14; exact x14)) o
            have f21 := (majority_a M m _ ⟨A0, c0, A1, c1, A2, c2, rfl, trivial, s0, s1, s2⟩ (List.replicate (cntTo e b l) 0) (some ⟨g, 0, none⟩) cap).2
            rw [List.length_replicate] at f21
            have hKo : ∀ o, Know M (wn.alloc o) := fun o a u hu => cell_old (hKn a u hu) o
            go_wp2_with (go_at_call 21; refine (f21 _ (hKo _)).mono ?_)
            rintro ex w2 ⟨rfl, hb2⟩
            have hmm2 : mostF m.Many (List.replicate (cntTo e b l) 0) = mostC l.length (cntTo e b l) := by
              unfold mostF mostC
              rw [List.length_replicate, (acc_ok hmons hx0 e).2.1]
            rw [hmm2]
            have hs2 : wr.heap.size + 1 ≤ w2.heap.size := by have := hb2.size; rw [alloc_size, hwns] at this; exact this
            have hq2 : ∀ j, j < wn.heap.size → w2.heap[j]? = wn.heap[j]? := fun j hj => (hb2.block j (by rw [alloc_size]; omega)).trans (Go.heap_alloc_old wn _ hj)
            have hbw2 : Below w.heap.size w w2 := (hBn.alloc (by have := hBn.size; exact this) _).trans (hb2.mono (by rw [alloc_size]; have := hBn.size; omega))
            have hbq2 : Below wq.heap.size wq w2 := (hbn.alloc hbn.size _).trans (hb2.mono (by rw [alloc_size]; have := hbn.size; omega))
            cases hmc : mostC l.length (cntTo e b l) with
            | true =>
              have k0 : w2.cell? ⟨wr.heap.size, 0, none⟩ = some (.int .i64 b.No) := by
                rw [hb2.cell (by rw [alloc_size, hwns]; exact Nat.lt_succ_self _), ← hwns]
                exact cell_new wn _ _ 0 _ rfl
              have k1 : w2.cell? ⟨wr.heap.size, 1, none⟩ = some (.int .i64 b.By) := by
                rw [hb2.cell (by rw [alloc_size, hwns]; exact Nat.lt_succ_self _), ← hwns]
                exact cell_new wn _ _ 1 _ rfl
              have hlk := (hVI.m2.kept (hbq2.block _ hVI.m2.lt)).lookup (t := 62) (e := 48) (by kernel_rfl) hokb (hVI.inc b hVb)
              unfold encB encI at hlk
              go_wp2
              go_ret2
              exact ⟨hbw2.alloc hbw2.size _, .inr (.inr ⟨hmons, b, w2.heap.size, hVb, hmc, hbw2.size, rfl, heap_alloc_new _ _⟩)⟩
            | false =>
              go_wp2
              go_roundw
              case rel =>
                refine ⟨seen.push x.born, (hq2 _ (by omega)).trans hrn, hbq2, by omega, fun y hy hc b' hb' => ?_⟩
                rw [contains_push, Bool.or_eq_true] at hc
                rcases hc with hc | hc
                · exact hseen y hy hc b' hb'
                · have hyx := born_inj hE.st.2.1 hy hxe (by simpa using hc)
                  rw [hyx, hkb] at hb'
                  rw [← encB_inj hb']
                  exact hmc
              case measure =>
                have hsh := left_shrinks es seen x hxl
                have e1 : wr.iterSeen wq.heap.size = seen := by unfold World.iterSeen; rw [hr]
                have e2 : w2.iterSeen wq.heap.size = seen.push x.born := by unfold World.iterSeen; rw [hq2 _ (by omega), hrn]
                rw [e1, e2]
                exact hsh
end Go.Proofs.Ytmmgknhefobloaa.Hlp
