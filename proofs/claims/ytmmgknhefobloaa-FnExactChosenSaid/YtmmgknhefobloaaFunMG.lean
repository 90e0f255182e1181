/- The program's Chosen, walked over the machine. -/
import Derived.WalkKit
import Derived.DeepKeys5
import Derived.WideKeyEntry
import Derived.Laws.AppendOwn
import Derived.Maps.AppendAt
import Derived.Laws.IdiomRangeMap
import Derived.Test.YtmmgknhefobloaaFunMF
namespace Go.Proofs.Ytmmgknhefobloaa.Hlp
open Go Go.RowKit Go.Proofs Go.Proofs.Ytmmgknhefobloaa.Lw
set_option linter.unusedVariables false
set_option linter.unusedSimpArgs false
set_option maxRecDepth 100000
set_option maxHeartbeats 4000000
def encB (b : GBallot) : Value := .agg #[.int .i64 b.No, .int .i64 b.By]
theorem encB_inj {a b : GBallot} (h : encB a = encB b) : a = b := by
  unfold encB at h
  cases a; cases b
  simp at h
  obtain ⟨rfl, rfl⟩ := h
  rfl
theorem lawB : WideMaps.KeyLaw Try.prog 47 := deep_law_gate (by kernel_rfl) (by exact of_decide_eq_true (by kernel_rfl)) (by exact of_decide_eq_true (by kernel_rfl)) (by kernel_rfl) (by kernel_rfl)
theorem wf64 {a : Int} (h0 : -9223372036854775808 ≤ a) (h1 : a ≤ 9223372036854775807) : (Lit.int .i64 a).wf = true := WalkArith.wf_i64 (by omega)
theorem key_of {P : Program} {b : GBallot} (hu : P.underlying 47 = some (.struct #[⟨"No", 2, 0, false, "", "", 0⟩, ⟨"By", 2, 1, false, "", "", 8⟩])) (hi : P.underlying 2 = some (.int .i64)) (hk : P.keyType 47 = true) (hc : P.cellsOf 47 = 2) (hc2 : P.cellsOf 2 = 1) (hm : 0 < P.types.size)
    (e0 : (Lit.int .i64 b.No).wf = true) (e1 : (Lit.int .i64 b.By).wf = true) : ∃ kl, keyOf P 47 (encB b) = some kl := by
  obtain ⟨m, hm⟩ : ∃ m, P.types.size = m + 1 := ⟨P.types.size - 1, by omega⟩
  have hlit : P.keyLits (m + 1 + 1) 47 [.int .i64 b.No, .int .i64 b.By] = some [.int .i64 b.No, .int .i64 b.By] := by
    simp [Program.keyLits, hu, hi, hc, hc2, e0, e1]
  have hf : Value.formed P 47 (encB b) = true := by simp [Value.formed, encB, hu, hc]
  refine ⟨.string (keyBytes [.int .i64 b.No, .int .i64 b.By]), ?_⟩
  unfold keyOf
  rw [hu]
  simp only [hk, hf, Bool.and_self, if_true]
  rw [hm]
  show Option.map _ (P.keyLits (m + 1 + 1) 47 [.int .i64 b.No, .int .i64 b.By]) = _
  rw [hlit]
  rfl
theorem keyB {b : GBallot} (h0 : 0 ≤ b.No ∧ b.No ≤ 999) (h1 : 0 ≤ b.By ∧ b.By ≤ 999) : ∃ kl, keyOf Try.prog 47 (encB b) = some kl :=
  key_of (by kernel_rfl) (by kernel_rfl) (by kernel_rfl) (by kernel_rfl) (by kernel_rfl) (of_decide_eq_true (by kernel_rfl)) (wf64 (by omega) (by omega)) (wf64 (by omega) (by omega))
def okB (b : GBallot) : Prop := (0 ≤ b.No ∧ b.No ≤ 999) ∧ (0 ≤ b.By ∧ b.By ≤ 999)
def upd (f : GBallot → Option Value) (b : GBallot) (v : Value) : GBallot → Option Value := fun b' => if b' = b then some v else f b'
/-- What the entries of a map say. -/
structure EsIs (es : Array MapEntry) (clock : Nat) (f : GBallot → Option Value) (n : Nat) : Prop where
  st : MapKept.Stamped es clock
  sz : es.size ≤ n
  ent : ∀ x ∈ es.toList, ∃ b, okB b ∧ x.key = encB b ∧ f b = some x.val
  has : ∀ b v, f b = some v → ∃ x ∈ es.toList, x.key = encB b ∧ x.val = v
def MapIs (w : World) (blk : Nat) (f : GBallot → Option Value) (n : Nat) : Prop := ∃ es clock, w.heap[blk]? = some (.map es clock) ∧ EsIs es clock f n
theorem EsIs.keys {es : Array MapEntry} {clock : Nat} {f : GBallot → Option Value} {n : Nat} (h : EsIs es clock f n) : ∀ x ∈ es.toList, ∃ kl, keyOf Try.prog 47 x.key = some kl := fun x hx => by
  obtain ⟨b, hb, hk, _⟩ := h.ent x hx
  rw [hk]
  exact keyB hb.1 hb.2
theorem EsIs.nil : EsIs #[] 0 (fun _ => none) 0 := ⟨MapKept.stamped_empty 0, Nat.le_refl _, fun x hx => by simp at hx, fun b v h => by cases h⟩
theorem EsIs.push {es : Array MapEntry} {clock : Nat} {f : GBallot → Option Value} {n : Nat} (h : EsIs es clock f n) {b : GBallot} (hb : okB b) (hno : ∀ x ∈ es.toList, x.key ≠ encB b) (v : Value) : EsIs (es.push ⟨encB b, v, clock⟩) (clock + 1) (upd f b v) (n + 1) := by
  refine ⟨MapKept.stamped_push h.st hno, by rw [Array.size_push]; have := h.sz; omega, fun x hx => ?_, fun b' v' hf => ?_⟩
  · rw [Array.toList_push, List.mem_append, List.mem_singleton] at hx
    rcases hx with hx | rfl
    · obtain ⟨b', h1, h2, h3⟩ := h.ent x hx
      have hne : b' ≠ b := fun e => hno x hx (by rw [h2, e])
      exact ⟨b', h1, h2, by unfold upd; rw [if_neg hne]; exact h3⟩
    · exact ⟨b, hb, rfl, by unfold upd; rw [if_pos rfl]⟩
  · unfold upd at hf
    by_cases hbb : b' = b
    · rw [if_pos hbb] at hf
      cases hf
      exact ⟨_, by rw [Array.toList_push]; exact List.mem_append_right _ (List.mem_singleton.2 rfl), by rw [hbb], rfl⟩
    · rw [if_neg hbb] at hf
      obtain ⟨x, hx, h1, h2⟩ := h.has b' v' hf
      exact ⟨x, by rw [Array.toList_push]; exact List.mem_append_left _ hx, h1, h2⟩
theorem EsIs.inj {es : Array MapEntry} {clock : Nat} {f : GBallot → Option Value} {n : Nat} (h : EsIs es clock f n) {i j : Nat} {x y : MapEntry} (hx : es.toList[i]? = some x) (hy : es.toList[j]? = some y) (hk : x.key = y.key) : i = j := by
  have h3 := h.st.2.2
  have hxi : (es.toList.map (·.key))[i]? = some x.key := by rw [List.getElem?_map, hx]; rfl
  have hyj : (es.toList.map (·.key))[j]? = some y.key := by rw [List.getElem?_map, hy]; rfl
  have hil := (List.getElem?_eq_some_iff.1 hxi).1
  have hjl := (List.getElem?_eq_some_iff.1 hyj).1
  have hp := List.pairwise_iff_getElem.1 h3
  have he : (es.toList.map (·.key))[i] = (es.toList.map (·.key))[j] := by rw [(List.getElem?_eq_some_iff.1 hxi).2, (List.getElem?_eq_some_iff.1 hyj).2, hk]
  rcases Nat.lt_trichotomy i j with h' | h' | h'
  · exact absurd he (hp i j hil hjl h')
  · exact h'
  · exact absurd he.symm (hp j i hjl hil h')
theorem EsIs.set {es : Array MapEntry} {clock : Nat} {f : GBallot → Option Value} {n : Nat} (h : EsIs es clock f n) {b : GBallot} (hb : okB b) {j : Nat} {e0 : MapEntry} (hj : es.toList[j]? = some e0) (hk : e0.key = encB b) (v : Value) : EsIs (es.modify j (fun e => { e with key := encB b, val := v })) clock (upd f b v) (n + 1) := by
  have hja : es[j]? = some e0 := by simpa using hj
  refine ⟨MapKept.stamped_modify h.st j _ (fun _ _ => rfl) (fun e _ he => by rw [hja] at he; cases he; exact hk.symm), by rw [Array.size_modify]; have := h.sz; omega, fun x hx => ?_, fun b' v' hf => ?_⟩
  · obtain ⟨i, hi⟩ := List.getElem?_of_mem hx
    rw [Array.getElem?_toList, Array.getElem?_modify] at hi
    by_cases hij : j = i
    · rw [if_pos hij, ← hij, hja] at hi
      simp only [Option.map_some, Option.some.injEq] at hi
      subst hi
      exact ⟨b, hb, rfl, by unfold upd; rw [if_pos rfl]⟩
    · rw [if_neg hij] at hi
      have hi2 : es.toList[i]? = some x := by rw [Array.getElem?_toList]; exact hi
      obtain ⟨b', h1, h2, h3⟩ := h.ent x (List.mem_of_getElem? hi2)
      have hne : b' ≠ b := fun e => hij (h.inj hj hi2 (by rw [hk, h2, e]))
      exact ⟨b', h1, h2, by unfold upd; rw [if_neg hne]; exact h3⟩
  · unfold upd at hf
    by_cases hbb : b' = b
    · rw [if_pos hbb] at hf
      cases hf
      refine ⟨{ e0 with key := encB b, val := v }, List.mem_of_getElem? (i := j) ?_, by rw [hbb], rfl⟩
      rw [Array.getElem?_toList, Array.getElem?_modify, if_pos rfl, hja]
      rfl
    · rw [if_neg hbb] at hf
      obtain ⟨x, hx, h1, h2⟩ := h.has b' v' hf
      obtain ⟨i, hi⟩ := List.getElem?_of_mem hx
      have hij : j ≠ i := fun e => by
        subst e
        rw [hj] at hi
        cases hi
        rw [hk] at h1
        exact hbb (encB_inj h1).symm
      refine ⟨x, List.mem_of_getElem? (i := i) ?_, h1, h2⟩
      rw [Array.getElem?_toList, Array.getElem?_modify, if_neg hij, ← Array.getElem?_toList]
      exact hi
theorem set_same {w : World} {b : Nat} {o o' : Obj} (h : w.heap[b]? = some o) : (Go.ChangeMaps.setBlock w b o').heap[b]? = some o' := by
  have hlt := (Array.getElem?_eq_some_iff.1 h).1
  simp [Go.ChangeMaps.setBlock, hlt]
theorem set_grown {w : World} {b : Nat} {o' : Obj} : w.grownBy (Go.ChangeMaps.setBlock w b o') (some b) := ⟨rfl, rfl, rfl, by simp [Go.ChangeMaps.setBlock], fun k hk hne => by
  have : b ≠ k := fun e => hne (by rw [e])
  simp [Go.ChangeMaps.setBlock, this]⟩
theorem EsIs.update {t e : TypeId} (ht : Try.prog.underlying t = some (.map 47 e)) {w : World} {blk : Nat} {es : Array MapEntry} {clock : Nat} (hb : w.heap[blk]? = some (.map es clock)) {f : GBallot → Option Value} {n : Nat} (h : EsIs es clock f n) {b : GBallot} (hok : okB b) (v : Value) :
    ∃ es' clock', (Instr.mapUpdate t (.map (some blk)) (encB b) v).run Try.prog w = .ok () (Go.ChangeMaps.setBlock w blk (.map es' clock')) ∧ EsIs es' clock' (upd f b v) (n + 1) := by
  obtain ⟨kl, hkey⟩ := keyB hok.1 hok.2
  rcases lawB.find w hkey es.toList h.keys with ⟨h1, h2⟩ | ⟨j, e0, h1, h2, h3⟩
  · refine ⟨es.push ⟨encB b, v, clock⟩, clock + 1, ?_, h.push hok h2 v⟩
    simp [Instr.mapUpdate, run_underlying ht, MapKept.run_getObj_map hb, lawB.check w false hkey, h1, MapKept.run_setObj_map _ hb, Result.andThen, Go.ChangeMaps.setBlock]
  · have hj : es[j]? = some e0 := by simpa using h2
    refine ⟨es.modify j (fun e => { e with key := encB b, val := v }), clock, ?_, h.set hok h2 h3 v⟩
    simp [Instr.mapUpdate, run_underlying ht, MapKept.run_getObj_map hb, lawB.check w false hkey, h1, hj, h3, lawB.stays w hkey, MapKept.run_setObj_map _ hb, Result.andThen, Go.ChangeMaps.setBlock]
/-- 'm[k] = v'. -/
theorem MapIs.update {t e : TypeId} (ht : Try.prog.underlying t = some (.map 47 e)) {w : World} {blk : Nat} {f : GBallot → Option Value} {n : Nat} (h : MapIs w blk f n) {b : GBallot} (hok : okB b) (v : Value) :
    ∃ w', (Instr.mapUpdate t (.map (some blk)) (encB b) v).run Try.prog w = .ok () w' ∧ MapIs w' blk (upd f b v) (n + 1) ∧ w.grownBy w' (some blk) ∧ w'.heap.size = w.heap.size := by
  obtain ⟨es, clock, hb, hE⟩ := h
  obtain ⟨es', clock', hrun, hE'⟩ := hE.update ht hb hok v
  exact ⟨_, hrun, ⟨es', clock', set_same hb, hE'⟩, set_grown, by simp [Go.ChangeMaps.setBlock]⟩
/-- 'm[k] = .. m[k] ..'. -/
theorem MapIs.entry {t e : TypeId} (ht : Try.prog.underlying t = some (.map 47 e)) {z : Value} (hz : ∀ u : World, (zeroValue e).run Try.prog u = .ok z u) {w : World} {blk : Nat} {f : GBallot → Option Value} {n : Nat} (h : MapIs w blk f n) (hn : n ≤ maxLen) {b : GBallot} (hok : okB b) :
    ∃ st w1, (Instr.mapEntry t (.map (some blk)) (encB b)).run Try.prog w = .ok (.tuple #[(f b).getD z, goInt (st : Nat)]) w1 ∧ w.grownBy w1 (some blk) ∧ w1.heap.size = w.heap.size ∧
      ∀ (w2 : World) (v : Value), w2.heap[blk]? = w1.heap[blk]? → ∃ w3, (Instr.entryStore t (.map (some blk)) (goInt (st : Nat)) v).run Try.prog w2 = .ok () w3 ∧ MapIs w3 blk (upd f b v) (n + 1) ∧ w2.grownBy w3 (some blk) ∧ w3.heap.size = w2.heap.size := by
  obtain ⟨es, clock, hb, hE⟩ := h
  obtain ⟨kl, hkey⟩ := keyB hok.1 hok.2
  have F : WideElems.Fit (H := Unit) Try.prog 47 (fun _ => some (.nil, [])) es clock := ⟨Nat.le_trans hE.sz hn, hE.st, fun x hx => by
    obtain ⟨kl', hk'⟩ := hE.keys x hx
    exact ⟨_, by simp [WideElems.rd, hk']; rfl⟩⟩
  obtain ⟨v0, st, es1, clock1, hrun, hv0, hback⟩ := WideElems.entry_then_store lawB ht hz hb F hkey
  have ev : v0 = (f b).getD z := by
    rcases hv0 with ⟨e0, he, hk, rfl⟩ | ⟨hno, rfl⟩
    · obtain ⟨b', _, h2, h3⟩ := hE.ent e0 he
      rw [hk] at h2
      rw [encB_inj h2, h3]
      rfl
    · cases hf : f b with
      | none => rfl
      | some v =>
        obtain ⟨x, hx, h1, _⟩ := hE.has b v hf
        exact absurd h1 (hno x hx)
  subst ev
  refine ⟨st, _, hrun, set_grown, by simp [Go.ChangeMaps.setBlock], fun w2 v hw2 => ?_⟩
  rw [set_same hb] at hw2
  obtain ⟨es', clock', hs, hu⟩ := hback w2 v hw2
  obtain ⟨es2, clock2, hu2, hE2⟩ := hE.update ht hb hok v
  rw [hu2] at hu
  have e1 := congrArg (fun r : Result Unit => match r with | .ok _ w => w.heap[blk]? | _ => none) hu
  simp only at e1
  rw [set_same hb, set_same hb] at e1
  cases e1
  exact ⟨_, hs, ⟨_, _, set_same hw2, hE2⟩, set_grown, by simp [Go.ChangeMaps.setBlock]⟩
/-- 'm[k]'. -/
theorem MapIs.lookup {t e : TypeId} (ht : Try.prog.underlying t = some (.map 47 e)) {w : World} {blk : Nat} {f : GBallot → Option Value} {n : Nat} (h : MapIs w blk f n) {b : GBallot} (hok : okB b) {v : Value} (hv : f b = some v) : (Instr.lookup t (.map (some blk)) (encB b) false).run Try.prog w = .ok v w := by
  obtain ⟨es, clock, hb, hE⟩ := h
  obtain ⟨kl, hkey⟩ := keyB hok.1 hok.2
  obtain ⟨x, hx, hk, rfl⟩ := hE.has b v hv
  rcases lawB.find w hkey es.toList hE.keys with ⟨_, h2⟩ | ⟨j, e0, h1, h2, h3⟩
  · exact absurd hk (h2 x hx)
  · obtain ⟨i, hi⟩ := List.getElem?_of_mem hx
    have := hE.inj hi h2 (by rw [hk, h3])
    subst this
    rw [hi] at h2
    cases h2
    simp [Instr.lookup, run_underlying ht, MapKept.run_getObj_map hb, lawB.check w _ hkey, h1, Result.andThen]
theorem MapIs.kept {w w' : World} {blk : Nat} {f : GBallot → Option Value} {n : Nat} (h : MapIs w blk f n) (hw : w'.heap[blk]? = w.heap[blk]?) : MapIs w' blk f n := by
  obtain ⟨es, clock, hb, hE⟩ := h
  exact ⟨es, clock, hw.trans hb, hE⟩
theorem MapIs.lt {w : World} {blk : Nat} {f : GBallot → Option Value} {n : Nat} (h : MapIs w blk f n) : blk < w.heap.size := by
  obtain ⟨es, clock, hb, hE⟩ := h
  exact (Array.getElem?_eq_some_iff.1 hb).1
end Go.Proofs.Ytmmgknhefobloaa.Hlp
