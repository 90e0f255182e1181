/- What stands in the two maps of the program's Chosen, and how a round turns it. -/
import Derived.Test.YtmmgknhefobloaaFunMG
namespace Go.Proofs.Ytmmgknhefobloaa.Hlp
open Go Go.RowKit Go.Proofs Go.Proofs.Ytmmgknhefobloaa.Lw
set_option linter.unusedVariables false
set_option linter.unusedSimpArgs false
set_option maxRecDepth 100000
set_option maxHeartbeats 4000000
theorem add0' (x : Addr) : x.add 0 = x := by simp [Addr.add]
theorem addJ (x : Addr) (j : Nat) : x.add (j + 1) = ⟨x.block, x.off + (j + 1), none⟩ := by
  unfold Addr.add
  simp
def encI (i : GInc) : Value := .agg #[.int .i64 i.Epoch, .int .i64 i.Kind, .int .i64 i.A, .int .i64 i.B]
def V (e : Int) (L : List GMon) (b : GBallot) : Prop := b ≠ ⟨0, 0⟩ ∧ 0 < cntTo e b L
/-- What stands in the two maps behind a part of the monitors. -/
structure VI (e : Int) (base B1 B2 n : Nat) (L : List GMon) (w : World) (f1 f2 : GBallot → Option Value) : Prop where
  m1 : MapIs w B1 f1 n
  m2 : MapIs w B2 f2 n
  row : ∀ b, V e L b → ∃ v xs, f1 b = some v ∧ w.ownsRow base 2 1 v (cntTo e b L) xs
  no : ∀ b v, f1 b = some v → V e L b
  dj : ∀ b b' v v', f1 b = some v → f1 b' = some v' → b ≠ b' → v.ownBlock ≠ v'.ownBlock
  inc : ∀ b, V e L b → f2 b = some (encI (incTo e b L))
theorem ownsRow_some {w : World} {base n : Nat} {v : Value} {xs : List Value} (h : w.ownsRow base 2 1 v n xs) (hn : 0 < n) : ∃ g, v.ownBlock = some g ∧ base ≤ g ∧ g < w.heap.size ∧ ∃ cur, w.heap[g]? = some (.cells cur 2 (0, 0)) := by
  rcases h.2 with ⟨_, h0⟩ | ⟨g, cap, cur, rfl, hb, hg, _⟩
  · omega
  · exact ⟨g, rfl, hb, (Array.getElem?_eq_some_iff.1 hg).1, cur, hg⟩
theorem MapIs.ne_row {w : World} {blk g : Nat} {f : GBallot → Option Value} {n : Nat} (h : MapIs w blk f n) {cur : Array Value} {t : TypeId} {mk : Nat × Nat} (hg : w.heap[g]? = some (.cells cur t mk)) : g ≠ blk := fun e => by
  subst e
  obtain ⟨es, clock, hb, _⟩ := h
  rw [hg] at hb
  cases hb
theorem cnt_app (e : Int) (b : GBallot) (L : List GMon) (m : GMon) : cntTo e b (L ++ [m]) = cntTo e b L + (if (slotF m.Slots e).Accepted = b then 1 else 0) := by
  unfold cntTo
  rw [List.countP_append]
  congr 1
  by_cases h : (slotF m.Slots e).Accepted = b <;> simp [h]
theorem inc_app (e : Int) (b : GBallot) (L : List GMon) (m : GMon) : incTo e b (L ++ [m]) = if (slotF m.Slots e).Accepted = b then (slotF m.Slots e).Inc else incTo e b L := by
  unfold incTo
  rw [List.foldl_append]
  rfl
theorem V_nil (e : Int) (b : GBallot) : ¬ V e [] b := fun h => Nat.lt_irrefl 0 h.2
theorem VI.start (e : Int) (base B1 B2 : Nat) {w : World} (h1 : w.heap[B1]? = some (.map #[] 0)) (h2 : w.heap[B2]? = some (.map #[] 0)) : VI e base B1 B2 0 [] w (fun _ => none) (fun _ => none) :=
  ⟨⟨#[], 0, h1, EsIs.nil⟩, ⟨#[], 0, h2, EsIs.nil⟩, fun b h => absurd h (V_nil e b), fun b v h => (by cases h), fun b b' v v' h => (by cases h), fun b h => absurd h (V_nil e b)⟩
/-- A monitor that accepted nothing. -/
theorem VI.skip {e : Int} {base B1 B2 n : Nat} {L : List GMon} {w w' : World} {f1 f2 : GBallot → Option Value} (h : VI e base B1 B2 n L w f1 f2) (hg : w.grownBy w' none) {m : GMon} (hz : (slotF m.Slots e).Accepted = ⟨0, 0⟩) : VI e base B1 B2 (n + 1) (L ++ [m]) w' f1 f2 := by
  have hcn : ∀ b, b ≠ ⟨0, 0⟩ → cntTo e b (L ++ [m]) = cntTo e b L := fun b hb => by rw [cnt_app, hz, if_neg (Ne.symm hb)]; rfl
  have hin : ∀ b, b ≠ ⟨0, 0⟩ → incTo e b (L ++ [m]) = incTo e b L := fun b hb => by rw [inc_app, hz, if_neg (Ne.symm hb)]
  have hV : ∀ b, V e (L ++ [m]) b ↔ V e L b := fun b => ⟨fun h => ⟨h.1, by rw [← hcn b h.1]; exact h.2⟩, fun h => ⟨h.1, by rw [hcn b h.1]; exact h.2⟩⟩
  have mk : ∀ {blk : Nat} {f : GBallot → Option Value}, MapIs w blk f n → MapIs w' blk f (n + 1) := fun {blk f} hm => by
    obtain ⟨es, clock, hb, hE⟩ := hm
    exact ⟨es, clock, (hg.block blk (Array.getElem?_eq_some_iff.1 hb).1 (by simp)).trans hb, hE.st, Nat.le_succ_of_le hE.sz, hE.ent, hE.has⟩
  refine ⟨mk h.m1, mk h.m2, fun b hv => ?_, fun b v hf => (hV b).2 (h.no b v hf), h.dj, fun b hv => ?_⟩
  · have hv' := (hV b).1 hv
    obtain ⟨v, xs, h1, h2⟩ := h.row b hv'
    exact ⟨v, xs, h1, by rw [hcn b hv.1]; exact h2.kept hg (by
      obtain ⟨g, hg', _⟩ := ownsRow_some h2 hv'.2
      rw [hg']; right; simp)⟩
  · rw [hin b hv.1]
    exact h.inc b ((hV b).1 hv)
theorem VI.step {e : Int} {base B1 B2 k : Nat} {L : List GMon} {m : GMon} {wr W1 : World} {f1 f2 : GBallot → Option Value} (h : VI e base B1 B2 k L wr f1 f2) (hk : k ≤ 1000) (hlen : L.length ≤ 1000) (hB : B1 ≠ B2) (hbs : base ≤ wr.heap.size) (hg : wr.grownBy W1 none)
    {g : Nat} (hg1 : g < W1.heap.size) {id : Int} (hc : W1.cell? ⟨g, 0, none⟩ = some (.int .i64 id)) {b0 : GBallot} {i0 : GInc} (hb0 : (slotF m.Slots e).Accepted = b0) (hi0 : (slotF m.Slots e).Inc = i0) (hnz : b0 ≠ ⟨0, 0⟩) (hok : okB b0)
    {B : Nat} (hB1 : B ≤ B1) (hB2 : B ≤ B2) (hB3 : B ≤ base) {w0 : World} (hbel : Below B w0 W1) (ty : TypeId) :
    ∃ vOld st w3 v' w4 w5 w6 f1' f2', (Instr.mapEntry 61 (.map (some B1)) (encB b0)).run Try.prog W1 = .ok (.tuple #[vOld, goInt (st : Nat)]) w3 ∧
      (Builtin.append_ #[40, 40] ty #[vOld, .slice (some ⟨g, 0, none⟩) 1 1]).run Try.prog w3 = .ok v' w4 ∧
      (Instr.entryStore 61 (.map (some B1)) (goInt (st : Nat)) v').run Try.prog w4 = .ok () w5 ∧
      (∀ q, wr.heap.size ≤ q → q < W1.heap.size → w5.heap[q]? = W1.heap[q]?) ∧
      (Instr.mapUpdate 62 (.map (some B2)) (encB b0) (encI i0)).run Try.prog w5 = .ok () w6 ∧
      VI e base B1 B2 (k + 1) (L ++ [m]) w6 f1' f2' ∧ Below B w0 w6 ∧ wr.heap.size ≤ w6.heap.size := by
  have l1 := h.m1.lt
  have l2 := h.m2.lt
  have hM1 : MapIs W1 B1 f1 k := h.m1.kept (hg.block B1 l1 (by simp))
  obtain ⟨st, w3, hrun3, g3, s3, hback⟩ := hM1.entry (t := 61) (e := 40) (by kernel_rfl) (z := .slice none 0 0) (fun u => by kernel_rfl) (by unfold maxLen; omega) hok
  -- the row that stands there
  obtain ⟨vOld, hvo⟩ : ∃ v, (f1 b0).getD (.slice none 0 0) = v := ⟨_, rfl⟩
  rw [hvo] at hrun3
  have hold : ∃ xs, wr.ownsRow base 2 1 vOld (cntTo e b0 L) xs ∧ (f1 b0 = some vOld ∨ vOld = .slice none 0 0) := by
    cases hf : f1 b0 with
    | none =>
      rw [hf] at hvo
      have h0 : cntTo e b0 L = 0 := by
        rcases Nat.eq_zero_or_pos (cntTo e b0 L) with h' | h'
        · exact h'
        · obtain ⟨v, _, h1, _⟩ := h.row b0 ⟨hnz, h'⟩
          rw [hf] at h1
          cases h1
      rw [h0, ← hvo]
      exact ⟨[], World.ownsRow_nil _ _ _ _, .inr rfl⟩
    | some v =>
      rw [hf] at hvo
      obtain ⟨v2, xs, h1, h2⟩ := h.row b0 (h.no b0 v hf)
      rw [hf] at h1
      cases h1
      cases hvo
      exact ⟨xs, h2, .inl rfl⟩
  obtain ⟨xs, hown, hwho⟩ := hold
  have hob : ∀ q, vOld.ownBlock = some q → base ≤ q ∧ q < wr.heap.size ∧ q ≠ B1 ∧ q ≠ B2 := fun q hq => by
    have h1 := hown.lt q hq
    rcases hown.2 with ⟨hv, _⟩ | ⟨g', cap, cur, hv, _, hgc, _⟩
    · rw [hv] at hq; cases hq
    · rw [hv] at hq
      cases hq
      exact ⟨h1.1, h1.2, h.m1.ne_row hgc, h.m2.ne_row hgc⟩
  have hgs := hg.size
  have hown1 : W1.ownsRow base 2 1 vOld (cntTo e b0 L) xs := hown.kept hg (by
    cases hq : vOld.ownBlock with
    | none => left; rfl
    | some q => right; simp)
  have hown3 : w3.ownsRow base 2 1 vOld (cntTo e b0 L) xs := hown1.kept g3 (by
    cases hq : vOld.ownBlock with
    | none => left; rfl
    | some q => right; have := hob q hq; simp [this.2.2.1])
  have hc3 : w3.cell? ⟨g, 0, none⟩ = some (.int .i64 id) := g3.cell hc (by
    intro he
    simp only [Option.some.injEq] at he
    obtain ⟨es, clock, hb, _⟩ := hM1
    unfold World.cell? at hc
    rw [he, hb] at hc
    simp at hc)
  have hcl : cntTo e b0 L ≤ 1000 := Nat.le_trans (cnt_len L e b0) hlen
  obtain ⟨i2, hi, hz0, hz1, hz2⟩ := info_parts (show (Try.prog.info? 2).map (fun i => (i.zero, i.size, i.bytes)) = some (some (.int .i64 0), 1, 8) by kernel_rfl)
  obtain ⟨v', w4, hrun4, hown4, g4, _, hloc⟩ := run_append_own_at (P := Try.prog) w3 base 40 ty 2 i2 (.int .i64 0) 1 8 (by kernel_rfl) hi hz0 hz1 hz2 rfl (by decide) vOld (cntTo e b0 L) xs hown3 ⟨g, 0, none⟩ 1 1 [.int .i64 id] rfl
    (fun j u hu => by
      cases j with
      | zero =>
        cases hu
        rw [add0']
        exact hc3
      | succ j => simp at hu) (fun u hu => by simp at hu; subst hu; rfl) (by unfold maxLen; omega) (by omega) (by rw [s3]; omega)
  have g4s := g4.size
  have hB14 : w4.heap[B1]? = w3.heap[B1]? := g4.block B1 (by rw [s3]; omega) (fun he => (hob B1 he.symm).2.2.1 rfl)
  obtain ⟨w5, hrun5, hM5, g5, s5⟩ := hback w4 v' hB14
  have keep3 : ∀ q, q < W1.heap.size → q ≠ B1 → some q ≠ vOld.ownBlock → w5.heap[q]? = W1.heap[q]? := fun q hq h1 h2 =>
    ((g5.block q (by omega) (fun he => h1 (by cases he; rfl))).trans (g4.block q (by omega) h2)).trans (g3.block q hq (fun he => h1 (by cases he; rfl)))
  have hM2 : MapIs w5 B2 f2 k := h.m2.kept ((keep3 B2 (by omega) (Ne.symm hB) (fun he => (hob B2 he.symm).2.2.2 rfl)).trans (hg.block B2 l2 (by simp)))
  obtain ⟨w6, hrun6, hM6, g6, s6⟩ := hM2.update (t := 62) (e := 48) (by kernel_rfl) hok (encI i0)
  have hM16 : MapIs w6 B1 (upd f1 b0 v') (k + 1) := hM5.kept (g6.block B1 (by omega) (fun he => hB (by cases he; rfl)))
  -- which rows stay
  have v'own : ∃ q, v'.ownBlock = some q ∧ base ≤ q ∧ q < w4.heap.size ∧ q ≠ B1 ∧ q ≠ B2 ∧ (vOld.ownBlock = some q ∨ wr.heap.size ≤ q) := by
    obtain ⟨q, hq, hbq, hql, _⟩ := ownsRow_some hown4 (by omega)
    rcases hloc with h' | h'
    · rw [hq] at h'
      have := hob q h'.symm
      exact ⟨q, hq, hbq, hql, this.2.2.1, this.2.2.2, .inl h'.symm⟩
    · rw [hq] at h'
      cases h'
      exact ⟨_, hq, hbq, hql, by omega, by omega, .inr (by omega)⟩
  obtain ⟨q', hq', hbq', hql', hn1', hn2', hor'⟩ := v'own
  have hown6 : w6.ownsRow base 2 1 v' (cntTo e b0 L + 1) (xs ++ [.int .i64 id]) := (hown4.kept g5 (.inr (by rw [hq']; simp [hn1']))).kept g6 (.inr (by rw [hq']; simp [hn2']))
  have other : ∀ b v, b ≠ b0 → f1 b = some v → ∀ q, v.ownBlock = some q → vOld.ownBlock ≠ some q ∧ v'.ownBlock ≠ some q := fun b v hb hf q hq => by
    have hV := h.no b v hf
    obtain ⟨v2, xs2, h1, h2⟩ := h.row b hV
    rw [hf] at h1
    cases h1
    obtain ⟨q2, hq2, _, hl2, _⟩ := ownsRow_some h2 hV.2
    rw [hq] at hq2
    cases hq2
    have h3 : vOld.ownBlock ≠ some q := fun he => by
      rcases hwho with h' | h'
      · exact h.dj b b0 v vOld hf h' hb (by rw [hq, he])
      · rw [h'] at he; cases he
    refine ⟨h3, fun he => ?_⟩
    rw [hq'] at he
    cases he
    rcases hor' with h' | h'
    · exact h3 h'
    · omega
  have cntb : ∀ b, cntTo e b (L ++ [m]) = cntTo e b L + (if b0 = b then 1 else 0) := fun b => by rw [cnt_app, hb0]
  have hVb : ∀ b, b ≠ b0 → (V e (L ++ [m]) b ↔ V e L b) := fun b hb => by
    unfold V
    rw [cntb b, if_neg (Ne.symm hb)]
    rfl
  have hVI : VI e base B1 B2 (k + 1) (L ++ [m]) w6 (upd f1 b0 v') (upd f2 b0 (encI i0)) := by
    refine ⟨hM16, hM6, fun b hv => ?_, fun b v hf => ?_, fun b b' v v2 hf hf2 hne => ?_, fun b hv => ?_⟩
    · by_cases hbb : b = b0
      · subst hbb
        exact ⟨v', _, by unfold upd; rw [if_pos rfl], by rw [cntb b, if_pos rfl]; exact hown6⟩
      · have hv' := (hVb b hbb).1 hv
        obtain ⟨v, xs2, h1, h2⟩ := h.row b hv'
        obtain ⟨q, hq, _, hql, cur, hcur⟩ := ownsRow_some h2 hv'.2
        have hq1 := h.m1.ne_row hcur
        have hq2 := h.m2.ne_row hcur
        have ho := other b v hbb h1 q hq
        refine ⟨v, xs2, by unfold upd; rw [if_neg hbb]; exact h1, ?_⟩
        rw [cntb b, if_neg (Ne.symm hbb), Nat.add_zero]
        exact ((((h2.kept hg (.inr (by rw [hq]; simp))).kept g3 (.inr (by rw [hq]; simp [hq1]))).kept g4 (.inr (by rw [hq]; exact fun he => ho.1 he.symm))).kept g5 (.inr (by rw [hq]; simp [hq1]))).kept g6 (.inr (by rw [hq]; simp [hq2]))
    · unfold upd at hf
      by_cases hbb : b = b0
      · subst hbb
        exact ⟨hnz, by rw [cntb b, if_pos rfl]; omega⟩
      · rw [if_neg hbb] at hf
        exact (hVb b hbb).2 (h.no b v hf)
    · unfold upd at hf hf2
      by_cases hbb : b = b0
      · rw [if_pos hbb] at hf
        cases hf
        have hbb' : b' ≠ b0 := fun he => hne (by rw [hbb, he])
        rw [if_neg hbb'] at hf2
        have hV := h.no b' v2 hf2
        obtain ⟨v3, xs3, h1, h2⟩ := h.row b' hV
        rw [hf2] at h1
        cases h1
        obtain ⟨q, hq, _⟩ := ownsRow_some h2 hV.2
        rw [hq]
        exact (other b' v2 hbb' hf2 q hq).2
      · rw [if_neg hbb] at hf
        by_cases hbb' : b' = b0
        · rw [if_pos hbb'] at hf2
          cases hf2
          have hV := h.no b v hf
          obtain ⟨v3, xs3, h1, h2⟩ := h.row b hV
          rw [hf] at h1
          cases h1
          obtain ⟨q, hq, _⟩ := ownsRow_some h2 hV.2
          rw [hq]
          exact fun he => (other b v hbb hf q hq).2 he.symm
        · rw [if_neg hbb'] at hf2
          exact h.dj b b' v v2 hf hf2 hne
    · rw [inc_app, hb0, hi0]
      by_cases hbb : b = b0
      · subst hbb
        unfold upd
        rw [if_pos rfl, if_pos rfl]
      · unfold upd
        rw [if_neg hbb, if_neg (Ne.symm hbb)]
        exact h.inc b ((hVb b hbb).1 hv)
  have hbel6 : Below B w0 w6 := by
    have b3 := hbel.grown g3 (by omega) (fun j hj => by cases hj; omega)
    have b4 := b3.grown g4 (by omega) (fun j hj => by have := hob j hj; omega)
    have b5 := b4.grown g5 (by omega) (fun j hj => by cases hj; omega)
    exact b5.grown g6 (by omega) (fun j hj => by cases hj; omega)
  refine ⟨vOld, st, w3, v', w4, w5, w6, _, _, hrun3, hrun4, hrun5, fun q hq0 hq1 => keep3 q hq1 (by omega) (fun he => ?_), hrun6, hVI, hbel6, by omega⟩
  have := hob q he.symm
  omega
end Go.Proofs.Ytmmgknhefobloaa.Hlp
