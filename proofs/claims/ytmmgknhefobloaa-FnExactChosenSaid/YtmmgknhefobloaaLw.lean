/- A light walk, second part: what each step of a walk shows holds of the machine. -/
import Derived.Test.YtmmgknhefobloaaLwA
namespace Go.Proofs.Ytmmgknhefobloaa.Lw
open Go Go.RowKit
set_option linter.unusedVariables false
set_option linter.unusedSimpArgs false
theorem growBy_le (m : Nat) : ∀ (r c : Nat), Builtin.growBy m r c ≤ max c (m + (m + 768) / 4)
  | 0, c => by simp [Builtin.growBy]; omega
  | r + 1, c => by
    simp only [Builtin.growBy]
    split
    · omega
    · have := growBy_le m r (c + (c + 768) / 4)
      omega
theorem nextcap_le {m c : Nat} (h : c < m) : Builtin.nextslicecap m c ≤ 2 * m + 512 := by
  unfold Builtin.nextslicecap
  split
  · omega
  · split
    · omega
    · have := growBy_le m 4 c
      omega
theorem appOk_out {P : Program} {t : TypeId} {u : Unit} (h : prun P (appOk t) = some u) : ∃ e, P.underlying t = some (.slice e) := by
  unfold appOk at h
  rw [prun_bind] at h
  cases hu : prun P (underlying t) with
  | none => rw [hu] at h; simp at h
  | some d =>
    rw [hu] at h
    simp only [Option.bind_some] at h
    cases d <;> first | (simp [stuck, prun] at h; done) | skip
    exact ⟨_, underlying_of hu⟩
theorem append_in {P : Program} {t0 t1 ty z by_ elem : Nat} {Z ds : List Value} {u : Unit} {base : Option Addr} {len cap k : Nat} {xv : Value} {w w' : World} (hi : prun P (elemInfo t0) = some (z, by_, Z, elem)) (ha : prun P (appOk t1) = some u)
    (hlen : (Builtin.lenOf xv).run P w = .ok k w) (hsrc : (Builtin.firstCells z k xv).run P w = .ok ds.toArray w) (hle : len + k ≤ cap) (ad : Addr) (hb : base = some ad) (hst : (storeCells (ad.add (len * z)) ds).run P w = .ok () w') :
    (Builtin.append_ #[t0, t1] ty #[.slice base len cap, xv]).run P w = .ok (.slice base (len + k) cap) w' := by
  obtain ⟨hu, i, v, hti, hv, hsz, hby, hZ, hl, hz⟩ := elemInfo_out hi
  obtain ⟨e1, hu1⟩ := appOk_out ha
  subst hb
  unfold Builtin.append_
  simp only [List.getElem?_toArray, List.getElem?_cons_zero, List.getElem?_cons_succ, Sem.run_bind, prun_run (prun_underlying hu) w, prun_run (prun_underlying hu1) w, Result.andThen_ok, prun_run hsz w, Sem.run_pure, Bool.false_eq_true, if_false, hlen, Bool.not_false, if_true]
  rw [if_pos hle]
  simp only [Sem.run_bind, hsrc, Result.andThen_ok, hst, Sem.run_pure]
theorem append_out {P : Program} {t0 t1 ty z by_ elem : Nat} {Z cs ds : List Value} {u : Unit} {base : Option Addr} {len cap k : Nat} {xv : Value} {w : World} (hi : prun P (elemInfo t0) = some (z, by_, Z, elem)) (ha : prun P (appOk t1) = some u)
    (hlen : (Builtin.lenOf xv).run P w = .ok k w) (hsrc : ∀ w' : World, w'.heap = w.heap → (Builtin.firstCells z k xv).run P w' = .ok ds.toArray w') (hold : ∀ w' : World, w'.heap = w.heap → (Builtin.firstCells z len (.slice base len cap)).run P w' = .ok cs.toArray w')
    (hle : ¬ len + k ≤ cap) (hm : len + k ≤ 1000000000000) (hbd : (2 * (len + k) + 512) * by_ ≤ 281474976710656) :
    ∃ c' rest, len + k ≤ c' ∧ rest.length = (c' - (len + k)) * z ∧ (Builtin.append_ #[t0, t1] ty #[.slice base len cap, xv]).run P w = .ok (.slice (some ⟨w.heap.size, 0, none⟩) (len + k) c') (({ w with drawn := w.drawn + 1 } : World).alloc (.cells (cs ++ ds ++ rest).toArray elem)) := by
  obtain ⟨hu, i, v, hti, hv, hsz, hby, hZ, hl, hz⟩ := elemInfo_out hi
  obtain ⟨e1, hu1⟩ := appOk_out ha
  have hnc := nextcap_le (m := len + k) (c := cap) (by omega)
  have hnb : Builtin.nextslicecap (len + k) cap * by_ ≤ 281474976710656 := Nat.le_trans (Nat.mul_le_mul_right _ hnc) hbd
  obtain ⟨q, hq⟩ : ∃ q, q = Question.appendCap (len + k) cap elem := ⟨_, rfl⟩
  have hc' : len + k ≤ q.cut (w.tape w.drawn q) := by subst hq; simp only [Question.cut]; omega
  refine ⟨q.cut (w.tape w.drawn q), (Builtin.zeroCells v.cells (q.cut (w.tape w.drawn q) - (len + k))).toList, hc', ?_, ?_⟩
  · simp only [Builtin.zeroCells, Array.toList_map, Array.toList_range, List.length_map, List.length_range]
    rw [show v.cells.size = z by rw [← hl, ← hZ]; simp]
  have hch : (choose q).run P w = .ok (q.cut (w.tape w.drawn q)) { w with drawn := w.drawn + 1 } := by
    subst hq
    unfold choose
    simp [Sem.run, Question.forced]
  unfold Builtin.append_
  simp only [List.getElem?_toArray, List.getElem?_cons_zero, List.getElem?_cons_succ, Sem.run_bind, prun_run (prun_underlying hu) w, prun_run (prun_underlying hu1) w, Result.andThen_ok, prun_run hsz w, Sem.run_pure, Bool.false_eq_true, if_false, hlen, Bool.not_false, if_true]
  rw [if_neg hle]
  have hmax : ¬ (((len + k : Nat) : Int) > IntKind.i64.max) := by
    unfold IntKind.max IntKind.bits IntKind.signed
    simp
    omega
  simp only [Sem.run_bind, prun_run hti w, Result.andThen_ok]
  rw [if_neg (fun h => hmax h.1)]
  simp only [Sem.run_bind, prun_run hti w, Result.andThen_ok, hby]
  rw [if_neg (by simp; omega)]
  have hroom : ∀ (n : Nat) (w : World), (askRoom n).run P w = .ok () w := by
    intro n w
    unfold askRoom
    split <;> rfl
  simp only [Sem.run_bind, ← hq, hch, Result.andThen_ok, prun_run hti, hroom, hold { w with drawn := w.drawn + 1 } rfl, hsrc { w with drawn := w.drawn + 1 } rfl, prun_run hv]
  have hcells : cs.toArray ++ ds.toArray ++ Builtin.zeroCells v.cells (q.cut (w.tape w.drawn q) - (len + k)) = (cs ++ ds ++ (Builtin.zeroCells v.cells (q.cut (w.tape w.drawn q) - (len + k))).toList).toArray := by simp
  rw [hcells]
  rfl
theorem intTy_out {P : Program} {t : TypeId} {u : Unit} (h : prun P (intTy t) = some u) : ∃ e, P.underlying t = some (.int e) := by
  unfold intTy at h
  rw [prun_bind] at h
  cases hu : prun P (underlying t) with
  | none => rw [hu] at h; simp at h
  | some d =>
    rw [hu] at h
    simp only [Option.bind_some] at h
    cases d <;> first | (simp [stuck, prun] at h; done) | skip
    exact ⟨_, underlying_of hu⟩
theorem append_outZ {P : Program} {t0 t1 ty z by_ elem : Nat} {Z cs : List Value} {u : Unit} {base : Option Addr} {len cap k : Nat} {xk : IntKind} {w : World} (hi : prun P (elemInfo t0) = some (z, by_, Z, elem)) (ha : prun P (intTy t1) = some u)
    (hold : ∀ w' : World, w'.heap = w.heap → (Builtin.firstCells z len (.slice base len cap)).run P w' = .ok cs.toArray w')
    (hle : ¬ len + k ≤ cap) (hm : len + k ≤ 1000000000000) (hbd : (2 * (len + k) + 512) * by_ ≤ 281474976710656) :
    ∃ c' rest, len + k ≤ c' ∧ rest.length = (c' - (len + k)) * z ∧ (Builtin.append_ #[t0, t1] ty #[.slice base len cap, (.int xk (k : Int))]).run P w = .ok (.slice (some ⟨w.heap.size, 0, none⟩) (len + k) c') (({ w with drawn := w.drawn + 1 } : World).alloc (.cells (cs ++ (List.replicate k Z).flatten ++ rest).toArray elem)) := by
  obtain ⟨hu, i, v, hti, hv, hsz, hby, hZ, hl, hz⟩ := elemInfo_out hi
  obtain ⟨e1, hu1⟩ := intTy_out ha
  have hnc := nextcap_le (m := len + k) (c := cap) (by omega)
  have hnb : Builtin.nextslicecap (len + k) cap * by_ ≤ 281474976710656 := Nat.le_trans (Nat.mul_le_mul_right _ hnc) hbd
  obtain ⟨q, hq⟩ : ∃ q, q = Question.appendCap (len + k) cap elem := ⟨_, rfl⟩
  have hc' : len + k ≤ q.cut (w.tape w.drawn q) := by subst hq; simp only [Question.cut]; omega
  refine ⟨q.cut (w.tape w.drawn q), (Builtin.zeroCells v.cells (q.cut (w.tape w.drawn q) - (len + k))).toList, hc', ?_, ?_⟩
  · simp only [Builtin.zeroCells, Array.toList_map, Array.toList_range, List.length_map, List.length_range]
    rw [show v.cells.size = z by rw [← hl, ← hZ]; simp]
  have hch : (choose q).run P w = .ok (q.cut (w.tape w.drawn q)) { w with drawn := w.drawn + 1 } := by
    subst hq
    unfold choose
    simp [Sem.run, Question.forced]
  have hwk : IntKind.i64.wrap (k : Int) = (k : Int) := by
    unfold IntKind.wrap IntKind.bits IntKind.signed
    simp only [Bool.true_and]
    have : (k : Int) % (2 ^ 64 : Int) = (k : Int) := by omega
    simp only [this]
    rw [if_neg (by simp; omega)]
  have hl48 : ¬ ((k : Int) * (by_ : Int) > 2 ^ 48) := by
    have h1 : k * by_ ≤ (2 * (len + k) + 512) * by_ := Nat.mul_le_mul_right _ (by omega)
    have h2 : ((k * by_ : Nat) : Int) = (k : Int) * (by_ : Int) := by push_cast; rfl
    rw [← h2]
    simp
    omega
  have hzs : v.cells.size = z := by rw [← hl, ← hZ]; simp
  unfold Builtin.append_
  simp only [List.getElem?_toArray, List.getElem?_cons_zero, List.getElem?_cons_succ, Sem.run_bind, prun_run (prun_underlying hu) w, prun_run (prun_underlying hu1) w, Result.andThen_ok, prun_run hsz w, prun_run hti w, Sem.run_pure, if_true, asInt, asIntOf, hwk, hby]
  rw [if_neg (by simp)]
  simp only [Sem.run_bind, prun_run hti w, Sem.run_pure, Result.andThen_ok, hby]
  rw [if_neg hl48]
  simp only [Sem.run_bind, Sem.run_pure, Result.andThen_ok, Int.toNat_natCast]
  rw [if_neg hle]
  have hmax : ¬ (((len + k : Nat) : Int) > IntKind.i64.max) := by
    unfold IntKind.max IntKind.bits IntKind.signed
    simp
    omega
  simp only [Sem.run_bind, prun_run hti w, Result.andThen_ok]
  rw [if_neg (fun h => hmax h.1)]
  simp only [Sem.run_bind, prun_run hti w, Result.andThen_ok, hby]
  rw [if_neg (by simp; omega)]
  have hroom : ∀ (n : Nat) (w : World), (askRoom n).run P w = .ok () w := by
    intro n w
    unfold askRoom
    split <;> rfl
  simp only [Sem.run_bind, ← hq, hch, Result.andThen_ok, prun_run hti, hroom, hold { w with drawn := w.drawn + 1 } rfl, prun_run hv, Bool.not_true, Bool.false_eq_true, if_false]
  by_cases h0 : k * z = 0
  · rw [if_pos h0]
    have hk0 : k = 0 := by rcases Nat.mul_eq_zero.mp h0 with h | h; exact h; exact absurd h hz
    subst hk0
    simp only [Sem.run_bind, Sem.run_pure, Result.andThen_ok, prun_run hv]
    have hcells : cs.toArray ++ #[] ++ Builtin.zeroCells v.cells (q.cut (w.tape w.drawn q) - (len + 0)) = (cs ++ (List.replicate 0 Z).flatten ++ (Builtin.zeroCells v.cells (q.cut (w.tape w.drawn q) - (len + 0))).toList).toArray := by simp
    rw [hcells]
    rfl
  · rw [if_neg h0]
    simp only [Sem.run_bind, Sem.run_pure, Result.andThen_ok, prun_run hv]
    have hzc : Builtin.zeroCells v.cells k = (List.replicate k Z).flatten.toArray := by
      have := zero_cells (m := k) hZ hl v.cells (by rw [if_neg h0])
      unfold Builtin.zeroCells
      rw [hzs]
      rw [← this]
      simp [hzs]
    have hcells : cs.toArray ++ Builtin.zeroCells v.cells k ++ Builtin.zeroCells v.cells (q.cut (w.tape w.drawn q) - (len + k)) = (cs ++ (List.replicate k Z).flatten ++ (Builtin.zeroCells v.cells (q.cut (w.tape w.drawn q) - (len + k))).toList).toArray := by rw [hzc]; simp
    rw [hcells]
    rfl
/-- What is to be appended reads off. -/
theorem src_read {M0 M : Mem} {w0 : Base} {N : Nat} {σ : Nat → Nat} {e : Env} {b : Bx} {n : Nat} {a : Act} {w : World} {P : Program} {x : Operand} {z : Nat} {K : Nat → List Value → Prop} (h : Rel M0 w0 N σ e b n M a w) (hz : z ≠ 0) (hp : srcK e b M x z K) :
    ∃ k ds, K k ds ∧ ds.length = k * z ∧ (Builtin.lenOf (a.eval x)).run P w = .ok k w ∧ (∀ w' : World, w'.heap = w.heap → (Builtin.firstCells z k (a.eval x)).run P w' = .ok ds.toArray w') := by
  have rd : ∀ {ad : Addr} {k c : Nat} {ds : List Value}, ds.length = k * z → (∀ (o : Nat) (u : Value), ds[o]? = some u → w.cell? (ad.add o) = some u) → ∀ w' : World, w'.heap = w.heap → (Builtin.firstCells z k (.slice (some ad) k c)).run P w' = .ok ds.toArray w' := by
    intro ad k c ds hl hc w' hw'
    unfold Builtin.firstCells
    have := loadCellsFrom_run (P := P) (w := w') (ad := ad) ds 0 #[] (fun i u hu => by
      rw [Nat.zero_add]
      have := hc i u hu
      unfold World.cell? at this ⊢
      rw [hw']
      exact this)
    unfold loadCells
    rw [← hl, this]
    simp
  unfold srcK at hp
  split at hp
  · rename_i i len cap z' hx
    split at hp
    · rename_i ds hi
      cases hc : Nat.beq z' z with
      | false => rw [hc] at hp; exact hp.elim
      | true =>
        rw [hc] at hp
        have hzz := Nat.eq_of_beq_eq_true hc
        subst hzz
        have hg : Good w0 σ b w (.s i len cap z') := by
          cases x with
          | tmp t => exact h.sl t _ hx
          | _ => simp [Lw.ev] at hx
        obtain ⟨g1, g2, c, ty, g3, g4⟩ := hg ds hi
        have hxe := h.ev hx
        simp only [conc] at hxe
        rw [hxe]
        refine ⟨len, ds, hp, g1, rfl, rd g1 fun o u hu => ?_⟩
        have := h.cellB hi hu
        unfold Addr.add
        split
        · rename_i h0; subst h0; exact this
        · simpa using this
    · exact hp.elim
  · rename_i base k c hx
    obtain ⟨ds, hl, hr, hk⟩ := hp
    have hxe := h.ev hx
    simp only [conc] at hxe
    rw [hxe]
    refine ⟨k, ds, hk, hl, rfl, ?_⟩
    rcases Nat.eq_zero_or_pos k with hk0 | hk0
    · subst hk0
      have hd0 : ds = [] := List.eq_nil_of_length_eq_zero (by rw [hl, Nat.zero_mul])
      subst hd0
      intro w' _
      cases base with
      | none => rfl
      | some ad => exact rd (by simp) (fun o u hu => by simp at hu) w' (by assumption)
    have h0 : 0 < ds.length := by rw [hl]; exact Nat.mul_pos hk0 (Nat.pos_of_ne_zero hz)
    obtain ⟨ad, rfl, _⟩ := hr 0 _ (List.getElem?_eq_getElem h0)
    refine rd hl fun o u hu => ?_
    obtain ⟨ad', he, hm⟩ := hr o u hu
    simp only [Option.some.injEq] at he
    subst he
    exact h.cellW hm
  · exact hp.elim
theorem src_readN {M0 M : Mem} {w0 : Base} {N : Nat} {σ : Nat → Nat} {e : Env} {b : Bx} {n : Nat} {a : Act} {w : World} {P : Program} {x : Operand} {z : Nat} {K : Nat → List Value → Prop} (h : Rel M0 w0 N σ e b n M a w) (hz : z ≠ 0) (hp : srcK e b M x z K) :
    ∃ k ds, K k ds ∧ ds.length = k * z ∧ (Builtin.lenOf (a.eval x)).run P w = .ok k w ∧ (∀ m, m ≤ k → ∀ w' : World, w'.heap = w.heap → (Builtin.firstCells z m (a.eval x)).run P w' = .ok (ds.take (m * z)).toArray w') := by
  have rd : ∀ {ad : Addr} {k c : Nat} {ds : List Value}, ds.length = k * z → (∀ (o : Nat) (u : Value), ds[o]? = some u → w.cell? (ad.add o) = some u) → ∀ m, m ≤ k → ∀ w' : World, w'.heap = w.heap → (Builtin.firstCells z m (.slice (some ad) k c)).run P w' = .ok (ds.take (m * z)).toArray w' := by
    intro ad k c ds hl hc m hm w' hw'
    have hlt : (ds.take (m * z)).length = m * z := by rw [List.length_take, hl, Nat.min_eq_left (Nat.mul_le_mul_right _ hm)]
    unfold Builtin.firstCells
    have := loadCellsFrom_run (P := P) (w := w') (ad := ad) (ds.take (m * z)) 0 #[] (fun i u hu => by
      rw [Nat.zero_add]
      have := hc i u (by rw [List.getElem?_take] at hu; split at hu; exact hu; cases hu)
      unfold World.cell? at this ⊢
      rw [hw']
      exact this)
    unfold loadCells
    rw [hlt] at this
    rw [this]
    simp
  unfold srcK at hp
  split at hp
  · rename_i i len cap z' hx
    split at hp
    · rename_i ds hi
      cases hc : Nat.beq z' z with
      | false => rw [hc] at hp; exact hp.elim
      | true =>
        rw [hc] at hp
        have hzz := Nat.eq_of_beq_eq_true hc
        subst hzz
        have hg : Good w0 σ b w (.s i len cap z') := by
          cases x with
          | tmp t => exact h.sl t _ hx
          | _ => simp [Lw.ev] at hx
        obtain ⟨g1, g2, c, ty, g3, g4⟩ := hg ds hi
        have hxe := h.ev hx
        simp only [conc] at hxe
        rw [hxe]
        refine ⟨len, ds, hp, g1, rfl, rd g1 fun o u hu => ?_⟩
        have := h.cellB hi hu
        unfold Addr.add
        split
        · rename_i h0; subst h0; exact this
        · simpa using this
    · exact hp.elim
  · rename_i base k c hx
    obtain ⟨ds, hl, hr, hk⟩ := hp
    have hxe := h.ev hx
    simp only [conc] at hxe
    rw [hxe]
    refine ⟨k, ds, hk, hl, rfl, ?_⟩
    rcases Nat.eq_zero_or_pos k with hk0 | hk0
    · subst hk0
      have hd0 : ds = [] := List.eq_nil_of_length_eq_zero (by rw [hl, Nat.zero_mul])
      subst hd0
      intro m hm w' hw'
      cases base with
      | none => rw [List.take_nil]; rfl
      | some ad => exact rd (by simp) (fun o u hu => by simp at hu) m hm w' hw'
    have h0 : 0 < ds.length := by rw [hl]; exact Nat.mul_pos hk0 (Nat.pos_of_ne_zero hz)
    obtain ⟨ad, rfl, _⟩ := hr 0 _ (List.getElem?_eq_getElem h0)
    refine rd hl fun o u hu => ?_
    obtain ⟨ad', he, hm⟩ := hr o u hu
    simp only [Option.some.injEq] at he
    subst he
    exact h.cellW hm
  · exact hp.elim
theorem setAt_mid0 : ∀ (v p q r : List Value), q.length = v.length → setAt (p ++ (q ++ r)) p.length v = p ++ (v ++ r)
  | [], p, q, r, h => by simp at h; subst h; rfl
  | u :: v, p, q, r, h => by
    match q, h with
    | c :: q, h =>
      simp only [List.length_cons, Nat.add_right_cancel_iff] at h
      simp only [setAt]
      rw [List.set_append_right _ _ (Nat.le_refl _)]
      simp only [Nat.sub_self, List.cons_append, List.set_cons_zero]
      have := setAt_mid0 v (p ++ [u]) q r h
      simp only [List.append_assoc, List.cons_append, List.nil_append, List.length_append, List.length_cons, List.length_nil, Nat.zero_add] at this
      exact this
section
variable {P : Program} {T : Tab P} {M0 M : Mem} {w0 : Base} {N : Nat} {σ : Nat → Nat} {e : Env} {b : Bx} {n : Nat} {a : Act} {w : World}
theorem rmO_look {b : Bx} {i : Option Nat} {j : Nat} {cs : List Value} (h : lookB (rmO b i) j = some cs) : lookB b j = some cs := by
  cases i with
  | none => exact h
  | some i => exact (rmB_look h).1
theorem beq_no {m j : Nat} (h : j ≠ m) : Nat.beq m j = false := by
  cases hh : Nat.beq m j with
  | false => rfl
  | true => exact absurd (Nat.eq_of_beq_eq_true hh).symm h
theorem Rel.cut {m : Nat} {cs ex : List Value} (h : Rel M0 w0 N σ e ((m, cs ++ ex) :: b) n M a w) (i : Option Nat) (hm : ∀ t x, look e t = some x → idOf x ≠ some m) : Rel M0 w0 N σ e ((m, cs) :: rmO b i) n M a w := by
  have hl : ∀ {j cj}, lookB ((m, cs) :: rmO b i) j = some cj → ∃ ex', lookB ((m, cs ++ ex) :: b) j = some (cj ++ ex') ∧ (j ≠ m → ex' = []) := by
    intro j cj hj
    simp only [lookB] at hj ⊢
    cases hk : Nat.beq m j with
    | true => rw [hk] at hj; simp only [cond_true, Option.some.injEq] at hj ⊢; subst hj; exact ⟨ex, rfl, fun hne => absurd (Nat.eq_of_beq_eq_true hk).symm hne⟩
    | false => rw [hk] at hj; exact ⟨[], by rw [List.append_nil]; exact rmO_look hj, fun _ => rfl⟩
  refine ⟨h.size, h.tmp, h.elt, h.defers, h.below, h.kn, h.le, h.nw, fun j cj hj => ?_, fun j cj hj => ?_, fun j k cj ck hj hk => ?_, fun j cj hj => ?_, fun t x hx => ?_, h.fix, h.kn0, h.nf⟩
  · obtain ⟨_, h1, _⟩ := hl hj; exact h.lt j _ h1
  · obtain ⟨ex', h1, _⟩ := hl hj
    obtain ⟨g1, ty, ex0, g2⟩ := h.box j _ h1
    exact ⟨g1, ty, ex' ++ ex0, by rw [g2, List.append_assoc]⟩
  · obtain ⟨_, h1, _⟩ := hl hj
    obtain ⟨_, h2, _⟩ := hl hk
    exact h.inj j k _ _ h1 h2
  · obtain ⟨_, h1, _⟩ := hl hj; exact h.dis j _ h1
  · have hg := h.sl t x hx
    cases x with
    | s j len cap z =>
      intro cj hj
      have hne : j ≠ m := fun he => hm t _ hx (by rw [he]; rfl)
      obtain ⟨ex', h1, h2⟩ := hl hj
      rw [h2 hne, List.append_nil] at h1
      exact hg cj h1
    | m j l => exact hg
    | _ => trivial
theorem Rel.move (h : Rel M0 w0 N σ e b n M a w) {i : Nat} {cs : List Value} (hi : lookB b i = some cs) {c : Array Value} {ty : TypeId} (hc : w.heap[σ i]? = some (.cells c ty (0, 0))) :
    Rel M0 w0 N (fun j => if j = n then σ i else σ j) e ((n, c.toList) :: rmB b i) (n + 1) M a w := by
  have hl : ∀ {j cj}, lookB ((n, c.toList) :: rmB b i) j = some cj → (j = n ∧ cj = c.toList) ∨ (j < n ∧ j ≠ i ∧ lookB b j = some cj) := by
    intro j cj hj
    simp only [lookB] at hj
    cases hk : Nat.beq n j with
    | true => rw [hk] at hj; simp only [cond_true, Option.some.injEq] at hj; exact .inl ⟨(Nat.eq_of_beq_eq_true hk).symm, hj.symm⟩
    | false => rw [hk] at hj; obtain ⟨h1, h2⟩ := rmB_look hj; exact .inr ⟨h.lt j cj h1, h2, h1⟩
  obtain ⟨b1, b2⟩ := h.box i cs hi
  refine ⟨h.size, fun t x hx => ?_, fun t x hx j hj => Nat.lt_succ_of_lt (h.elt t x hx j hj), h.defers, h.below, h.kn, h.le, h.nw, fun j cj hj => ?_, fun j cj hj => ?_, fun j k cj ck hj hk hjk => ?_, fun j cj hj ad u hu => ?_, fun t x hx => ?_, fun j hj => by
    show (if j = n then σ i else σ j) = _
    rw [if_neg (by have := h.kn0; omega)]
    exact h.fix j hj, Nat.le_succ_of_le h.kn0, h.nf⟩
  · rw [h.tmp t x hx]
    have hid := h.elt t x hx
    cases x with
    | v u => rfl
    | e ad o => rfl
    | p i o => simp only [conc]; rw [if_neg (by have := hid i rfl; omega)]
    | s i l c z => simp only [conc]; rw [if_neg (by have := hid i rfl; omega)]
    | q i k => simp only [conc]; rw [if_neg (by have := hid i rfl; omega)]
    | m i l => simp only [conc]; rw [if_neg (by have := hid i rfl; omega)]
  · rcases hl hj with ⟨h1, _⟩ | ⟨h1, _⟩ <;> omega
  · rcases hl hj with ⟨h1, h2⟩ | ⟨h1, h2, h3⟩
    · subst h1 h2
      refine ⟨by rw [if_pos rfl]; exact b1, ty, [], ?_⟩
      rw [if_pos rfl, hc]
      simp
    · rw [if_neg (by omega)]
      exact h.box j cj h3
  · rcases hl hj with ⟨h1, h2⟩ | ⟨h1, h2, h3⟩ <;> rcases hl hk with ⟨k1, k2⟩ | ⟨k1, k2, k3⟩
    · omega
    · rw [if_pos h1, if_neg (by omega)] at hjk
      exact absurd (h.inj i k cs ck hi k3 hjk) (fun he => k2 he.symm)
    · rw [if_neg (by omega), if_pos k1] at hjk
      exact absurd (h.inj j i cj cs h3 hi hjk) h2
    · rw [if_neg (by omega), if_neg (by omega)] at hjk
      exact h.inj j k cj ck h3 k3 hjk
  · rcases hl hj with ⟨h1, h2⟩ | ⟨h1, h2, h3⟩
    · rw [if_pos h1]; exact h.dis i cs hi ad u hu
    · rw [if_neg (by omega)]; exact h.dis j cj h3 ad u hu
  · have hg := h.sl t x hx
    have hid := h.elt t x hx
    cases x with
    | s j len cap z =>
      intro cj hj
      have := hid j rfl
      rcases hl hj with ⟨h1, h2⟩ | ⟨h1, h2, h3⟩
      · omega
      · obtain ⟨q1, q2, c', ty', q3, q4⟩ := hg cj h3
        refine ⟨q1, q2, c', ty', ?_, q4⟩
        show w.heap[if j = n then σ i else σ j]? = _
        rw [if_neg (by omega)]
        exact q3
    | m j l =>
      have := hid j rfl
      obtain ⟨g1, g2⟩ := hg
      show w0.own (if j = n then σ i else σ j) ∧ MapAt _ (if j = n then σ i else σ j) l
      rw [if_neg (by omega)]
      exact ⟨g1, g2⟩
    | _ => trivial
theorem setCell_size {ad : Addr} {v : Value} {g : Nat} {c : Array Value} {ty : TypeId} {fr : Nat × Nat} (h : w.heap[g]? = some (.cells c ty fr)) : ∃ c', (w.setCell ad v).heap[g]? = some (.cells c' ty fr) ∧ c'.size = c.size := by
  by_cases hg : ad.block = g
  · subst hg
    simp only [World.setCell, Array.getElem?_modify, h, if_true, Option.map_some]
    exact ⟨_, rfl, by split <;> simp⟩
  · exact ⟨c, by simp [World.setCell, Array.getElem?_modify, h, hg], rfl⟩
theorem Rel.storeCellsS : ∀ (vs : List Value) {b : Bx} {w : World} {i q j : Nat} {cs : List Value}, Rel M0 w0 N σ e b n M a w → lookB b i = some cs → allOne vs = true → q + j + vs.length ≤ cs.length →
    ∃ w', (Go.storeCells ⟨σ i, q, none⟩ vs j).run P w = .ok () w' ∧ Rel M0 w0 N σ e ((i, setAt cs (q + j) vs) :: b) n M a w' ∧ (∀ (g : Nat) (c : Array Value) (ty : TypeId) (fr : Nat × Nat), w.heap[g]? = some (Obj.cells c ty fr) → ∃ c' : Array Value, w'.heap[g]? = some (Obj.cells c' ty fr) ∧ c'.size = c.size)
  | [], b, w, i, q, j, cs, h, hi, h1, hl => ⟨w, rfl, h.bx fun k => by
      simp only [setAt, lookB]
      cases hik : Nat.beq i k with
      | true => rw [← Nat.eq_of_beq_eq_true hik, hi]; rfl
      | false => rfl, fun g c ty fr hg => ⟨c, hg, rfl⟩⟩
  | v :: r, b, w, i, q, j, cs, h, hi, h1, hl => by
    simp only [allOne, Bool.and_eq_true] at h1
    simp only [List.length_cons] at hl
    have ha : (⟨σ i, q, none⟩ : Addr).add j = ⟨σ i, q + j, none⟩ := by
      unfold Addr.add
      split
      · rename_i h0; subst h0; rfl
      · rfl
    obtain ⟨g2, ty, ex, g3⟩ := h.box i cs hi
    have hlt : q + j < cs.length := by omega
    have hc : w.cell? ⟨σ i, q + j, none⟩ = some cs[q + j] := h.cellB hi (List.getElem?_eq_getElem hlt)
    have hf : w.frozen? ⟨σ i, q + j, none⟩ = false := by simp [World.frozen?, g3]
    have h2 := h.store1 (q := q + j) (v := v) hi hlt
    obtain ⟨w', hr, hR, hs⟩ := Rel.storeCellsS r (i := i) (q := q) (j := j + 1) (cs := cs.set (q + j) v) h2 (by simp [lookB]) h1.2 (by simp; omega)
    refine ⟨w', ?_, hR.bx fun k => ?_, fun g c ty fr hg => ?_⟩
    · simp only [Go.storeCells, Sem.run_bind, ha, store_run h1.1 hc hf, Result.andThen_ok]
      exact hr
    · simp only [setAt, lookB, Nat.add_assoc]
      cases hik : Nat.beq i k <;> rfl
    · obtain ⟨c1, q1, q2⟩ := setCell_size (ad := ⟨σ i, q + j, none⟩) (v := v) hg
      obtain ⟨c2, q3, q4⟩ := hs g c1 ty fr q1
      exact ⟨c2, q3, by omega⟩
theorem append_sound {dst : Option Tmp} {xs : Array Operand} {ts : Array TypeId} {type : TypeId} {pos : String} {after : Array Edge} {guard : Option (Nat × Bool)} {sx xx : Operand} {t0 t1 z by_ elem : Nat} {Z : List Value} {u : Unit} {K : Kont} {K' : Act → World → Prop} {Q' : Exit → Act → World → Prop}
    (h : Rel M0 w0 N σ e b n M a w) (hd : dOk N dst = true) (hxs : xs.toList = [sx, xx]) (hts : ts.toList = [t0, t1]) (hi : prun P (elemInfo t0) = some (z, by_, Z, elem)) (ha : prun P (appOk t1) = some u)
    (hp : dstK e b sx z fun len i cs => srcK e b M xx z fun k ds => AppK i (len + k) k by_ ds allOne (K (put e dst (.v (.slice none 0 0))) b n M) fun cap => K (put e dst (.s n (len + k) cap z)) ((n, cs ++ ds) :: rmO b i) (n + 1) M)
    (hK : ∀ σ e b n M a w, Rel M0 w0 N σ e b n M a w → K e b n M → K' a w) : Oper.wp P { dst, op := .call { callee := .builtin .append, args := xs, argTypes := ts }, type, pos, after, guard } a w K' Q' := by
  obtain ⟨_, _, _, _, _, _, _, _, hZl, hz⟩ := elemInfo_out hi
  have hfresh : ∀ t x, look e t = some x → idOf x ≠ some n := fun t x hx he => by have := h.elt t x hx n he; omega
  have hargs : xs.map a.eval = #[a.eval sx, a.eval xx] := by
    apply Array.toList_inj.mp
    simp [hxs]
  have htypes : ts = #[t0, t1] := Array.toList_inj.mp (by simpa using hts)
  have hexec : ∀ {r : Value} {w' : World}, (Builtin.append_ #[t0, t1] type #[a.eval sx, a.eval xx]).run P w = .ok r w' → (execOp a.eval { dst, op := .call { callee := .builtin .append, args := xs, argTypes := ts }, type, pos, after, guard }).run P w = .ok (.value r) w' := by
    intro r w' hr
    show (do pure (Next.value (← Builtin.append_ ts type (xs.map a.eval))) : Sem Next).run P w = _
    rw [hargs, htypes]
    exact run_value'' hr
  -- a new row
  have hnew : ∀ {len cap0 : Nat} {i : Option Nat} {cs ds : List Value} {base : Option Addr} {k : Nat}, a.eval sx = .slice base len cap0 → cs.length = len * z → (∀ w' : World, w'.heap = w.heap → (Builtin.firstCells z len (.slice base len cap0)).run P w' = .ok cs.toArray w') →
      ds.length = k * z → (Builtin.lenOf (a.eval xx)).run P w = .ok k w → (∀ w' : World, w'.heap = w.heap → (Builtin.firstCells z k (a.eval xx)).run P w' = .ok ds.toArray w') → ¬ len + k ≤ cap0 → len + k ≤ 1000000000000 → (2 * (len + k) + 512) * by_ ≤ 281474976710656 →
      (∀ cap, len + k ≤ cap → K (put e dst (.s n (len + k) cap z)) ((n, cs ++ ds) :: rmO b i) (n + 1) M) → Oper.wp P { dst, op := .call { callee := .builtin .append, args := xs, argTypes := ts }, type, pos, after, guard } a w K' Q' := by
    intro len cap0 i cs ds base k hsx hcl hold hdl hlen hsrc hle hm hbd hk
    obtain ⟨c', rest, hc', hrl, hr⟩ := append_out (ty := type) hi ha hlen hsrc hold hle hm hbd
    unfold Oper.wp
    rw [hexec (by rw [hsx]; exact hr)]
    have hw : Rel M0 w0 N σ e b n M a { w with drawn := w.drawn + 1 } := h.world ⟨rfl, rfl, rfl, Nat.le_refl _, fun _ _ => rfl⟩
    have hg := (hw.grow0 (cs ++ ds ++ rest) elem).cut (cs := cs ++ ds) (ex := rest) i (fun t x hx => hfresh t x hx)
    have hfull : (cs ++ ds ++ rest).length = c' * z := by
      simp only [List.length_append, hcl, hdl, hrl]
      rw [← Nat.add_mul, ← Nat.add_mul]
      congr 1
      omega
    have hfin := hg.put (d := dst) (x := .s n (len + k) c' z) hd (fun j hj => by cases hj; omega) (fun cs' hcs' => by
      simp only [lookB, show Nat.beq n n = true by simp, cond_true, Option.some.injEq] at hcs'
      subst hcs'
      refine ⟨by simp only [List.length_append, hcl, hdl]; rw [← Nat.add_mul], hc', (cs ++ ds ++ rest).toArray, elem, ?_, List.size_toArray.trans hfull⟩
      show (w.heap.push _)[if n = n then w.heap.size else σ n]? = _
      rw [if_pos rfl, Array.getElem?_push_size])
    simp only [conc, if_true] at hfin
    exact hK _ _ _ _ _ _ _ hfin (hk c' hc')
  unfold dstK at hp
  split at hp
  · rename_i i len cap0 z' hx
    split at hp
    · rename_i cs hbi
      cases hzz : Nat.beq z' z with
      | false => rw [hzz] at hp; exact hp.elim
      | true =>
        rw [hzz] at hp
        have := Nat.eq_of_beq_eq_true hzz
        subst this
        simp only [cond_true] at hp
        obtain ⟨k, ds, hap, hdl, hlen, hsrc⟩ := src_read (P := P) h hz hp
        obtain ⟨hbd, hm, ho, hk⟩ : (2 * (len + k) + 512) * by_ ≤ 281474976710656 ∧ len + k ≤ 1000000000000 ∧ allOne ds = true ∧ ∀ cap, len + k ≤ cap → K (Lw.put e dst (.s n (len + k) cap z')) ((n, cs ++ ds) :: rmO b (some i)) (n + 1) M := by
          cases hap with
          | mk h1 h2 h3 h4 h5 => exact ⟨h1, h2, h4, h5⟩
          | z h1 h2 h3 => cases h2
        have hg : Good w0 σ b w (.s i len cap0 z') := by
          cases sx with
          | tmp t => exact h.sl t _ hx
          | _ => simp [Lw.ev] at hx
        obtain ⟨g1, g2, c, ty, g3, g4⟩ := hg cs hbi
        have hsx := h.ev hx
        simp only [conc] at hsx
        have hrd : ∀ w' : World, w'.heap = w.heap → (Builtin.firstCells z' len (.slice (some ⟨σ i, 0, none⟩) len cap0)).run P w' = .ok cs.toArray w' := by
          intro w' hw'
          unfold Builtin.firstCells
          have := loadCellsFrom_run (P := P) (w := w') (ad := ⟨σ i, 0, none⟩) cs 0 #[] (fun j u hu => by
            rw [Nat.zero_add]
            have := h.cellB hbi hu
            unfold World.cell? at this ⊢
            rw [show (⟨σ i, 0, none⟩ : Addr).add j = ⟨σ i, j, none⟩ by unfold Addr.add; split; (rename_i h0; subst h0; rfl); simp]
            rw [hw']
            exact this)
          unfold loadCells
          rw [← g1, this]
          simp
        by_cases hle : len + k ≤ cap0
        · obtain ⟨b1, ty2, ex, b2⟩ := h.box i cs hbi
          rw [g3] at b2
          simp only [Option.some.injEq, Obj.cells.injEq] at b2
          have hcex : c.toList = cs ++ ex := by rw [b2.1]
          have hroom : (len + k) * z' ≤ c.toList.length := by
            rw [Array.length_toList, g4]
            exact Nat.mul_le_mul_right _ hle
          have hm1 := h.move hbi g3
          obtain ⟨w', hr, hR, hsz⟩ := Rel.storeCellsS (P := P) (i := n) (q := len * z') (j := 0) (cs := c.toList) ds hm1 (by simp [lookB]) ho (by rw [Nat.add_zero, hdl, ← Nat.add_mul]; exact hroom)
          simp only [if_true, Nat.add_zero] at hr hR
          have hst : (Go.storeCells ((⟨σ i, 0, none⟩ : Addr).add (len * z')) ds).run P w = .ok () w' := by
            have : (⟨σ i, 0, none⟩ : Addr).add (len * z') = ⟨σ i, len * z', none⟩ := by
              unfold Addr.add
              split
              · rename_i h0; rw [h0]
              · simp
            rw [this]
            exact hr
          unfold Oper.wp
          rw [hexec (by rw [hsx]; exact append_in (ty := type) hi ha hlen (hsrc w rfl) hle ⟨σ i, 0, none⟩ rfl hst)]
          have hset : setAt c.toList (len * z') ds = cs ++ ds ++ ex.drop ds.length := by
            have hexl : ds.length ≤ ex.length := by
              have : c.toList.length = cs.length + ex.length := by rw [hcex, List.length_append]
              rw [Nat.add_mul] at hroom
              omega
            rw [hcex, ← g1]
            have hs := setAt_mid0 ds cs (ex.take ds.length) (ex.drop ds.length) (by simp; omega)
            rw [List.take_append_drop] at hs
            rw [hs, List.append_assoc]
          rw [hset] at hR
          have hR2 : Rel M0 w0 N (fun j => if j = n then σ i else σ j) e ((n, cs ++ ds ++ ex.drop ds.length) :: rmB b i) (n + 1) M a w' := hR.bx fun j => by
            simp only [lookB]
            cases Nat.beq n j <;> rfl
          have hR3 := hR2.cut none (fun t x hx => hfresh t x hx)
          obtain ⟨c2, q1, q2⟩ := hsz (σ i) c ty (0, 0) g3
          have hfin := hR3.put (d := dst) (x := .s n (len + k) cap0 z') hd (fun j hj => by cases hj; omega) (fun cs' hcs' => by
            simp only [lookB, show Nat.beq n n = true by simp, cond_true, Option.some.injEq] at hcs'
            subst hcs'
            refine ⟨by simp only [List.length_append, g1, hdl]; rw [← Nat.add_mul], hle, c2, ty, ?_, by rw [q2, g4]⟩
            show w'.heap[if n = n then σ i else σ n]? = _
            rw [if_pos rfl]
            exact q1)
          simp only [conc, if_true] at hfin
          exact hK _ _ _ _ _ _ _ hfin (hk cap0 hle)
        · exact hnew (i := some i) hsx g1 hrd hdl hlen hsrc hle hm hbd hk
    · exact hp.elim
  · rename_i hx
    obtain ⟨k, ds, hap, hdl, hlen, hsrc⟩ := src_read (P := P) h hz hp
    have hsx := h.ev hx
    simp only [conc] at hsx
    cases hap with
    | z h1 h2 h3 =>
      subst h1
      unfold Oper.wp
      have hd0 : ds = [] := List.eq_nil_of_length_eq_zero (by rw [hdl, Nat.zero_mul])
      subst hd0
      have hr : (Builtin.append_ #[t0, t1] type #[.slice none 0 0, a.eval xx]).run P w = .ok (.slice none 0 0) w := by
        obtain ⟨hu, i, v, hti, hv, hsz, hby, hZ, hl, hz⟩ := elemInfo_out hi
        obtain ⟨e1, hu1⟩ := appOk_out ha
        unfold Builtin.append_
        simp only [List.getElem?_toArray, List.getElem?_cons_zero, List.getElem?_cons_succ, Sem.run_bind, prun_run (prun_underlying hu) w, prun_run (prun_underlying hu1) w, Result.andThen_ok, prun_run hsz w, Sem.run_pure, Bool.false_eq_true, if_false, hlen, Bool.not_false, if_true]
        rw [if_pos (by omega)]
        simp only [Sem.run_bind, hsrc w rfl, Result.andThen_ok, Sem.run_pure]
      rw [hexec (by rw [hsx]; exact hr)]
      have hfin := h.put (d := dst) (x := .v (.slice none 0 0)) hd (fun j hj => by cases hj) trivial
      exact hK _ _ _ _ _ _ _ hfin h3
    | mk hbd hm h0 ho hk =>
    have h0 : 0 < k := by rcases h0 with h0 | h0; exact h0; cases h0
    exact hnew (i := none) (cs := []) hsx (by simp) (fun w' hw' => rfl) hdl hlen hsrc (by omega) hm hbd hk
  · exact hp.elim
theorem appX_sound [O : Own T M0 w0] {dst : Option Tmp} {xs : Array Operand} {ts : Array TypeId} {type : TypeId} {pos : String} {after : Array Edge} {guard : Option (Nat × Bool)} {sx xx : Operand} {t0 t1 z by_ elem len cap : Nat} {ad : Addr} {Z : List Value} {u : Unit} {K : Kont} {K' : Act → World → Prop} {Q' : Exit → Act → World → Prop}
    (h : Rel M0 w0 N σ e b n M a w) (hd : dOk N dst = true) (hxs : xs.toList = [sx, xx]) (hts : ts.toList = [t0, t1]) (hi : prun P (elemInfo t0) = some (z, by_, Z, elem)) (ha : prun P (appOk t1) = some u) (hsx : ev e sx = some (.v (.slice (some ad) len cap)))
    (hp : srcK e b M xx z fun k ds => AppX T.wr T.base M ad len cap z k by_ ds (fun M' => K (put e dst (.v (.slice (some ad) (len + k) cap))) b n M') fun cs cap' => K (put e dst (.s n (len + k) cap' z)) ((n, cs ++ ds) :: b) (n + 1) M)
    (hK : ∀ σ e b n M a w, Rel M0 w0 N σ e b n M a w → K e b n M → K' a w) : Oper.wp P { dst, op := .call { callee := .builtin .append, args := xs, argTypes := ts }, type, pos, after, guard } a w K' Q' := by
  obtain ⟨_, _, _, _, _, _, _, _, hZl, hz⟩ := elemInfo_out hi
  have hfresh : ∀ t x, look e t = some x → idOf x ≠ some n := fun t x hx he => by have := h.elt t x hx n he; omega
  have hargs : xs.map a.eval = #[a.eval sx, a.eval xx] := by
    apply Array.toList_inj.mp
    simp [hxs]
  have htypes : ts = #[t0, t1] := Array.toList_inj.mp (by simpa using hts)
  have hexec : ∀ {r : Value} {w' : World}, (Builtin.append_ #[t0, t1] type #[a.eval sx, a.eval xx]).run P w = .ok r w' → (execOp a.eval { dst, op := .call { callee := .builtin .append, args := xs, argTypes := ts }, type, pos, after, guard }).run P w = .ok (.value r) w' := by
    intro r w' hr
    show (do pure (Next.value (← Builtin.append_ ts type (xs.map a.eval))) : Sem Next).run P w = _
    rw [hargs, htypes]
    exact run_value'' hr
  have hnew : ∀ {len cap0 : Nat} {i : Option Nat} {cs ds : List Value} {base : Option Addr} {k : Nat}, a.eval sx = .slice base len cap0 → cs.length = len * z → (∀ w' : World, w'.heap = w.heap → (Builtin.firstCells z len (.slice base len cap0)).run P w' = .ok cs.toArray w') →
      ds.length = k * z → (Builtin.lenOf (a.eval xx)).run P w = .ok k w → (∀ w' : World, w'.heap = w.heap → (Builtin.firstCells z k (a.eval xx)).run P w' = .ok ds.toArray w') → ¬ len + k ≤ cap0 → len + k ≤ 1000000000000 → (2 * (len + k) + 512) * by_ ≤ 281474976710656 →
      (∀ cap, len + k ≤ cap → K (put e dst (.s n (len + k) cap z)) ((n, cs ++ ds) :: rmO b i) (n + 1) M) → Oper.wp P { dst, op := .call { callee := .builtin .append, args := xs, argTypes := ts }, type, pos, after, guard } a w K' Q' := by
    intro len cap0 i cs ds base k hsx hcl hold hdl hlen hsrc hle hm hbd hk
    obtain ⟨c', rest, hc', hrl, hr⟩ := append_out (ty := type) hi ha hlen hsrc hold hle hm hbd
    unfold Oper.wp
    rw [hexec (by rw [hsx]; exact hr)]
    have hw : Rel M0 w0 N σ e b n M a { w with drawn := w.drawn + 1 } := h.world ⟨rfl, rfl, rfl, Nat.le_refl _, fun _ _ => rfl⟩
    have hg := (hw.grow0 (cs ++ ds ++ rest) elem).cut (cs := cs ++ ds) (ex := rest) i (fun t x hx => hfresh t x hx)
    have hfull : (cs ++ ds ++ rest).length = c' * z := by
      simp only [List.length_append, hcl, hdl, hrl]
      rw [← Nat.add_mul, ← Nat.add_mul]
      congr 1
      omega
    have hfin := hg.put (d := dst) (x := .s n (len + k) c' z) hd (fun j hj => by cases hj; omega) (fun cs' hcs' => by
      simp only [lookB, show Nat.beq n n = true by simp, cond_true, Option.some.injEq] at hcs'
      subst hcs'
      refine ⟨by simp only [List.length_append, hcl, hdl]; rw [← Nat.add_mul], hc', (cs ++ ds ++ rest).toArray, elem, ?_, List.size_toArray.trans hfull⟩
      show (w.heap.push _)[if n = n then w.heap.size else σ n]? = _
      rw [if_pos rfl, Array.getElem?_push_size])
    simp only [conc, if_true] at hfin
    exact hK _ _ _ _ _ _ _ hfin (hk c' hc')
  have hsv := h.ev hsx
  simp only [conc] at hsv
  obtain ⟨k, ds, hap, hdl, hlen, hsrc⟩ := src_read (P := P) h hz hp
  cases hap with
  | w hle x =>
    obtain ⟨hw, hs, hb, ho, hk⟩ := x
    obtain ⟨w', M', hrun, h1, h2, hR⟩ := Rel.storeL (P := P) ds (ad := ad.add (len * z)) (j := 0) h ho (fun o ho => by rw [Nat.zero_add]; exact hs o ho) (fun o ho u0 h0 => by rw [Nat.zero_add] at h0 ⊢; exact O.own hw _ u0 (hb o ho) h0)
    unfold Oper.wp
    rw [hexec (by rw [hsv]; exact append_in (ty := type) hi ha hlen (hsrc w rfl) hle ad rfl hrun)]
    exact hK _ _ _ _ _ _ _ (hR.put (x := .v (.slice (some ad) (len + k) cap)) hd (fun i hx => by cases hx) trivial) (hk M' (fun o u hu => by have := h1 o u hu; rwa [Nat.zero_add] at this) (fun a' ha' => h2 a' fun o ho => by rw [Nat.zero_add]; exact ha' o ho))
  | g hgt cs hl hc ho hm hbd hk =>
    exact hnew (i := none) (cs := cs) hsv hl (fun w' hw' => by
      unfold Builtin.firstCells
      have := loadCellsFrom_run (P := P) (w := w') (ad := ad) cs 0 #[] (fun j u hu => by
        rw [Nat.zero_add]
        have := h.cellW (hc j u hu)
        unfold World.cell? at this ⊢
        rw [hw']
        exact this)
      unfold loadCells
      rw [← hl, this]
      simp) hdl hlen hsrc hgt hm hbd hk
/-- The same, and what stays as it was. -/
theorem Rel.storeLX : ∀ (vs : List Value) {w : World} {M : Mem} {ad : Addr} {j : Nat}, Rel M0 w0 N σ e b n M a w → allOne vs = true → (∀ o, o < vs.length → (M (ad.add (j + o))).isSome = true) → (∀ o, o < vs.length → ∀ u, M0 (ad.add (j + o)) = some u → w0.X (ad.add (j + o)).block) →
    ∃ w' M', (Go.storeCells ad vs j).run P w = .ok () w' ∧ (∀ o u, vs[o]? = some u → M' (ad.add (j + o)) = some u) ∧ (∀ a, (∀ o, o < vs.length → a ≠ ad.add (j + o)) → M' a = M a) ∧ Rel M0 w0 N σ e b n M' a w' ∧ (w'.os = w.os ∧ w'.tape = w.tape ∧ w'.output = w.output ∧ w'.heap.size = w.heap.size ∧ ∀ k, (vs = [] ∨ k ≠ ad.block) → w'.heap[k]? = w.heap[k]?)
  | [], w, M, ad, j, h, h1, hs, hb => ⟨w, M, rfl, fun o u hu => by simp at hu, fun _ _ => rfl, h, rfl, rfl, rfl, rfl, fun _ _ => rfl⟩
  | v :: r, w, M, ad, j, h, h1, hs, hb => by
    simp only [allOne, Bool.and_eq_true] at h1
    have hs0 := hs 0 (by simp)
    rw [Nat.add_zero] at hs0
    obtain ⟨hf, M1, g1, g2, hR⟩ := h.storeK (v := v) hs0 (fun u hu => by have := hb 0 (by simp) u; rw [Nat.add_zero] at this; exact this hu)
    obtain ⟨u0, hu0⟩ := Option.isSome_iff_exists.mp hs0
    have hblk : (ad.add j).block = ad.block := by unfold Addr.add; split <;> rfl
    have hne : ∀ o, ad.add (j + 1 + o) ≠ ad.add j := fun o he => by
      unfold Addr.add at he
      split at he <;> split at he <;> first | omega | (have := congrArg Addr.off he; simp only at this; omega)
    obtain ⟨w', M2, hr, k1, k2, hR2, k3, k4, k5, k6, k7⟩ := Rel.storeLX r (ad := ad) (j := j + 1) hR h1.2 (fun o ho => by
      rw [g2 _ (hne o), show j + 1 + o = j + (o + 1) by omega]
      exact hs (o + 1) (by simpa using ho)) (fun o ho u hu => by
      rw [show j + 1 + o = j + (o + 1) by omega] at hu ⊢
      exact hb (o + 1) (by simpa using ho) u hu)
    refine ⟨w', M2, ?_, fun o u hu => ?_, fun a' ha' => ?_, hR2, k3, k4, k5, by rw [k6]; simp [World.setCell], fun k hk => ?_⟩
    · simp only [Go.storeCells, Sem.run_bind, store_run h1.1 (h.kn _ _ hu0) hf, Result.andThen_ok]
      exact hr
    · cases o with
      | zero =>
        simp only [List.getElem?_cons_zero, Option.some.injEq] at hu
        subst hu
        rw [Nat.add_zero, k2 _ (fun o _ he => hne o he.symm)]
        exact g1
      | succ o =>
        simp only [List.getElem?_cons_succ] at hu
        have := k1 o u hu
        rw [show j + (o + 1) = j + 1 + o by omega]
        exact this
    · rw [k2 a' (fun o ho => by
          have := ha' (o + 1) (by simpa using ho)
          rw [show j + 1 + o = j + (o + 1) by omega]
          exact this)]
      exact g2 a' (by have := ha' 0 (by simp); rwa [Nat.add_zero] at this)
    · have hk : k ≠ ad.block := by rcases hk with hk | hk; cases hk; exact hk
      rw [k7 k (.inr hk)]
      exact Below.heap_setCell w _ _ _ (by rw [hblk]; exact hk)
/-- What an append to a known slice leaves. -/
structure AppY (M : Mem) (ad : Addr) (w w' : World) (σ σ' : Nat → Nat) (b b' : Bx) (n n' : Nat) (M' : Mem) : Prop where
  os : w'.os = w.os
  tape : w'.tape = w.tape
  output : w'.output = w.output
  size : w.heap.size ≤ w'.heap.size
  block : ∀ k, k < w.heap.size → k ≠ ad.block → w'.heap[k]? = w.heap[k]?
  same : ad.block < w.heap.size → w'.heap[ad.block]? = w.heap[ad.block]? ∨ ∃ a u, a.block = ad.block ∧ M a = some u ∧ (∀ u0, M0 a = some u0 → w0.X a.block)
  sg : ∀ j, j < n → σ' j = σ j
  le : n ≤ n'
  bx : ∀ j cs, lookB b' j = some cs → lookB b j = some cs ∨ (j = n ∧ w.heap.size ≤ σ' j)
  mem : ∀ a u, M' a = some u → ∃ u0, M a = some u0
theorem appX_soundX [O : Own T M0 w0] {dst : Option Tmp} {xs : Array Operand} {ts : Array TypeId} {type : TypeId} {pos : String} {after : Array Edge} {guard : Option (Nat × Bool)} {sx xx : Operand} {t0 t1 z by_ elem len cap : Nat} {ad : Addr} {Z : List Value} {u : Unit} {K K2 : Kont} {K' : Act → World → Prop} {Q' : Exit → Act → World → Prop}
    (h : Rel M0 w0 N σ e b n M a w) (hd : dOk N dst = true) (hxs : xs.toList = [sx, xx]) (hts : ts.toList = [t0, t1]) (hi : prun P (elemInfo t0) = some (z, by_, Z, elem)) (ha : prun P (appOk t1) = some u) (hsx : ev e sx = some (.v (.slice (some ad) len cap)))
    (hp : srcK e b M xx z fun k ds => AppX T.wr T.base M ad len cap z k by_ ds (fun M' => K (put e dst (.v (.slice (some ad) (len + k) cap))) b n M') fun cs cap' => K2 (put e dst (.s n (len + k) cap' z)) ((n, cs ++ ds) :: b) (n + 1) M)
    (hK2 : ∀ σ' e' b' n' M' a' w', Rel M0 w0 N σ' e' b' n' M' a' w' → AppY (M0 := M0) (w0 := w0) M ad w w' σ σ' b b' n n' M' → K2 e' b' n' M' → K' a' w')
    (hK : ∀ σ' e' b' n' M' a' w', Rel M0 w0 N σ' e' b' n' M' a' w' → AppY (M0 := M0) (w0 := w0) M ad w w' σ σ' b b' n n' M' → K e' b' n' M' → K' a' w') : Oper.wp P { dst, op := .call { callee := .builtin .append, args := xs, argTypes := ts }, type, pos, after, guard } a w K' Q' := by
  obtain ⟨_, _, _, _, _, _, _, _, hZl, hz⟩ := elemInfo_out hi
  have hfresh : ∀ t x, look e t = some x → idOf x ≠ some n := fun t x hx he => by have := h.elt t x hx n he; omega
  have hargs : xs.map a.eval = #[a.eval sx, a.eval xx] := by
    apply Array.toList_inj.mp
    simp [hxs]
  have htypes : ts = #[t0, t1] := Array.toList_inj.mp (by simpa using hts)
  have hexec : ∀ {r : Value} {w' : World}, (Builtin.append_ #[t0, t1] type #[a.eval sx, a.eval xx]).run P w = .ok r w' → (execOp a.eval { dst, op := .call { callee := .builtin .append, args := xs, argTypes := ts }, type, pos, after, guard }).run P w = .ok (.value r) w' := by
    intro r w' hr
    show (do pure (Next.value (← Builtin.append_ ts type (xs.map a.eval))) : Sem Next).run P w = _
    rw [hargs, htypes]
    exact run_value'' hr
  have hsv := h.ev hsx
  simp only [conc] at hsv
  obtain ⟨k, ds, hap, hdl, hlen, hsrc⟩ := src_read (P := P) h hz hp
  cases hap with
  | w hle x =>
    obtain ⟨hw, hs, hb, ho, hk⟩ := x
    obtain ⟨w', M', hrun, h1, h2, hR, k3, k4, k5, k6, k7⟩ := Rel.storeLX (P := P) ds (ad := ad.add (len * z)) (j := 0) h ho (fun o ho => by rw [Nat.zero_add]; exact hs o ho) (fun o ho u0 h0 => by rw [Nat.zero_add] at h0 ⊢; exact O.own hw _ u0 (hb o ho) h0)
    have hblk : ∀ (ad : Addr) (q : Nat), (ad.add q).block = ad.block := fun ad q => by unfold Addr.add; split <;> rfl
    unfold Oper.wp
    rw [hexec (by rw [hsv]; exact append_in (ty := type) hi ha hlen (hsrc w rfl) hle ad rfl hrun)]
    refine hK _ _ _ _ _ _ _ (hR.put (x := .v (.slice (some ad) (len + k) cap)) hd (fun i hx => by cases hx) trivial) ⟨k3, k4, k5, Nat.le_of_eq k6.symm, fun k _ hk => k7 k (.inr (by rw [hblk]; exact hk)), fun _ => ?_, fun _ _ => rfl, Nat.le_refl _, fun j cs hj => .inl hj, fun a' u hu => ?_⟩ (hk M' (fun o u hu => by have := h1 o u hu; rwa [Nat.zero_add] at this) (fun a' ha' => h2 a' fun o ho => by rw [Nat.zero_add]; exact ha' o ho))
    · cases ds with
      | nil => exact .inl (k7 _ (.inl rfl))
      | cons d0 dr =>
        have hs0 := hs 0 (by simp)
        obtain ⟨u0, hu0⟩ := Option.isSome_iff_exists.mp hs0
        exact .inr ⟨_, u0, by rw [hblk, hblk], hu0, fun u1 h0 => O.own hw _ u1 (hb 0 (by simp)) h0⟩
    · by_cases hin : ∃ o, o < ds.length ∧ a' = (ad.add (len * z)).add o
      · obtain ⟨o, ho', rfl⟩ := hin
        exact Option.isSome_iff_exists.mp (hs o ho')
      · refine ⟨u, ?_⟩
        rw [← h2 a' fun o ho' => by rw [Nat.zero_add]; exact fun he => hin ⟨o, ho', he⟩]
        exact hu
  | g hgt cs hl hc ho hm hbd hk =>
    have hrd : ∀ w' : World, w'.heap = w.heap → (Builtin.firstCells z len (.slice (some ad) len cap)).run P w' = .ok cs.toArray w' := fun w' hw' => by
      unfold Builtin.firstCells
      have := loadCellsFrom_run (P := P) (w := w') (ad := ad) cs 0 #[] (fun j u hu => by
        rw [Nat.zero_add]
        have := h.cellW (hc j u hu)
        unfold World.cell? at this ⊢
        rw [hw']
        exact this)
      unfold loadCells
      rw [← hl, this]
      simp
    obtain ⟨c', rest, hc', hrl, hr⟩ := append_out (ty := type) hi ha hlen hsrc hrd hgt hm hbd
    unfold Oper.wp
    rw [hexec (by rw [hsv]; exact hr)]
    have hw : Rel M0 w0 N σ e b n M a { w with drawn := w.drawn + 1 } := h.world ⟨rfl, rfl, rfl, Nat.le_refl _, fun _ _ => rfl⟩
    have hg := (hw.grow0 (cs ++ ds ++ rest) elem).cut (cs := cs ++ ds) (ex := rest) none (fun t x hx => hfresh t x hx)
    have hfull : (cs ++ ds ++ rest).length = c' * z := by
      simp only [List.length_append, hl, hdl, hrl]
      rw [← Nat.add_mul, ← Nat.add_mul]
      congr 1
      omega
    have hfin := hg.put (d := dst) (x := .s n (len + k) c' z) hd (fun j hj => by cases hj; omega) (fun cs' hcs' => by
      simp only [lookB, show Nat.beq n n = true by simp, cond_true, Option.some.injEq] at hcs'
      subst hcs'
      refine ⟨by simp only [List.length_append, hl, hdl]; rw [← Nat.add_mul], hc', (cs ++ ds ++ rest).toArray, elem, ?_, List.size_toArray.trans hfull⟩
      show (w.heap.push _)[if n = n then w.heap.size else σ n]? = _
      rw [if_pos rfl, Array.getElem?_push_size])
    simp only [conc, if_true] at hfin
    have hbel : Below w.heap.size w (({ w with drawn := w.drawn + 1 } : World).alloc (.cells (cs ++ ds ++ rest).toArray elem)) := (show Below w.heap.size w { w with drawn := w.drawn + 1 } from ⟨rfl, rfl, rfl, Nat.le_refl _, fun _ _ => rfl⟩).alloc (Nat.le_refl _) _
    exact hK2 _ _ _ _ _ _ _ hfin ⟨hbel.os, hbel.tape, hbel.output, hbel.size, fun k hk _ => hbel.block k hk, fun hk => .inl (hbel.block _ hk), fun j hj => if_neg (by omega), by omega, fun j c hj => by
      simp only [lookB] at hj
      cases hk : Nat.beq n j with
      | true => exact .inr ⟨(Nat.eq_of_beq_eq_true hk).symm, by rw [if_pos (Nat.eq_of_beq_eq_true hk).symm]; exact Nat.le_refl _⟩
      | false => rw [hk] at hj; exact .inl hj, fun a u hu => ⟨u, hu⟩⟩ (hk c' hc')
theorem appZ_sound {dst : Option Tmp} {xs : Array Operand} {ts : Array TypeId} {type : TypeId} {pos : String} {after : Array Edge} {guard : Option (Nat × Bool)} {sx xx : Operand} {t0 t1 z by_ elem len cap : Nat} {ad : Addr} {Z : List Value} {u : Unit} {xk : IntKind} {l : Int} {K : Kont} {K' : Act → World → Prop} {Q' : Exit → Act → World → Prop}
    (h : Rel M0 w0 N σ e b n M a w) (hd : dOk N dst = true) (hxs : xs.toList = [sx, xx]) (hts : ts.toList = [t0, t1]) (hi : prun P (elemInfo t0) = some (z, by_, Z, elem)) (ha : prun P (intTy t1) = some u) (hsx : ev e sx = some (.v (.slice (some ad) len cap))) (hxx : evV e xx = some (.int xk l))
    (hp : AppZ M ad len cap z by_ l fun cs cap' k => K (put e dst (.s n (len + k) cap' z)) ((n, cs ++ (List.replicate k Z).flatten) :: b) (n + 1) M)
    (hK : ∀ σ e b n M a w, Rel M0 w0 N σ e b n M a w → K e b n M → K' a w) : Oper.wp P { dst, op := .call { callee := .builtin .append, args := xs, argTypes := ts }, type, pos, after, guard } a w K' Q' := by
  obtain ⟨_, _, _, _, _, _, _, _, hZl, hz⟩ := elemInfo_out hi
  have hfresh : ∀ t x, look e t = some x → idOf x ≠ some n := fun t x hx he => by have := h.elt t x hx n he; omega
  have hargs : xs.map a.eval = #[a.eval sx, a.eval xx] := by
    apply Array.toList_inj.mp
    simp [hxs]
  have htypes : ts = #[t0, t1] := Array.toList_inj.mp (by simpa using hts)
  have hexec : ∀ {r : Value} {w' : World}, (Builtin.append_ #[t0, t1] type #[a.eval sx, a.eval xx]).run P w = .ok r w' → (execOp a.eval { dst, op := .call { callee := .builtin .append, args := xs, argTypes := ts }, type, pos, after, guard }).run P w = .ok (.value r) w' := by
    intro r w' hr
    show (do pure (Next.value (← Builtin.append_ ts type (xs.map a.eval))) : Sem Next).run P w = _
    rw [hargs, htypes]
    exact run_value'' hr
  have hsv := h.ev hsx
  simp only [conc] at hsv
  obtain ⟨k, rfl, hgt, cs, hcl, hc, hm, hbd, hk⟩ := hp
  have hold : ∀ w' : World, w'.heap = w.heap → (Builtin.firstCells z len (.slice (some ad) len cap)).run P w' = .ok cs.toArray w' := fun w' hw' => by
    unfold Builtin.firstCells
    have := loadCellsFrom_run (P := P) (w := w') (ad := ad) cs 0 #[] (fun j u hu => by
      rw [Nat.zero_add]
      have := h.cellW (hc j u hu)
      unfold World.cell? at this ⊢
      rw [hw']
      exact this)
    unfold loadCells
    rw [← hcl, this]
    simp
  have hdl : (List.replicate k Z).flatten.length = k * z := flatten_len hZl _
  obtain ⟨c', rest, hc', hrl, hr⟩ := append_outZ (ty := type) (xk := xk) hi ha hold hgt hm hbd
  unfold Oper.wp
  rw [hexec (by rw [hsv, h.evV hxx]; exact hr)]
  have hw : Rel M0 w0 N σ e b n M a { w with drawn := w.drawn + 1 } := h.world ⟨rfl, rfl, rfl, Nat.le_refl _, fun _ _ => rfl⟩
  have hg := (hw.grow0 (cs ++ (List.replicate k Z).flatten ++ rest) elem).cut (cs := cs ++ (List.replicate k Z).flatten) (ex := rest) none (fun t x hx => hfresh t x hx)
  have hfull : (cs ++ (List.replicate k Z).flatten ++ rest).length = c' * z := by
    simp only [List.length_append, hcl, hrl]
    rw [hdl, ← Nat.add_mul, ← Nat.add_mul]
    congr 1
    omega
  have hfin := hg.put (d := dst) (x := .s n (len + k) c' z) hd (fun j hj => by cases hj; omega) (fun cs' hcs' => by
    simp only [lookB, show Nat.beq n n = true by simp, cond_true, Option.some.injEq] at hcs'
    subst hcs'
    refine ⟨by simp only [List.length_append, hcl]; rw [hdl, ← Nat.add_mul], hc', (cs ++ (List.replicate k Z).flatten ++ rest).toArray, elem, ?_, List.size_toArray.trans hfull⟩
    show (w.heap.push _)[if n = n then w.heap.size else σ n]? = _
    rw [if_pos rfl, Array.getElem?_push_size])
  simp only [conc, if_true] at hfin
  exact hK _ _ _ _ _ _ _ hfin (hk c' hc')
theorem clear_run {t ty z by_ elem dn c : Nat} {Z : List Value} {ad : Addr} {w w' : World} (hi : prun P (elemInfo t) = some (z, by_, Z, elem)) (hst : (storeCells ad (List.replicate (dn + 1) Z).flatten).run P w = .ok () w') : (Builtin.clear_ #[t] ty #[.slice (some ad) (dn + 1) c]).run P w = .ok (.tuple #[]) w' := by
  obtain ⟨hu, i, v, hti, hv, hsz, hby, hZ, hl, hz⟩ := elemInfo_out hi
  unfold Builtin.clear_
  simp only [List.getElem?_toArray, List.getElem?_cons_zero, Sem.run_bind, prun_run (prun_underlying hu) w, Result.andThen_ok, prun_run hv w]
  have hzc : (Builtin.zeroCells v.cells (dn + 1)).toList = (List.replicate (dn + 1) Z).flatten := by
    have hsz' : v.cells.size = z := by rw [← hl, ← hZ]; simp
    have := zero_cells (m := dn + 1) hZ hl v.cells (by rw [if_neg (by exact Nat.mul_ne_zero (by omega) hz)])
    unfold Builtin.zeroCells
    rw [hsz'] at this ⊢
    rw [this]
  rw [hzc]
  simp only [Sem.run_bind, hst, Result.andThen_ok, Sem.run_pure]
theorem copy_run {t0 t1 ty z by_ elem dn c k m : Nat} {Z ds : List Value} {ad : Addr} {xv : Value} {w w' : World} (hi : prun P (elemInfo t0) = some (z, by_, Z, elem)) (hlen : (Builtin.lenOf xv).run P w = .ok k w) (hm : Nat.min k dn = m) (hsrc : (Builtin.firstCells z m xv).run P w = .ok ds.toArray w) (hst : (storeCells ad ds).run P w = .ok () w') : (Builtin.copy_ #[t0, t1] ty #[.slice (some ad) dn c, xv]).run P w = .ok (goInt m) w' := by
  obtain ⟨hu, i, v, hti, hv, hsz, hby, hZ, hl, hz⟩ := elemInfo_out hi
  unfold Builtin.copy_
  simp only [List.getElem?_toArray, List.getElem?_cons_zero, List.getElem?_cons_succ, Sem.run_bind, prun_run (prun_underlying hu) w, Result.andThen_ok, hlen, hm, prun_run hsz w, hsrc, hst, Sem.run_pure]
end
section
variable {P : Program} {T : Tab P} {M0 M : Mem} {w0 : Base} {N : Nat} {σ : Nat → Nat} {e : Env} {b : Bx} {n : Nat} {a : Act} {w : World}
theorem delTy_out {P : Program} {t kt : TypeId} {u : Unit} (h : prun P (delTy t kt) = some u) : ∃ et, P.underlying t = some (.map kt et) ∧ P.underlying kt = some .string := by
  unfold delTy at h
  rw [prun_bind] at h
  cases hu : prun P (underlying t) with
  | none => rw [hu] at h; simp at h
  | some d =>
    rw [hu] at h
    simp only [Option.bind_some] at h
    cases d <;> first | (simp [stuck, prun] at h; done) | skip
    rename_i kt' et
    simp only [prun_bind] at h
    cases hk : prun P (underlying kt') with
    | none => rw [hk] at h; simp at h
    | some d =>
      rw [hk] at h
      simp only [Option.bind_some] at h
      cases d <;> first | (simp [stuck, prun] at h; done) | skip
      simp only at h
      by_cases he : kt' = kt
      · subst he
        exact ⟨et, underlying_of hu, underlying_of hk⟩
      · rw [if_neg he] at h; simp [stuck, prun] at h
theorem pop_sound [O : Own T M0 w0] {o : Oper} {K : Kont} {K' : Act → World → Prop} {Q' : Exit → Act → World → Prop} (h : Rel M0 w0 N σ e b n M a w) (hp : pop P T N o e b n M K)
    (hK : ∀ σ e b n M a w, Rel M0 w0 N σ e b n M a w → K e b n M → K' a w) : o.wp P a w K' Q' := by
  unfold pop at hp
  rw [withD_eq] at hp
  cases hd : dOk N o.dst with
  | false => rw [hd] at hp; exact hp.elim
  | true =>
    rw [hd] at hp
    simp only [cond_true] at hp
    have hquiet : ∀ {o : Oper}, dOk N o.dst = true → qop P T M o e b (fun u => K (put e o.dst u) b n M) → o.wp P a w K' Q' := by
      intro o hd hp
      obtain ⟨u, hu, hul, hqa⟩ := qop_sound h hp
      exact wp_of_quietAt hqa fun w' hw' => hK _ _ _ _ _ _ _ ((h.world hw').put hd hul.1 (by
        exact good_world h hw' hul.2)) hu
    obtain ⟨dst, op, type, pos, after, guard⟩ := o
    cases op with
    | alloc t =>
      simp only at hp hd
      split at hp
      · rename_i v hz
        unfold Oper.wp
        have hr : (execOp a.eval { dst, op := .alloc t, type, pos, after, guard }).run P w = .ok (.value (.pointer (some ⟨w.heap.size, 0, none⟩))) (w.alloc (.cells v.cells.toList.toArray t)) := by
          show (do pure (Next.value (← Instr.alloc t true (.tuple #[]))) : Sem Next).run P w = _
          refine (Sem.run_bind ..).trans ?_
          have : (Instr.alloc t true (.tuple #[])).run P w = .ok (.pointer (some ⟨w.heap.size, 0, none⟩)) (w.alloc (.cells v.cells.toList.toArray t)) := by
            unfold Instr.alloc
            simp only [Sem.run_bind, prun_run hz w, Result.andThen_ok]
            rfl
          rw [this]
          rfl
        rw [hr]
        rw [nfK_eq] at hp
        exact hK _ _ _ _ _ _ _ (h.grow hd v.cells.toList t).1 hp
      · exact hp.elim
    | box t x =>
      simp only at hp hd
      refine pubO_sound [x] h hp fun e b M h hp => ?_
      split at hp
      · rename_i v hx
        unfold Oper.wp
        have hr : (execOp a.eval { dst, op := .box t x, type, pos, after, guard }).run P w = .ok (.value (.pointer (some ⟨w.heap.size, 0, none⟩))) (w.alloc (.cells v.cells.toList.toArray t)) := by
          show (do pure (Next.value (← Instr.box t (a.eval x))) : Sem Next).run P w = _
          rw [h.evV hx]
          rfl
        rw [hr]
        rw [nfK_eq] at hp
        exact hK _ _ _ _ _ _ _ (h.grow hd v.cells.toList t).1 hp
      · exact hp.elim
    | store t x y =>
      simp only at hp hd
      refine pubO_sound [y] h hp fun e b M h hp => ?_
      have key : ∀ {i q m : Nat} {v : Value} {cs : List Value}, a.eval x = .pointer (some ⟨σ i, q, none⟩) → evV e y = some v → lookB b i = some cs → prun P (sizeOf t) = some m → v.cells.size = m → q + m ≤ cs.length → allOne v.cells.toList = true →
          K (put e dst (.v undef)) ((i, setAt cs q v.cells.toList) :: b) n M → Oper.wp P { dst, op := .store t x y, type, pos, after, guard } a w K' Q' := by
        intro i q m v cs hx hy hi hm hm' hle hone hp
        obtain ⟨w', hr, hR⟩ := Rel.storeCells (P := P) (j := 0) (q := q) v.cells.toList h hi hone (by simp; omega)
        unfold Oper.wp
        have hr' : (execOp a.eval { dst, op := .store t x y, type, pos, after, guard }).run P w = .ok .skip w' := by
          show (do Instr.storeAt t (a.eval x) (a.eval y); pure Next.skip : Sem Next).run P w = _
          rw [hx, h.evV hy]
          have : (Instr.storeAt t (.pointer (some ⟨σ i, q, none⟩)) v).run P w = .ok () w' := by
            simp only [Instr.storeAt, Instr.sureAddr, storeVar, Sem.run_bind, Sem.run_pure, Result.andThen_ok, prun_run hm w]
            rw [if_neg (by rw [hm']; simp)]
            exact hr
          simp only [Sem.run_bind, this, Result.andThen_ok]
          rfl
        rw [hr']
        have hR2 := hR.put (x := .v undef) hd (fun i hx => by cases hx) trivial
        exact hK _ _ _ _ _ _ _ hR2 (by simpa using hp)
      split at hp
      · rename_i i q v hx hy
        split at hp
        · rename_i cs m hi hm
          cases hc : (Nat.beq v.cells.size m && (Nat.ble (q + m) cs.length && allOne v.cells.toList)) with
          | false => rw [hc] at hp; exact hp.elim
          | true =>
            rw [hc] at hp
            simp only [cond_true, nfK_eq, splice_eq] at hp
            simp only [Bool.and_eq_true] at hc
            exact key (h.ev hx) hy hi hm (Nat.eq_of_beq_eq_true hc.1) (Nat.le_of_ble_eq_true hc.2.1) hc.2.2 hp
        · exact hp.elim
      · rename_i i q v hx hy
        split at hp
        · rename_i cs m hi hm
          cases hc : (Nat.beq v.cells.size m && allOne v.cells.toList) with
          | false => rw [hc] at hp; exact hp.elim
          | true =>
            rw [hc] at hp
            simp only [Bool.and_eq_true] at hc
            exact key (h.ev hx) hy hi hm (Nat.eq_of_beq_eq_true hc.1) hp.h hc.2 hp.k
        · exact hp.elim
      · rename_i ad q v hx hy
        split at hp
        · rename_i u m hu hm
          cases ho' : (Nat.beq m 1 && one1 u) with
          | false => rw [ho'] at hp; exact hp.elim
          | true =>
            rw [ho'] at hp
            simp only [Bool.and_eq_true] at ho'
            have hm1 := Nat.eq_of_beq_eq_true ho'.1
            subst hm1
            have ho := ho'.2
            obtain ⟨hw, hs, hb, hk⟩ := hp
            obtain ⟨hf, M', h1, h2, hR⟩ := h.storeK (v := u) hs fun u0 h0 => O.own hw _ u0 hb h0
            obtain ⟨u0, hu0⟩ := Option.isSome_iff_exists.mp hs
            unfold Oper.wp
            have hr' : (execOp a.eval { dst, op := .store t x y, type, pos, after, guard }).run P w = .ok .skip (w.setCell (ad.add q) u) := by
              show (do Instr.storeAt t (a.eval x) (a.eval y); pure Next.skip : Sem Next).run P w = _
              rw [h.ev hx, h.evV hy]
              have : (Instr.storeAt t (.pointer (some (ad.add q))) v).run P w = .ok () (w.setCell (ad.add q) u) := by
                simp only [Instr.storeAt, Instr.sureAddr, storeVar, Sem.run_bind, Sem.run_pure, Result.andThen_ok, prun_run hm w]
                have hz : v.cells.size = 1 := by rw [← Array.length_toList, hu]; rfl
                rw [if_neg (by rw [hz]; simp)]
                rw [hu]
                simp only [Go.storeCells, Sem.run_bind, show (ad.add q).add 0 = ad.add q by simp [Addr.add], store_run ho (h.kn _ _ hu0) hf, Result.andThen_ok]
                rfl
              simp only [conc, Sem.run_bind, this, Result.andThen_ok]
              rfl
            rw [hr']
            exact hK _ _ _ _ _ _ _ (hR.put (x := .v undef) hd (fun i hx => by cases hx) trivial) (by simpa using hk M' h1 h2)
        · rename_i u u' r m hu hm
          cases ho' : Nat.beq m (r.length + 2) with
          | false => rw [ho'] at hp; exact hp.elim
          | true =>
            rw [ho'] at hp
            have hm1 := Nat.eq_of_beq_eq_true ho'
            subst hm1
            obtain ⟨hw, hs, hb, ho, hk⟩ := hp
            obtain ⟨w', M', hrun, h1, h2, hR⟩ := Rel.storeL (P := P) (u :: u' :: r) (j := 0) h ho (fun o ho => by rw [Nat.zero_add]; exact hs o ho) (fun o ho u0 h0 => by rw [Nat.zero_add] at h0 ⊢; exact O.own hw _ u0 (hb o ho) h0)
            unfold Oper.wp
            have hr' : (execOp a.eval { dst, op := .store t x y, type, pos, after, guard }).run P w = .ok .skip w' := by
              show (do Instr.storeAt t (a.eval x) (a.eval y); pure Next.skip : Sem Next).run P w = _
              rw [h.ev hx, h.evV hy]
              have : (Instr.storeAt t (.pointer (some (ad.add q))) v).run P w = .ok () w' := by
                simp only [Instr.storeAt, Instr.sureAddr, storeVar, Sem.run_bind, Sem.run_pure, Result.andThen_ok, prun_run hm w]
                have hz : v.cells.size = r.length + 2 := by rw [← Array.length_toList, hu]; rfl
                rw [if_neg (by rw [hz]; simp)]
                rw [hu]
                exact hrun
              simp only [conc, Sem.run_bind, this, Result.andThen_ok]
              rfl
            rw [hr']
            exact hK _ _ _ _ _ _ _ (hR.put (x := .v undef) hd (fun i hx => by cases hx) trivial) (by simpa using hk M' (fun o u hu => by have := h1 o u hu; rwa [Nat.zero_add] at this) (fun a' ha' => h2 a' fun o ho => by rw [Nat.zero_add]; exact ha' o ho))
        · exact hp.elim
      · exact hp.elim
    | slice t x lo hi mx =>
      simp only at hp hd
      refine pubO_sound [x] h hp fun e b M h hp => ?_
      obtain ⟨u, hu, hul, hqa⟩ := qop_sound h hp
      exact wp_of_quietAt hqa fun w' hw' => hK _ _ _ _ _ _ _ ((h.world hw').put hd hul.1 (good_world h hw' hul.2)) hu
    | build t parts =>
      simp only at hp hd
      refine pubB_sound _ h hp fun e b M h hp => ?_
      obtain ⟨u, hu, hul, hqa⟩ := qop_sound h hp
      exact wp_of_quietAt hqa fun w' hw' => hK _ _ _ _ _ _ _ ((h.world hw').put hd hul.1 (good_world h hw' hul.2)) hu
    | buildSlice t len parts =>
      simp only at hp hd
      split at hp
      · rename_i ps z by_ Z elem hps hi
        split at hp
        · rename_i cs hcs
          cases hc : Nat.ble (len * z) 16777216 with
          | false => rw [hc] at hp; exact hp.elim
          | true =>
            rw [hc] at hp
            simp only [cond_true, nfK_eq] at hp
            unfold Oper.wp
            have ha : (parts.map fun (i, x) => (i, a.eval x)) = ps.toArray := by
              apply Array.toList_inj.mp
              simp only [Array.toList_map]
              exact h.evP hps
            have hr : (execOp a.eval { dst, op := .buildSlice t len parts, type, pos, after, guard }).run P w = .ok (.value (.slice (some ⟨w.heap.size, 0, none⟩) len len)) (w.alloc (.cells cs.toArray elem)) := by
              show (do pure (Next.value (← Instr.buildSlice t len (parts.map fun (i, x) => (i, a.eval x)))) : Sem Next).run P w = _
              rw [ha]
              exact run_value'' (buildSlice_run hi hcs (Nat.le_of_ble_eq_true hc) w)
            rw [hr]
            obtain ⟨_, _, _, _, _, _, _, _, hl, _⟩ := elemInfo_out hi
            have hlc : cs.length = len * z := by rw [(pfillS_run ps _ _ hcs).2, flatten_len hl]
            have hg := (h.grow hd cs elem).2 (.s n len len z) (fun i hi => by cases hi; omega) (fun cs' hcs' => by
              simp only [lookB, show Nat.beq n n = true by simp, cond_true, Option.some.injEq] at hcs'
              subst hcs'
              refine ⟨hlc, Nat.le_refl _, cs.toArray, elem, ?_, List.size_toArray.trans hlc⟩
              show (w.heap.push _)[if n = n then w.heap.size else σ n]? = _
              rw [if_pos rfl, Array.getElem?_push_size])
            simp only [conc, if_true] at hg
            exact hK _ _ _ _ _ _ _ hg hp
        · exact hp.elim
      · exact hp.elim
    | makeSlice t x y =>
      simp only at hp hd
      split at hp
      · rename_i k len k' c hx hy
        split at hp
        · rename_i z by_ Z elem hi
          obtain ⟨h0, h1, h2, h3, hk⟩ := hp
          subst h0
          unfold Oper.wp
          have hr : (execOp a.eval { dst, op := .makeSlice t x y, type, pos, after, guard }).run P w = .ok (.value (.slice (some ⟨w.heap.size, 0, none⟩) c.toNat c.toNat)) (w.alloc (.cells (List.replicate c.toNat Z).flatten.toArray elem)) := by
            show (do pure (Next.value (← Instr.makeSlice t (a.eval x) (a.eval y))) : Sem Next).run P w = _
            rw [h.evV hx, h.evV hy]
            exact run_value'' (makeSlice_run hi h1 h2 h3 w)
          rw [hr]
          obtain ⟨_, _, _, _, _, _, _, _, hl, _⟩ := elemInfo_out hi
          have hg := (h.grow hd (List.replicate c.toNat Z).flatten elem).2 (.s n c.toNat c.toNat z) (fun i hi => by cases hi; omega) (fun cs hcs => by
            simp only [lookB, show Nat.beq n n = true by simp, cond_true, Option.some.injEq] at hcs
            subst hcs
            refine ⟨flatten_len hl _, Nat.le_refl _, (List.replicate c.toNat Z).flatten.toArray, elem, ?_, List.size_toArray.trans (flatten_len hl _)⟩
            show (w.heap.push _)[if n = n then w.heap.size else σ n]? = _
            rw [if_pos rfl, Array.getElem?_push_size])
          simp only [conc, if_true] at hg
          exact hK _ _ _ _ _ _ _ hg hk
        · exact hp.elim
      · exact hp.elim
    | makeFunc fn first cap =>
      cases fn with
      | func f =>
        simp only at hp hd
        split at hp
        · rename_i hfst
          refine pubC_sound cap.toList h hp fun e b M h hp => ?_
          split at hp
          · rename_i l hl
            unfold Oper.wp
            have hr : (execOp a.eval { dst, op := .makeFunc (.func f) first cap, type, pos, after, guard }).run P w = .ok (.value (.func (.func f) #[] l.toArray)) w := by
              show (do pure (Next.value (← Instr.makeFunc (.func f) (first.map a.eval) (cap.map a.eval))) : Sem Next).run P w = _
              have h1 : first.map a.eval = #[] := by apply Array.toList_inj.mp; simp [hfst]
              have h2 : cap.map a.eval = l.toArray := by apply Array.toList_inj.mp; simp [h.capL hl]
              rw [h1, h2]
              rfl
            rw [hr]
            exact hK _ _ _ _ _ _ _ (h.put (x := .v _) hd (fun i hx => by cases hx) trivial) hp
          · exact hp.elim
        · exact hp.elim
      | _ => exact hquiet hd hp
    | makeMap t r =>
      cases r with
      | some r => exact hquiet hd hp
      | none =>
        simp only at hp hd
        split at hp
        · unfold Oper.wp
          have hr : (execOp a.eval { dst, op := .makeMap t none, type, pos, after, guard }).run P w = .ok (.value (.map (some w.heap.size))) (w.alloc (.map #[] 0)) := by
            show (do pure (Next.value (← Instr.makeMap t none)) : Sem Next).run P w = _
            exact run_value'' (by simp [Instr.makeMap])
          rw [hr]
          have hg := (h.growO (.map #[] 0)).put (x := .m n []) hd (fun i hi => by cases hi; omega) (by
            show w0.own (if n = n then w.heap.size else σ n) ∧ MapAt _ (if n = n then w.heap.size else σ n) []
            rw [if_pos rfl]
            refine ⟨.inl h.below.size, by simp, #[], 0, ?_, by simp⟩
            show (w.heap.push _)[w.heap.size]? = _
            rw [Array.getElem?_push_size])
          simp only [conc, if_true] at hg
          exact hK _ _ _ _ _ _ _ hg hp
        · exact hp.elim
    | mapUpdate t x k y =>
      simp only at hp hd
      split at hp
      · rename_i i l s v u hx hk hy hm
        cases hc : oneMap i e with
        | false => rw [hc] at hp; exact hp.elim
        | true =>
          rw [hc] at hp
          simp only [cond_true] at hp
          obtain ⟨kt, et, h1, h2⟩ := mapTy_out hm
          have hga := good_ev h hx
          obtain ⟨o, hrun, hat⟩ := mapUpdate_run h1 h2 hga.2 s v
          unfold Oper.wp
          have hr : (execOp a.eval { dst, op := .mapUpdate t x k y, type, pos, after, guard }).run P w = .ok .skip { w with heap := w.heap.setIfInBounds (σ i) o } := by
            show (do Instr.mapUpdate t (a.eval x) (a.eval k) (a.eval y); pure Next.skip : Sem Next).run P w = _
            rw [h.ev hx, h.evV hk, h.evV hy]
            simp only [conc, Sem.run_bind, hrun, Result.andThen_ok]
            rfl
          rw [hr]
          exact hK _ _ _ _ _ _ _ ((h.setMap hga.1 hga.2 hc hat).put (x := .v undef) hd (fun i hx => by cases hx) trivial) (by simpa using hp)
      · exact hp.elim
    | call c =>
      obtain ⟨callee, args, argTypes⟩ := c
      cases callee with
      | value x =>
        simp only at hp hd
        refine pubP_sound args.toList h hp fun e b M h hp => ?_
        split at hp
        · rename_i f l hc hl
          have ha : args.map a.eval ++ #[] = l.toArray := by
            apply Array.toList_inj.mp
            simp [h.capL hl]
          have he : ∀ (hg : isGo P f = true), (execOp a.eval { dst, op := .call { callee := .value x, args, argTypes }, type, pos, after, guard }).run P w = .ok (.enter f l.toArray) w := by
            intro hg
            rw [exec_callC (h.calleeC hc), callFunc_run hg, ha]
          cases hp with
          | mk u hA hk =>
            unfold Oper.wp
            rw [he hA.1]
            refine (hA.2 w h.kn).mono fun e' w' ⟨h1, h2⟩ => ?_
            subst h1
            exact hK _ _ _ _ _ _ _ ((h.world h2).put (x := .v u) hd (fun i hx => by cases hx) trivial) hk
          | mr R hA hk =>
            unfold Oper.wp
            rw [he hA.1]
            refine (hA.2 w h.kn).mono fun e' w' ⟨v, M', h1, h2, h3, h4, h5, h6⟩ => ?_
            subst h1
            exact hK _ _ _ _ _ _ _ ((h.mem (B := 0) h6 h3 h2 h4).put (x := .v v) hd (fun i hx => by cases hx) trivial) (hk v M' h2 h5)
          | mf R hA hk =>
            unfold Oper.wp
            rw [he hA.1]
            refine (hA.2 w h.kn).mono fun e' w' ⟨v, M', h1, h2, h3, h4, h5, h6⟩ => ?_
            subst h1
            refine hK _ _ _ _ _ _ _ ((h.mem (B := 0) h6 h3 h2 h4).put (x := .v v) hd (fun i hx => by cases hx) trivial) (hk v M' h2 (fun ad u hn hu ad' u' hu' => ?_) h5)
            rcases h4 ad u hu with h7 | ⟨h7, _⟩
            · rw [hn] at h7; cases h7
            · have := block_lt_of_cell (h.kn ad' u' hu'); omega
          | mx R hw hA hb hk =>
            unfold Oper.wp
            rw [he hA.1]
            refine (hA.2 w h.kn fun ad u hu => h.nf ad u hu (by
              cases h0 : M0 ad with
              | none => exact .inl rfl
              | some u0 => exact .inr (O.own hw ad u0 (hb ad u hu) h0))).mono fun e' w' ⟨v, M', h1, h2, h3, h4, h5, h6⟩ => ?_
            subst h1
            obtain ⟨M2, h7, h8, hR⟩ := h.callW (Mx := M) (M1 := M') (w' := w') (fun _ _ h => h) (fun ad u u0 hu h0 => O.own hw ad u0 (hb ad u hu) h0) (fun ad u ad' u' _ hu' hn => by rw [hn] at hu'; cases hu') h2 h3 h4 h6
            exact hK _ _ _ _ _ _ _ (hR.put (x := .v v) hd (fun i hx => by cases hx) trivial) (hk v M' M2 h5 h7 h8)
          | mw Mx R hw hA hs hb hd' hk =>
            unfold Oper.wp
            rw [he hA.1]
            refine (hA.2 w (fun ad u hu => h.kn ad u (hs ad u hu)) fun ad u hu => h.nf ad u (hs ad u hu) (by
              cases h0 : M0 ad with
              | none => exact .inl rfl
              | some u0 => exact .inr (O.own hw ad u0 (hb ad u hu) h0))).mono fun e' w' ⟨v, M', h1, h2, h3, h4, h5, h6⟩ => ?_
            subst h1
            obtain ⟨M2, h7, h8, hR⟩ := h.callW (Mx := Mx) (M1 := M') (w' := w') hs (fun ad u u0 hu h0 => O.own hw ad u0 (hb ad u hu) h0) hd' h2 h3 h4 h6
            exact hK _ _ _ _ _ _ _ (hR.put (x := .v v) hd (fun i hx => by cases hx) trivial) (hk v M' M2 h5 h7 h8)
          | ex u hw hrun hk =>
            unfold Oper.wp
            have hx := hrun w h.kn (fun ad u hu hb => h.nf ad u hu (by
              cases h0 : M0 ad with
              | none => exact .inl rfl
              | some u0 => exact .inr (O.own hw ad u0 hb h0)))
            rw [exec_callC (h.calleeC hc), ha, hx]
            exact hK _ _ _ _ _ _ _ (h.put (x := .v u) hd (fun i hx => by cases hx) trivial) hk
          | mg Mx R hw hA hs hb hd' hk =>
            unfold Oper.wp
            rw [he hA.1]
            refine (hA.2 w (fun ad u hu => h.kn ad u (hs ad u hu)) fun ad u hu => h.nf ad u (hs ad u hu) (by
              cases h0 : M0 ad with
              | none => exact .inl rfl
              | some u0 => exact .inr (O.own hw ad u0 (hb ad u hu) h0))).mono fun e' w' ⟨v, M', h1, h2, h3, h4, h5, h6⟩ => ?_
            subst h1
            obtain ⟨M2, h7, h8, h9, h10, hR⟩ := h.callG (Mx := Mx) (M1 := M') (w' := w') hs (fun ad u u0 hu h0 => O.own hw ad u0 (hb ad u hu) h0) hd' h2 h3 h4 h6
            exact hK _ _ _ _ _ _ _ (hR.put (x := .v v) hd (fun i hx => by cases hx) trivial) (hk v M' M2 h5 h7 h8 h9 h10)
          | mb Mb R hw hA hs hb hd' hk =>
            unfold Oper.wp
            rw [he hA.1]
            refine (hA.2 w h.kn (fun ad u hu hn => h.nf ad u hu (by
              cases h0 : M0 ad with
              | none => exact .inl rfl
              | some u0 => exact .inr (O.own hw ad u0 (hb ad u hu hn) h0)))).mono fun e' w' ⟨v, M', h1, h2, h2b, h3, h4, h5, h6⟩ => ?_
            subst h1
            obtain ⟨M2, h7, h8, h9, h10, hR⟩ := h.callG (Mx := rest M Mb) (M1 := rest M' Mb) (w' := w') (fun ad u hu => (rest_at hu).2) (fun ad u u0 hu h0 => O.own hw ad u0 (hb ad u (rest_at hu).2 (rest_at hu).1) h0) (fun ad u ad' u' hu hu' hn => hd' ad u ad' u' (rest_at hu).2 (rest_at hu).1 (rest_no hs hn hu')) (fun ad u hu => h2 ad u (rest_at hu).2) (fun ad u hu => (h3 ad u (rest_at hu).2 (rest_at hu).1).imp (fun ⟨a, u0, g1, g2, g3⟩ => ⟨a, u0, rest_of g2 g1, g3⟩) id) (fun ad u hu => h4 ad u (rest_at hu).2 (rest_at hu).1) h6
            have hl2 : Le Mb M2 := fun ad u hu => h8 ad u (by unfold rest; rw [hu]) (hs ad u hu)
            refine hK _ _ _ _ _ _ _ (hR.put (x := .v v) hd (fun i hx => by cases hx) trivial) (hk v M' M2 h5 (fun ad u hu => ?_) hl2 fun ad u hu hn => ?_)
            · cases hm : Mb ad with
              | none => exact h7 ad u (rest_of hm hu)
              | some u1 =>
                have := h2b ad u1 hm
                rw [hu] at this
                rw [hl2 ad u1 hm, this]
            · exact (h10 ad u (rest_of hn hu)).imp (fun ⟨a, u0, g1, g2⟩ => ⟨a, u0, (rest_at g1).2, (rest_at g1).1, g2⟩) id
        · rename_i f c0 r l hc hl
          have ha : args.map a.eval ++ (c0 :: r).toArray = (l ++ c0 :: r).toArray := by
            apply Array.toList_inj.mp
            simp [h.capL hl]
          have he : ∀ (hg : isGo P f = true), (execOp a.eval { dst, op := .call { callee := .value x, args, argTypes }, type, pos, after, guard }).run P w = .ok (.enter f (l ++ c0 :: r).toArray) w := by
            intro hg
            rw [exec_callC (h.calleeC hc), callFunc_run hg, ha]
          cases hp with
          | mk u hA hk =>
            unfold Oper.wp
            rw [he hA.1]
            refine (hA.2 w h.kn).mono fun e' w' ⟨h1, h2⟩ => ?_
            subst h1
            exact hK _ _ _ _ _ _ _ ((h.world h2).put (x := .v u) hd (fun i hx => by cases hx) trivial) hk
          | mr R hA hk =>
            unfold Oper.wp
            rw [he hA.1]
            refine (hA.2 w h.kn).mono fun e' w' ⟨v, M', h1, h2, h3, h4, h5, h6⟩ => ?_
            subst h1
            exact hK _ _ _ _ _ _ _ ((h.mem (B := 0) h6 h3 h2 h4).put (x := .v v) hd (fun i hx => by cases hx) trivial) (hk v M' h2 h5)
          | mf R hA hk =>
            unfold Oper.wp
            rw [he hA.1]
            refine (hA.2 w h.kn).mono fun e' w' ⟨v, M', h1, h2, h3, h4, h5, h6⟩ => ?_
            subst h1
            refine hK _ _ _ _ _ _ _ ((h.mem (B := 0) h6 h3 h2 h4).put (x := .v v) hd (fun i hx => by cases hx) trivial) (hk v M' h2 (fun ad u hn hu ad' u' hu' => ?_) h5)
            rcases h4 ad u hu with h7 | ⟨h7, _⟩
            · rw [hn] at h7; cases h7
            · have := block_lt_of_cell (h.kn ad' u' hu'); omega
          | mx R hw hA hb hk =>
            unfold Oper.wp
            rw [he hA.1]
            refine (hA.2 w h.kn fun ad u hu => h.nf ad u hu (by
              cases h0 : M0 ad with
              | none => exact .inl rfl
              | some u0 => exact .inr (O.own hw ad u0 (hb ad u hu) h0))).mono fun e' w' ⟨v, M', h1, h2, h3, h4, h5, h6⟩ => ?_
            subst h1
            obtain ⟨M2, h7, h8, hR⟩ := h.callW (Mx := M) (M1 := M') (w' := w') (fun _ _ h => h) (fun ad u u0 hu h0 => O.own hw ad u0 (hb ad u hu) h0) (fun ad u ad' u' _ hu' hn => by rw [hn] at hu'; cases hu') h2 h3 h4 h6
            exact hK _ _ _ _ _ _ _ (hR.put (x := .v v) hd (fun i hx => by cases hx) trivial) (hk v M' M2 h5 h7 h8)
          | mw Mx R hw hA hs hb hd' hk =>
            unfold Oper.wp
            rw [he hA.1]
            refine (hA.2 w (fun ad u hu => h.kn ad u (hs ad u hu)) fun ad u hu => h.nf ad u (hs ad u hu) (by
              cases h0 : M0 ad with
              | none => exact .inl rfl
              | some u0 => exact .inr (O.own hw ad u0 (hb ad u hu) h0))).mono fun e' w' ⟨v, M', h1, h2, h3, h4, h5, h6⟩ => ?_
            subst h1
            obtain ⟨M2, h7, h8, hR⟩ := h.callW (Mx := Mx) (M1 := M') (w' := w') hs (fun ad u u0 hu h0 => O.own hw ad u0 (hb ad u hu) h0) hd' h2 h3 h4 h6
            exact hK _ _ _ _ _ _ _ (hR.put (x := .v v) hd (fun i hx => by cases hx) trivial) (hk v M' M2 h5 h7 h8)
          | ex u hw hrun hk =>
            unfold Oper.wp
            have hx := hrun w h.kn (fun ad u hu hb => h.nf ad u hu (by
              cases h0 : M0 ad with
              | none => exact .inl rfl
              | some u0 => exact .inr (O.own hw ad u0 hb h0)))
            rw [exec_callC (h.calleeC hc), ha, hx]
            exact hK _ _ _ _ _ _ _ (h.put (x := .v u) hd (fun i hx => by cases hx) trivial) hk
          | mg Mx R hw hA hs hb hd' hk =>
            unfold Oper.wp
            rw [he hA.1]
            refine (hA.2 w (fun ad u hu => h.kn ad u (hs ad u hu)) fun ad u hu => h.nf ad u (hs ad u hu) (by
              cases h0 : M0 ad with
              | none => exact .inl rfl
              | some u0 => exact .inr (O.own hw ad u0 (hb ad u hu) h0))).mono fun e' w' ⟨v, M', h1, h2, h3, h4, h5, h6⟩ => ?_
            subst h1
            obtain ⟨M2, h7, h8, h9, h10, hR⟩ := h.callG (Mx := Mx) (M1 := M') (w' := w') hs (fun ad u u0 hu h0 => O.own hw ad u0 (hb ad u hu) h0) hd' h2 h3 h4 h6
            exact hK _ _ _ _ _ _ _ (hR.put (x := .v v) hd (fun i hx => by cases hx) trivial) (hk v M' M2 h5 h7 h8 h9 h10)
          | mb Mb R hw hA hs hb hd' hk =>
            unfold Oper.wp
            rw [he hA.1]
            refine (hA.2 w h.kn (fun ad u hu hn => h.nf ad u hu (by
              cases h0 : M0 ad with
              | none => exact .inl rfl
              | some u0 => exact .inr (O.own hw ad u0 (hb ad u hu hn) h0)))).mono fun e' w' ⟨v, M', h1, h2, h2b, h3, h4, h5, h6⟩ => ?_
            subst h1
            obtain ⟨M2, h7, h8, h9, h10, hR⟩ := h.callG (Mx := rest M Mb) (M1 := rest M' Mb) (w' := w') (fun ad u hu => (rest_at hu).2) (fun ad u u0 hu h0 => O.own hw ad u0 (hb ad u (rest_at hu).2 (rest_at hu).1) h0) (fun ad u ad' u' hu hu' hn => hd' ad u ad' u' (rest_at hu).2 (rest_at hu).1 (rest_no hs hn hu')) (fun ad u hu => h2 ad u (rest_at hu).2) (fun ad u hu => (h3 ad u (rest_at hu).2 (rest_at hu).1).imp (fun ⟨a, u0, g1, g2, g3⟩ => ⟨a, u0, rest_of g2 g1, g3⟩) id) (fun ad u hu => h4 ad u (rest_at hu).2 (rest_at hu).1) h6
            have hl2 : Le Mb M2 := fun ad u hu => h8 ad u (by unfold rest; rw [hu]) (hs ad u hu)
            refine hK _ _ _ _ _ _ _ (hR.put (x := .v v) hd (fun i hx => by cases hx) trivial) (hk v M' M2 h5 (fun ad u hu => ?_) hl2 fun ad u hu hn => ?_)
            · cases hm : Mb ad with
              | none => exact h7 ad u (rest_of hm hu)
              | some u1 =>
                have := h2b ad u1 hm
                rw [hu] at this
                rw [hl2 ad u1 hm, this]
            · exact (h10 ad u (rest_of hn hu)).imp (fun ⟨a, u0, g1, g2⟩ => ⟨a, u0, (rest_at g1).2, (rest_at g1).1, g2⟩) id
        · exact hp.elim
      | builtin bi =>
        cases bi <;> first | (exact hquiet hd hp; done) | skip
        · simp only at hp hd
          split at hp
          · rename_i sx xx t0 t1 hxs hts
            split at hp
            · rename_i z by_ Z elem hi ha
              split at hp
              · rename_i u ad len cap xk l hu hsx hxx
                exact appZ_sound h hd hxs hts hi hu hsx hxx hp hK
              · exact hp.elim
            · rename_i z by_ Z elem u hi ha
              unfold appD at hp
              split at hp
              · rename_i ad len cap hsx
                exact appX_sound h hd hxs hts hi ha hsx hp hK
              · exact append_sound h hd hxs hts hi ha hp hK
            · exact hp.elim
          · exact hp.elim
        · simp only at hp hd
          split at hp
          · rename_i sx t0 hxs hts
            have hargs : args.map a.eval = #[a.eval sx] := by
              apply Array.toList_inj.mp
              simp [hxs]
            have htypes : argTypes = #[t0] := Array.toList_inj.mp (by simpa using hts)
            have hexec : ∀ {r : Value} {w' : World}, (Builtin.clear_ #[t0] type #[a.eval sx]).run P w = .ok r w' → (execOp a.eval { dst, op := .call { callee := .builtin .clear, args, argTypes }, type, pos, after, guard }).run P w = .ok (.value r) w' := by
              intro r w' hr
              show (do pure (Next.value (← Builtin.clear_ argTypes type (args.map a.eval))) : Sem Next).run P w = _
              rw [hargs, htypes]
              exact run_value'' hr
            split at hp
            · rename_i z by_ Z elem ad dn c hi hsx
              obtain ⟨hw, hs, hb, ho, hk⟩ := hp
              obtain ⟨w', M', hrun, h1, h2, hR⟩ := Rel.storeL (P := P) (List.replicate (dn + 1) Z).flatten (ad := ad) (j := 0) h ho (fun o ho => by rw [Nat.zero_add]; exact hs o ho) (fun o ho u0 h0 => by rw [Nat.zero_add] at h0 ⊢; exact O.own hw _ u0 (hb o ho) h0)
              have hsv := h.ev hsx
              simp only [conc] at hsv
              unfold Oper.wp
              rw [hexec (by rw [hsv]; exact clear_run hi hrun)]
              exact hK _ _ _ _ _ _ _ (hR.put (x := .v (.tuple #[])) hd (fun i hx => by cases hx) trivial) (hk M' (fun o u hu => by have := h1 o u hu; rwa [Nat.zero_add] at this) (fun a' ha' => h2 a' fun o ho => by rw [Nat.zero_add]; exact ha' o ho))
            · rename_i q n0 c0 hi hsx
              obtain ⟨z, by_, Z, elem⟩ := q
              obtain ⟨hu, _⟩ := elemInfo_out hi
              have hsv := h.ev hsx
              simp only [conc] at hsv
              unfold Oper.wp
              rw [hexec (w' := w) (r := .tuple #[]) (by
                rw [hsv]
                unfold Builtin.clear_
                simp only [List.getElem?_toArray, List.getElem?_cons_zero, Sem.run_bind, prun_run (prun_underlying hu) w, Result.andThen_ok]
                rfl)]
              exact hK _ _ _ _ _ _ _ (h.put (x := .v (.tuple #[])) hd (fun i hx => by cases hx) trivial) hp
            · rename_i q bs c0 hnn hi hsx
              obtain ⟨z, by_, Z, elem⟩ := q
              obtain ⟨hu, _⟩ := elemInfo_out hi
              have hsv := h.ev hsx
              simp only [conc] at hsv
              unfold Oper.wp
              rw [hexec (w' := w) (r := .tuple #[]) (by
                rw [hsv]
                unfold Builtin.clear_
                simp only [List.getElem?_toArray, List.getElem?_cons_zero, Sem.run_bind, prun_run (prun_underlying hu) w, Result.andThen_ok]
                cases bs <;> rfl)]
              exact hK _ _ _ _ _ _ _ (h.put (x := .v (.tuple #[])) hd (fun i hx => by cases hx) trivial) hp
            · exact hp.elim
          · exact hp.elim
        · simp only at hp hd
          split at hp
          · rename_i sx xx t0 t1 hxs hts
            have hargs : args.map a.eval = #[a.eval sx, a.eval xx] := by
              apply Array.toList_inj.mp
              simp [hxs]
            have htypes : argTypes = #[t0, t1] := Array.toList_inj.mp (by simpa using hts)
            have hexec : ∀ {r : Value} {w' : World}, (Builtin.copy_ #[t0, t1] type #[a.eval sx, a.eval xx]).run P w = .ok r w' → (execOp a.eval { dst, op := .call { callee := .builtin .copy, args, argTypes }, type, pos, after, guard }).run P w = .ok (.value r) w' := by
              intro r w' hr
              show (do pure (Next.value (← Builtin.copy_ argTypes type (args.map a.eval))) : Sem Next).run P w = _
              rw [hargs, htypes]
              exact run_value'' hr
            split at hp
            · rename_i z by_ Z elem ad dn c hi hsx
              obtain ⟨_, _, _, _, _, _, _, _, hZl, hz⟩ := elemInfo_out hi
              obtain ⟨k, ds, ⟨hw, hs, hb, ho, hk⟩, hdl, hlen, hsrc⟩ := src_readN (P := P) h hz hp
              obtain ⟨w', M', hrun, h1, h2, hR⟩ := Rel.storeL (P := P) (ds.take (min k dn * z)) (ad := ad) (j := 0) h ho (fun o ho => by rw [Nat.zero_add]; exact hs o ho) (fun o ho u0 h0 => by rw [Nat.zero_add] at h0 ⊢; exact O.own hw _ u0 (hb o ho) h0)
              have hsv := h.ev hsx
              simp only [conc] at hsv
              unfold Oper.wp
              rw [hexec (by rw [hsv]; exact copy_run hi hlen rfl (hsrc (min k dn) (Nat.min_le_left _ _) w rfl) hrun)]
              exact hK _ _ _ _ _ _ _ (hR.put (x := .v (goInt ((min k dn : Nat) : Int))) hd (fun i hx => by cases hx) trivial) (hk M' (fun o u hu => by have := h1 o u hu; rwa [Nat.zero_add] at this) (fun a' ha' => h2 a' fun o ho => by rw [Nat.zero_add]; exact ha' o ho))
            · exact hp.elim
          · exact hp.elim
        · simp only at hp hd
          split at hp
          · rename_i x k mty kt' hxs hts
            split at hp
            · rename_i i l s u hx hk hm
              cases hc : oneMap i e with
              | false => rw [hc] at hp; exact hp.elim
              | true =>
                rw [hc] at hp
                simp only [cond_true] at hp
                obtain ⟨et, h1, h2⟩ := delTy_out hm
                have hga := good_ev h hx
                obtain ⟨o, hrun, hat⟩ := mapDelete_run (ty := type) h1 h2 hga.2 s
                unfold Oper.wp
                have ha : args.map a.eval = #[.map (some (σ i)), .string s] := by
                  apply Array.toList_inj.mp
                  simp [hxs, h.ev hx, h.evV hk, conc]
                have ht : argTypes = #[mty, kt'] := by
                  apply Array.toList_inj.mp
                  simp [hts]
                have hr : (execOp a.eval { dst, op := .call { callee := .builtin .delete, args, argTypes }, type, pos, after, guard }).run P w = .ok (.value (.tuple #[])) { w with heap := w.heap.setIfInBounds (σ i) o } := by
                  show (do pure (Next.value (← Builtin.delete_ argTypes type (args.map a.eval))) : Sem Next).run P w = _
                  rw [ha, ht]
                  exact run_value'' hrun
                rw [hr]
                exact hK _ _ _ _ _ _ _ ((h.setMap hga.1 hga.2 hc hat).put (x := .v (.tuple #[])) hd (fun i hx => by cases hx) trivial) hp
            · exact hp.elim
          · exact hp.elim
      | _ => exact hquiet hd hp
    | _ => exact hquiet hd hp
theorem yielded_of (h : Rel M0 w0 N σ e b n M a w) {ops : Array Oper} {j : Nat} {x : PV} (hg : guardOf e ops j = some x) : yielded ops a.tmps j = (match conc σ x with | .bool t => some t | _ => none) := by
  unfold guardOf at hg
  unfold yielded
  cases hd : (ops[j]?).bind (·.dst) with
  | none => rw [hd] at hg; simp at hg
  | some t =>
    rw [hd] at hg
    have ht := h.tmp t x hg
    simp only [Option.bind_some]
    cases hq : a.tmps[t]? with
    | some y =>
      rw [Array.getD_eq_getD_getElem?, hq] at ht
      simp only [Option.getD_some] at ht
      rw [ht]
      cases conc σ x <;> rfl
    | none =>
      rw [Array.getD_eq_getD_getElem?, hq] at ht
      simp only [Option.getD_none] at ht
      rw [← ht]
      rfl
theorem Rel.gset (h : Rel M0 w0 N σ e b n M a w) {ops : Array Oper} {j : Nat} {t : Bool} (hg : guardOf e ops j = some (.v (.bool t))) : Rel M0 w0 N σ (Lw.gset e ops j t) b n M a w := by
  unfold guardOf at hg
  unfold Lw.gset
  cases hd : (ops[j]?).bind (·.dst) with
  | none => exact h
  | some d =>
    rw [hd] at hg
    simp only at hg
    refine ⟨h.size, fun t' x hx => ?_, fun t' x hx i hi => ?_, h.defers, h.below, h.kn, h.le, h.nw, h.lt, h.box, h.inj, h.dis, fun t' x hx => ?_, h.fix, h.kn0, h.nf⟩
    · simp only [look] at hx
      cases hk : Nat.beq d t' with
      | true =>
        rw [hk] at hx
        simp only [cond_true, Option.some.injEq] at hx
        subst hx
        rw [← Nat.eq_of_beq_eq_true hk]
        exact h.tmp d _ hg
      | false => rw [hk] at hx; exact h.tmp t' x hx
    · simp only [look] at hx
      cases hk : Nat.beq d t' with
      | true => rw [hk] at hx; simp only [cond_true, Option.some.injEq] at hx; subst hx; cases hi
      | false => rw [hk] at hx; exact h.elt t' x hx i hi
    · simp only [look] at hx
      cases hk : Nat.beq d t' with
      | true => rw [hk] at hx; simp only [cond_true, Option.some.injEq] at hx; subst hx; trivial
      | false => rw [hk] at hx; exact h.sl t' x hx
theorem guard_flat {t want : Bool} {A B : Bool → Prop} (h : match want with | true => GuardK t true (A true) (B false) | false => GuardK t false (A false) (B true)) : GuardK t want (A want) (B (!want)) := by
  cases want <;> exact h
theorem gpop_sound [O : Own T M0 w0] {ops : Array Oper} {o : Oper} {K : Kont} {K' : Act → World → Prop} {Q' : Exit → Act → World → Prop} (h : Rel M0 w0 N σ e b n M a w) (hp : gpop P T N ops o e b n M K)
    (hK : ∀ σ e b n M a w, Rel M0 w0 N σ e b n M a w → K e b n M → K' a w) : if Region.wanted o (yielded ops a.tmps) then o.wp P a w K' Q' ∨ (o.asks P a w ∧ LetsOut Q') else K' (a.put o.dst undef) w := by
  unfold gpop at hp
  have hskip : ∀ {e : Env}, Rel M0 w0 N σ e b n M a w → skipO N o e b n M K → K' (a.put o.dst undef) w := by
    intro e h hp
    unfold skipO at hp
    rw [withD_eq] at hp
    cases hd : dOk N o.dst with
    | false => rw [hd] at hp; exact hp.elim
    | true =>
      rw [hd] at hp
      exact hK _ _ _ _ _ _ _ (h.put (x := .v undef) hd (fun i hx => by cases hx) trivial) hp
  cases hg : o.guard with
  | none =>
    rw [hg] at hp
    rw [if_pos (by simp [Region.wanted, hg])]
    exact .inl (pop_sound h hp hK)
  | some jw =>
    obtain ⟨j, want⟩ := jw
    rw [hg] at hp
    simp only at hp
    split at hp
    · rename_i t hj
      have hp := guard_flat (A := fun t => pop P T N o (Lw.gset e ops j t) b n M K) (B := fun t => skipO N o (Lw.gset e ops j t) b n M K) hp
      have hy := yielded_of h hj
      simp only [conc] at hy
      by_cases ht : t = want
      · rw [if_pos (by simp [Region.wanted, hg, hy, ht])]
        exact .inl (pop_sound (h.gset (by rw [hj, ht])) (hp.yes ht) hK)
      · rw [if_neg (by simp [Region.wanted, hg, hy, ht])]
        have ht' : t = !want := by cases t <;> cases want <;> simp_all
        exact hskip (h.gset (by rw [hj, ht'])) (hp.no ht')
    · rename_i t hj
      have hy := yielded_of h hj
      simp only [conc] at hy
      rw [if_neg (by simp [Region.wanted, hg, hy])]
      exact hskip h hp
    · exact hp.elim
theorem pops_cons {ops : Array Oper} {o : Oper} {r : List Oper} {e : Env} {b : Bx} {n : Nat} {M : Mem} {K : Kont} : pops P T N ops (o :: r) e b n M K = gpop P T N ops o e b n M fun e b n M => pops P T N ops r e b n M K := by
  cases r <;> rfl
theorem pops_sound [O : Own T M0 w0] {ops : Array Oper} {Q : Exit → Kont} : ∀ (l : List Oper) {σ : Nat → Nat} {e : Env} {b : Bx} {n : Nat} {M : Mem} {a : Act} {w : World}, Rel M0 w0 N σ e b n M a w → pops P T N ops l e b n M (Q .normal) →
    wpList P ops (up M0 w0 N Q) l a w
  | [], σ, e, b, n, M, a, w, h, hp => ⟨σ, e, b, n, M, h, hp⟩
  | o :: r, σ, e, b, n, M, a, w, h, hp => by
    rw [pops_cons] at hp
    unfold wpList
    exact gpop_sound h hp fun σ e b n M a w hR hk => pops_sound r hR hk
theorem qops_sound {ops : Array Oper} {K : Env → Prop} {Q : Act → Prop} : ∀ (l : List Oper) {e : Env} {a : Act}, Rel M0 w0 N σ e b n M a w → qops P T M N ops l e b K → (∀ e a, Rel M0 w0 N σ e b n M a w → K e → Q a) →
    wpQuiet P ops (fun w' => Below w.heap.size w w') Q l a
  | [], e, a, h, hp, hQ => hQ e a h hp
  | o :: r, e, a, h, hp, hQ => by
    unfold qops at hp
    unfold wpQuiet
    have hone : ∀ {o : Oper} {e : Env}, Rel M0 w0 N σ e b n M a w → (withD o.dst fun d => bif dOk N d then qop P T M o e b fun u => qops P T M N ops r (put e d u) b K else False) → o.quiet P a (fun w' => Below w.heap.size w w') (wpQuiet P ops (fun w' => Below w.heap.size w w') Q r) := by
      intro o e h hp
      rw [withD_eq] at hp
      cases hd : dOk N o.dst with
      | false => rw [hd] at hp; exact hp.elim
      | true =>
        rw [hd] at hp
        obtain ⟨u, hu, hul, hqa⟩ := qop_sound h hp
        exact ⟨conc σ u, hqa, qops_sound r (h.put hd hul.1 hul.2) hu hQ⟩
    have hskip : ∀ {o : Oper} {e : Env}, Rel M0 w0 N σ e b n M a w → (withD o.dst fun d => bif dOk N d then qops P T M N ops r (put e d (.v undef)) b K else False) → wpQuiet P ops (fun w' => Below w.heap.size w w') Q r (a.put o.dst undef) := by
      intro o e h hp
      rw [withD_eq] at hp
      cases hd : dOk N o.dst with
      | false => rw [hd] at hp; exact hp.elim
      | true =>
        rw [hd] at hp
        exact qops_sound r (h.put (x := .v undef) hd (fun i hx => by cases hx) trivial) hp hQ
    cases hg : o.guard with
    | none =>
      rw [hg] at hp
      rw [if_pos (by simp [Region.wanted, hg])]
      exact hone h hp
    | some jw =>
      obtain ⟨j, want⟩ := jw
      rw [hg] at hp
      simp only at hp
      split at hp
      · rename_i t hj
        have hp := guard_flat (A := fun t => withD o.dst fun d => bif dOk N d then qop P T M o (Lw.gset e ops j t) b fun u => qops P T M N ops r (put (Lw.gset e ops j t) d u) b K else False) (B := fun t => withD o.dst fun d => bif dOk N d then qops P T M N ops r (put (Lw.gset e ops j t) d (.v undef)) b K else False) hp
        have hy := yielded_of h hj
        simp only [conc] at hy
        by_cases ht : t = want
        · rw [if_pos (by simp [Region.wanted, hg, hy, ht])]
          exact hone (h.gset (by rw [hj, ht])) (hp.yes ht)
        · rw [if_neg (by simp [Region.wanted, hg, hy, ht])]
          have ht' : t = !want := by cases t <;> cases want <;> simp_all
          exact hskip (h.gset (by rw [hj, ht'])) (hp.no ht')
      · rename_i t hj
        have hy := yielded_of h hj
        simp only [conc] at hy
        rw [if_neg (by simp [Region.wanted, hg, hy])]
        exact hskip h hp
      · exact hp.elim
theorem okEs_eq (done : List Bool) : ∀ (l : List Edge), okEs done l = l.all fun x => !Region.binds .any x || done.toArray.getD x.on false
  | [] => rfl
  | x :: r => by
    simp only [okEs, List.all_cons, okEs_eq done r]
    simp [Array.getD_eq_getD_getElem?, List.getD_eq_getElem?_getD]
theorem rdyL_eq {ops : Array Oper} {done : List Bool} : ∀ (l : List Oper) (k : Nat), (∀ j, l[j]? = ops[k + j]?) →
    rdyL done k l = (List.range' k l.length).filter fun i => !done.toArray.getD i true && ((ops[i]?).map (·.after.all fun e => !Region.binds .any e || done.toArray.getD e.on false)).getD false
  | [], k, h => rfl
  | o :: r, k, h => by
    have h0 : ops[k]? = some o := by simpa using (h 0).symm
    have ih := rdyL_eq (done := done) r (k + 1) (fun j => by have := h (j + 1); simpa [Nat.add_assoc, Nat.add_comm 1 j] using this)
    have hc : (!done.getD k true && okEs done o.after.toList) = (!done.toArray.getD k true && ((ops[k]?).map (·.after.all fun e => !Region.binds .any e || done.toArray.getD e.on false)).getD false) := by
      rw [h0, okEs_eq]
      simp [Array.getD_eq_getD_getElem?, List.getD_eq_getElem?_getD]
    simp only [rdyL, List.length_cons, List.range'_succ, List.filter_cons, ← ih]
    rw [hc]
    cases (!done.toArray.getD k true && ((ops[k]?).map (·.after.all fun e => !Region.binds .any e || done.toArray.getD e.on false)).getD false) <;> rfl
theorem rdyL_ready {ops : Array Oper} {done : List Bool} : rdyL done 0 ops.toList = Region.ready .any ops done.toArray := by
  rw [rdyL_eq (ops := ops) ops.toList 0 (fun j => by simp)]
  simp [Region.ready, List.range_eq_range']
theorem allK_mem {f : Nat → Prop} : ∀ {l : List Nat}, allK f l → ∀ i ∈ l, f i
  | [], _, i, h => by simp at h
  | [j], h, i, hi => by simp at hi; subst hi; exact h
  | j :: k :: r, h, i, hi => by
    rcases List.mem_cons.mp hi with h1 | h1
    · subst h1; exact h.l
    · exact allK_mem h.r i h1
theorem pany_sound [O : Own T M0 w0] {ops : Array Oper} {Q : Exit → Act → World → Prop} {K : Kont} (hQ : ∀ σ e b n M a w, Rel M0 w0 N σ e b n M a w → K e b n M → Q .normal a w) : ∀ (fuel : Nat) {done : List Bool} {σ : Nat → Nat} {e : Env} {b : Bx} {n : Nat} {M : Mem} {a : Act} {w : World},
    Rel M0 w0 N σ e b n M a w → pany P T N ops fuel done e b n M K → wpAny P .any ops Q fuel done.toArray a w
  | 0, done, σ, e, b, n, M, a, w, h, hp => by
    unfold pany at hp
    unfold wpAny
    rw [← rdyL_ready]
    split at hp
    · rename_i hr
      exact ⟨hr, hQ _ _ _ _ _ _ _ h hp⟩
    · exact hp.elim
  | fuel + 1, done, σ, e, b, n, M, a, w, h, hp => by
    unfold pany at hp
    unfold wpAny
    rw [← rdyL_ready]
    split at hp
    · rename_i hr
      rw [hr]
      exact ⟨fun _ => hQ _ _ _ _ _ _ _ h hp, fun i hi => by simp at hi⟩
    · rename_i hr
      refine ⟨fun h0 => absurd h0 hr, fun i hi => ?_⟩
      have hk := allK_mem hp i hi
      unfold wpOp
      split at hk
      · rename_i o ho
        rw [Array.getElem?_toList] at ho
        rw [ho]
        have hset : done.toArray.setIfInBounds i true = (done.set i true).toArray := by simp
        rw [hset]
        exact gpop_sound h hk fun σ e b n M a w hR hk => pany_sound hQ fuel hR hk
      · exact hk.elim
theorem rmE_look : ∀ {e : Env} {t k : Nat} {x : PV}, look (rmE e t) k = some x → t ≠ k ∧ look e k = some x
  | [], t, k, x, h => by simp [rmE, look] at h
  | (j, v) :: r, t, k, x, h => by
    simp only [rmE] at h
    cases hj : Nat.beq j t with
    | true =>
      rw [hj] at h
      obtain ⟨h1, h2⟩ := rmE_look h
      refine ⟨h1, ?_⟩
      have := Nat.eq_of_beq_eq_true hj
      subst this
      simp only [look, show Nat.beq j k = false by cases hh : Nat.beq j k with | false => rfl | true => exact absurd (Nat.eq_of_beq_eq_true hh) h1]
      exact h2
    | false =>
      rw [hj] at h
      simp only [cond_false, look] at h ⊢
      cases hk : Nat.beq j k with
      | true =>
        rw [hk] at h
        have := Nat.eq_of_beq_eq_true hk
        subst this
        refine ⟨fun he => ?_, h⟩
        subst he
        simp at hj
      | false => rw [hk] at h; exact rmE_look h
theorem restr_look : ∀ {e : Env} {t : Nat} {x : PV}, look (restr e) t = some x → look e t = some x ∧ rowless x = true
  | [], t, x, h => by simp [restr, look] at h
  | (k, v) :: r, t, x, h => by
    have key : look (rmE (restr r) k) t = some x → look ((k, v) :: r) t = some x ∧ rowless x = true := fun h => by
      obtain ⟨h1, h2⟩ := rmE_look h
      obtain ⟨h3, h4⟩ := restr_look h2
      refine ⟨?_, h4⟩
      simp only [look, show Nat.beq k t = false by cases hh : Nat.beq k t with | false => rfl | true => exact absurd (Nat.eq_of_beq_eq_true hh) h1]
      exact h3
    have put : ∀ {v : PV}, rowless v = true → look ((k, v) :: restr r) t = some x → look ((k, v) :: r) t = some x ∧ rowless x = true := fun {v} hv h => by
      simp only [look] at h ⊢
      cases hk : Nat.beq k t with
      | true =>
        rw [hk] at h
        simp only [cond_true, Option.some.injEq] at h ⊢
        subst h
        exact ⟨rfl, hv⟩
      | false => rw [hk] at h; exact restr_look h
    cases v with
    | s i len cap z => exact key h
    | m i l => exact key h
    | _ => exact put rfl h
/-- The world at a region's head, or a later one, as seen by what is taken first. -/
theorem rmBs_look : ∀ {W : List Nat} {b : Bx} {i : Nat} {cs : List Value}, lookB (rmBs b W) i = some cs → lookB b i = some cs ∧ i ∉ W
  | [], b, i, cs, h => ⟨h, by simp⟩
  | j :: r, b, i, cs, h => by
    obtain ⟨h1, h2⟩ := rmBs_look (W := r) h
    obtain ⟨h3, h4⟩ := rmB_look h1
    exact ⟨h3, by simp [h2]; exact h4⟩
theorem isIn_mem : ∀ {W : List Nat} {i : Nat}, isIn i W = true → i ∈ W
  | [], i, h => by cases h
  | j :: r, i, h => by
    simp only [isIn, Bool.or_eq_true] at h
    rcases h with h | h
    · rw [← Nat.eq_of_beq_eq_true h]; exact List.mem_cons_self ..
    · exact List.mem_cons_of_mem _ (isIn_mem h)
/-- The rows of old that are written meanwhile. -/
def GW (σ : Nat → Nat) (b : Bx) (W : List Nat) (Y : Nat → Prop) (k : Nat) : Prop := (∃ i cs, i ∈ W ∧ lookB b i = some cs ∧ k = σ i) ∨ Y k
abbrev baseW (w : World) (σ : Nat → Nat) (b : Bx) (W : List Nat) (Y : Nat → Prop) : Base := ⟨w, GW σ b W Y, 0, fun _ => 0⟩
/-- The world at a region's head, or a later one, as seen by what is taken first. -/
theorem Rel.head {σs : Nat → Nat} {es : Env} {bs : Bx} {n0 : Nat} {Ms Mt : Mem} {W : List Nat} {Y : Nat → Prop} {as a : Act} {ws w w' : World} (hs : Rel M0 w0 N σs es bs n0 Ms as ws) (h : Rel M0 w0 N σ e b n M a w) (hσ : ∀ i, i < n0 → σ i = σs i) (hn : n0 ≤ n) (hS : BelowX (baseW ws σs bs W Y) w') (hM : ∀ ad u, Mt ad = some u → Ms ad = some u ∧ ¬ Y ad.block) (hle : ∀ ad u, M0 ad = some u → ¬ w0.X ad.block → Mt ad = some u) (hY : ∀ k, Y k → w0.own k ∧ ∀ i cs, lookB bs i = some cs → k ≠ σs i) : Rel M0 w0 N σ (restr e) (rmBs bs W) n Mt a w' := by
  have hkeep : ∀ k, k < ws.heap.size → (∀ i cs, i ∈ W → lookB bs i = some cs → k ≠ σs i) → ¬ Y k → w'.heap[k]? = ws.heap[k]? := fun k hk hne hny => hS.block k hk fun hx => by
    rcases hx with ⟨i, cs, h1, h2, h3⟩ | hx
    · exact hne i cs h1 h2 h3
    · exact hny hx
  refine ⟨h.size, fun t x hx => h.tmp t x (restr_look hx).1, fun t x hx => h.elt t x (restr_look hx).1, h.defers, ?_, fun ad u hu => ?_, hle, fun ad u hu => hs.nw ad u (hM ad u hu).1, fun i cs hi => Nat.lt_of_lt_of_le (hs.lt i cs (rmBs_look hi).1) hn, fun i cs hi => ?_, fun i j ci cj hi hj hij => ?_, fun i cs hi ad u hu => ?_, fun t x hx => ?_, h.fix, h.kn0, fun ad u hu hx => (hs.nf ad u (hM ad u hu).1 hx).of (hkeep _ (block_lt_of_cell (hs.kn ad u (hM ad u hu).1)) (fun i cs _ hi => hs.dis i cs hi ad u (hM ad u hu).1) (hM ad u hu).2)⟩
  · have b0 := hs.below
    refine ⟨hS.os.trans b0.os, hS.tape.trans b0.tape, hS.output.trans b0.output, Nat.le_trans b0.size hS.size, fun k hk hx => ?_⟩
    rw [hkeep k (Nat.lt_of_lt_of_le hk b0.size) (fun i cs _ hi he => by
      rcases (hs.box i cs hi).1 with h1 | h1
      · omega
      · exact hx (he ▸ h1)) (fun hy => by
      rcases (hY k hy).1 with h1 | h1
      · omega
      · exact hx h1)]
    exact b0.block k hk hx
  · obtain ⟨hu, hny⟩ := hM ad u hu
    have hk := hs.kn ad u hu
    rw [← hk]
    exact World.cell?_of_block (hkeep _ (block_lt_of_cell hk) (fun i cs _ hi => hs.dis i cs hi ad u hu) hny)
  · obtain ⟨hi, hW⟩ := rmBs_look hi
    rw [hσ i (hs.lt i cs hi)]
    obtain ⟨h1, ty, ex, h2⟩ := hs.box i cs hi
    refine ⟨h1, ty, ex, ?_⟩
    rw [hkeep _ (hs.hsz hi) (fun j cj hj hbj he => hW (by rw [hs.inj i j cs cj hi hbj he]; exact hj)) fun hy => (hY _ hy).2 i cs hi rfl]
    exact h2
  · have hi := (rmBs_look hi).1
    have hj := (rmBs_look hj).1
    rw [hσ i (hs.lt i ci hi), hσ j (hs.lt j cj hj)] at hij
    exact hs.inj i j ci cj hi hj hij
  · have hi := (rmBs_look hi).1
    rw [hσ i (hs.lt i cs hi)]
    exact hs.dis i cs hi ad u (hM ad u hu).1
  · have := (restr_look hx).2
    cases x with
    | s i len cap z => simp [rowless] at this
    | m i l => simp [rowless] at this
    | _ => trivial
/-- What is taken first asks no known memory, or the same. -/
theorem take_none {n0 : Nat} {W : List Nat} {e e' : Env} {b : Bx} {T : Tab P} {Mt : Mem} {o : Oper} {K : PV → Prop} (ht : takeOp n0 W e o.op = true) (hq : qop P T (fun _ => none) o e' b K) : qop P T Mt o e' b K := by
  obtain ⟨dst, op, type, pos, after, guard⟩ := o
  cases op with
  | load t x =>
    simp only [qop] at hq ⊢
    split at hq
    · split at hq
      · exact hq
      · obtain ⟨u, h, k⟩ := hq; cases h
      · exact hq
      · exact hq.elim
    · rename_i m _
      split at hq
      · exact hq
      · cases m with
        | zero => exact hq
        | succ m => obtain ⟨u, h, k⟩ := hq; cases h
      · exact hq
      · exact hq.elim
    · exact hq.elim
  | _ => first | exact hq | (simp [takeOp] at ht; done)
theorem value_of {s : Sem Value} {w : World} : (∃ v w', (do pure (Next.value (← s)) : Sem Next).run P w = .ok (.value v) w') ∨ (∃ x w', (do pure (Next.value (← s)) : Sem Next).run P w = .halt x w') := by
  simp only [Sem.run_bind]
  cases s.run P w with
  | ok v w' => exact .inl ⟨v, w', rfl⟩
  | halt x w' => exact .inr ⟨x, w', rfl⟩
theorem take_run {n0 : Nat} {W : List Nat} {o : Oper} (ht : takeOp n0 W e o.op = true) {C : World → Prop} {w' : World} {v : Value} (hq : o.quietAt P a C w' v) : (execOp a.eval o).run P w' = .ok (.value v) w' := by
  have key : ((∃ v w'', (execOp a.eval o).run P w' = .ok (.value v) w'') ∨ (∃ x w'', (execOp a.eval o).run P w' = .halt x w'')) → (execOp a.eval o).run P w' = .ok (.value v) w' := by
    rintro (⟨u, w'', hr⟩ | ⟨x, w'', hr⟩)
    · unfold Oper.quietAt at hq
      rw [hr] at hq
      obtain ⟨h1, h2⟩ := hq
      rw [hr, h1, h2]
    · unfold Oper.quietAt at hq
      rw [hr] at hq
      exact hq.elim
  obtain ⟨dst, op, type, pos, after, guard⟩ := o
  cases op <;> first | (simp [takeOp] at ht; done) | skip
  case move x => exact key (.inl ⟨_, _, rfl⟩)
  case assign x => exact key (.inl ⟨_, _, rfl⟩)
  case pick c x y =>
    refine key ?_
    show (∃ v w'', (do pure (Next.value (if ← asBool (a.eval c) then a.eval x else a.eval y)) : Sem Next).run P w' = .ok (.value v) w'') ∨ _
    simp only [Sem.run_bind]
    cases hb : (asBool (a.eval c)).run P w' with
    | ok t w'' => exact .inl ⟨_, _, rfl⟩
    | halt x w'' => refine .inr ⟨x, w'', ?_⟩; show (do pure (Next.value (if ← asBool (a.eval c) then a.eval _ else a.eval _)) : Sem Next).run P w' = _; simp only [Sem.run_bind, hb]; rfl
  all_goals exact key value_of

theorem pubO_plain {K : Env → Bx → Mem → Prop} : ∀ {l : List Operand}, l.all (plainO e) = true → pubO e b M l K → K e b M
  | [], _, h => h
  | x :: r, hp, h => by
    simp only [List.all_cons, Bool.and_eq_true] at hp
    unfold pubO at h
    have h1 := hp.1
    unfold plainO at h1
    split at h1
    · rename_i v hv
      rw [hv] at h
      exact pubO_plain hp.2 h
    · cases h1
theorem pubP_plain {K : Env → Bx → Mem → Prop} : ∀ {l : List Operand}, l.all (plainO e) = true → pubP e b M l K → K e b M
  | [], _, h => h
  | x :: r, hp, h => by
    simp only [List.all_cons, Bool.and_eq_true] at hp
    unfold pubP at h
    have h1 := hp.1
    unfold plainO at h1
    split at h1
    · rename_i v hv
      rw [hv] at h
      exact pubP_plain hp.2 h
    · cases h1
theorem Rel.storeCellsH : ∀ (vs : List Value) {b : Bx} {w : World} {i q j : Nat} {cs : List Value}, Rel M0 w0 N σ e b n M a w → lookB b i = some cs → allOne vs = true → q + j + vs.length ≤ cs.length →
    ∃ w', (Go.storeCells ⟨σ i, q, none⟩ vs j).run P w = .ok () w' ∧ Rel M0 w0 N σ e ((i, setAt cs (q + j) vs) :: b) n M a w' ∧ (∀ k, k ≠ σ i → w'.heap[k]? = w.heap[k]?) ∧ w'.heap.size = w.heap.size
  | [], b, w, i, q, j, cs, h, hi, h1, hl => ⟨w, rfl, h.bx fun k => by
      simp only [setAt, lookB]
      cases hik : Nat.beq i k with
      | true => rw [← Nat.eq_of_beq_eq_true hik, hi]; rfl
      | false => rfl, fun _ _ => rfl, rfl⟩
  | v :: r, b, w, i, q, j, cs, h, hi, h1, hl => by
    simp only [allOne, Bool.and_eq_true] at h1
    simp only [List.length_cons] at hl
    have ha : (⟨σ i, q, none⟩ : Addr).add j = ⟨σ i, q + j, none⟩ := by
      unfold Addr.add
      split
      · rename_i h0; subst h0; rfl
      · rfl
    obtain ⟨g2, ty, ex, g3⟩ := h.box i cs hi
    have hlt : q + j < cs.length := by omega
    have hc : w.cell? ⟨σ i, q + j, none⟩ = some cs[q + j] := h.cellB hi (List.getElem?_eq_getElem hlt)
    have hf : w.frozen? ⟨σ i, q + j, none⟩ = false := by simp [World.frozen?, g3]
    have h2 := h.store1 (q := q + j) (v := v) hi hlt
    obtain ⟨w', hr, hR, hk, hs⟩ := Rel.storeCellsH r (i := i) (q := q) (j := j + 1) (cs := cs.set (q + j) v) h2 (by simp [lookB]) h1.2 (by simp; omega)
    refine ⟨w', ?_, hR.bx fun k => ?_, fun k hne => ?_, ?_⟩
    · simp only [Go.storeCells, Sem.run_bind, ha, store_run h1.1 hc hf, Result.andThen_ok]
      exact hr
    · simp only [setAt, lookB, Nat.add_assoc]
      cases hik : Nat.beq i k <;> rfl
    · rw [hk k hne]
      exact Below.heap_setCell w _ _ _ hne
    · rw [hs]
      simp [World.setCell]
/-- What an append to an own row leaves as it was. -/
structure AppI (w w' : World) (σ σ' : Nat → Nat) (b b' : Bx) (n n' : Nat) (x : Option PV) : Prop where
  os : w'.os = w.os
  tape : w'.tape = w.tape
  output : w'.output = w.output
  size : w.heap.size ≤ w'.heap.size
  block : ∀ k, k < w.heap.size → (∀ i len cap z ci, x = some (.s i len cap z) → lookB b i = some ci → k ≠ σ i) → w'.heap[k]? = w.heap[k]?
  sg : ∀ j, j < n → σ' j = σ j
  le : n ≤ n'
  bx : ∀ j cs, lookB b' j = some cs → (j < n ∧ ∃ cs', lookB b j = some cs') ∨ (n ≤ j ∧ (w.heap.size ≤ σ' j ∨ ∃ i len cap z ci, x = some (.s i len cap z) ∧ lookB b i = some ci ∧ σ' j = σ i))
theorem append_soundX {dst : Option Tmp} {xs : Array Operand} {ts : Array TypeId} {type : TypeId} {pos : String} {after : Array Edge} {guard : Option (Nat × Bool)} {sx xx : Operand} {t0 t1 z by_ elem : Nat} {Z : List Value} {u : Unit} {K : Kont} {K' : Act → World → Prop} {Q' : Exit → Act → World → Prop}
    (h : Rel M0 w0 N σ e b n M a w) (hd : dOk N dst = true) (hxs : xs.toList = [sx, xx]) (hts : ts.toList = [t0, t1]) (hi : prun P (elemInfo t0) = some (z, by_, Z, elem)) (ha : prun P (appOk t1) = some u)
    (hp : dstK e b sx z fun len i cs => srcK e b M xx z fun k ds => AppK i (len + k) k by_ ds allOne (K (put e dst (.v (.slice none 0 0))) b n M) fun cap => K (put e dst (.s n (len + k) cap z)) ((n, cs ++ ds) :: rmO b i) (n + 1) M)
    (hK : ∀ σ' e' b' n' a' w', Rel M0 w0 N σ' e' b' n' M a' w' → AppI w w' σ σ' b b' n n' (ev e sx) → K e' b' n' M → K' a' w') : Oper.wp P { dst, op := .call { callee := .builtin .append, args := xs, argTypes := ts }, type, pos, after, guard } a w K' Q' := by
  obtain ⟨_, _, _, _, _, _, _, _, hZl, hz⟩ := elemInfo_out hi
  have hfresh : ∀ t x, look e t = some x → idOf x ≠ some n := fun t x hx he => by have := h.elt t x hx n he; omega
  have hargs : xs.map a.eval = #[a.eval sx, a.eval xx] := by
    apply Array.toList_inj.mp
    simp [hxs]
  have htypes : ts = #[t0, t1] := Array.toList_inj.mp (by simpa using hts)
  have hexec : ∀ {r : Value} {w' : World}, (Builtin.append_ #[t0, t1] type #[a.eval sx, a.eval xx]).run P w = .ok r w' → (execOp a.eval { dst, op := .call { callee := .builtin .append, args := xs, argTypes := ts }, type, pos, after, guard }).run P w = .ok (.value r) w' := by
    intro r w' hr
    show (do pure (Next.value (← Builtin.append_ ts type (xs.map a.eval))) : Sem Next).run P w = _
    rw [hargs, htypes]
    exact run_value'' hr
  -- a new row
  have hnew : ∀ {len cap0 : Nat} {i : Option Nat} {cs ds : List Value} {base : Option Addr} {k : Nat}, a.eval sx = .slice base len cap0 → cs.length = len * z → (∀ w' : World, w'.heap = w.heap → (Builtin.firstCells z len (.slice base len cap0)).run P w' = .ok cs.toArray w') →
      ds.length = k * z → (Builtin.lenOf (a.eval xx)).run P w = .ok k w → (∀ w' : World, w'.heap = w.heap → (Builtin.firstCells z k (a.eval xx)).run P w' = .ok ds.toArray w') → ¬ len + k ≤ cap0 → len + k ≤ 1000000000000 → (2 * (len + k) + 512) * by_ ≤ 281474976710656 →
      (∀ cap, len + k ≤ cap → K (put e dst (.s n (len + k) cap z)) ((n, cs ++ ds) :: rmO b i) (n + 1) M) → Oper.wp P { dst, op := .call { callee := .builtin .append, args := xs, argTypes := ts }, type, pos, after, guard } a w K' Q' := by
    intro len cap0 i cs ds base k hsx hcl hold hdl hlen hsrc hle hm hbd hk
    obtain ⟨c', rest, hc', hrl, hr⟩ := append_out (ty := type) hi ha hlen hsrc hold hle hm hbd
    unfold Oper.wp
    rw [hexec (by rw [hsx]; exact hr)]
    have hw : Rel M0 w0 N σ e b n M a { w with drawn := w.drawn + 1 } := h.world ⟨rfl, rfl, rfl, Nat.le_refl _, fun _ _ => rfl⟩
    have hg := (hw.grow0 (cs ++ ds ++ rest) elem).cut (cs := cs ++ ds) (ex := rest) i (fun t x hx => hfresh t x hx)
    have hfull : (cs ++ ds ++ rest).length = c' * z := by
      simp only [List.length_append, hcl, hdl, hrl]
      rw [← Nat.add_mul, ← Nat.add_mul]
      congr 1
      omega
    have hfin := hg.put (d := dst) (x := .s n (len + k) c' z) hd (fun j hj => by cases hj; omega) (fun cs' hcs' => by
      simp only [lookB, show Nat.beq n n = true by simp, cond_true, Option.some.injEq] at hcs'
      subst hcs'
      refine ⟨by simp only [List.length_append, hcl, hdl]; rw [← Nat.add_mul], hc', (cs ++ ds ++ rest).toArray, elem, ?_, List.size_toArray.trans hfull⟩
      show (w.heap.push _)[if n = n then w.heap.size else σ n]? = _
      rw [if_pos rfl, Array.getElem?_push_size])
    simp only [conc, if_true] at hfin
    exact hK _ _ _ _ _ _ hfin ⟨rfl, rfl, rfl, by show w.heap.size ≤ (w.heap.push _).size; rw [Array.size_push]; omega, fun k hk _ => by show (w.heap.push _)[k]? = _; rw [Array.getElem?_push_lt hk, Array.getElem?_eq_getElem hk], fun j hj => if_neg (by omega), by omega, fun j c hj => by
      simp only [lookB] at hj
      cases hkk : Nat.beq n j with
      | true => have := Nat.eq_of_beq_eq_true hkk; subst this; exact .inr ⟨Nat.le_refl _, .inl (by rw [if_pos rfl]; exact Nat.le_refl _)⟩
      | false => rw [hkk] at hj; have hj2 := rmO_look hj; exact .inl ⟨h.lt j c hj2, c, hj2⟩⟩ (hk c' hc')
  unfold dstK at hp
  split at hp
  · rename_i i len cap0 z' hx
    split at hp
    · rename_i cs hbi
      cases hzz : Nat.beq z' z with
      | false => rw [hzz] at hp; exact hp.elim
      | true =>
        rw [hzz] at hp
        have := Nat.eq_of_beq_eq_true hzz
        subst this
        simp only [cond_true] at hp
        obtain ⟨k, ds, hap, hdl, hlen, hsrc⟩ := src_read (P := P) h hz hp
        obtain ⟨hbd, hm, ho, hk⟩ : (2 * (len + k) + 512) * by_ ≤ 281474976710656 ∧ len + k ≤ 1000000000000 ∧ allOne ds = true ∧ ∀ cap, len + k ≤ cap → K (Lw.put e dst (.s n (len + k) cap z')) ((n, cs ++ ds) :: rmO b (some i)) (n + 1) M := by
          cases hap with
          | mk h1 h2 h3 h4 h5 => exact ⟨h1, h2, h4, h5⟩
          | z h1 h2 h3 => cases h2
        have hg : Good w0 σ b w (.s i len cap0 z') := by
          cases sx with
          | tmp t => exact h.sl t _ hx
          | _ => simp [Lw.ev] at hx
        obtain ⟨g1, g2, c, ty, g3, g4⟩ := hg cs hbi
        have hsx := h.ev hx
        simp only [conc] at hsx
        have hrd : ∀ w' : World, w'.heap = w.heap → (Builtin.firstCells z' len (.slice (some ⟨σ i, 0, none⟩) len cap0)).run P w' = .ok cs.toArray w' := by
          intro w' hw'
          unfold Builtin.firstCells
          have := loadCellsFrom_run (P := P) (w := w') (ad := ⟨σ i, 0, none⟩) cs 0 #[] (fun j u hu => by
            rw [Nat.zero_add]
            have := h.cellB hbi hu
            unfold World.cell? at this ⊢
            rw [show (⟨σ i, 0, none⟩ : Addr).add j = ⟨σ i, j, none⟩ by unfold Addr.add; split; (rename_i h0; subst h0; rfl); simp]
            rw [hw']
            exact this)
          unfold loadCells
          rw [← g1, this]
          simp
        by_cases hle : len + k ≤ cap0
        · obtain ⟨b1, ty2, ex, b2⟩ := h.box i cs hbi
          rw [g3] at b2
          simp only [Option.some.injEq, Obj.cells.injEq] at b2
          have hcex : c.toList = cs ++ ex := by rw [b2.1]
          have hroom : (len + k) * z' ≤ c.toList.length := by
            rw [Array.length_toList, g4]
            exact Nat.mul_le_mul_right _ hle
          have hm1 := h.move hbi g3
          obtain ⟨w', hr, hR, hsz⟩ := Rel.storeCellsS (P := P) (i := n) (q := len * z') (j := 0) (cs := c.toList) ds hm1 (by simp [lookB]) ho (by rw [Nat.add_zero, hdl, ← Nat.add_mul]; exact hroom)
          simp only [if_true, Nat.add_zero] at hr hR
          have hst : (Go.storeCells ((⟨σ i, 0, none⟩ : Addr).add (len * z')) ds).run P w = .ok () w' := by
            have : (⟨σ i, 0, none⟩ : Addr).add (len * z') = ⟨σ i, len * z', none⟩ := by
              unfold Addr.add
              split
              · rename_i h0; rw [h0]
              · simp
            rw [this]
            exact hr
          unfold Oper.wp
          rw [hexec (by rw [hsx]; exact append_in (ty := type) hi ha hlen (hsrc w rfl) hle ⟨σ i, 0, none⟩ rfl hst)]
          have hset : setAt c.toList (len * z') ds = cs ++ ds ++ ex.drop ds.length := by
            have hexl : ds.length ≤ ex.length := by
              have : c.toList.length = cs.length + ex.length := by rw [hcex, List.length_append]
              rw [Nat.add_mul] at hroom
              omega
            rw [hcex, ← g1]
            have hs := setAt_mid0 ds cs (ex.take ds.length) (ex.drop ds.length) (by simp; omega)
            rw [List.take_append_drop] at hs
            rw [hs, List.append_assoc]
          rw [hset] at hR
          have hR2 : Rel M0 w0 N (fun j => if j = n then σ i else σ j) e ((n, cs ++ ds ++ ex.drop ds.length) :: rmB b i) (n + 1) M a w' := hR.bx fun j => by
            simp only [lookB]
            cases Nat.beq n j <;> rfl
          have hR3 := hR2.cut none (fun t x hx => hfresh t x hx)
          obtain ⟨c2, q1, q2⟩ := hsz (σ i) c ty (0, 0) g3
          have hfin := hR3.put (d := dst) (x := .s n (len + k) cap0 z') hd (fun j hj => by cases hj; omega) (fun cs' hcs' => by
            simp only [lookB, show Nat.beq n n = true by simp, cond_true, Option.some.injEq] at hcs'
            subst hcs'
            refine ⟨by simp only [List.length_append, g1, hdl]; rw [← Nat.add_mul], hle, c2, ty, ?_, by rw [q2, g4]⟩
            show w'.heap[if n = n then σ i else σ n]? = _
            rw [if_pos rfl]
            exact q1)
          simp only [conc, if_true] at hfin
          obtain ⟨w2, hr2, _, hkp, hsz2⟩ := Rel.storeCellsH (P := P) (i := n) (q := len * z') (j := 0) (cs := c.toList) ds hm1 (by simp [lookB]) ho (by rw [Nat.add_zero, hdl, ← Nat.add_mul]; exact hroom)
          simp only [if_true] at hr2 hkp
          have hw2 : w2 = w' := by rw [hr] at hr2; cases hr2; rfl
          subst hw2
          have b1 := hR3.below
          have b0 := h.below
          exact hK _ _ _ _ _ _ hfin ⟨b1.os.trans b0.os.symm, b1.tape.trans b0.tape.symm, b1.output.trans b0.output.symm, Nat.le_of_eq hsz2.symm, fun k hk hx2 => hkp k (hx2 i len cap0 z' cs hx hbi), fun j hj => if_neg (by omega), by omega, fun j c hj => by
            simp only [lookB] at hj
            cases hkk : Nat.beq n j with
            | true => have := Nat.eq_of_beq_eq_true hkk; subst this; exact .inr ⟨Nat.le_refl _, .inr ⟨i, len, cap0, z', cs, hx, hbi, if_pos rfl⟩⟩
            | false => rw [hkk] at hj; have hj2 := (rmB_look hj).1; exact .inl ⟨h.lt j c hj2, c, hj2⟩⟩ (hk cap0 hle)
        · exact hnew (i := some i) hsx g1 hrd hdl hlen hsrc hle hm hbd hk
    · exact hp.elim
  · rename_i hx
    obtain ⟨k, ds, hap, hdl, hlen, hsrc⟩ := src_read (P := P) h hz hp
    have hsx := h.ev hx
    simp only [conc] at hsx
    cases hap with
    | z h1 h2 h3 =>
      subst h1
      unfold Oper.wp
      have hd0 : ds = [] := List.eq_nil_of_length_eq_zero (by rw [hdl, Nat.zero_mul])
      subst hd0
      have hr : (Builtin.append_ #[t0, t1] type #[.slice none 0 0, a.eval xx]).run P w = .ok (.slice none 0 0) w := by
        obtain ⟨hu, i, v, hti, hv, hsz, hby, hZ, hl, hz⟩ := elemInfo_out hi
        obtain ⟨e1, hu1⟩ := appOk_out ha
        unfold Builtin.append_
        simp only [List.getElem?_toArray, List.getElem?_cons_zero, List.getElem?_cons_succ, Sem.run_bind, prun_run (prun_underlying hu) w, prun_run (prun_underlying hu1) w, Result.andThen_ok, prun_run hsz w, Sem.run_pure, Bool.false_eq_true, if_false, hlen, Bool.not_false, if_true]
        rw [if_pos (by omega)]
        simp only [Sem.run_bind, hsrc w rfl, Result.andThen_ok, Sem.run_pure]
      rw [hexec (by rw [hsx]; exact hr)]
      have hfin := h.put (d := dst) (x := .v (.slice none 0 0)) hd (fun j hj => by cases hj) trivial
      exact hK _ _ _ _ _ _ hfin ⟨rfl, rfl, rfl, Nat.le_refl _, fun _ _ _ => rfl, fun _ _ => rfl, Nat.le_refl _, fun j c hj => .inl ⟨h.lt j c hj, c, hj⟩⟩ h3
    | mk hbd hm h0 ho hk =>
    have h0 : 0 < k := by rcases h0 with h0 | h0; exact h0; cases h0
    exact hnew (i := none) (cs := []) hsx (by simp) (fun w' hw' => rfl) hdl hlen hsrc (by omega) hm hbd hk
  · exact hp.elim
theorem pubH_sound {G : Prop} {n0 : Nat} {W : List Nat} {Y : Nat → Prop} {σs : Nat → Nat} {bs : Bx} {ws : World} (hσ : ∀ i, i < n0 → σ i = σs i) : ∀ (l : List Operand) {e : Env} {b : Bx} {M : Mem} {K : Env → Bx → Mem → Prop}, Rel M0 w0 N σ e b n M a w → (∀ i cs, lookB b i = some cs → n0 ≤ i → ws.heap.size ≤ σ i ∨ GW σs bs W Y (σ i)) → (∀ i cs, lookB b i = some cs → i < n0 → ∃ ci, lookB bs i = some ci) → (∀ ad u, M ad = some u → true = true → w0.own ad.block → GW σs bs W Y ad.block ∨ ws.heap.size ≤ ad.block) → pubH n0 W e b M l K →
    (∀ e b M, Rel M0 w0 N σ e b n M a w → (∀ i cs, lookB b i = some cs → n0 ≤ i → ws.heap.size ≤ σ i ∨ GW σs bs W Y (σ i)) → (∀ i cs, lookB b i = some cs → i < n0 → ∃ ci, lookB bs i = some ci) → (∀ ad u, M ad = some u → true = true → w0.own ad.block → GW σs bs W Y ad.block ∨ ws.heap.size ≤ ad.block) → K e b M → G) → G
  | [], e, b, M, K, h, h1, h2, h3, hp, hG => hG e b M h h1 h2 h3 hp
  | x :: r, e, b, M, K, h, h1, h2, h3, hp, hG => by
    unfold pubH at hp
    split at hp
    · split at hp
      · rename_i i len cap z0 hx _ cs hi
        cases hb : (Nat.ble n0 i || isIn i W) with
        | false => rw [hb] at hp; exact hp.elim
        | true =>
        rw [hb] at hp
        simp only [cond_true] at hp
        have hblk : GW σs bs W Y (σ i) ∨ ws.heap.size ≤ σ i := by
          rcases Nat.lt_or_ge i n0 with h4 | h4
          · simp only [Bool.or_eq_true] at hb
            rcases hb with h5 | h5
            · have := Nat.le_of_ble_eq_true h5; omega
            · obtain ⟨ci, hci⟩ := h2 i cs hi h4
              exact .inl (.inl ⟨i, ci, isIn_mem h5, hci, hσ i h4⟩)
          · exact (h1 i cs hi h4).symm
        obtain ⟨M', hl, hc, hn, hdm, hR⟩ := h.pub hi
        have h3' : ∀ ad u, M' ad = some u → true = true → w0.own ad.block → GW σs bs W Y ad.block ∨ ws.heap.size ≤ ad.block := fun ad u hu ht ho => by
          rcases hdm ad u hu with h4 | h4
          · exact h3 ad u h4 ht ho
          · have h4 : ad.block = σ i := h4
            rw [h4]
            exact hblk
        cases hp with
        | mk hk => exact pubH_sound hσ r hR (fun j c hj => h1 j c (rmB_look hj).1) (fun j c hj => h2 j c (rmB_look hj).1) h3' (hk _ M' hl hc) hG
        | fr hk =>
          have hg : Good w0 σ b w (.s i len cap z0) := by
            cases x with
            | tmp t => exact h.sl t _ hx
            | _ => simp [Lw.ev] at hx
          obtain ⟨_, _, c, ty, g3, g4⟩ := hg cs hi
          exact pubH_sound hσ r hR (fun j c hj => h1 j c (rmB_look hj).1) (fun j c hj => h2 j c (rmB_look hj).1) h3' (hk _ M' hl hc (fun o ho => hn o (by
            rw [← g4] at ho
            simp [World.cell?, g3, ho])) (fun a u hu => h.dis i cs hi a u hu) hdm) hG
      · exact hp.elim
    · exact pubH_sound hσ r h h1 h2 h3 hp hG
    · exact hp.elim
theorem hop_sound [O : Own T M0 w0] {n0 : Nat} {W : List Nat} {Y : Nat → Prop} {vb : Bool} {σs : Nat → Nat} {es : Env} {bs : Bx} {Ms : Mem} {as : Act} {ws : World} {o : Oper} {K : Kont} {K' : Act → World → Prop} {Q' : Exit → Act → World → Prop} (hs : Rel M0 w0 N σs es bs n0 Ms as ws) (h : Rel M0 w0 N σ e b n M a w) (hS : BelowX (baseW ws σs bs W Y) w) (hσ : ∀ i, i < n0 → σ i = σs i) (hn : n0 ≤ n) (hfr : ∀ i cs, lookB b i = some cs → n0 ≤ i → ws.heap.size ≤ σ i ∨ (baseW ws σs bs W Y).X (σ i)) (hold : ∀ i cs, lookB b i = some cs → i < n0 → ∃ ci, lookB bs i = some ci) (hI : ∀ ad u, M ad = some u → vb = true → w0.own ad.block → GW σs bs W Y ad.block ∨ ws.heap.size ≤ ad.block) (hZ : vb = true → T.wr = true) (hp : hop P T N n0 W vb o e b n M K)
    (hK : ∀ σ e b n M a w, Rel M0 w0 N σ e b n M a w → BelowX (baseW ws σs bs W Y) w → (∀ i, i < n0 → σ i = σs i) → n0 ≤ n → (∀ i cs, lookB b i = some cs → n0 ≤ i → ws.heap.size ≤ σ i ∨ (baseW ws σs bs W Y).X (σ i)) → (∀ i cs, lookB b i = some cs → i < n0 → ∃ ci, lookB bs i = some ci) → (∀ ad u, M ad = some u → vb = true → w0.own ad.block → GW σs bs W Y ad.block ∨ ws.heap.size ≤ ad.block) → K e b n M → K' a w) : o.wp P a w K' Q' := by
  have hgrow : ∀ {M' : Mem} {w' : World}, (∀ ad u, M' ad = some u → M ad = some u ∨ (w.heap.size ≤ ad.block ∧ Pl w' ad.block)) → ∀ ad u, M' ad = some u → vb = true → w0.own ad.block → GW σs bs W Y ad.block ∨ ws.heap.size ≤ ad.block := fun h4 ad u hu hv ho => by
    rcases h4 ad u hu with h7 | ⟨h7, _⟩
    · exact hI ad u h7 hv ho
    · exact .inr (Nat.le_trans hS.size h7)
  by_cases hcv : vb = true ∧ ∃ x xs ts, o.op = .call { callee := .value x, args := xs, argTypes := ts }
  · obtain ⟨hv, x, xs, ts, hop⟩ := hcv
    subst hv
    have hwr := hZ rfl
    obtain ⟨dst, op, type, pos, after, guard⟩ := o
    simp only at hop
    subst hop
    unfold Lw.hop at hp
    simp only at hp
    rw [withD_eq] at hp
    cases hd : dOk N dst with
    | false => rw [hd] at hp; exact hp.elim
    | true =>
    rw [hd] at hp
    simp only [cond_true] at hp
    clear hgrow
    refine pubH_sound (bs := bs) (ws := ws) (W := W) (Y := Y) hσ xs.toList h hfr hold hI hp ?_
    intro e b M h hfr hold hI hp
    have hgrow : ∀ {M' : Mem} {w' : World}, (∀ ad u, M' ad = some u → M ad = some u ∨ (w.heap.size ≤ ad.block ∧ Pl w' ad.block)) → ∀ ad u, M' ad = some u → true = true → w0.own ad.block → GW σs bs W Y ad.block ∨ ws.heap.size ≤ ad.block := fun h4 ad u hu hv ho => by
      rcases h4 ad u hu with h7 | ⟨h7, _⟩
      · exact hI ad u h7 hv ho
      · exact .inr (Nat.le_trans hS.size h7)
    split at hp
    · rename_i f l hc hl
      have ha : xs.map a.eval ++ #[] = l.toArray := by
        apply Array.toList_inj.mp
        simp [h.evL hl]
      have he : ∀ (hg : isGo P f = true), (execOp a.eval { dst, op := .call { callee := .value x, args := xs, argTypes := ts }, type, pos, after, guard }).run P w = .ok (.enter f l.toArray) w := by
        intro hg
        rw [exec_callC (h.calleeC hc), callFunc_run hg, ha]
      have hBel : ∀ {w'}, Below w.heap.size w w' → BelowX (baseW ws σs bs W Y) w' := fun hb => hS.trans (hb.mono hS.size)
      cases hp with
      | mk u hA hk =>
        unfold Oper.wp
        rw [he hA.1]
        refine (hA.2 w h.kn).mono fun e' w' ⟨h1, h2⟩ => ?_
        subst h1
        exact hK _ _ _ _ _ _ _ ((h.world h2).put (x := .v u) hd (fun i hx => by cases hx) trivial) (hBel h2) hσ hn hfr hold hI hk
      | mr R hA hk =>
        unfold Oper.wp
        rw [he hA.1]
        refine (hA.2 w h.kn).mono fun e' w' ⟨v, M', h1, h2, h3, h4, h5, h6⟩ => ?_
        subst h1
        exact hK _ _ _ _ _ _ _ ((h.mem (B := 0) h6 h3 h2 h4).put (x := .v v) hd (fun i hx => by cases hx) trivial) (hBel h6) hσ hn hfr hold (hgrow h4) (hk v M' h2 h5)
      | mb Mb R hA hs2 hb hd' hk =>
        unfold Oper.wp
        rw [he hA.1]
        refine (hA.2 w h.kn (fun ad u hu hn => h.nf ad u hu (by
          cases h0 : M0 ad with
          | none => exact .inl rfl
          | some u0 => exact .inr (O.own hwr ad u0 (hb ad u hu hn) h0)))).mono fun e' w' ⟨v, M', h1, h2, h2b, h3, h4, h5, h6⟩ => ?_
        subst h1
        obtain ⟨M2, h7, h8, h9, h10, hR⟩ := h.callG (Mx := rest M Mb) (M1 := rest M' Mb) (w' := w') (fun ad u hu => (rest_at hu).2) (fun ad u u0 hu h0 => O.own hwr ad u0 (hb ad u (rest_at hu).2 (rest_at hu).1) h0) (fun ad u ad' u' hu hu' hn => hd' ad u ad' u' (rest_at hu).2 (rest_at hu).1 (rest_no hs2 hn hu')) (fun ad u hu => h2 ad u (rest_at hu).2) (fun ad u hu => (h3 ad u (rest_at hu).2 (rest_at hu).1).imp (fun ⟨a, u0, g1, g2, g3⟩ => ⟨a, u0, rest_of g2 g1, g3⟩) id) (fun ad u hu => h4 ad u (rest_at hu).2 (rest_at hu).1) h6
        have hl2 : Le Mb M2 := fun ad u hu => h8 ad u (by unfold rest; rw [hu]) (hs2 ad u hu)
        have hownM : ∀ {ad u}, M ad = some u → Mb ad = none → w0.own ad.block := fun {ad u} hu hn => by
          rcases h.nw ad u hu with h0 | h0
          · exact .inr (O.own hwr ad u (hb ad u hu hn) h0)
          · exact h0
        refine hK _ _ _ _ _ _ _ (hR.put (x := .v v) hd (fun i hx => by cases hx) trivial) ⟨h6.os.trans hS.os, h6.tape.trans hS.tape, h6.output.trans hS.output, Nat.le_trans hS.size h6.size, fun k hk hx => (h6.block k (Nat.lt_of_lt_of_le hk hS.size) fun ad u hu he => ?_).trans (hS.block k hk hx)⟩ hσ hn hfr hold (fun ad u hu _ hown => ?_) (hk v M' M2 h5 (fun ad u hu => ?_) hl2 fun ad u hu hn => ?_)
        · obtain ⟨g1, g2⟩ := rest_at hu
          rcases hI ad u g2 rfl (hownM g2 g1) with h11 | h11
          · exact hx (he ▸ h11)
          · have hk : k < ws.heap.size := hk
            omega
        · rcases h9 ad u hu with h11 | h11
          · rcases h3 ad u (rest_at h11).2 (rest_at h11).1 with ⟨a1, u1, g1, g2, g3⟩ | g1
            · rw [← g3]; exact hI a1 u1 g1 rfl (hownM g1 g2)
            · exact .inr (Nat.le_trans hS.size g1)
          · exact hI ad u h11.2 rfl hown
        · cases hm : Mb ad with
          | none => exact h7 ad u (rest_of hm hu)
          | some u1 =>
            have := h2b ad u1 hm
            rw [hu] at this
            rw [hl2 ad u1 hm, this]
        · exact (h10 ad u (rest_of hn hu)).imp (fun ⟨a, u0, g1, g2⟩ => ⟨a, u0, (rest_at g1).2, (rest_at g1).1, g2⟩) id
    · exact hp.elim
  suffices hrest : (bif hOk n0 W e o.op then pop P T.off N o e b n M K else False) → o.wp P a w K' Q' by
    by_cases hca : vb = true ∧ ∃ xs ts, o.op = .call { callee := .builtin .append, args := xs, argTypes := ts }
    · obtain ⟨hv, xs, ts, hop⟩ := hca
      subst hv
      obtain ⟨dst, op, type, pos, after, guard⟩ := o
      simp only at hop
      subst hop
      unfold Lw.hop at hp
      simp only at hp
      unfold hopA at hp
      split at hp
      · rename_i sx xx t0 t1 hxs hts
        split at hp
        · rename_i z by_ Z elem u ad len cap hi ha hsx
          rw [withD_eq] at hp
          cases hd : dOk N dst with
          | false => rw [hd] at hp; exact hp.elim
          | true =>
            rw [hd] at hp
            simp only [cond_true] at hp
            have hall : ∀ {Kx : Kont}, (∀ σ e b n M a w, Rel M0 w0 N σ e b n M a w → BelowX (baseW ws σs bs W Y) w → (∀ i, i < n0 → σ i = σs i) → n0 ≤ n → (∀ i cs, lookB b i = some cs → n0 ≤ i → ws.heap.size ≤ σ i ∨ (baseW ws σs bs W Y).X (σ i)) → (∀ i cs, lookB b i = some cs → i < n0 → ∃ ci, lookB bs i = some ci) → (∀ ad u, M ad = some u → true = true → w0.own ad.block → GW σs bs W Y ad.block ∨ ws.heap.size ≤ ad.block) → Kx e b n M → K' a w) → ∀ σ' e' b' n' M' a' w', Rel M0 w0 N σ' e' b' n' M' a' w' → AppY (M0 := M0) (w0 := w0) M ad w w' σ σ' b b' n n' M' → Kx e' b' n' M' → K' a' w' := by
              intro Kx hKx σ' e' b' n' M' a' w' hR hY hk
              refine hKx _ _ _ _ _ _ _ hR ⟨hY.os.trans hS.os, hY.tape.trans hS.tape, hY.output.trans hS.output, Nat.le_trans hS.size hY.size, fun k hk hx => ?_⟩ (fun i hi => (hY.sg i (by omega)).trans (hσ i hi)) (Nat.le_trans hn hY.le) (fun j c hj h0 => ?_) (fun j c hj h0 => ?_) (fun a u hu _ ho => ?_) hk
              · have hk : k < ws.heap.size := hk
                have hkw : k < w.heap.size := Nat.lt_of_lt_of_le hk hS.size
                by_cases hka : k = ad.block
                · subst hka
                  rcases hY.same hkw with h1 | ⟨a1, u1, h1, h2, h3⟩
                  · exact h1.trans (hS.block _ hk hx)
                  · have hown : w0.own a1.block := by
                      rcases h.nw a1 u1 h2 with h4 | h4
                      · exact .inr (h3 u1 h4)
                      · exact h4
                    rcases hI a1 u1 h2 rfl hown with h4 | h4
                    · exact absurd (h1 ▸ h4) hx
                    · omega
                · exact (hY.block k hkw hka).trans (hS.block k hk hx)
              · rcases hY.bx j c hj with h1 | ⟨h1, h2⟩
                · rw [hY.sg j (h.lt j c h1)]; exact hfr j c h1 h0
                · exact .inl (Nat.le_trans hS.size h2)
              · rcases hY.bx j c hj with h1 | ⟨h1, _⟩
                · exact hold j c h1 h0
                · omega
              · obtain ⟨u0, hu0⟩ := hY.mem a u hu
                exact hI a u0 hu0 rfl ho
            cases hdst : dst with
            | none =>
              rw [hdst] at hp hd
              refine appX_soundX (K2 := fun _ _ _ _ => False) h hd hxs hts hi ha hsx hp (fun _ _ _ _ _ _ _ _ _ hf => hf.elim) (hall hK)
            | some t =>
              rw [hdst] at hp hd
              refine appX_soundX (K2 := fun e b n M => pubH n0 W e b M [.tmp t] fun e b M => K e b n M) h hd hxs hts hi ha hsx hp (hall fun σ e b n M a w hR hB h1 h2 h3 h4 h5 hk => ?_) (hall hK)
              exact pubH_sound (bs := bs) (ws := ws) (W := W) (Y := Y) h1 [.tmp t] hR h3 h4 h5 hk fun e b M hR h3 h4 h5 hk => hK _ _ _ _ _ _ _ hR hB h1 h2 h3 h4 h5 hk
        · exact hrest hp
      · exact hrest hp
    · refine hrest ?_
      unfold hop at hp
      revert hp
      cases vb with
      | false => exact id
      | true =>
        split
        · exact fun _ => absurd ⟨rfl, _, _, _, by assumption⟩ hcv
        · exact fun _ => absurd ⟨rfl, _, _, by assumption⟩ hca
        · exact id
  clear hp
  intro hp
  cases ho : hOk n0 W e o.op with
  | false => rw [ho] at hp; exact hp.elim
  | true =>
  rw [ho] at hp
  simp only [cond_true] at hp
  unfold pop at hp
  rw [withD_eq] at hp
  cases hd : dOk N o.dst with
  | false => rw [hd] at hp; exact hp.elim
  | true =>
    rw [hd] at hp
    simp only [cond_true] at hp
    have hBel : ∀ {w'}, Below w.heap.size w w' → BelowX (baseW ws σs bs W Y) w' := fun hb => hS.trans (hb.mono hS.size)
    have hnew : ∀ {cs : List Value} (i : Nat) (c : List Value), lookB ((n, cs) :: b) i = some c → n0 ≤ i → ws.heap.size ≤ (if i = n then w.heap.size else σ i) ∨ (baseW ws σs bs W Y).X (if i = n then w.heap.size else σ i) := by
      intro cs i c hi h0
      simp only [lookB] at hi
      cases hk : Nat.beq n i with
      | true => rw [if_pos (Nat.eq_of_beq_eq_true hk).symm]; exact .inl hS.size
      | false =>
        rw [hk] at hi
        have hne : i ≠ n := fun he => by subst he; simp at hk
        rw [if_neg hne]
        exact hfr i c hi h0
    have hnold : ∀ {cs : List Value} (i : Nat) (c : List Value), lookB ((n, cs) :: b) i = some c → i < n0 → ∃ ci, lookB bs i = some ci := by
      intro cs i c hi h0
      simp only [lookB] at hi
      cases hk : Nat.beq n i with
      | true => have := Nat.eq_of_beq_eq_true hk; omega
      | false => rw [hk] at hi; exact hold i c hi h0
    have hσ' : ∀ i, i < n0 → (if i = n then w.heap.size else σ i) = σs i := fun i hi => by rw [if_neg (by omega)]; exact hσ i hi
    have hquiet : ∀ {o : Oper}, dOk N o.dst = true → qop P T.off M o e b (fun u => K (put e o.dst u) b n M) → o.wp P a w K' Q' := by
      intro o hd hp
      obtain ⟨u, hu, hul, hqa⟩ := qop_sound h hp
      exact wp_of_quietAt hqa fun w' hw' => hK _ _ _ _ _ _ _ ((h.world hw').put hd hul.1 (good_world h hw' hul.2)) (hBel hw') hσ hn hfr hold hI hu
    obtain ⟨dst, op, type, pos, after, guard⟩ := o
    cases op with
    | alloc t =>
      simp only at hp hd
      split at hp
      · rename_i v hz
        unfold Oper.wp
        have hr : (execOp a.eval { dst, op := .alloc t, type, pos, after, guard }).run P w = .ok (.value (.pointer (some ⟨w.heap.size, 0, none⟩))) (w.alloc (.cells v.cells.toList.toArray t)) := by
          show (do pure (Next.value (← Instr.alloc t true (.tuple #[]))) : Sem Next).run P w = _
          refine (Sem.run_bind ..).trans ?_
          have : (Instr.alloc t true (.tuple #[])).run P w = .ok (.pointer (some ⟨w.heap.size, 0, none⟩)) (w.alloc (.cells v.cells.toList.toArray t)) := by
            unfold Instr.alloc
            simp only [Sem.run_bind, prun_run hz w, Result.andThen_ok]
            rfl
          rw [this]
          rfl
        rw [hr]
        rw [nfK_eq] at hp
        exact hK _ _ _ _ _ _ _ (h.grow hd v.cells.toList t).1 (hBel ((Below.refl _ _).alloc (Nat.le_refl _) _)) hσ' (by omega) hnew hnold hI hp
      · exact hp.elim
    | box t x =>
      simp only at hp hd
      simp only [hOk] at ho
      replace hp := pubO_plain (l := [x]) (by simp [ho]) hp
      split at hp
      · rename_i v hx
        unfold Oper.wp
        have hr : (execOp a.eval { dst, op := .box t x, type, pos, after, guard }).run P w = .ok (.value (.pointer (some ⟨w.heap.size, 0, none⟩))) (w.alloc (.cells v.cells.toList.toArray t)) := by
          show (do pure (Next.value (← Instr.box t (a.eval x))) : Sem Next).run P w = _
          rw [h.evV hx]
          rfl
        rw [hr]
        rw [nfK_eq] at hp
        exact hK _ _ _ _ _ _ _ (h.grow hd v.cells.toList t).1 (hBel ((Below.refl _ _).alloc (Nat.le_refl _) _)) hσ' (by omega) hnew hnold hI hp
      · exact hp.elim
    | store t x y =>
      simp only at hp hd
      simp only [hOk, Bool.and_eq_true] at ho
      replace hp := pubO_plain (l := [y]) (by simp [ho.2]) hp
      have key : ∀ {i q m : Nat} {v : Value} {cs : List Value}, (n0 ≤ i ∨ i ∈ W) → a.eval x = .pointer (some ⟨σ i, q, none⟩) → evV e y = some v → lookB b i = some cs → prun P (sizeOf t) = some m → v.cells.size = m → q + m ≤ cs.length → allOne v.cells.toList = true →
          K (put e dst (.v undef)) ((i, setAt cs q v.cells.toList) :: b) n M → Oper.wp P { dst, op := .store t x y, type, pos, after, guard } a w K' Q' := by
        intro i q m v cs h0 hx hy hi hm hm' hle hone hp
        obtain ⟨w', hr, hR, hkp, hsz⟩ := Rel.storeCellsH (P := P) (j := 0) (q := q) v.cells.toList h hi hone (by simp; omega)
        unfold Oper.wp
        have hr' : (execOp a.eval { dst, op := .store t x y, type, pos, after, guard }).run P w = .ok .skip w' := by
          show (do Instr.storeAt t (a.eval x) (a.eval y); pure Next.skip : Sem Next).run P w = _
          rw [hx, h.evV hy]
          have : (Instr.storeAt t (.pointer (some ⟨σ i, q, none⟩)) v).run P w = .ok () w' := by
            simp only [Instr.storeAt, Instr.sureAddr, storeVar, Sem.run_bind, Sem.run_pure, Result.andThen_ok, prun_run hm w]
            rw [if_neg (by rw [hm']; simp)]
            exact hr
          simp only [Sem.run_bind, this, Result.andThen_ok]
          rfl
        rw [hr']
        have hR2 := hR.put (x := .v undef) hd (fun i hx => by cases hx) trivial
        refine hK _ _ _ _ _ _ _ hR2 ?_ hσ hn (fun j c hj hj0 => ?_) (fun j c hj hj0 => ?_) hI (by simpa using hp)
        · have b1 := hR.below
          have b0 := h.below
          refine ⟨(b1.os.trans b0.os.symm).trans hS.os, (b1.tape.trans b0.tape.symm).trans hS.tape, (b1.output.trans b0.output.symm).trans hS.output, by rw [hsz]; exact hS.size, fun k hk hx => ?_⟩
          rw [hkp k fun he => ?_]
          · exact hS.block k hk hx
          · rcases Nat.lt_or_ge i n0 with h1 | h1
            · rcases h0 with h0 | h0
              · omega
              · obtain ⟨ci, hci⟩ := hold i cs hi h1
                exact hx (.inl ⟨i, ci, h0, hci, by rw [he, hσ i h1]⟩)
            · rcases hfr i cs hi h1 with h2 | h2
              · have hk : k < ws.heap.size := hk
                omega
              · exact hx (he ▸ h2)
        · simp only [lookB] at hj
          cases hk : Nat.beq i j with
          | true => have he := Nat.eq_of_beq_eq_true hk; subst he; exact hfr i cs hi hj0
          | false => rw [hk] at hj; exact hfr j c hj hj0
        · simp only [lookB] at hj
          cases hk : Nat.beq i j with
          | true => have he := Nat.eq_of_beq_eq_true hk; subst he; exact hold i cs hi hj0
          | false => rw [hk] at hj; exact hold j c hj hj0
      split at hp
      · rename_i i q v hx hy
        have h0 : n0 ≤ i ∨ i ∈ W := by have := ho.1; rw [hx] at this; simp only [Bool.or_eq_true] at this; exact this.imp Nat.le_of_ble_eq_true isIn_mem
        split at hp
        · rename_i cs m hi hm
          cases hc : (Nat.beq v.cells.size m && (Nat.ble (q + m) cs.length && allOne v.cells.toList)) with
          | false => rw [hc] at hp; exact hp.elim
          | true =>
            rw [hc] at hp
            simp only [cond_true, nfK_eq, splice_eq] at hp
            simp only [Bool.and_eq_true] at hc
            exact key h0 (h.ev hx) hy hi hm (Nat.eq_of_beq_eq_true hc.1) (Nat.le_of_ble_eq_true hc.2.1) hc.2.2 hp
        · exact hp.elim
      · rename_i i q v hx hy
        have h0 : n0 ≤ i ∨ i ∈ W := by have := ho.1; rw [hx] at this; simp only [Bool.or_eq_true] at this; exact this.imp Nat.le_of_ble_eq_true isIn_mem
        split at hp
        · rename_i cs m hi hm
          cases hc : (Nat.beq v.cells.size m && allOne v.cells.toList) with
          | false => rw [hc] at hp; exact hp.elim
          | true =>
            rw [hc] at hp
            simp only [Bool.and_eq_true] at hc
            exact key h0 (h.ev hx) hy hi hm (Nat.eq_of_beq_eq_true hc.1) hp.h hc.2 hp.k
        · exact hp.elim
      · rename_i ad q v hx hy
        have := ho.1
        rw [hx] at this
        cases this
      · exact hp.elim
    | slice t x lo hi mx =>
      simp only at hp hd
      simp only [hOk] at ho
      replace hp := pubO_plain (l := [x]) (by simp [ho]) hp
      exact hquiet hd hp
    | build t parts =>
      simp only at hp hd
      simp only [hOk] at ho
      exact hquiet hd (pubB_plain ho hp)
    | buildSlice t len parts =>
      simp only at hp hd
      split at hp
      · rename_i ps z by_ Z elem hps hi
        split at hp
        · rename_i cs hcs
          cases hc : Nat.ble (len * z) 16777216 with
          | false => rw [hc] at hp; exact hp.elim
          | true =>
            rw [hc] at hp
            simp only [cond_true, nfK_eq] at hp
            unfold Oper.wp
            have ha : (parts.map fun (i, x) => (i, a.eval x)) = ps.toArray := by
              apply Array.toList_inj.mp
              simp only [Array.toList_map]
              exact h.evP hps
            have hr : (execOp a.eval { dst, op := .buildSlice t len parts, type, pos, after, guard }).run P w = .ok (.value (.slice (some ⟨w.heap.size, 0, none⟩) len len)) (w.alloc (.cells cs.toArray elem)) := by
              show (do pure (Next.value (← Instr.buildSlice t len (parts.map fun (i, x) => (i, a.eval x)))) : Sem Next).run P w = _
              rw [ha]
              exact run_value'' (buildSlice_run hi hcs (Nat.le_of_ble_eq_true hc) w)
            rw [hr]
            obtain ⟨_, _, _, _, _, _, _, _, hl, _⟩ := elemInfo_out hi
            have hlc : cs.length = len * z := by rw [(pfillS_run ps _ _ hcs).2, flatten_len hl]
            have hg := (h.grow hd cs elem).2 (.s n len len z) (fun i hi => by cases hi; omega) (fun cs' hcs' => by
              simp only [lookB, show Nat.beq n n = true by simp, cond_true, Option.some.injEq] at hcs'
              subst hcs'
              refine ⟨hlc, Nat.le_refl _, cs.toArray, elem, ?_, List.size_toArray.trans hlc⟩
              show (w.heap.push _)[if n = n then w.heap.size else σ n]? = _
              rw [if_pos rfl, Array.getElem?_push_size])
            simp only [conc, if_true] at hg
            exact hK _ _ _ _ _ _ _ hg (hBel ((Below.refl _ _).alloc (Nat.le_refl _) _)) hσ' (by omega) hnew hnold hI hp
        · exact hp.elim
      · exact hp.elim
    | makeSlice t x y =>
      simp only at hp hd
      split at hp
      · rename_i k len k' c hx hy
        split at hp
        · rename_i z by_ Z elem hi
          obtain ⟨h0, h1, h2, h3, hk⟩ := hp
          subst h0
          unfold Oper.wp
          have hr : (execOp a.eval { dst, op := .makeSlice t x y, type, pos, after, guard }).run P w = .ok (.value (.slice (some ⟨w.heap.size, 0, none⟩) c.toNat c.toNat)) (w.alloc (.cells (List.replicate c.toNat Z).flatten.toArray elem)) := by
            show (do pure (Next.value (← Instr.makeSlice t (a.eval x) (a.eval y))) : Sem Next).run P w = _
            rw [h.evV hx, h.evV hy]
            exact run_value'' (makeSlice_run hi h1 h2 h3 w)
          rw [hr]
          obtain ⟨_, _, _, _, _, _, _, _, hl, _⟩ := elemInfo_out hi
          have hg := (h.grow hd (List.replicate c.toNat Z).flatten elem).2 (.s n c.toNat c.toNat z) (fun i hi => by cases hi; omega) (fun cs hcs => by
            simp only [lookB, show Nat.beq n n = true by simp, cond_true, Option.some.injEq] at hcs
            subst hcs
            refine ⟨flatten_len hl _, Nat.le_refl _, (List.replicate c.toNat Z).flatten.toArray, elem, ?_, List.size_toArray.trans (flatten_len hl _)⟩
            show (w.heap.push _)[if n = n then w.heap.size else σ n]? = _
            rw [if_pos rfl, Array.getElem?_push_size])
          simp only [conc, if_true] at hg
          exact hK _ _ _ _ _ _ _ hg (hBel ((Below.refl _ _).alloc (Nat.le_refl _) _)) hσ' (by omega) hnew hnold hI hk
        · exact hp.elim
      · exact hp.elim
    | makeMap t r => simp [hOk] at ho
    | makeFunc fn first cap => simp [hOk] at ho
    | mapUpdate t x k y => simp [hOk] at ho
    | call c =>
      obtain ⟨callee, args, argTypes⟩ := c
      cases callee with
      | value x =>
        simp only at hp hd
        simp only [hOk] at ho
        replace hp := pubP_plain (l := args.toList) ho hp
        split at hp
        · rename_i f l hc hl
          have ha : args.map a.eval ++ #[] = l.toArray := by
            apply Array.toList_inj.mp
            simp [h.capL hl]
          have he : ∀ (hg : isGo P f = true), (execOp a.eval { dst, op := .call { callee := .value x, args, argTypes }, type, pos, after, guard }).run P w = .ok (.enter f l.toArray) w := by
            intro hg
            rw [exec_callC (h.calleeC hc), callFunc_run hg, ha]
          cases hp with
          | mk u hA hk =>
            unfold Oper.wp
            rw [he hA.1]
            refine (hA.2 w h.kn).mono fun e' w' ⟨h1, h2⟩ => ?_
            subst h1
            exact hK _ _ _ _ _ _ _ ((h.world h2).put (x := .v u) hd (fun i hx => by cases hx) trivial) (hBel h2) hσ hn hfr hold hI hk
          | mr R hA hk =>
            unfold Oper.wp
            rw [he hA.1]
            refine (hA.2 w h.kn).mono fun e' w' ⟨v, M', h1, h2, h3, h4, h5, h6⟩ => ?_
            subst h1
            exact hK _ _ _ _ _ _ _ ((h.mem (B := 0) h6 h3 h2 h4).put (x := .v v) hd (fun i hx => by cases hx) trivial) (hBel h6) hσ hn hfr hold (hgrow h4) (hk v M' h2 h5)
          | mf R hA hk =>
            unfold Oper.wp
            rw [he hA.1]
            refine (hA.2 w h.kn).mono fun e' w' ⟨v, M', h1, h2, h3, h4, h5, h6⟩ => ?_
            subst h1
            refine hK _ _ _ _ _ _ _ ((h.mem (B := 0) h6 h3 h2 h4).put (x := .v v) hd (fun i hx => by cases hx) trivial) (hBel h6) hσ hn hfr hold (hgrow h4) (hk v M' h2 (fun ad u hn hu ad' u' hu' => ?_) h5)
            rcases h4 ad u hu with h7 | ⟨h7, _⟩
            · rw [hn] at h7; cases h7
            · have := block_lt_of_cell (h.kn ad' u' hu'); omega
          | mx R hw => cases hw
          | mw Mx R hw => cases hw
          | ex u hw => cases hw
          | mg Mx R hw => cases hw
          | mb Mb R hw => cases hw
        · rename_i f c0 r l hc hl
          have ha : args.map a.eval ++ (c0 :: r).toArray = (l ++ c0 :: r).toArray := by
            apply Array.toList_inj.mp
            simp [h.capL hl]
          have he : ∀ (hg : isGo P f = true), (execOp a.eval { dst, op := .call { callee := .value x, args, argTypes }, type, pos, after, guard }).run P w = .ok (.enter f (l ++ c0 :: r).toArray) w := by
            intro hg
            rw [exec_callC (h.calleeC hc), callFunc_run hg, ha]
          cases hp with
          | mk u hA hk =>
            unfold Oper.wp
            rw [he hA.1]
            refine (hA.2 w h.kn).mono fun e' w' ⟨h1, h2⟩ => ?_
            subst h1
            exact hK _ _ _ _ _ _ _ ((h.world h2).put (x := .v u) hd (fun i hx => by cases hx) trivial) (hBel h2) hσ hn hfr hold hI hk
          | mr R hA hk =>
            unfold Oper.wp
            rw [he hA.1]
            refine (hA.2 w h.kn).mono fun e' w' ⟨v, M', h1, h2, h3, h4, h5, h6⟩ => ?_
            subst h1
            exact hK _ _ _ _ _ _ _ ((h.mem (B := 0) h6 h3 h2 h4).put (x := .v v) hd (fun i hx => by cases hx) trivial) (hBel h6) hσ hn hfr hold (hgrow h4) (hk v M' h2 h5)
          | mf R hA hk =>
            unfold Oper.wp
            rw [he hA.1]
            refine (hA.2 w h.kn).mono fun e' w' ⟨v, M', h1, h2, h3, h4, h5, h6⟩ => ?_
            subst h1
            refine hK _ _ _ _ _ _ _ ((h.mem (B := 0) h6 h3 h2 h4).put (x := .v v) hd (fun i hx => by cases hx) trivial) (hBel h6) hσ hn hfr hold (hgrow h4) (hk v M' h2 (fun ad u hn hu ad' u' hu' => ?_) h5)
            rcases h4 ad u hu with h7 | ⟨h7, _⟩
            · rw [hn] at h7; cases h7
            · have := block_lt_of_cell (h.kn ad' u' hu'); omega
          | mx R hw => cases hw
          | mw Mx R hw => cases hw
          | ex u hw => cases hw
          | mg Mx R hw => cases hw
          | mb Mb R hw => cases hw
        · exact hp.elim
      | builtin bi =>
        cases bi <;> first | (simp [hOk] at ho; done) | exact hquiet hd hp | skip
        simp only at hp hd
        split at hp
        · rename_i sx xx t0 t1 hxs hts
          simp only [hOk, hxs] at ho
          split at hp
          · rename_i z by_ Z elem hi ha
            split at hp
            · rename_i u ad len cap xk l hu hsx hxx
              rw [hsx] at ho
              cases ho
            · exact hp.elim
          · rename_i z by_ Z elem u hi ha
            unfold appD at hp
            split at hp
            · rename_i ad len cap hsx
              rw [hsx] at ho
              cases ho
            · have hox : ∀ i len cap z, ev e sx = some (.s i len cap z) → n0 ≤ i ∨ i ∈ W := fun i len cap z hx => by
                rw [hx] at ho
                simp only [Bool.or_eq_true] at ho
                exact ho.imp Nat.le_of_ble_eq_true isIn_mem
              have hX : ∀ i len cap z ci, ev e sx = some (.s i len cap z) → lookB b i = some ci → ws.heap.size ≤ σ i ∨ (baseW ws σs bs W Y).X (σ i) := fun i len cap z ci hx hb => by
                rcases Nat.lt_or_ge i n0 with h1 | h1
                · rcases hox i len cap z hx with h0 | h0
                  · omega
                  · obtain ⟨c', hc'⟩ := hold i ci hb h1
                    exact .inr (.inl ⟨i, c', h0, hc', hσ i h1⟩)
                · exact hfr i ci hb h1
              refine append_soundX h hd hxs hts hi ha hp fun σ' e' b' n' a' w' hR hI2 hk => hK _ _ _ _ _ _ _ hR ⟨hI2.os.trans hS.os, hI2.tape.trans hS.tape, hI2.output.trans hS.output, Nat.le_trans hS.size hI2.size, fun k hk hx => (hI2.block k (Nat.lt_of_lt_of_le hk hS.size) fun i len cap z ci hx2 hb he => ?_).trans (hS.block k hk hx)⟩ (fun i hi => (hI2.sg i (by omega)).trans (hσ i hi)) (Nat.le_trans hn hI2.le) (fun j c hj h0 => ?_) (fun j c hj h0 => ?_) hI hk
              · rcases hX i len cap z ci hx2 hb with h2 | h2
                · have hk : k < ws.heap.size := hk
                  omega
                · exact hx (he ▸ h2)
              · rcases hI2.bx j c hj with ⟨h1, c', h2⟩ | ⟨h1, h2 | ⟨i, len, cap, z, ci, h2, h3, h4⟩⟩
                · rw [hI2.sg j h1]; exact hfr j c' h2 h0
                · exact .inl (Nat.le_trans hS.size h2)
                · rw [h4]; exact hX i len cap z ci h2 h3
              · rcases hI2.bx j c hj with ⟨h1, c', h2⟩ | ⟨h1, _⟩
                · exact hold j c' h2 h0
                · omega
          · exact hp.elim
        · exact hp.elim
      | _ => simp [hOk] at ho
    | _ => exact hquiet hd hp
theorem guarded_sound {ops : Array Oper} {o : Oper} {act : Env → Prop} {K : Kont} {K' : Act → World → Prop} {Q' : Exit → Act → World → Prop} (h : Rel M0 w0 N σ e b n M a w) (hp : guarded N ops o e b n M act K)
    (hA : ∀ e, Rel M0 w0 N σ e b n M a w → act e → o.wp P a w K' Q') (hK : ∀ e a, Rel M0 w0 N σ e b n M a w → K e b n M → K' a w) : if Region.wanted o (yielded ops a.tmps) then o.wp P a w K' Q' ∨ (o.asks P a w ∧ LetsOut Q') else K' (a.put o.dst undef) w := by
  unfold guarded at hp
  have hskip : ∀ {e : Env}, Rel M0 w0 N σ e b n M a w → skipO N o e b n M K → K' (a.put o.dst undef) w := by
    intro e h hp
    unfold skipO at hp
    rw [withD_eq] at hp
    cases hd : dOk N o.dst with
    | false => rw [hd] at hp; exact hp.elim
    | true =>
      rw [hd] at hp
      exact hK _ _ (h.put (x := .v undef) hd (fun i hx => by cases hx) trivial) hp
  cases hg : o.guard with
  | none =>
    rw [hg] at hp
    rw [if_pos (by simp [Region.wanted, hg])]
    exact .inl (hA e h hp)
  | some jw =>
    obtain ⟨j, want⟩ := jw
    rw [hg] at hp
    simp only at hp
    split at hp
    · rename_i t hj
      have hp := guard_flat (A := fun t => act (Lw.gset e ops j t)) (B := fun t => skipO N o (Lw.gset e ops j t) b n M K) hp
      have hy := yielded_of h hj
      simp only [conc] at hy
      by_cases ht : t = want
      · rw [if_pos (by simp [Region.wanted, hg, hy, ht])]
        exact .inl (hA _ (h.gset (by rw [hj, ht])) (hp.yes ht))
      · rw [if_neg (by simp [Region.wanted, hg, hy, ht])]
        have ht' : t = !want := by cases t <;> cases want <;> simp_all
        exact hskip (h.gset (by rw [hj, ht'])) (hp.no ht')
    · rename_i t hj
      have hy := yielded_of h hj
      simp only [conc] at hy
      rw [if_neg (by simp [Region.wanted, hg, hy])]
      exact hskip h hp
    · exact hp.elim
theorem firstT_out {ops : List Oper} {n0 : Nat} {W : List Nat} {v : Bool} {e : Env} : ∀ {l : List Nat} {i : Nat}, firstT ops n0 W v e l = some i → ∃ o, ops[i]? = some o ∧ takeOp n0 W e o.op = true
  | [], i, h => by simp [firstT] at h
  | j :: r, i, h => by
    simp only [firstT] at h
    split at h
    · rename_i o ho
      cases ht : (takeOp n0 W e o.op && !memLoad v e o.op) with
      | true =>
        rw [ht] at h
        simp only [cond_true, Option.some.injEq] at h
        subst h
        simp only [Bool.and_eq_true] at ht
        exact ⟨o, ho, ht.1⟩
      | false => rw [ht] at h; exact firstT_out h
    · exact firstT_out h
theorem guarded_take {ops : Array Oper} {n0 : Nat} {W : List Nat} {Y : Nat → Prop} {Mh Mt : Mem} {σs : Nat → Nat} {es : Env} {bs : Bx} {Ms : Mem} {as : Act} {ws : World} {o : Oper} {K : Kont} (hs : Rel M0 w0 N σs es bs n0 Ms as ws) (h : Rel M0 w0 N σ e b n M a w) (hS : BelowX (baseW ws σs bs W Y) w) (hσ : ∀ i, i < n0 → σ i = σs i) (hn : n0 ≤ n) (hM : ∀ ad u, Mt ad = some u → Ms ad = some u ∧ ¬ Y ad.block) (hle : ∀ ad u, M0 ad = some u → ¬ w0.X ad.block → Mt ad = some u) (hY : ∀ k, Y k → w0.own k ∧ ∀ i cs, lookB bs i = some cs → k ≠ σs i) (hq : ∀ {o : Oper} {e e' : Env} {b : Bx} {K : PV → Prop}, takeOp n0 W e o.op = true → qop P T Mh o e' b K → qop P T Mt o e' b K) (ht : takeOp n0 W e o.op = true)
    (hp : guarded N ops o e b n M (fun e => takeK P T N Mh (rmBs bs W) o e b n M K) K) :
    ∃ v, YieldsIf P ops (fun w' => BelowX (baseW ws σs bs W Y) w') o v a ∧ ∃ e', Rel M0 w0 N σ e' b n M (a.put o.dst v) w ∧ K e' b n M := by
  unfold guarded at hp
  have hskip : ∀ {e : Env}, Region.wanted o (yielded ops a.tmps) = false → Rel M0 w0 N σ e b n M a w → skipO N o e b n M K → ∃ v, YieldsIf P ops (fun w' => BelowX (baseW ws σs bs W Y) w') o v a ∧ ∃ e', Rel M0 w0 N σ e' b n M (a.put o.dst v) w ∧ K e' b n M := by
    intro e hwt h hp
    unfold skipO at hp
    rw [withD_eq] at hp
    cases hd : dOk N o.dst with
    | false => rw [hd] at hp; exact hp.elim
    | true =>
      rw [hd] at hp
      exact ⟨undef, .inr ⟨hwt, rfl⟩, _, h.put (x := .v undef) hd (fun i hx => by cases hx) trivial, hp⟩
  have htake : ∀ {e : Env}, Region.wanted o (yielded ops a.tmps) = true → Rel M0 w0 N σ e b n M a w → takeK P T N Mh (rmBs bs W) o e b n M K → ∃ v, YieldsIf P ops (fun w' => BelowX (baseW ws σs bs W Y) w') o v a ∧ ∃ e', Rel M0 w0 N σ e' b n M (a.put o.dst v) w ∧ K e' b n M := by
    intro e hwt h hp
    unfold takeK at hp
    rw [withD_eq] at hp
    cases hd : dOk N o.dst with
    | false => rw [hd] at hp; exact hp.elim
    | true =>
      rw [hd] at hp
      simp only [cond_true] at hp
      obtain ⟨u, hu, hul, hqa⟩ := qop_soundS (S := fun w' => BelowX (baseW ws σs bs W Y) w') (hs.head h hσ hn hS hM hle hY) (fun w' hw' => hs.head h hσ hn hw' hM hle hY) (fun w' w'' hb hb' => hb.trans (hb'.mono hb.size)) (hq ht hp)
      cases hr : rowless u with
      | false => rw [hr] at hu; exact hu.elim
      | true =>
        rw [hr] at hu
        exact ⟨conc σ u, .inl ⟨hwt, fun w' hw' => take_run ht (hqa w' hw')⟩, _, h.put hd hul.1 (by cases u <;> first | trivial | (simp [rowless] at hr; done)), hu⟩
  cases hg : o.guard with
  | none =>
    rw [hg] at hp
    exact htake (by simp [Region.wanted, hg]) h hp
  | some jw =>
    obtain ⟨j, want⟩ := jw
    rw [hg] at hp
    simp only at hp
    split at hp
    · rename_i t hj
      have hp := guard_flat (A := fun t => takeK P T N Mh (rmBs bs W) o (Lw.gset e ops j t) b n M K) (B := fun t => skipO N o (Lw.gset e ops j t) b n M K) hp
      have hy := yielded_of h hj
      simp only [conc] at hy
      by_cases ht : t = want
      · exact htake (by simp [Region.wanted, hg, hy, ht]) (h.gset (by rw [hj, ht])) (hp.yes ht)
      · have ht' : t = !want := by cases t <;> cases want <;> simp_all
        exact hskip (by simp [Region.wanted, hg, hy, ht]) (h.gset (by rw [hj, ht'])) (hp.no ht')
    · rename_i t hj
      have hy := yielded_of h hj
      simp only [conc] at hy
      exact hskip (by simp [Region.wanted, hg, hy]) h hp
    · exact hp.elim
theorem pheld_sound [O : Own T M0 w0] {Y : Nat → Prop} {Mh Mt : Mem} {vb : Bool} {ops : Array Oper} {Q : Exit → Act → World → Prop} {K : Kont} {n0 : Nat} {W : List Nat} {σs : Nat → Nat} {es : Env} {bs : Bx} {Ms : Mem} {as : Act} {ws : World} (hQ : ∀ σ e b n M a w, Rel M0 w0 N σ e b n M a w → K e b n M → Q .normal a w) (hpan : ∀ c a w, ¬ Q (.panic c) a w) (hns : Region.noSelect ops = true) (hs : Rel M0 w0 N σs es bs n0 Ms as ws) (hM : ∀ ad u, Mt ad = some u → Ms ad = some u ∧ ¬ Y ad.block) (hle : ∀ ad u, M0 ad = some u → ¬ w0.X ad.block → Mt ad = some u) (hY : ∀ k, Y k → w0.own k ∧ ∀ i cs, lookB bs i = some cs → k ≠ σs i) (hq : ∀ {o : Oper} {e e' : Env} {b : Bx} {K : PV → Prop}, takeOp n0 W e o.op = true → qop P T Mh o e' b K → qop P T Mt o e' b K) (hZ : vb = true → T.wr = true) :
    ∀ (fuel : Nat) {done : List Bool} {σ : Nat → Nat} {e : Env} {b : Bx} {n : Nat} {M : Mem} {a : Act} {w : World}, Rel M0 w0 N σ e b n M a w → BelowX (baseW ws σs bs W Y) w → (∀ i, i < n0 → σ i = σs i) → n0 ≤ n → (∀ i cs, lookB b i = some cs → n0 ≤ i → ws.heap.size ≤ σ i ∨ (baseW ws σs bs W Y).X (σ i)) → (∀ i cs, lookB b i = some cs → i < n0 → ∃ ci, lookB bs i = some ci) → (∀ ad u, M ad = some u → vb = true → w0.own ad.block → GW σs bs W Y ad.block ∨ ws.heap.size ≤ ad.block) →
    pheld P T N ops Mh (rmBs bs W) n0 W vb fuel done e b n M K → wpAnyH P .any ops Q (fun w' => BelowX (baseW ws σs bs W Y) w') fuel done.toArray a w
  | 0, done, σ, e, b, n, M, a, w, h, hS, hσ, hn, hfr, hold, hI, hp => by
    unfold pheld at hp
    unfold wpAnyH
    rw [← rdyL_ready]
    split at hp
    · rename_i hr
      exact ⟨hr, hQ _ _ _ _ _ _ _ h hp⟩
    · exact hp.elim
  | fuel + 1, done, σ, e, b, n, M, a, w, h, hS, hσ, hn, hfr, hold, hI, hp => by
    have hset : ∀ i, done.toArray.setIfInBounds i true = (done.set i true).toArray := fun i => by simp
    unfold pheld at hp
    split at hp
    · rename_i hr
      unfold wpAnyH
      rw [← rdyL_ready, hr]
      exact ⟨fun _ => hQ _ _ _ _ _ _ _ h hp, fun i hi => by simp at hi⟩
    · rename_i hr
      split at hp
      · rename_i i hf
        obtain ⟨o, ho, ht⟩ := firstT_out hf
        rw [ho] at hp
        obtain ⟨hc, hk⟩ := hp
        simp only [Bool.and_eq_true] at hc
        obtain ⟨v, hy, e', hR, hk⟩ := guarded_take hs h hS hσ hn hM hle hY hq ht hk
        rw [Array.getElem?_toList] at ho
        refine wpAnyH_take ho hns hc.1 hc.2 (fun c a w hx => absurd hx (hpan _ _ _)) hy hS ?_
        rw [hset]
        exact pheld_sound hQ hpan hns hs hM hle hY hq hZ fuel hR hS hσ hn hfr hold hI hk
      · unfold wpAnyH
        rw [← rdyL_ready]
        refine ⟨fun h0 => absurd h0 hr, fun i hi => ?_⟩
        have hk := allK_mem hp i hi
        unfold wpOp
        split at hk
        · rename_i o ho
          rw [Array.getElem?_toList] at ho
          rw [ho]
          rw [hset]
          exact guarded_sound h hk (fun e h hk => hop_sound hs h hS hσ hn hfr hold hI hZ hk fun σ e b n M a w hR hS hσ hn hfr hold hI hk => ⟨hS, pheld_sound hQ hpan hns hs hM hle hY hq hZ fuel hR hS hσ hn hfr hold hI hk⟩) fun e a hR hk => ⟨hS, pheld_sound hQ hpan hns hs hM hle hY hq hZ fuel hR hS hσ hn hfr hold hI hk⟩
        · exact hk.elim
theorem firstQ_out {ops : List Oper} {e : Env} : ∀ {l : List Nat} {i : Nat}, firstQ ops e l = some i → ∃ o, ops[i]? = some o ∧ o.guard = none
  | [], i, h => by simp [firstQ] at h
  | j :: r, i, h => by
    simp only [firstQ] at h
    split at h
    · rename_i o ho
      cases ht : (quietOp e o.op && o.guard.isNone) with
      | true =>
        rw [ht] at h
        simp only [cond_true, Option.some.injEq] at h
        subst h
        simp only [Bool.and_eq_true, Option.isNone_iff_eq_none] at ht
        exact ⟨o, ho, ht.2⟩
      | false => rw [ht] at h; exact firstQ_out h
    · exact firstQ_out h
theorem mkOp_sound {o : Oper} {K : Kont} {K' : Act → World → Prop} {Q' : Exit → Act → World → Prop} (h : Rel M0 w0 N σ e b n M a w) (hp : mkOp P N o e b n M K)
    (hK : ∀ σ e b n M a w', Rel M0 w0 N σ e b n M a w' → Bw w w' → K e b n M → K' a w') : o.wp P a w K' Q' := by
  unfold mkOp at hp
  rw [withD_eq] at hp
  cases hd : dOk N o.dst with
  | false => rw [hd] at hp; exact hp.elim
  | true =>
    rw [hd] at hp
    simp only [cond_true] at hp
    obtain ⟨dst, op, type, pos, after, guard⟩ := o
    cases op with
    | buildSlice t len parts =>
      simp only at hp hd
      split at hp
      · rename_i ps z by_ Z elem hps hi
        split at hp
        · rename_i cs hcs
          cases hc : Nat.ble (len * z) 16777216 with
          | false => rw [hc] at hp; exact hp.elim
          | true =>
            rw [hc] at hp
            simp only [cond_true, nfK_eq] at hp
            unfold Oper.wp
            have ha : (parts.map fun (i, x) => (i, a.eval x)) = ps.toArray := by
              apply Array.toList_inj.mp
              simp only [Array.toList_map]
              exact h.evP hps
            have hr : (execOp a.eval { dst, op := .buildSlice t len parts, type, pos, after, guard }).run P w = .ok (.value (.slice (some ⟨w.heap.size, 0, none⟩) len len)) (w.alloc (.cells cs.toArray elem)) := by
              show (do pure (Next.value (← Instr.buildSlice t len (parts.map fun (i, x) => (i, a.eval x)))) : Sem Next).run P w = _
              rw [ha]
              exact run_value'' (buildSlice_run hi hcs (Nat.le_of_ble_eq_true hc) w)
            rw [hr]
            obtain ⟨_, _, _, _, _, _, _, _, hl, _⟩ := elemInfo_out hi
            have hlc : cs.length = len * z := by rw [(pfillS_run ps _ _ hcs).2, flatten_len hl]
            have hg := (h.grow hd cs elem).2 (.s n len len z) (fun i hi => by cases hi; omega) (fun cs' hcs' => by
              simp only [lookB, show Nat.beq n n = true by simp, cond_true, Option.some.injEq] at hcs'
              subst hcs'
              refine ⟨hlc, Nat.le_refl _, cs.toArray, elem, ?_, List.size_toArray.trans hlc⟩
              show (w.heap.push _)[if n = n then w.heap.size else σ n]? = _
              rw [if_pos rfl, Array.getElem?_push_size])
            simp only [conc, if_true] at hg
            exact hK _ _ _ _ _ _ _ hg ((Below.refl _ _).alloc (Nat.le_refl _) _) hp
        · exact hp.elim
      · exact hp.elim
    | call c =>
      obtain ⟨callee, args, argTypes⟩ := c
      cases callee with
      | value x =>
        simp only at hp hd
        refine pubP_sound args.toList h hp fun e b M h hp => ?_
        split at hp
        · rename_i f l hc hl
          have ha : args.map a.eval ++ #[] = l.toArray := by
            apply Array.toList_inj.mp
            simp [h.capL hl]
          have he : ∀ (hg : isGo P f = true), (execOp a.eval { dst, op := .call { callee := .value x, args, argTypes }, type, pos, after, guard }).run P w = .ok (.enter f l.toArray) w := by
            intro hg
            rw [exec_callC (h.calleeC hc), callFunc_run hg, ha]
          cases hp with
          | mk u hA hk =>
            unfold Oper.wp
            rw [he hA.1]
            refine (hA.2 w h.kn).mono fun e' w' ⟨h1, h2⟩ => ?_
            subst h1
            exact hK _ _ _ _ _ _ _ ((h.world h2).put (x := .v u) hd (fun i hx => by cases hx) trivial) h2 hk
          | mr R hA hk =>
            unfold Oper.wp
            rw [he hA.1]
            refine (hA.2 w h.kn).mono fun e' w' ⟨v, M', h1, h2, h3, h4, h5, h6⟩ => ?_
            subst h1
            exact hK _ _ _ _ _ _ _ ((h.mem (B := 0) h6 h3 h2 h4).put (x := .v v) hd (fun i hx => by cases hx) trivial) h6 (hk v M' h2 h5)
          | mf R hA hk =>
            unfold Oper.wp
            rw [he hA.1]
            refine (hA.2 w h.kn).mono fun e' w' ⟨v, M', h1, h2, h3, h4, h5, h6⟩ => ?_
            subst h1
            refine hK _ _ _ _ _ _ _ ((h.mem (B := 0) h6 h3 h2 h4).put (x := .v v) hd (fun i hx => by cases hx) trivial) h6 (hk v M' h2 (fun ad u hn hu ad' u' hu' => ?_) h5)
            rcases h4 ad u hu with h7 | ⟨h7, _⟩
            · rw [hn] at h7; cases h7
            · have := block_lt_of_cell (h.kn ad' u' hu'); omega
          | mx R hw => cases hw
          | mw Mx R hw => cases hw
          | ex u hw => cases hw
          | mg Mx R hw => cases hw
          | mb Mb R hw => cases hw
        · exact hp.elim
      | _ => exact hp.elim
    | _ => exact hp.elim
theorem pcal_sound {ops : Array Oper} {Q : Exit → Act → World → Prop} {K : Kont} (hQ : ∀ σ e b n M a w, Rel M0 w0 N σ e b n M a w → K e b n M → Q .normal a w) (hpan : ∀ c a w, ¬ Q (.panic c) a w) (hns : Region.noSelect ops = true) :
    ∀ (fuel : Nat) {done : List Bool} {σ : Nat → Nat} {e : Env} {b : Bx} {n : Nat} {M : Mem} {a : Act} {w : World}, Rel M0 w0 N σ e b n M a w → pcal P T N ops fuel done e b n M K → wpAnyC P .any ops Q fuel done.toArray a w
  | 0, done, σ, e, b, n, M, a, w, h, hp => by
    unfold pcal at hp
    unfold wpAnyC
    rw [← rdyL_ready]
    split at hp
    · rename_i hr
      exact ⟨hr, fun w' hb => hQ _ _ _ _ _ _ _ (h.world hb) hp⟩
    · exact hp.elim
  | fuel + 1, done, σ, e, b, n, M, a, w, h, hp => by
    have hset : ∀ i, done.toArray.setIfInBounds i true = (done.set i true).toArray := fun i => by simp
    unfold pcal at hp
    split at hp
    · rename_i hr
      unfold wpAnyC
      rw [← rdyL_ready, hr]
      exact fun w' hb => ⟨fun _ => hQ _ _ _ _ _ _ _ (h.world hb) hp, fun i hi => by simp at hi⟩
    · rename_i hr
      split at hp
      · rename_i i hf
        obtain ⟨o, ho, hg⟩ := firstQ_out hf
        rw [ho] at hp
        obtain ⟨hc, hk⟩ := hp
        simp only [Bool.and_eq_true] at hc
        rw [withD_eq] at hk
        cases hd : dOk N o.dst with
        | false => rw [hd] at hk; exact hk.elim
        | true =>
          rw [hd] at hk
          simp only [cond_true] at hk
          obtain ⟨u, hu, hul, hqa⟩ := qop_soundB (S := fun w' => Below w.heap.size w w') h (fun w' hb => h.world hb) (fun w' w'' hb hb' => hb.trans (hb'.mono hb.size)) hk
          rw [Array.getElem?_toList] at ho
          have hy : YieldsB P ops o (conc σ u) a w := .inl ⟨by simp [Region.wanted, hg], fun w' hb => quietAt_mono (fun _ hx => hx.2) (hqa w' hb)⟩
          refine wpAnyC_first ho (Region.noSelect_spec hns) (fun c a w hx => absurd hx (hpan _ _ _)) fuel _ a w (Region.free_spec ho hc.1) (by simpa using hc.2) hy ?_
          rw [hset]
          exact pcal_sound hQ hpan hns fuel (h.put hd hul.1 hul.2) hu
      · unfold wpAnyC
        rw [← rdyL_ready]
        refine fun w' hb => ⟨fun h0 => absurd h0 hr, fun i hi => ?_⟩
        have hk := allK_mem hp i hi
        unfold wpOp
        split at hk
        · rename_i o ho
          rw [Array.getElem?_toList] at ho
          rw [ho]
          rw [hset]
          split at hk
          · rename_i hg
            have hwt : Region.wanted o (yielded ops a.tmps) = true := by simp [Region.wanted, hg]
            simp only [hwt, if_true]
            exact .inl (mkOp_sound (h.world hb) hk fun σ e b n M a w'' hR hbw hk => ⟨hbw, pcal_sound hQ hpan hns fuel hR hk⟩)
          · exact hk.elim
        · exact hk.elim
theorem pwp_sound [O : Own T M0 w0] (hm : P.follows .mixedOrders = true) (hz : w0.k = 0) : ∀ (c : Code) {Q : Exit → Kont} {σ : Nat → Nat} {e : Env} {b : Bx} {n : Nat} {M : Mem} {a : Act} {w : World}, Rel M0 w0 N σ e b n M a w → pwp P T N c e b n M Q → c.wp P (up M0 w0 N Q) a w
  | .skip, Q, σ, e, b, n, M, a, w, h, hp => wp_skip ⟨σ, e, b, n, M, h, hp⟩
  | .label l, Q, σ, e, b, n, M, a, w, h, hp => wp_label ⟨σ, e, b, n, M, h, hp⟩
  | .region id ops false, Q, σ, e, b, n, M, a, w, h, hp => wp_region_list (pops_sound ops.toList h hp)
  | .region id ops true, Q, σ, e, b, n, M, a, w, h, hp => by
    cases hp with
    | q hl hk =>
      exact wp_region_quiet (C := fun w' => Below w.heap.size w w') hm hl ⟨rfl, rfl, rfl, Nat.le_refl _, fun _ _ => rfl⟩ (qops_sound ops.toList h hk fun e a hR hk w' hw' => ⟨σ, e, b, n, M, hR.world hw', hk⟩)
    | t m hl hk =>
      exact wp_region_quiet_tail (C := fun w' => Below w.heap.size w w') m hm hl ⟨rfl, rfl, rfl, Nat.le_refl _, fun _ _ => rfl⟩ (qops_sound (ops.toList.take m) h hk fun e a hR hk w' hw' => pops_sound (ops.toList.drop m) (hR.world hw') hk)
    | a ι E B m U hany hk hnm =>
      have hw : Rel M0 w0 N σ e b n M a { w with drawn := w.drawn + 1 } := h.world ⟨rfl, rfl, rfl, Nat.le_refl _, fun _ _ => rfl⟩
      refine wp_region_any hm ?_
      have := pany_sound (Q := up M0 w0 N Q) (fun σ e b n M a w hR hk' => ?_) ops.size hw hany
      · simpa using this
      · obtain ⟨i, hf, hU⟩ := hk'
        subst hU
        exact ⟨σ, _, _, _, _, hR.fits hf (Nat.le_trans h.kn0 hnm), hk i⟩
    | h ι E B m U hns hh hk hnm =>
      have hw : Rel M0 w0 N σ e b n M a { w with drawn := w.drawn + 1 } := h.world ⟨rfl, rfl, rfl, Nat.le_refl _, fun _ _ => rfl⟩
      refine Code.wp_mono (Q := fun ex a w => match ex with | .normal => up M0 w0 N Q .normal a w | _ => False) (fun ex a w hx => by cases ex <;> first | exact hx | exact hx.elim) (wp_region_held (S := fun w' => BelowX (baseW { w with drawn := w.drawn + 1 } σ b [] (fun _ => False)) w') hm ?_)
      have := pheld_sound (Y := fun _ => False) (Mh := M) (Mt := M) (vb := false) (Q := fun ex a w => match ex with | .normal => up M0 w0 N Q .normal a w | _ => False) (K := fun e b n' M => ∃ i, Fits (E i) (B i) m e b n' ∧ U i = M) (fun σ e b n M a w hR hk' => ?_) (fun c a w hx => hx) (W := []) hns hw (fun ad u hu => ⟨hu, fun h => h⟩) hw.le (fun k hk => hk.elim) (fun _ h => h) (fun h => by cases h) ops.size hw ⟨rfl, rfl, rfl, Nat.le_refl _, fun _ _ _ => rfl⟩ (fun i _ => rfl) (Nat.le_refl _) (fun i cs hi h0 => absurd (hw.lt i cs hi) (by omega)) (fun i cs hi _ => ⟨cs, hi⟩) (fun _ _ _ h => by cases h) hh
      · simpa using this
      · obtain ⟨i, hf, hU⟩ := hk'
        subst hU
        exact ⟨σ, _, _, _, _, hR.fits hf (Nat.le_trans h.kn0 hnm), hk i⟩
    | w W ι E B m U hns hh hk hnm =>
      have hw : Rel M0 w0 N σ e b n M a { w with drawn := w.drawn + 1 } := h.world ⟨rfl, rfl, rfl, Nat.le_refl _, fun _ _ => rfl⟩
      refine Code.wp_mono (Q := fun ex a w => match ex with | .normal => up M0 w0 N Q .normal a w | _ => False) (fun ex a w hx => by cases ex <;> first | exact hx | exact hx.elim) (wp_region_held (S := fun w' => BelowX (baseW { w with drawn := w.drawn + 1 } σ b W (fun _ => False)) w') hm ?_)
      have := pheld_sound (Y := fun _ => False) (Mh := M) (Mt := M) (vb := false) (Q := fun ex a w => match ex with | .normal => up M0 w0 N Q .normal a w | _ => False) (K := fun e b n' M => ∃ i, Fits (E i) (B i) m e b n' ∧ U i = M) (fun σ e b n M a w hR hk' => ?_) (fun c a w hx => hx) (W := W) hns hw (fun ad u hu => ⟨hu, fun h => h⟩) hw.le (fun k hk => hk.elim) (fun _ h => h) (fun h => by cases h) ops.size hw ⟨rfl, rfl, rfl, Nat.le_refl _, fun _ _ _ => rfl⟩ (fun i _ => rfl) (Nat.le_refl _) (fun i cs hi h0 => absurd (hw.lt i cs hi) (by omega)) (fun i cs hi _ => ⟨cs, hi⟩) (fun _ _ _ h => by cases h) hh
      · simpa using this
      · obtain ⟨i, hf, hU⟩ := hk'
        subst hU
        exact ⟨σ, _, _, _, _, hR.fits hf (Nat.le_trans h.kn0 hnm), hk i⟩
    | c ι E B m U hns hh hk hnm =>
      have hw : Rel M0 w0 N σ e b n M a { w with drawn := w.drawn + 1 } := h.world ⟨rfl, rfl, rfl, Nat.le_refl _, fun _ _ => rfl⟩
      refine Code.wp_mono (Q := fun ex a w => match ex with | .normal => up M0 w0 N Q .normal a w | _ => False) (fun ex a w hx => by cases ex <;> first | exact hx | exact hx.elim) (wp_region_C hm ?_)
      have := pcal_sound (Q := fun ex a w => match ex with | .normal => up M0 w0 N Q .normal a w | _ => False) (K := fun e b n' M => ∃ i, Fits (E i) (B i) m e b n' ∧ U i = M) (fun σ e b n M a w hR hk' => ?_) (fun c a w hx => hx) hns ops.size hw hh
      · simpa using this
      · obtain ⟨i, hf, hU⟩ := hk'
        subst hU
        exact ⟨σ, _, _, _, _, hR.fits hf (Nat.le_trans h.kn0 hnm), hk i⟩
    | b W ι E B m U hwr hns hh hk hnm =>
      classical
      have hw : Rel M0 w0 N σ e b n M a { w with drawn := w.drawn + 1 } := h.world ⟨rfl, rfl, rfl, Nat.le_refl _, fun _ _ => rfl⟩
      refine Code.wp_mono (Q := fun ex a w => match ex with | .normal => up M0 w0 N Q .normal a w | _ => False) (fun ex a w hx => by cases ex <;> first | exact hx | exact hx.elim) (wp_region_held (S := fun w' => BelowX (baseW { w with drawn := w.drawn + 1 } σ b W (fun k => w0.own k ∧ ∃ ad u, M ad = some u ∧ ad.block = k)) w') hm ?_)
      have := pheld_sound (Y := fun k => w0.own k ∧ ∃ ad u, M ad = some u ∧ ad.block = k) (Mh := fun _ => none) (Mt := fun ad => if w0.own ad.block then none else M ad) (vb := true) (Q := fun ex a w => match ex with | .normal => up M0 w0 N Q .normal a w | _ => False) (K := fun e b n' M => ∃ i, Fits (E i) (B i) m e b n' ∧ U i = M) (fun σ e b n M a w hR hk' => ?_) (fun c a w hx => hx) (W := W) hns hw (fun ad u hu => by
        by_cases ho : w0.own ad.block
        · simp only [if_pos ho] at hu; cases hu
        · simp only [if_neg ho] at hu; exact ⟨hu, fun hy => ho hy.1⟩) (fun ad u hu hx => by
        have ho : ¬ w0.own ad.block := fun ho => by
          rcases ho with ho | ho
          · have := O.lt hwr ad u hu; omega
          · exact hx ho
        simp only [if_neg ho]
        exact hw.le ad u hu hx) (fun k ⟨hk, ad, u, h1, h2⟩ => ⟨hk, fun i cs hi => h2 ▸ hw.dis i cs hi ad u h1⟩) (fun ht hq => take_none ht hq) (fun _ => hwr) ops.size hw ⟨rfl, rfl, rfl, Nat.le_refl _, fun _ _ _ => rfl⟩ (fun i _ => rfl) (Nat.le_refl _) (fun i cs hi h0 => absurd (hw.lt i cs hi) (by omega)) (fun i cs hi _ => ⟨cs, hi⟩) (fun ad u hu _ ho => .inl (.inr ⟨ho, ad, u, hu, rfl⟩)) hh
      · simpa using this
      · obtain ⟨i, hf, hU⟩ := hk'
        subst hU
        exact ⟨σ, _, _, _, _, hR.fits hf (Nat.le_trans h.kn0 hnm), hk i⟩
  | .seq x y, Q, σ, e, b, n, M, a, w, h, hp => by
    have go : pwp P T N x e b n M (fun ex e b n M => match ex with | .normal => pwp P T N y e b n M Q | ex => Q ex e b n M) → (Code.seq x y).wp P (up M0 w0 N Q) a w := fun hp => by
      refine wp_seq (Code.wp_mono (fun ex a w hx => ?_) (pwp_sound hm hz x h hp))
      obtain ⟨σ, e, b, n, M, hR, hq⟩ := hx
      cases ex <;> first | exact pwp_sound hm hz y hR hq | exact ⟨σ, e, b, n, M, hR, hq⟩
    unfold pwp at hp
    split at hp
    · exact go hp
    · cases hp with
      | go hp => exact go hp
      | cut ι E B m U hx hk hnm =>
        refine wp_seq (Code.wp_mono (fun ex a w hx => ?_) (pwp_sound hm hz x h hx))
        obtain ⟨σ', e', b', n', M', hR, hq⟩ := hx
        cases ex
        case normal =>
          obtain ⟨i, hf, hU⟩ := hq
          subst hU
          exact pwp_sound hm hz y (hR.fits hf (Nat.le_trans h.kn0 hnm)) (hk i)
        all_goals exact ⟨σ', e', b', n', M', hR, hq⟩
  | .cond c x y, Q, σ, e, b, n, M, a, w, h, hp => by
    unfold pwp at hp
    split at hp
    · rename_i t ht
      cases t with
      | true => exact wp_cond_true (h.evV ht) (pwp_sound hm hz x h (hp.yes rfl))
      | false => exact wp_cond_false (h.evV ht) (pwp_sound hm hz y h (hp.no rfl))
    · exact hp.elim
  | .block id c, Q, σ, e, b, n, M, a, w, h, hp => by
    refine wp_block (Code.wp_mono (fun ex a w hx => ?_) (pwp_sound hm hz c h hp))
    obtain ⟨σ, e, b, n, M, hR, hq⟩ := hx
    cases ex <;> first | exact ⟨σ, e, b, n, M, hR, hq⟩ | skip
    rename_i id'
    simp only [Exit.inBlock]
    simp only at hq
    cases hk : Nat.beq id' id with
    | true =>
      rw [hk] at hq
      rw [if_pos (Nat.eq_of_beq_eq_true hk)]
      exact ⟨σ, e, b, n, M, hR, hq⟩
    | false =>
      rw [hk] at hq
      rw [if_neg (by intro he; subst he; simp at hk)]
      exact ⟨σ, e, b, n, M, hR, hq⟩
  | .loop c, Q, σ, e, b, n, M, a, w, h, hp => by
    cases hp with
    | mk ι E B U μ i h0 hr =>
      obtain ⟨hi, hU⟩ := h0
      refine wp_loop_ghost (fun m a w => ∃ σ i, μ i = m ∧ Rel M0 w0 N σ (E i) (B i) n (U i) a w) (μ i) ⟨σ, i, rfl, by rw [hU]; exact h.fits hi h.kn0⟩ fun m a w hI => ?_
      obtain ⟨σ, i, rfl, hR⟩ := hI
      refine Code.wp_mono (fun ex a' w' hx => ?_) (pwp_sound hm hz c hR (hr i))
      obtain ⟨σ', e', b', n', M', hR', hq⟩ := hx
      cases ex with
      | normal =>
        obtain ⟨i', hf, hU', hlt⟩ := hq
        exact ⟨μ i', hlt, σ', i', rfl, by rw [hU']; exact hR'.fits hf hR.kn0⟩
      | _ => exact ⟨σ', e', b', n', M', hR', hq⟩
    | sw r m ι E B U μ i q h0 hr =>
      obtain ⟨hi, hU⟩ := h0
      refine wp_loop_ghost (fun p a w => ∃ σ i, μ i = p ∧ Rel M0 w0 N σ (E i) (B i) m (U i) a w) (μ i) ⟨_, i, rfl, by rw [hU]; exact h.swap hi hz⟩ fun p a w hI => ?_
      obtain ⟨σ, i, rfl, hR⟩ := hI
      refine Code.wp_mono (fun ex a' w' hx => ?_) (pwp_sound hm hz c hR (hr i))
      obtain ⟨σ', e', b', n', M', hR', hq⟩ := hx
      cases ex with
      | normal =>
        obtain ⟨i', q', hf, hU', hlt⟩ := hq
        exact ⟨μ i', hlt, _, i', rfl, by rw [hU']; exact hR'.swap hf hz⟩
      | _ => exact ⟨σ', e', b', n', M', hR', hq⟩
  | .exit id, Q, σ, e, b, n, M, a, w, h, hp => wp_exit ⟨σ, e, b, n, M, h, hp⟩
  | .ret, Q, σ, e, b, n, M, a, w, h, hp => wp_ret ⟨σ, e, b, n, M, h, hp⟩
  | .rangeFunc .., Q, σ, e, b, n, M, a, w, h, hp => by simp [pwp] at hp
  | .scope .., Q, σ, e, b, n, M, a, w, h, hp => by simp [pwp] at hp
  | .goto .., Q, σ, e, b, n, M, a, w, h, hp => by simp [pwp] at hp
  | .refuse .., Q, σ, e, b, n, M, a, w, h, hp => by simp [pwp] at hp
end
/-- The results, read off at the end. -/
def outs (P : Program) (e : Env) (b : Bx) : List ResultVar → (List PV → Prop) → Prop
  | [], K => K []
  | .tmp t :: r, K => match look e t with | some (.v u) => outs P e b r (fun l => K (.v u :: l)) | some (.s i len cap z) => outs P e b r (fun l => K (.s i len cap z :: l)) | some (.p i q) => outs P e b r (fun l => K (.p i q :: l)) | some (.e ad q) => outs P e b r (fun l => K (.v (.pointer (some (ad.add q))) :: l)) | _ => False
  | .cell x t :: r, K =>
    match look e x with
    | some (.p i q) =>
      match lookB b i with
      | some cs =>
        match prun P (aggSize t) with
        | some none => match cs[q]? with | some u => outs P e b r fun l => K (.v u :: l) | none => False
        | some (some m) => bif Nat.ble (q + m) cs.length then nfK ((cs.drop q).take m) fun vs => outs P e b r (fun l => K (.v (.agg vs.toArray) :: l)) else False
        | none => False
      | none => False
    | _ => False
def out1 (tmps : Array Value) : ResultVar → Sem Value
  | .tmp t => pure (tmps.getD t undef)
  | .cell x t => do loadVar t (← asAddr (tmps.getD x undef))
def pack : List Value → Value
  | [u] => u
  | l => .tuple l.toArray
def args0 : Nat → List Value → Env
  | _, [] => []
  | k, v :: r => (k, .v v) :: args0 (k + 1) r
theorem args0_look : ∀ (l : List Value) (k t : Nat) (x : PV), look (args0 k l) t = some x → k ≤ t ∧ ∃ u, l[t - k]? = some u ∧ x = .v u
  | [], k, t, x, h => by simp [args0, look] at h
  | v :: r, k, t, x, h => by
    simp only [args0, look] at h
    cases hk : Nat.beq k t with
    | true =>
      rw [hk] at h
      simp only [cond_true, Option.some.injEq] at h
      have := Nat.eq_of_beq_eq_true hk
      subst this
      exact ⟨Nat.le_refl _, v, by simp, h.symm⟩
    | false =>
      rw [hk] at h
      obtain ⟨h1, u, h2, h3⟩ := args0_look r (k + 1) t x h
      exact ⟨by omega, u, by rw [show t - k = (t - (k + 1)) + 1 by omega]; simpa using h2, h3⟩
def concL (σ : Nat → Nat) : List PV → List Value
  | [] => []
  | x :: r => conc σ x :: concL σ r
/-- One value, whatever the addresses. -/
def valL : List PV → (List Value → Prop) → Prop
  | [], K => K []
  | .v u :: r, K => valL r fun l => K (u :: l)
  | _, _ => False
theorem valL_out {σ : Nat → Nat} : ∀ {l : List PV} {K : List Value → Prop}, valL l K → K (concL σ l)
  | [], K, h => h
  | .v u :: r, K, h => valL_out (l := r) (K := fun l => K (u :: l)) h
  | .p .. :: r, K, h => h.elim
  | .e .. :: r, K, h => h.elim
  | .s .. :: r, K, h => h.elim
  | .q .. :: r, K, h => h.elim
def BoxIn (M : Mem) (g : Nat → Nat) : Bx → Prop
  | [] => True
  | (i, cs) :: r => (∀ o u, cs[o]? = some u → M ⟨g i, o, none⟩ = some u) ∧ BoxIn M g r
/-- What is owed at the end of a function that hands memory back. -/
inductive RetK (M : Mem) (b : Bx) (l : List PV) (R : Mem → Value → Prop) : Prop where
  | mk (h : ∀ (g : Nat → Nat) (M' : Mem), Le M M' → (∀ i cs, lookB b i = some cs → ∀ o u, cs[o]? = some u → M' ⟨g i, o, none⟩ = some u) → R M' (pack (concL g l)))
  | fr (h : ∀ (g : Nat → Nat) (M' : Mem), Le M M' → (∀ i cs, lookB b i = some cs → (∀ ad u, M ad = some u → ad.block ≠ g i) ∧ ∀ o u, cs[o]? = some u → M' ⟨g i, o, none⟩ = some u) → R M' (pack (concL g l)))
  | fc (h : ∀ (g : Nat → Nat) (M' : Mem), Le M M' → (∀ i cs, lookB b i = some cs → (∀ ad u, M ad = some u → ad.block ≠ g i) ∧ ∀ o u, cs[o]? = some u → M' ⟨g i, o, none⟩ = some u) → (∀ i len cap z cs, PV.s i len cap z ∈ l → lookB b i = some cs → ∀ o, o < cap * z → ∃ u, M' ⟨g i, o, none⟩ = some u) → R M' (pack (concL g l)))
theorem RetK.all {M : Mem} {b : Bx} {l : List PV} {R : Mem → Value → Prop} (h : RetK M b l R) (g : Nat → Nat) (M' : Mem) (hl : Le M M') (hb : ∀ i cs, lookB b i = some cs → (∀ ad u, M ad = some u → ad.block ≠ g i) ∧ ∀ o u, cs[o]? = some u → M' ⟨g i, o, none⟩ = some u)
    (hc : ∀ i len cap z cs, PV.s i len cap z ∈ l → lookB b i = some cs → ∀ o, o < cap * z → ∃ u, M' ⟨g i, o, none⟩ = some u) : R M' (pack (concL g l)) := by
  cases h with
  | mk h => exact h g M' hl fun i cs hi => (hb i cs hi).2
  | fr h => exact h g M' hl hb
  | fc h => exact h g M' hl hb hc
section
variable {P : Program} {T : Tab P} {M0 M : Mem} {w0 : Base} {N : Nat}
theorem outs_soundG {σ : Nat → Nat} {e : Env} {b : Bx} {n : Nat} {a : Act} {w : World} (h : Rel M0 w0 N σ e b n M a w) : ∀ (rs : List ResultVar) {K : List PV → Prop}, outs P e b rs K →
    ∃ l, K l ∧ (rs.mapM (out1 a.tmps)).run P w = .ok (concL σ l) w ∧ ∀ x ∈ l, Good w0 σ b w x
  | [], K, hk => ⟨[], hk, rfl, fun x hx => by cases hx⟩
  | .tmp t :: r, K, hk => by
    have key : ∀ {x : PV} {K : List PV → Prop}, look e t = some x → outs P e b r K → ∃ l, K l ∧ ((ResultVar.tmp t :: r).mapM (out1 a.tmps)).run P w = .ok (conc σ x :: concL σ l) w ∧ ∀ y ∈ x :: l, Good w0 σ b w y := by
      intro x K hu hk
      obtain ⟨l, hl, hr, hgd⟩ := outs_soundG h r hk
      refine ⟨l, hl, ?_, fun y hy => by
        rcases List.mem_cons.mp hy with hy | hy
        · subst hy; exact h.sl t _ hu
        · exact hgd y hy⟩
      have ht := h.tmp t _ hu
      rw [List.mapM_cons, Sem.run_bind]
      simp only [out1, Sem.run_bind, Sem.run_pure, Result.andThen_ok]
      rw [hr, ht]
      simp
    unfold outs at hk
    split at hk
    · rename_i u hu
      obtain ⟨l, hl, hr, hgd⟩ := key hu hk
      exact ⟨.v u :: l, hl, hr, hgd⟩
    · rename_i i len cap z hu
      obtain ⟨l, hl, hr, hgd⟩ := key hu hk
      exact ⟨.s i len cap z :: l, hl, hr, hgd⟩
    · rename_i i q hu
      obtain ⟨l, hl, hr, hgd⟩ := key hu hk
      exact ⟨.p i q :: l, hl, hr, hgd⟩
    · rename_i ad q hu
      obtain ⟨l, hl, hr, hgd⟩ := key hu hk
      exact ⟨.v (.pointer (some (ad.add q))) :: l, hl, hr, fun y hy => by
        rcases List.mem_cons.mp hy with hy | hy
        · subst hy; trivial
        · exact hgd y (List.mem_cons_of_mem _ hy)⟩
    · exact hk.elim
  | .cell x t :: r, K, hk => by
    have key : ∀ {i q : Nat} {u : Value}, look e x = some (.p i q) → (loadVar t ⟨σ i, q, none⟩).run P w = .ok u w → (out1 a.tmps (.cell x t)).run P w = .ok u w := by
      intro i q u hx hl
      simp only [out1]
      rw [h.tmp x _ hx]
      simp only [conc, asAddr, Sem.run_bind, Sem.run_pure, Result.andThen_ok]
      exact hl
    unfold outs at hk
    split at hk
    · rename_i i q hx
      split at hk
      · rename_i cs hi
        split at hk
        · rename_i hs
          split at hk
          · rename_i u hu
            obtain ⟨l, hl, hr, hgd⟩ := outs_soundG h r hk
            refine ⟨.v u :: l, hl, ?_, fun y hy => by
              rcases List.mem_cons.mp hy with hy | hy
              · subst hy; trivial
              · exact hgd y hy⟩
            rw [List.mapM_cons, Sem.run_bind, key hx (loadVar_one hs (h.cellB hi hu))]
            simp only [Sem.run_bind, Result.andThen_ok, hr, Sem.run_pure]
            rfl
          · exact hk.elim
        · rename_i m hs
          cases hc : Nat.ble (q + m) cs.length with
          | false => rw [hc] at hk; exact hk.elim
          | true =>
            rw [hc] at hk
            simp only [cond_true, nfK_eq] at hk
            have hle : q + m ≤ cs.length := Nat.le_of_ble_eq_true hc
            obtain ⟨l, hl, hr, hgd⟩ := outs_soundG h r hk
            refine ⟨.v _ :: l, hl, ?_, fun y hy => by
              rcases List.mem_cons.mp hy with hy | hy
              · subst hy; trivial
              · exact hgd y hy⟩
            have hv := loadVar_agg (P := P) (t := t) (w := w) (ad := ⟨σ i, q, none⟩) (vs := (cs.drop q).take m) (by rw [hs]; simp; omega) (fun j u hu => by
              rw [List.getElem?_take] at hu
              split at hu
              · rw [List.getElem?_drop] at hu
                have := h.cellB hi hu
                unfold Addr.add
                split
                · rename_i h0; subst h0; exact this
                · exact this
              · simp at hu)
            rw [List.mapM_cons, Sem.run_bind, key hx hv]
            simp only [Sem.run_bind, Result.andThen_ok, hr, Sem.run_pure]
            rfl
        · exact hk.elim
      · exact hk.elim
    · exact hk.elim
theorem outs_sound {σ : Nat → Nat} {e : Env} {b : Bx} {n : Nat} {a : Act} {w : World} (h : Rel M0 w0 N σ e b n M a w) (rs : List ResultVar) {K : List PV → Prop} (hk : outs P e b rs K) :
    ∃ l, K l ∧ (rs.mapM (out1 a.tmps)).run P w = .ok (concL σ l) w := by
  obtain ⟨l, h1, h2, _⟩ := outs_soundG h rs hk
  exact ⟨l, h1, h2⟩
theorem results_run {fn : Func} {tmps : Array Value} {l : List Value} {w : World} (hrun : (fn.results.toList.mapM (out1 tmps)).run P w = .ok l w) : (results fn tmps).run P w = .ok (pack l) w := by
  have he : results fn tmps = (fn.results.mapM (out1 tmps)) >>= fun vs => pure (if h : vs.size = 1 then vs[0] else .tuple vs) := by
    have hf : (fun | .tmp t => pure (tmps.getD t undef) | .cell x t => do loadVar t (← asAddr (tmps.getD x undef)) : ResultVar → Sem Value) = out1 tmps := by
      funext x
      cases x <;> rfl
    rw [← hf]
    rfl
  have hmap : (fn.results.mapM (out1 tmps)).run P w = .ok l.toArray w := by
    rw [Array.mapM_eq_mapM_toList, map_eq_pure_bind, Sem.run_bind, hrun]
    rfl
  rw [he, Sem.run_bind, hmap]
  simp only [Result.andThen_ok, Sem.run_pure]
  match l with
  | [] => simp [pack]
  | [u] => simp [pack]
  | u :: u' :: r => simp [pack]
theorem BelowX.old {w w' : World} {k : Nat} {g : Nat → Nat} (h : BelowX ⟨w, fun _ => False, k, g⟩ w') : Below w.heap.size w w' := ⟨h.os, h.tape, h.output, h.size, fun i hi => h.block i hi (fun hf => hf)⟩
theorem rel_start {f : FuncId} {fn : Func} {l : List Value} {w : World} (hN : l.length ≤ fn.ntmps) (hk : Know M w) :
    Rel M ⟨w, fun _ => False, 0, fun _ => 0⟩ fn.ntmps (fun _ => 0) (args0 0 l) [] 0 M { tmps := l.toArray ++ Array.replicate (fn.ntmps - l.toArray.size) undef, defers := [] } w := by
  refine ⟨by simp; omega, fun t x hx => ?_, fun t x hx i hi => ?_, rfl, ⟨rfl, rfl, rfl, Nat.le_refl _, fun _ _ _ => rfl⟩, hk, fun _ _ h _ => h, fun ad u hu => .inl hu, fun i cs hi => by simp [lookB] at hi, fun i cs hi => by simp [lookB] at hi, fun i j ci cj hi => by simp [lookB] at hi, fun i cs hi => by simp [lookB] at hi, fun t x hx => by
    obtain ⟨_, u, hu, rfl⟩ := args0_look l 0 t x hx
    trivial, fun i hi => absurd hi (Nat.not_lt_zero i), Nat.le_refl 0, fun ad u hu h0 => by rcases h0 with h0 | h0; (rw [hu] at h0; cases h0); exact h0.elim⟩
  · obtain ⟨_, u, hu, rfl⟩ := args0_look l 0 t x hx
    simp only [Nat.sub_zero] at hu
    have hlt : t < l.length := by
      rcases Nat.lt_or_ge t l.length with h1 | h1
      · exact h1
      · rw [List.getElem?_eq_none h1] at hu; simp at hu
    simp only [conc, Array.getD_eq_getD_getElem?]
    rw [Array.getElem?_append_left (by simpa using hlt)]
    simp [hu]
  · obtain ⟨_, u, hu, rfl⟩ := args0_look l 0 t x hx
    cases hi
theorem ans_of (T : Tab P) {f : FuncId} {fn : Func} {c : Code} {l : List Value} {v : Value} (hm : P.follows .mixedOrders = true) (hf : P.funcs[f]? = some fn) (hb : fn.body = some c) (hg : isGo P f = true)
    (hN : l.length ≤ fn.ntmps) (h : pwp P T fn.ntmps c (args0 0 l) [] 0 M fun ex e b n M => match ex with | .normal | .ret => outs P e b fn.results.toList fun r => valL r fun r => pack r = v | _ => False) (hT : T.wr = true → ∀ ad u, T.base ad = none → M ad = some u → False := by exact fun h => Bool.noConfusion h) : Ans P M f l.toArray v := by
  refine ⟨hg, fun w hw => calls_of_wp hf hb ?_⟩
  haveI : Own T M ⟨w, fun _ => False, 0, fun _ => 0⟩ := ⟨fun hw ad u h1 h2 => hT hw ad u h1 h2, fun _ ad u h => block_lt_of_cell (hw ad u h)⟩
  refine Code.wp_mono (fun ex a w' hx => ?_) (pwp_sound hm rfl c (rel_start (f := f) hN hw) h)
  obtain ⟨σ, e, b, n, M', hR, hq⟩ := hx
  have fin : outs P e b fn.results.toList (fun r => valL r fun r => pack r = v) → bodyPost P fn (fun e w' => e = .returned v ∧ Below w.heap.size w w') .ret a w' := by
    intro hq
    obtain ⟨r, hr, hrun⟩ := outs_sound hR _ hq
    have := valL_out (σ := σ) hr
    exact bodyPost_ret (v := v) (by rw [← this]; exact results_run hrun) hR.defers ⟨rfl, hR.below.old⟩
  cases ex <;> first | exact fin hq | exact hq.elim
theorem ansR_of (T : Tab P) {f : FuncId} {fn : Func} {c : Code} {l : List Value} {R : Mem → Value → Prop} (hm : P.follows .mixedOrders = true) (hf : P.funcs[f]? = some fn) (hb : fn.body = some c) (hg : isGo P f = true)
    (hN : l.length ≤ fn.ntmps) (h : pwp P T fn.ntmps c (args0 0 l) [] 0 M fun ex e b n M => match ex with | .normal | .ret => outs P e b fn.results.toList fun r => RetK M b r R | _ => False) (hT : T.wr = true → ∀ ad u, T.base ad = none → M ad = some u → False := by exact fun h => Bool.noConfusion h) : AnsR P M f l.toArray R := by
  refine ⟨hg, fun w hw => calls_of_wp hf hb ?_⟩
  haveI : Own T M ⟨w, fun _ => False, 0, fun _ => 0⟩ := ⟨fun hw ad u h1 h2 => hT hw ad u h1 h2, fun _ ad u h => block_lt_of_cell (hw ad u h)⟩
  refine Code.wp_mono (fun ex a w' hx => ?_) (pwp_sound hm rfl c (rel_start (f := f) hN hw) h)
  obtain ⟨σ, e, b, n, M1, hR, hq⟩ := hx
  have fin : outs P e b fn.results.toList (fun r => RetK M1 b r R) → bodyPost P fn (fun e w' => ∃ v M', e = .returned v ∧ Le M M' ∧ Know M' w' ∧ (∀ ad u, M' ad = some u → M ad = some u ∨ (w.heap.size ≤ ad.block ∧ Pl w' ad.block)) ∧ R M' v ∧ Below w.heap.size w w') .ret a w' := by
    intro hq
    obtain ⟨r, hr, hrun, hgd⟩ := outs_soundG hR _ hq
    classical
    have hM : ∀ ad u, (match M1 ad with | some u => some u | none => if w.heap.size ≤ ad.block ∧ Pl w' ad.block then w'.cell? ad else none) = some u → M1 ad = some u ∨ ((w.heap.size ≤ ad.block ∧ Pl w' ad.block) ∧ w'.cell? ad = some u) := by
      intro ad u hu
      cases hm : M1 ad with
      | some u' => rw [hm] at hu; exact .inl hu
      | none =>
        rw [hm] at hu
        simp only at hu
        split at hu
        · rename_i hb; exact .inr ⟨hb, hu⟩
        · simp at hu
    have hle : Le M1 fun ad => match M1 ad with | some u => some u | none => if w.heap.size ≤ ad.block ∧ Pl w' ad.block then w'.cell? ad else none := fun ad u hu => by simp only [hu]
    refine bodyPost_ret (v := pack (concL σ r)) (results_run hrun) hR.defers ⟨_, _, rfl, fun ad u hu => hle _ _ (hR.le ad u hu (fun h => h)), fun ad u hu => ?_, fun ad u hu => ?_, hr.all σ _ hle (fun i cs hi => ⟨fun ad u hm => hR.dis i cs hi ad u hm, fun o u hu => ?_⟩) (fun i len cap z cs hs hi o ho => ?_), hR.below.old⟩
    · rcases hM ad u hu with h1 | h1
      · exact hR.kn ad u h1
      · exact h1.2
    · rcases hM ad u hu with h1 | h1
      · cases h0 : M ad with
        | some u0 =>
          have := hR.le ad u0 h0 (fun h => h)
          rw [h1] at this
          exact .inl this.symm
        | none =>
          refine .inr ⟨?_, hR.nf ad u h1 (.inl h0)⟩
          rcases hR.nw ad u h1 with h2 | h2
          · rw [h0] at h2; cases h2
          · exact h2.resolve_right (fun hf => hf)
      · exact .inr h1.1
    · cases hm : M1 ⟨σ i, o, none⟩ with
      | some u' => exact absurd rfl (hR.dis i cs hi _ _ hm)
      | none => simp only [hm]; rw [if_pos ⟨(hR.box i cs hi).1.resolve_right (fun hf => hf), let ⟨_, ty, ex, g⟩ := hR.box i cs hi; ⟨_, ty, g⟩⟩]; exact hR.cellB hi hu
    · obtain ⟨_, _, c, ty, g3, g4⟩ := hgd _ hs cs hi
      have hcell : w'.cell? ⟨σ i, o, none⟩ = some c[o] := by rw [← g4] at ho; simp [World.cell?, g3, ho]
      cases hm : M1 ⟨σ i, o, none⟩ with
      | some u' => exact absurd rfl (hR.dis i cs hi _ _ hm)
      | none => exact ⟨c[o], by simp only [hm]; rw [if_pos ⟨(hR.box i cs hi).1.resolve_right (fun hf => hf), ⟨c, ty, g3⟩⟩]; exact hcell⟩
  cases ex <;> first | exact fin hq | exact hq.elim
/-- An argument: an address is one that may be read. -/
def argPV : Value → PV
  | .pointer (some ad) => .e ad 0
  | u => .v u
def argsC : Nat → List Value → Env
  | _, [] => []
  | k, v :: r => (k, argPV v) :: argsC (k + 1) r
theorem argPV_conc (σ : Nat → Nat) (u : Value) : conc σ (argPV u) = u ∧ idOf (argPV u) = none ∧ ∀ w0 b w, Good w0 σ b w (argPV u) := by
  unfold argPV
  split
  · exact ⟨by simp [conc, Addr.add], rfl, fun _ _ _ => trivial⟩
  · exact ⟨rfl, rfl, fun _ _ _ => trivial⟩
theorem argsC_look : ∀ (l : List Value) (k t : Nat) (x : PV), look (argsC k l) t = some x → k ≤ t ∧ ∃ u, l[t - k]? = some u ∧ x = argPV u
  | [], k, t, x, h => by simp [argsC, look] at h
  | v :: r, k, t, x, h => by
    simp only [argsC, look] at h
    cases hk : Nat.beq k t with
    | true =>
      rw [hk] at h
      simp only [cond_true, Option.some.injEq] at h
      have := Nat.eq_of_beq_eq_true hk
      subst this
      exact ⟨Nat.le_refl _, v, by simp, h.symm⟩
    | false =>
      rw [hk] at h
      obtain ⟨h1, u, h2, h3⟩ := argsC_look r (k + 1) t x h
      exact ⟨by omega, u, by rw [show t - k = (t - (k + 1)) + 1 by omega]; simpa using h2, h3⟩
theorem rel_startC {f : FuncId} {fn : Func} {l : List Value} {w : World} (hN : l.length ≤ fn.ntmps) (hk : Know M w) :
    Rel M ⟨w, fun _ => False, 0, fun _ => 0⟩ fn.ntmps (fun _ => 0) (argsC 0 l) [] 0 M { tmps := l.toArray ++ Array.replicate (fn.ntmps - l.toArray.size) undef, defers := [] } w := by
  have h0 := rel_start (f := f) (fn := fn) hN hk
  refine ⟨h0.size, fun t x hx => ?_, fun t x hx i hi => ?_, rfl, h0.below, hk, h0.le, h0.nw, h0.lt, h0.box, h0.inj, h0.dis, fun t x hx => ?_, h0.fix, h0.kn0, h0.nf⟩
  · obtain ⟨_, u, hu, rfl⟩ := argsC_look l 0 t x hx
    simp only [Nat.sub_zero] at hu
    have hlt : t < l.length := by
      rcases Nat.lt_or_ge t l.length with h1 | h1
      · exact h1
      · rw [List.getElem?_eq_none h1] at hu; simp at hu
    rw [(argPV_conc _ u).1]
    simp only [Array.getD_eq_getD_getElem?]
    rw [Array.getElem?_append_left (by simpa using hlt)]
    simp [hu]
  · obtain ⟨_, u, hu, rfl⟩ := argsC_look l 0 t x hx
    rw [(argPV_conc (fun _ => 0) u).2.1] at hi
    cases hi
  · obtain ⟨_, u, hu, rfl⟩ := argsC_look l 0 t x hx
    exact (argPV_conc _ u).2.2 _ _ _
/-- As ans_of; addresses among the arguments may be read. -/
theorem ansC_of (T : Tab P) {f : FuncId} {fn : Func} {c : Code} {l : List Value} {v : Value} (hm : P.follows .mixedOrders = true) (hf : P.funcs[f]? = some fn) (hb : fn.body = some c) (hg : isGo P f = true)
    (hN : l.length ≤ fn.ntmps) (h : pwp P T fn.ntmps c (argsC 0 l) [] 0 M fun ex e b n M => match ex with | .normal | .ret => outs P e b fn.results.toList fun r => valL r fun r => pack r = v | _ => False) (hT : T.wr = true → ∀ ad u, T.base ad = none → M ad = some u → False := by exact fun h => Bool.noConfusion h) : Ans P M f l.toArray v := by
  refine ⟨hg, fun w hw => calls_of_wp hf hb ?_⟩
  haveI : Own T M ⟨w, fun _ => False, 0, fun _ => 0⟩ := ⟨fun hw ad u h1 h2 => hT hw ad u h1 h2, fun _ ad u h => block_lt_of_cell (hw ad u h)⟩
  refine Code.wp_mono (fun ex a w' hx => ?_) (pwp_sound hm rfl c (rel_startC (f := f) hN hw) h)
  obtain ⟨σ, e, b, n, M', hR, hq⟩ := hx
  have fin : outs P e b fn.results.toList (fun r => valL r fun r => pack r = v) → bodyPost P fn (fun e w' => e = .returned v ∧ Below w.heap.size w w') .ret a w' := by
    intro hq
    obtain ⟨r, hr, hrun⟩ := outs_sound hR _ hq
    have := valL_out (σ := σ) hr
    exact bodyPost_ret (v := v) (by rw [← this]; exact results_run hrun) hR.defers ⟨rfl, hR.below.old⟩
  cases ex <;> first | exact fin hq | exact hq.elim
theorem ansW_of (T : Tab P) {f : FuncId} {fn : Func} {c : Code} {l : List Value} {R : Value → Mem → Prop} (hm : P.follows .mixedOrders = true) (hf : P.funcs[f]? = some fn) (hb : fn.body = some c) (hg : isGo P f = true)
    (hN : l.length ≤ fn.ntmps) (h : pwp P (T.at fun _ => none) fn.ntmps c (args0 0 l) [] 0 M fun ex e b n M' => match ex with | .normal | .ret => outs P e b fn.results.toList fun r => AndK (∀ ad u, M' ad = some u → ∃ u0, M ad = some u0) (valL r fun r => R (pack r) M') | _ => False) : AnsW P M f l.toArray R := by
  refine ⟨hg, fun w hw hpl => calls_of_wp hf hb ?_⟩
  haveI : Own (T.at fun _ => none) M ⟨w, fun k => ∃ ad u, M ad = some u ∧ ad.block = k, 0, fun _ => 0⟩ := ⟨fun _ ad u _ h2 => ⟨ad, u, h2, rfl⟩, fun _ ad u h => block_lt_of_cell (hw ad u h)⟩
  have h0 := rel_start (f := f) (fn := fn) hN hw
  have hr : Rel M ⟨w, fun k => ∃ ad u, M ad = some u ∧ ad.block = k, 0, fun _ => 0⟩ fn.ntmps (fun _ => 0) (args0 0 l) [] 0 M { tmps := l.toArray ++ Array.replicate (fn.ntmps - l.toArray.size) undef, defers := [] } w :=
    ⟨h0.size, h0.tmp, h0.elt, h0.defers, ⟨rfl, rfl, rfl, Nat.le_refl _, fun _ _ _ => rfl⟩, hw, fun _ _ h _ => h, fun ad u hu => .inl hu, fun i cs hi => by simp [lookB] at hi, fun i cs hi => by simp [lookB] at hi, fun i j ci cj hi => by simp [lookB] at hi, fun i cs hi => by simp [lookB] at hi, fun t x hx => by
      obtain ⟨_, u, hu, rfl⟩ := args0_look l 0 t x hx
      trivial, fun i hi => absurd hi (Nat.not_lt_zero i), Nat.le_refl 0, fun ad u hu _ => hpl ad u hu⟩
  refine Code.wp_mono (fun ex a w' hx => ?_) (pwp_sound hm rfl c hr h)
  obtain ⟨σ, e, b, n, M1, hR, hq⟩ := hx
  have fin : outs P e b fn.results.toList (fun r => AndK (∀ ad u, M1 ad = some u → ∃ u0, M ad = some u0) (valL r fun r => R (pack r) M1)) → bodyPost P fn (fun e w' => ∃ v M', e = .returned v ∧ Know M' w' ∧ (∀ ad u, M' ad = some u → ∃ u0, M ad = some u0) ∧ (∀ ad u, M' ad = some u → Pl w' ad.block) ∧ R v M' ∧ BelowM M w w') .ret a w' := by
    intro hq
    obtain ⟨r, ⟨hd, hr⟩, hrun⟩ := outs_sound hR _ hq
    have hv := valL_out (σ := σ) hr
    refine bodyPost_ret (v := pack (concL σ r)) (results_run hrun) hR.defers ⟨_, M1, rfl, hR.kn, hd, fun ad u hu => ?_, hv, ⟨hR.below.os, hR.below.tape, hR.below.output, hR.below.size, fun k hk hn => hR.below.block k hk fun ⟨ad, u, h1, h2⟩ => hn ad u h1 h2⟩⟩
    obtain ⟨u0, h1⟩ := hd ad u hu
    exact hR.nf ad u hu (.inr ⟨ad, u0, h1, rfl⟩)
  cases ex <;> first | exact fin hq | exact hq.elim
theorem ansG_of (T : Tab P) {f : FuncId} {fn : Func} {c : Code} {l : List Value} {R : Value → Mem → Prop} (hm : P.follows .mixedOrders = true) (hf : P.funcs[f]? = some fn) (hb : fn.body = some c) (hg : isGo P f = true)
    (hN : l.length ≤ fn.ntmps) (h : pwp P (T.at fun _ => none) fn.ntmps c (args0 0 l) [] 0 M fun ex e b n M' => match ex with | .normal | .ret => outs P e b fn.results.toList fun r => RetK M' b r (fun M'' v => R v M'') | _ => False) : AnsG P M f l.toArray R := by
  refine ⟨hg, fun w hw hpl => calls_of_wp hf hb ?_⟩
  haveI : Own (T.at fun _ => none) M ⟨w, fun k => ∃ ad u, M ad = some u ∧ ad.block = k, 0, fun _ => 0⟩ := ⟨fun _ ad u _ h2 => ⟨ad, u, h2, rfl⟩, fun _ ad u h => block_lt_of_cell (hw ad u h)⟩
  have h0 := rel_start (f := f) (fn := fn) hN hw
  have hr : Rel M ⟨w, fun k => ∃ ad u, M ad = some u ∧ ad.block = k, 0, fun _ => 0⟩ fn.ntmps (fun _ => 0) (args0 0 l) [] 0 M { tmps := l.toArray ++ Array.replicate (fn.ntmps - l.toArray.size) undef, defers := [] } w :=
    ⟨h0.size, h0.tmp, h0.elt, h0.defers, ⟨rfl, rfl, rfl, Nat.le_refl _, fun _ _ _ => rfl⟩, hw, fun _ _ h _ => h, fun ad u hu => .inl hu, fun i cs hi => by simp [lookB] at hi, fun i cs hi => by simp [lookB] at hi, fun i j ci cj hi => by simp [lookB] at hi, fun i cs hi => by simp [lookB] at hi, fun t x hx => by
      obtain ⟨_, u, hu, rfl⟩ := args0_look l 0 t x hx
      trivial, fun i hi => absurd hi (Nat.not_lt_zero i), Nat.le_refl 0, fun ad u hu _ => hpl ad u hu⟩
  refine Code.wp_mono (fun ex a w' hx => ?_) (pwp_sound hm rfl c hr h)
  obtain ⟨σ, e, b, n, M1, hR, hq⟩ := hx
  have fin : outs P e b fn.results.toList (fun r => RetK M1 b r (fun M'' v => R v M'')) → bodyPost P fn (fun e w' => ∃ v M', e = .returned v ∧ Know M' w' ∧ (∀ ad u, M' ad = some u → (∃ a u0, M a = some u0 ∧ a.block = ad.block) ∨ w.heap.size ≤ ad.block) ∧ (∀ ad u, M' ad = some u → Pl w' ad.block) ∧ R v M' ∧ BelowM M w w') .ret a w' := by
    intro hq
    obtain ⟨r, hr, hrun, hgd⟩ := outs_soundG hR _ hq
    classical
    have hM : ∀ ad u, (match M1 ad with | some u => some u | none => if Base.own ⟨w, fun k => ∃ ad u, M ad = some u ∧ ad.block = k, 0, fun _ => 0⟩ ad.block ∧ Pl w' ad.block then w'.cell? ad else none) = some u → M1 ad = some u ∨ ((Base.own ⟨w, fun k => ∃ ad u, M ad = some u ∧ ad.block = k, 0, fun _ => 0⟩ ad.block ∧ Pl w' ad.block) ∧ w'.cell? ad = some u) := by
      intro ad u hu
      cases hm : M1 ad with
      | some u' => rw [hm] at hu; exact .inl hu
      | none =>
        rw [hm] at hu
        simp only at hu
        split at hu
        · rename_i hb; exact .inr ⟨hb, hu⟩
        · simp at hu
    have hle : Le M1 fun ad => match M1 ad with | some u => some u | none => if Base.own ⟨w, fun k => ∃ ad u, M ad = some u ∧ ad.block = k, 0, fun _ => 0⟩ ad.block ∧ Pl w' ad.block then w'.cell? ad else none := fun ad u hu => by simp only [hu]
    have hown : ∀ {g}, Base.own ⟨w, fun k => ∃ ad u, M ad = some u ∧ ad.block = k, 0, fun _ => 0⟩ g → (∃ a u0, M a = some u0 ∧ a.block = g) ∨ w.heap.size ≤ g := fun h => h.symm
    refine bodyPost_ret (v := pack (concL σ r)) (results_run hrun) hR.defers ⟨_, _, rfl, fun ad u hu => ?_, fun ad u hu => ?_, fun ad u hu => ?_, hr.all σ _ hle (fun i cs hi => ⟨fun ad u hm => hR.dis i cs hi ad u hm, fun o u hu => ?_⟩) (fun i len cap z cs hs hi o ho => ?_), ⟨hR.below.os, hR.below.tape, hR.below.output, hR.below.size, fun k hk hn => hR.below.block k hk fun ⟨ad, u, h1, h2⟩ => hn ad u h1 h2⟩⟩
    · rcases hM ad u hu with h1 | h1
      · exact hR.kn ad u h1
      · exact h1.2
    · rcases hM ad u hu with h1 | h1
      · rcases hR.nw ad u h1 with h2 | h2
        · exact .inl ⟨ad, u, h2, rfl⟩
        · exact hown h2
      · exact hown h1.1.1
    · rcases hM ad u hu with h1 | h1
      · refine hR.nf ad u h1 ?_
        cases h0 : M ad with
        | none => exact .inl rfl
        | some u0 => exact .inr ⟨ad, u0, h0, rfl⟩
      · exact h1.1.2
    · cases hm : M1 ⟨σ i, o, none⟩ with
      | some u' => exact absurd rfl (hR.dis i cs hi _ _ hm)
      | none => simp only [hm]; rw [if_pos ⟨(hR.box i cs hi).1, let ⟨_, ty, ex, g⟩ := hR.box i cs hi; ⟨_, ty, g⟩⟩]; exact hR.cellB hi hu
    · obtain ⟨_, _, c, ty, g3, g4⟩ := hgd _ hs cs hi
      have hcell : w'.cell? ⟨σ i, o, none⟩ = some c[o] := by rw [← g4] at ho; simp [World.cell?, g3, ho]
      cases hm : M1 ⟨σ i, o, none⟩ with
      | some u' => exact absurd rfl (hR.dis i cs hi _ _ hm)
      | none => exact ⟨c[o], by simp only [hm]; rw [if_pos ⟨(hR.box i cs hi).1, ⟨c, ty, g3⟩⟩]; exact hcell⟩
  cases ex <;> first | exact fin hq | exact hq.elim
theorem ansB_of (T : Tab P) {f : FuncId} {fn : Func} {c : Code} {l : List Value} {R : Value → Mem → Prop} {Mb : Mem} (hm : P.follows .mixedOrders = true) (hf : P.funcs[f]? = some fn) (hb : fn.body = some c) (hg : isGo P f = true)
    (hN : l.length ≤ fn.ntmps) (hs : Le Mb M) (hdj : ∀ ad u ad' u', M ad = some u → Mb ad = none → Mb ad' = some u' → ad.block ≠ ad'.block) (h : pwp P (T.at Mb) fn.ntmps c (args0 0 l) [] 0 M fun ex e b n M' => match ex with | .normal | .ret => outs P e b fn.results.toList fun r => RetK M' b r (fun M'' v => R v M'') | _ => False) : AnsB P Mb M f l.toArray R := by
  refine ⟨hg, fun w hw hpl => calls_of_wp hf hb ?_⟩
  haveI : Own (T.at Mb) M ⟨w, fun k => ∃ ad u, M ad = some u ∧ Mb ad = none ∧ ad.block = k, 0, fun _ => 0⟩ := ⟨fun _ ad u h1 h2 => ⟨ad, u, h2, h1, rfl⟩, fun _ ad u h => block_lt_of_cell (hw ad u h)⟩
  have h0 := rel_start (f := f) (fn := fn) hN hw
  have hr : Rel M ⟨w, fun k => ∃ ad u, M ad = some u ∧ Mb ad = none ∧ ad.block = k, 0, fun _ => 0⟩ fn.ntmps (fun _ => 0) (args0 0 l) [] 0 M { tmps := l.toArray ++ Array.replicate (fn.ntmps - l.toArray.size) undef, defers := [] } w :=
    ⟨h0.size, h0.tmp, h0.elt, h0.defers, ⟨rfl, rfl, rfl, Nat.le_refl _, fun _ _ _ => rfl⟩, hw, fun _ _ h _ => h, fun ad u hu => .inl hu, fun i cs hi => by simp [lookB] at hi, fun i cs hi => by simp [lookB] at hi, fun i j ci cj hi => by simp [lookB] at hi, fun i cs hi => by simp [lookB] at hi, fun t x hx => by
      obtain ⟨_, u, hu, rfl⟩ := args0_look l 0 t x hx
      trivial, fun i hi => absurd hi (Nat.not_lt_zero i), Nat.le_refl 0, fun ad u hu hx => by
        rcases hx with hx | ⟨ad', u', g1, g2, g3⟩
        · rw [hu] at hx; cases hx
        · exact g3 ▸ hpl ad' u' g1 g2⟩
  refine Code.wp_mono (fun ex a w' hx => ?_) (pwp_sound hm rfl c hr h)
  obtain ⟨σ, e, b, n, M1, hR, hq⟩ := hx
  have fin : outs P e b fn.results.toList (fun r => RetK M1 b r (fun M'' v => R v M'')) → bodyPost P fn (fun e w' => ∃ v M', e = .returned v ∧ Know M' w' ∧ Le Mb M' ∧ (∀ ad u, M' ad = some u → Mb ad = none → (∃ a u0, M a = some u0 ∧ Mb a = none ∧ a.block = ad.block) ∨ w.heap.size ≤ ad.block) ∧ (∀ ad u, M' ad = some u → Mb ad = none → Pl w' ad.block) ∧ R v M' ∧ BelowM (rest M Mb) w w') .ret a w' := by
    intro hq
    obtain ⟨r, hr, hrun, hgd⟩ := outs_soundG hR _ hq
    classical
    have hM : ∀ ad u, (match M1 ad with | some u => some u | none => if Base.own ⟨w, fun k => ∃ ad u, M ad = some u ∧ Mb ad = none ∧ ad.block = k, 0, fun _ => 0⟩ ad.block ∧ Pl w' ad.block then w'.cell? ad else none) = some u → M1 ad = some u ∨ ((Base.own ⟨w, fun k => ∃ ad u, M ad = some u ∧ Mb ad = none ∧ ad.block = k, 0, fun _ => 0⟩ ad.block ∧ Pl w' ad.block) ∧ w'.cell? ad = some u) := by
      intro ad u hu
      cases hm : M1 ad with
      | some u' => rw [hm] at hu; exact .inl hu
      | none =>
        rw [hm] at hu
        simp only at hu
        split at hu
        · rename_i hb; exact .inr ⟨hb, hu⟩
        · simp at hu
    have hle : Le M1 fun ad => match M1 ad with | some u => some u | none => if Base.own ⟨w, fun k => ∃ ad u, M ad = some u ∧ Mb ad = none ∧ ad.block = k, 0, fun _ => 0⟩ ad.block ∧ Pl w' ad.block then w'.cell? ad else none := fun ad u hu => by simp only [hu]
    have hown : ∀ {g}, Base.own ⟨w, fun k => ∃ ad u, M ad = some u ∧ Mb ad = none ∧ ad.block = k, 0, fun _ => 0⟩ g → (∃ a u0, M a = some u0 ∧ Mb a = none ∧ a.block = g) ∨ w.heap.size ≤ g := fun h => h.symm
    refine bodyPost_ret (v := pack (concL σ r)) (results_run hrun) hR.defers ⟨_, _, rfl, fun ad u hu => ?_, fun ad u hu => hle ad u (hR.le ad u (hs ad u hu) fun ⟨ad', u', g1, g2, g3⟩ => hdj ad' u' ad u g1 g2 hu g3), fun ad u hu hn => ?_, fun ad u hu hn => ?_, hr.all σ _ hle (fun i cs hi => ⟨fun ad u hm => hR.dis i cs hi ad u hm, fun o u hu => ?_⟩) (fun i len cap z cs hs hi o ho => ?_), ⟨hR.below.os, hR.below.tape, hR.below.output, hR.below.size, fun k hk hn => hR.below.block k hk fun ⟨ad, u, h1, h2, h3⟩ => hn ad u (rest_of h2 h1) h3⟩⟩
    · rcases hM ad u hu with h1 | h1
      · exact hR.kn ad u h1
      · exact h1.2
    · rcases hM ad u hu with h1 | h1
      · rcases hR.nw ad u h1 with h2 | h2
        · exact .inl ⟨ad, u, h2, hn, rfl⟩
        · exact hown h2
      · exact hown h1.1.1
    · rcases hM ad u hu with h1 | h1
      · refine hR.nf ad u h1 ?_
        cases h0 : M ad with
        | none => exact .inl rfl
        | some u0 => exact .inr ⟨ad, u0, h0, hn, rfl⟩
      · exact h1.1.2
    · cases hm : M1 ⟨σ i, o, none⟩ with
      | some u' => exact absurd rfl (hR.dis i cs hi _ _ hm)
      | none => simp only [hm]; rw [if_pos ⟨(hR.box i cs hi).1, let ⟨_, ty, ex, g⟩ := hR.box i cs hi; ⟨_, ty, g⟩⟩]; exact hR.cellB hi hu
    · obtain ⟨_, _, c, ty, g3, g4⟩ := hgd _ hs cs hi
      have hcell : w'.cell? ⟨σ i, o, none⟩ = some c[o] := by rw [← g4] at ho; simp [World.cell?, g3, ho]
      cases hm : M1 ⟨σ i, o, none⟩ with
      | some u' => exact absurd rfl (hR.dis i cs hi _ _ hm)
      | none => exact ⟨c[o], by simp only [hm]; rw [if_pos ⟨(hR.box i cs hi).1, ⟨c, ty, g3⟩⟩]; exact hcell⟩
  cases ex <;> first | exact fin hq | exact hq.elim
theorem Ans.calls {f : FuncId} {args : Array Value} {v : Value} (h : Ans P M f args v) {w : World} (hw : Know M w) : Calls P f args w fun e w' => e = .returned v ∧ Below w.heap.size w w' := h.2 w hw
end
end Go.Proofs.Ytmmgknhefobloaa.Lw
