/- How lists lie in memory: what the light walk is told of slices, and what it tells of them. -/
import Derived.Test.YtmmgknhefobloaaLw
namespace Go.Proofs.Ytmmgknhefobloaa.Lw
open Go Go.RowKit
set_option linter.unusedVariables false
set_option linter.unusedSimpArgs false
/-- A list of things that lie one behind the other, z cells each. -/
structure SlR {α : Type} (M : Mem) (R : Mem → α → List Value → Prop) (z by_ : Nat) (A : Option Addr) (c : Nat) (l : List α) : Prop where
  cap : l.length ≤ c
  len : l.length ≤ 9223372036854775807
  el : ∀ i x, l[i]? = some x → ∃ ad cs, A = some ad ∧ R M x cs ∧ cs.length = z ∧ ∀ j u, cs[j]? = some u → M ((ad.add (i * z)).add j) = some u
theorem SlR.mono {α : Type} {M M' : Mem} {R : Mem → α → List Value → Prop} {z by_ : Nat} {A : Option Addr} {c : Nat} {l : List α} (h : SlR M R z by_ A c l) (hl : Le M M') (hR : ∀ x cs, R M x cs → R M' x cs) : SlR M' R z by_ A c l :=
  ⟨h.cap, h.len, fun i x hx => let ⟨ad, cs, h1, h2, h3, h4⟩ := h.el i x hx; ⟨ad, cs, h1, hR x cs h2, h3, fun j u hu => hl _ _ (h4 j u hu)⟩⟩
/-- A part of it. -/
theorem SlR.sub {α : Type} {M : Mem} {R : Mem → α → List Value → Prop} {z by_ : Nat} {A : Option Addr} {c : Nat} {l : List α} (h : SlR M R z by_ A c l) {lo hi : Nat} (h1 : lo ≤ hi) (h2 : hi ≤ l.length) :
    SlR M R z by_ (if c = lo then A else A.map (·.add (lo * z))) (c - lo) ((l.drop lo).take (hi - lo)) := by
  have hc := h.cap
  have hn := h.len
  refine ⟨by simp; omega, by simp; omega, fun i x hx => ?_⟩
  rw [List.getElem?_take] at hx
  split at hx
  · rename_i hi'
    rw [List.getElem?_drop] at hx
    obtain ⟨ad, cs, e, hR, hz, hM⟩ := h.el _ _ hx
    have hlt : lo + i < l.length := by
      rcases Nat.lt_or_ge (lo + i) l.length with h3 | h3
      · exact h3
      · rw [List.getElem?_eq_none h3] at hx; simp at hx
    refine ⟨ad.add (lo * z), cs, by rw [if_neg (by omega), e]; rfl, hR, hz, fun j u hu => ?_⟩
    have := hM j u hu
    rw [add_add (ad.add (lo * z)), add_add, ← Nat.add_assoc, ← Nat.add_mul]
    rw [add_add] at this
    exact this
  · simp at hx
theorem i64_in {a : Int} (h0 : -9223372036854775808 ≤ a) (h1 : a ≤ 9223372036854775807) : IntKind.i64.wrap a = a := by
  unfold IntKind.wrap IntKind.bits IntKind.signed
  simp only [Bool.true_and]
  by_cases h : 0 ≤ a
  · have : a % (2 ^ 64 : Int) = a := by omega
    rw [this, if_neg (by simp; omega)]
  · have : a % (2 ^ 64 : Int) = a + 2 ^ 64 := by omega
    rw [this, if_pos (by simp; omega)]
    omega
theorem i64_succ {k : Nat} (h : k < 9223372036854775807) : IntKind.i64.wrap ((k : Int) + 1) = ((k + 1 : Nat) : Int) := by
  rw [i64_in (by omega) (by omega)]; rfl
theorem u64_in {a : Int} (h0 : 0 ≤ a) (h1 : a ≤ 18446744073709551615) : IntKind.u64.wrap a = a := by
  unfold IntKind.wrap IntKind.bits IntKind.signed
  simp only [Bool.false_and]
  have : a % (2 ^ 64 : Int) = a := by omega
  rw [this]
  rfl
/-- The middle of a halving, as the code reckons it. -/
theorem half_ok {i j : Nat} (h : i + j ≤ 4611686018427387904) : IntKind.i64.wrap ((IntKind.u64.wrap (IntKind.i64.wrap ((i : Int) + (j : Int)))).fdiv (2 ^ min (Int.toNat 1) IntKind.u64.bits)) = (((i + j) / 2 : Nat) : Int) := by
  rw [i64_in (a := (i : Int) + (j : Int)) (by omega) (by omega), u64_in (by omega) (by omega)]
  rw [show (2 : Int) ^ min (Int.toNat 1) IntKind.u64.bits = 2 from rfl, Int.fdiv_eq_ediv_of_nonneg _ (by omega)]
  rw [i64_in (by omega) (by omega)]
  omega
theorem wrap_bound (a : Int) : -9223372036854775808 ≤ IntKind.i64.wrap a ∧ IntKind.i64.wrap a ≤ 9223372036854775807 := by
  unfold IntKind.wrap IntKind.bits IntKind.signed
  simp only [Bool.true_and]
  split <;> simp at * <;> omega
theorem setAt_mid : ∀ (v p q r : List Value), q.length = v.length → setAt (p ++ (q ++ r)) p.length v = p ++ (v ++ r)
  | [], p, q, r, h => by simp at h; subst h; rfl
  | u :: v, p, q, r, h => by
    match q, h with
    | c :: q, h =>
      simp only [List.length_cons, Nat.add_right_cancel_iff] at h
      simp only [setAt]
      rw [List.set_append_right _ _ (Nat.le_refl _)]
      simp only [Nat.sub_self, List.cons_append, List.set_cons_zero]
      have := setAt_mid v (p ++ [u]) q r h
      simp only [List.append_assoc, List.cons_append, List.nil_append, List.length_append, List.length_cons, List.length_nil, Nat.zero_add] at this
      exact this
theorem flat_len {z : Nat} : ∀ {css : List (List Value)}, (∀ cs ∈ css, cs.length = z) → css.flatten.length = css.length * z
  | [], _ => by simp
  | cs :: r, h => by
    rw [List.flatten_cons, List.length_append, flat_len (fun c hc => h c (List.mem_cons_of_mem _ hc)), h cs (List.mem_cons_self ..), List.length_cons, Nat.add_mul]
    omega
theorem flat_get {z : Nat} : ∀ {css : List (List Value)}, (∀ cs ∈ css, cs.length = z) → ∀ {i j : Nat} {cs : List Value} {u : Value}, css[i]? = some cs → cs[j]? = some u → css.flatten[i * z + j]? = some u
  | [], _, i, j, cs, u, hi, hj => by simp at hi
  | c :: r, h, i, j, cs, u, hi, hj => by
    have hc : c.length = z := h c (List.mem_cons_self ..)
    have hj' : j < cs.length := by
      rcases Nat.lt_or_ge j cs.length with h1 | h1
      · exact h1
      · rw [List.getElem?_eq_none h1] at hj; simp at hj
    rw [List.flatten_cons]
    match i with
    | 0 =>
      simp only [List.getElem?_cons_zero, Option.some.injEq] at hi
      subst hi
      rw [Nat.zero_mul, Nat.zero_add, List.getElem?_append_left hj']
      exact hj
    | i + 1 =>
      simp only [List.getElem?_cons_succ] at hi
      rw [Nat.add_mul, Nat.one_mul, List.getElem?_append_right (by omega)]
      rw [show i * z + z + j - c.length = i * z + j by omega]
      exact flat_get (fun c hc => h c (List.mem_cons_of_mem _ hc)) hi hj
/-- What lies in a fresh row is such a list. -/
theorem slR_of {α : Type} {M : Mem} {R : Mem → α → List Value → Prop} {z by_ g : Nat} {l : List α} {css : List (List Value)} (hz : ∀ cs ∈ css, cs.length = z) (hR : ∀ (i : Nat) (x : α), l[i]? = some x → ∃ cs : List Value, css[i]? = some cs ∧ R M x cs)
    (hM : ∀ (o : Nat) (u : Value), css.flatten[o]? = some u → M ⟨g, o, none⟩ = some u) (hb : l.length ≤ 9223372036854775807) : SlR M R z by_ (some ⟨g, 0, none⟩) l.length l := by
  refine ⟨Nat.le_refl _, hb, fun i x hx => ?_⟩
  obtain ⟨cs, h1, h2⟩ := hR i x hx
  refine ⟨_, cs, rfl, h2, hz cs (List.mem_of_getElem? h1), fun j u hu => ?_⟩
  rw [add_add]
  have := hM _ _ (flat_get hz h1 hu)
  unfold Addr.add
  split
  · rename_i h0; rw [h0] at this; exact this
  · simpa using this
/-- The state of a loop that fills a row: what is done, k of it; the rest is still zero. -/
structure Fill {α : Type} (M0 : Mem) (R : Mem → α → List Value → Prop) (z : Nat) (l : List α) where
  M : Mem
  le : Le M0 M
  css : List (List Value)
  len : css.length ≤ l.length
  hz : ∀ cs ∈ css, cs.length = z
  hR : ∀ (i : Nat) (cs : List Value), css[i]? = some cs → ∃ x : α, l[i]? = some x ∧ R M x cs
def Fill.cells {α : Type} {M0 : Mem} {R : Mem → α → List Value → Prop} {z : Nat} {l : List α} (f : Fill M0 R z l) (Z : List Value) : List Value := f.css.flatten ++ (List.replicate (l.length - f.css.length) Z).flatten
def Fill.start {α : Type} (M : Mem) (R : Mem → α → List Value → Prop) (z : Nat) (l : List α) : Fill M R z l := ⟨M, Le.refl M, [], Nat.zero_le _, fun cs h => by simp at h, fun i cs h => by simp at h⟩
def Fill.step {α : Type} {M0 : Mem} {R : Mem → α → List Value → Prop} {z : Nat} {l : List α} (f : Fill M0 R z l) {M : Mem} (hM : Le f.M M) (hm : ∀ x cs, R f.M x cs → R M x cs) {x : α} {cs : List Value} (hx : l[f.css.length]? = some x) (hR : R M x cs) (hz : cs.length = z) : Fill M0 R z l where
  M := M
  le := f.le.trans hM
  css := f.css ++ [cs]
  len := by
    have : f.css.length < l.length := by
      rcases Nat.lt_or_ge f.css.length l.length with h | h
      · exact h
      · rw [List.getElem?_eq_none h] at hx; simp at hx
    simp; omega
  hz := fun c hc => by
    rcases List.mem_append.mp hc with h | h
    · exact f.hz c h
    · simp at h; subst h; exact hz
  hR := fun i c hi => by
    rcases Nat.lt_or_ge i f.css.length with h | h
    · rw [List.getElem?_append_left h] at hi
      obtain ⟨y, h1, h2⟩ := f.hR i c hi
      exact ⟨y, h1, hm _ _ h2⟩
    · rw [List.getElem?_append_right h] at hi
      rcases Nat.eq_zero_or_pos (i - f.css.length) with h0 | h0
      · rw [h0] at hi
        simp only [List.getElem?_cons_zero, Option.some.injEq] at hi
        subst hi
        rw [show i = f.css.length by omega]
        exact ⟨x, hx, hR⟩
      · obtain ⟨d, hd⟩ : ∃ d, i - f.css.length = d + 1 := ⟨i - f.css.length - 1, by omega⟩
        rw [hd] at hi
        simp at hi
theorem Fill.store {α : Type} {M0 : Mem} {R : Mem → α → List Value → Prop} {z : Nat} {l : List α} (f : Fill M0 R z l) {M : Mem} (hM : Le f.M M) (hm : ∀ x cs, R f.M x cs → R M x cs) {x : α} {cs Z : List Value} (hx : l[f.css.length]? = some x) (hR : R M x cs) (hz : cs.length = z) (hZ : Z.length = z) :
    setAt (f.cells Z) (f.css.length * z) cs = (f.step hM hm hx hR hz).cells Z := by
  have hlt : f.css.length < l.length := by
    rcases Nat.lt_or_ge f.css.length l.length with h | h
    · exact h
    · rw [List.getElem?_eq_none h] at hx; simp at hx
  unfold Fill.cells
  obtain ⟨d, hd⟩ : ∃ d, l.length - f.css.length = d + 1 := ⟨l.length - f.css.length - 1, by omega⟩
  rw [hd, List.replicate_succ, List.flatten_cons, ← flat_len f.hz, setAt_mid _ _ _ _ (by rw [hZ, hz])]
  simp only [Fill.step, List.length_append, List.length_cons, List.length_nil, List.flatten_append, List.flatten_cons, List.flatten_nil, List.append_nil, List.append_assoc]
  rw [show l.length - (f.css.length + (0 + 1)) = d by omega]
theorem Fill.room {α : Type} {M0 : Mem} {R : Mem → α → List Value → Prop} {z : Nat} {l : List α} (f : Fill M0 R z l) {Z : List Value} (hZ : Z.length = z) : (f.cells Z).length = l.length * z := by
  unfold Fill.cells
  rw [List.length_append, flat_len f.hz, flatten_len hZ, ← Nat.add_mul]
  congr 1
  have := f.len
  omega
theorem Fill.room1 {α : Type} {M0 : Mem} {R : Mem → α → List Value → Prop} {z : Nat} {l : List α} (f : Fill M0 R z l) {Z : List Value} (hZ : Z.length = z) (h : f.css.length < l.length) : f.css.length * z + z ≤ (f.cells Z).length := by
  rw [f.room hZ, ← Nat.succ_mul]
  exact Nat.mul_le_mul_right z h
theorem Fill.done {α : Type} {M0 : Mem} {R : Mem → α → List Value → Prop} {z by_ g : Nat} {l : List α} (f : Fill M0 R z l) {Z : List Value} (hd : ¬ f.css.length < l.length) {M' : Mem} (hm : ∀ x cs, R f.M x cs → R M' x cs)
    (hM : ∀ (o : Nat) (u : Value), (f.cells Z)[o]? = some u → M' ⟨g, o, none⟩ = some u) (hb : l.length ≤ 9223372036854775807) : SlR M' R z by_ (some ⟨g, 0, none⟩) l.length l := by
  have he : f.css.length = l.length := by have := f.len; omega
  have hc : f.cells Z = f.css.flatten := by unfold Fill.cells; rw [he, Nat.sub_self]; simp
  rw [hc] at hM
  refine slR_of f.hz (fun i x hx => ?_) hM hb
  have hi : i < f.css.length := by
    rcases Nat.lt_or_ge i l.length with h | h
    · omega
    · rw [List.getElem?_eq_none h] at hx; simp at hx
  refine ⟨f.css[i], List.getElem?_eq_getElem hi, ?_⟩
  obtain ⟨y, h1, h2⟩ := f.hR i _ (List.getElem?_eq_getElem hi)
  rw [hx] at h1
  simp only [Option.some.injEq] at h1
  subst h1
  exact hm _ _ h2
/-- The laws' measure of a list. -/
def szRun {α : Type} (f : α → Int → Int) : List α → Int → Int
  | [], left => left
  | x :: r, left => if f x left < 0 then -1 else szRun f r (f x left)
def szSub (left : Int) (n : Nat) : Int := if IntKind.i64.wrap (left - (n : Int)) < 0 then -1 else IntKind.i64.wrap (left - (n : Int))
def szL {α : Type} (f : α → Int → Int) (l : List α) (left : Int) : Int := if IntKind.i64.wrap (left - (l.length : Int)) < 0 then -1 else szRun f l (IntKind.i64.wrap (left - (l.length : Int)))
def szT (a : Int) (k : Int → Int) : Int := if a < 0 then -1 else k a
theorem szSub_ok {left : Int} {n : Nat} (h0 : 0 ≤ left) (h1 : left ≤ 1048576) (hn : n ≤ 9223372036854775807) (h : 0 ≤ szSub left n) : n ≤ 1048576 ∧ szSub left n ≤ 1048576 := by
  unfold szSub at h ⊢
  rw [i64_in (by omega) (by omega)] at h ⊢
  split at h
  · omega
  · rename_i h2
    rw [if_neg h2]
    omega
theorem szT_ok {a : Int} {k : Int → Int} (h : 0 ≤ szT a k) : 0 ≤ a ∧ 0 ≤ k a ∧ szT a k = k a := by
  unfold szT at h ⊢
  split at h
  · omega
  · rename_i h2
    rw [if_neg h2]
    exact ⟨by omega, h, rfl⟩
theorem szRun_ok {α : Type} {f : α → Int → Int} {Q : α → Prop} : ∀ {l : List α}, (∀ x ∈ l, ∀ left, 0 ≤ left → left ≤ 1048576 → 0 ≤ f x left → Q x ∧ f x left ≤ 1048576) → ∀ {left : Int}, 0 ≤ left → left ≤ 1048576 → 0 ≤ szRun f l left → (∀ x ∈ l, Q x) ∧ szRun f l left ≤ 1048576
  | [], hf, left, h0, h1, h => ⟨fun x hx => by simp at hx, h1⟩
  | y :: r, hf, left, h0, h1, h => by
    simp only [szRun] at h ⊢
    split at h
    · omega
    · rename_i h2
      rw [if_neg h2]
      obtain ⟨q1, q2⟩ := hf y (List.mem_cons_self ..) left h0 h1 (by omega)
      obtain ⟨q3, q4⟩ := szRun_ok (fun x hx => hf x (List.mem_cons_of_mem _ hx)) (by omega) q2 h
      refine ⟨fun x hx => ?_, q4⟩
      rcases List.mem_cons.mp hx with hx | hx
      · subst hx; exact q1
      · exact q3 x hx
theorem szL_ok {α : Type} {f : α → Int → Int} {Q : α → Prop} {l : List α} (hl : l.length ≤ 9223372036854775807) (hf : ∀ x ∈ l, ∀ left, 0 ≤ left → left ≤ 1048576 → 0 ≤ f x left → Q x ∧ f x left ≤ 1048576) {left : Int} (h0 : 0 ≤ left) (h1 : left ≤ 1048576) (h : 0 ≤ szL f l left) :
    (l.length ≤ 1048576 ∧ ∀ x ∈ l, Q x) ∧ szL f l left ≤ 1048576 := by
  unfold szL at h ⊢
  rw [i64_in (by omega) (by omega)] at h ⊢
  split at h
  · omega
  · rename_i h2
    rw [if_neg h2]
    obtain ⟨q1, q2⟩ := szRun_ok hf (by omega) (by omega) h
    exact ⟨⟨by omega, q1⟩, q2⟩
theorem SlR.each {α : Type} {M : Mem} {R : Mem → α → List Value → Prop} {z by_ : Nat} {A : Option Addr} {c : Nat} {l : List α} (h : SlR M R z by_ A c l) {x : α} (hx : x ∈ l) : ∃ cs, R M x cs := by
  obtain ⟨i, hi, rfl⟩ := List.getElem_of_mem hx
  obtain ⟨_, cs, _, h2, _⟩ := h.el i _ (List.getElem?_eq_getElem hi)
  exact ⟨cs, h2⟩
theorem szRun_step {α : Type} {f : α → Int → Int} {l : List α} {k : Nat} (h : k < l.length) (n : Int) : szRun f (l.drop k) n = if f l[k] n < 0 then -1 else szRun f (l.drop (k + 1)) (f l[k] n) := by
  rw [List.drop_eq_getElem_cons h]
  rfl
theorem ret_int {k : IntKind} {a b : Int} (h : a = b) : Value.int k a = Value.int k b := by rw [h]
theorem ret_bool {a b : Bool} (h : a = b) : Value.bool a = Value.bool b := by rw [h]
theorem look_int {a b : Int} (h : a = b) : some (PV.v (Value.int .i64 a)) = some (PV.v (Value.int .i64 b)) := by rw [h]
theorem look_bool {a b : Bool} (h : a = b) : some (PV.v (Value.bool a)) = some (PV.v (Value.bool b)) := by rw [h]
theorem ba_eq (a b : ByteArray) : (a.toList == b.toList) = decide (a = b) := by
  rw [ByteArray.toList_eq, ByteArray.toList_eq]
  obtain ⟨⟨x⟩⟩ := a
  obtain ⟨⟨y⟩⟩ := b
  rw [Bool.eq_iff_iff]
  simp
theorem not_f {b : Bool} (h : (!b) = false) : b = true := by simpa using h
theorem not_t {b : Bool} (h : (!b) = true) : b = false := by simpa using h
abbrev memL {A B : Mem} (_ : Le A B) : Mem := B
/-- Two lists agree so far. -/
theorem agree_step {α : Type} {l l' : List α} {k : Nat} (h : ∀ j : Nat, j < k → l[j]? = l'[j]?) (hk : l[k]? = l'[k]?) : ∀ j : Nat, j < k + 1 → l[j]? = l'[j]? := fun j hj => by
  rcases Nat.lt_succ_iff_lt_or_eq.mp hj with h1 | h1
  · exact h j h1
  · subst h1; exact hk
theorem agree_all {α : Type} {l l' : List α} {k : Nat} (h : ∀ j : Nat, j < k → l[j]? = l'[j]?) (hl : l.length = l'.length) (hk : ¬ k < l.length) : l = l' := by
  apply List.ext_getElem?
  intro j
  rcases Nat.lt_or_ge j k with h1 | h1
  · exact h j h1
  · rw [List.getElem?_eq_none (by omega), List.getElem?_eq_none (by omega)]
/-- Cells in a row that say a list. -/
structure RowR {α : Type} (M : Mem) (R : Mem → α → List Value → Prop) (z : Nat) (l : List α) (ds : List Value) : Prop where
  ex : ∃ css : List (List Value), ds = css.flatten ∧ css.length = l.length ∧ (∀ cs ∈ css, cs.length = z ∧ allOne cs = true) ∧ ∀ (i : Nat) (x : α), l[i]? = some x → ∃ cs, css[i]? = some cs ∧ R M x cs
theorem allOne_append : ∀ {a b : List Value}, allOne a = true → allOne b = true → allOne (a ++ b) = true
  | [], b, _, h => h
  | v :: a, b, h, h' => by
    simp only [allOne, Bool.and_eq_true, List.cons_append] at h ⊢
    exact ⟨h.1, allOne_append h.2 h'⟩
theorem allOne_flat : ∀ {css : List (List Value)}, (∀ cs ∈ css, allOne cs = true) → allOne css.flatten = true
  | [], _ => rfl
  | c :: r, h => by
    rw [List.flatten_cons]
    exact allOne_append (h c (List.mem_cons_self ..)) (allOne_flat fun d hd => h d (List.mem_cons_of_mem _ hd))
section
variable {α : Type} {M : Mem} {R : Mem → α → List Value → Prop} {z : Nat}
theorem RowR.nil : RowR M R z ([] : List α) [] := ⟨[], rfl, rfl, fun cs h => by simp at h, fun i x h => by simp at h⟩
theorem RowR.one {x : α} {cs : List Value} (h : R M x cs) (hz : cs.length = z) (ho : allOne cs = true) : RowR M R z [x] cs :=
  ⟨[cs], by simp, rfl, fun c hc => by simp at hc; subst hc; exact ⟨hz, ho⟩, fun i y hy => by
    cases i with
    | zero => simp at hy; subst hy; exact ⟨cs, rfl, h⟩
    | succ i => simp at hy⟩
theorem RowR.app {l l' : List α} {ds ds' : List Value} (h : RowR M R z l ds) (h' : RowR M R z l' ds') : RowR M R z (l ++ l') (ds ++ ds') := by
  obtain ⟨css, rfl, h1, h2, h3⟩ := h.ex
  obtain ⟨css', rfl, h1', h2', h3'⟩ := h'.ex
  refine ⟨css ++ css', by simp, by simp [h1, h1'], fun c hc => ?_, fun i x hx => ?_⟩
  · rcases List.mem_append.mp hc with hc | hc
    · exact h2 c hc
    · exact h2' c hc
  · rcases Nat.lt_or_ge i l.length with hi | hi
    · rw [List.getElem?_append_left hi] at hx
      obtain ⟨cs, g1, g2⟩ := h3 i x hx
      exact ⟨cs, by rw [List.getElem?_append_left (by omega)]; exact g1, g2⟩
    · rw [List.getElem?_append_right hi] at hx
      obtain ⟨cs, g1, g2⟩ := h3' _ x hx
      exact ⟨cs, by rw [List.getElem?_append_right (by omega), h1]; exact g1, g2⟩
theorem RowR.len {l : List α} {ds : List Value} (h : RowR M R z l ds) : ds.length = l.length * z := by
  obtain ⟨css, rfl, h1, h2, h3⟩ := h.ex
  rw [flat_len (fun c hc => (h2 c hc).1), h1]
theorem RowR.all {l : List α} {ds : List Value} (h : RowR M R z l ds) : allOne ds = true := by
  obtain ⟨css, rfl, h1, h2, h3⟩ := h.ex
  exact allOne_flat fun c hc => (h2 c hc).2
theorem RowR.mono {M' : Mem} {l : List α} {ds : List Value} (h : RowR M R z l ds) (hR : ∀ x cs, R M x cs → R M' x cs) : RowR M' R z l ds := by
  obtain ⟨css, h0, h1, h2, h3⟩ := h.ex
  exact ⟨css, h0, h1, h2, fun i x hx => let ⟨cs, g1, g2⟩ := h3 i x hx; ⟨cs, g1, hR x cs g2⟩⟩
theorem RowR.sl {by_ g c : Nat} {l : List α} {ds : List Value} (h : RowR M R z l ds) (hM : ∀ (o : Nat) (u : Value), ds[o]? = some u → M ⟨g, o, none⟩ = some u) (hc : l.length ≤ c) (hb : l.length ≤ 9223372036854775807) : SlR M R z by_ (some ⟨g, 0, none⟩) c l := by
  obtain ⟨css, rfl, h1, h2, h3⟩ := h.ex
  have := slR_of (by_ := by_) (fun c hc => (h2 c hc).1) h3 hM hb
  exact ⟨hc, hb, this.el⟩
theorem SlR.nil {by_ : Nat} {A : Option Addr} {c : Nat} : SlR M R z by_ A c ([] : List α) := ⟨Nat.zero_le _, by simp, fun i x h => by simp at h⟩
/-- A slice's cells as a row. -/
theorem SlR.row {by_ : Nat} {A : Option Addr} {c : Nat} {l : List α} (h : SlR M R z by_ A c l) (hone : ∀ x cs, R M x cs → allOne cs = true) : ∃ ds, RowR M R z l ds ∧ ds.length = l.length * z ∧ ∀ (o : Nat) (u : Value), ds[o]? = some u → ∃ ad, A = some ad ∧ M (ad.add o) = some u := by
  suffices key : ∀ (k : Nat), k ≤ l.length → ∃ ds, RowR M R z (l.take k) ds ∧ ∀ (o : Nat) (u : Value), ds[o]? = some u → ∃ ad, A = some ad ∧ M (ad.add o) = some u by
    obtain ⟨ds, h1, h2⟩ := key l.length (Nat.le_refl _)
    rw [List.take_length] at h1
    exact ⟨ds, h1, h1.len, h2⟩
  intro k
  induction k with
  | zero => intro _; exact ⟨[], by simpa using RowR.nil, fun o u hu => by simp at hu⟩
  | succ k ih =>
    intro hk
    obtain ⟨ds, h1, h2⟩ := ih (by omega)
    obtain ⟨ad, cs, h3, h4, h5, h6⟩ := h.el k _ (List.getElem?_eq_getElem (by omega))
    refine ⟨ds ++ cs, ?_, fun o u hu => ?_⟩
    · rw [List.take_succ_eq_append_getElem (by omega)]
      exact h1.app (RowR.one h4 h5 (hone _ _ h4))
    · have hl := h1.len
      rw [List.length_take, Nat.min_eq_left (by omega)] at hl
      rcases Nat.lt_or_ge o ds.length with ho | ho
      · rw [List.getElem?_append_left ho] at hu
        exact h2 o u hu
      · rw [List.getElem?_append_right ho] at hu
        have := h6 _ u hu
        rw [add_add, show k * z + (o - ds.length) = o by omega] at this
        exact ⟨ad, h3, this⟩
/-- The front of a slice, and its rest, as rows. -/
theorem SlR.rowTo {by_ : Nat} {A : Option Addr} {c : Nat} {l : List α} (h : SlR M R z by_ A c l) (hone : ∀ x cs, R M x cs → allOne cs = true) {k : Nat} (hk : k ≤ l.length) : ∃ ds, RowR M R z (l.take k) ds ∧ ds.length = (k - 0) * z ∧ ∀ (o : Nat) (u : Value), ds[o]? = some u → ∃ ad, (if c = 0 then A else A.map (·.add (0 * z))) = some ad ∧ M (ad.add o) = some u := by
  obtain ⟨ds, h1, h2, h3⟩ := (h.sub (Nat.zero_le k) hk).row hone
  simp only [List.drop_zero, Nat.sub_zero] at h1
  refine ⟨ds, h1, ?_, h3⟩
  rw [h1.len, List.length_take]
  congr 1
  omega
theorem SlR.rowFrom {by_ : Nat} {A : Option Addr} {c : Nat} {l : List α} (h : SlR M R z by_ A c l) (hone : ∀ x cs, R M x cs → allOne cs = true) {k : Nat} (hk : k ≤ l.length) : ∃ ds, RowR M R z (l.drop k) ds ∧ ds.length = (l.length - k) * z ∧ ∀ (o : Nat) (u : Value), ds[o]? = some u → ∃ ad, (if c = k then A else A.map (·.add (k * z))) = some ad ∧ M (ad.add o) = some u := by
  obtain ⟨ds, h1, h2, h3⟩ := (h.sub hk (Nat.le_refl _)).row hone
  rw [List.take_of_length_le (by simp)] at h1
  exact ⟨ds, h1, by rw [h1.len, List.length_drop], h3⟩
/-- A row that is handed out is a slice. -/
theorem row_out {M' : Mem} {by_ g c : Nat} {l l' : List α} {ds : List Value} (h : RowR M R z l ds) (e : l' = l) (hR : ∀ x cs, R M x cs → R M' x cs) (hM : ∀ (o : Nat) (u : Value), ds[o]? = some u → M' ⟨g, o, none⟩ = some u) (hc : l'.length ≤ c) (hb : l'.length ≤ 9223372036854775807) : SlR M' R z by_ (some ⟨g, 0, none⟩) c l' := by
  subst e
  exact (h.mono hR).sl hM hc hb
theorem slice_eq {A : Option Addr} {n m c : Nat} (h : n = m) : Value.slice A n c = Value.slice A m c := by rw [h]
theorem slR_eq {by_ : Nat} {A : Option Addr} {c : Nat} {l l' : List α} (h : SlR M R z by_ A c l) (e : l = l') : SlR M R z by_ A c l' := e ▸ h
end
/-- What is new in M' against M. -/
def sub (M' M : Mem) : Mem := fun ad => match M ad with | none => M' ad | some _ => none
theorem sub_le (M' M : Mem) : Le (sub M' M) M' := fun ad u h => by
  unfold sub at h
  split at h
  · exact h
  · cases h
theorem sub_mono {M1 M2 : Mem} (M : Mem) (h : Le M1 M2) : Le (sub M1 M) (sub M2 M) := fun ad u hu => by
  unfold sub at hu ⊢
  split at hu
  · exact h ad u hu
  · cases hu
theorem sub_anti {M M1 : Mem} (M2 : Mem) (h : Le M M1) : Le (sub M2 M1) (sub M2 M) := fun ad u hu => by
  unfold sub at hu ⊢
  split at hu
  · rename_i hn
    cases hm : M ad with
    | none => exact hu
    | some v => rw [h ad v hm] at hn; cases hn
  · cases hu
theorem sub_of {M' M : Mem} {ad : Addr} {u : Value} (h : M' ad = some u) (hn : M ad = none) : sub M' M ad = some u := by
  unfold sub
  rw [hn]
  exact h
/-- A row of a result's own: it lies in what is new. -/
theorem row_new {α : Type} {M M0 M' : Mem} {R : Mem → α → List Value → Prop} {z by_ g c : Nat} {l l' : List α} {ds : List Value} (h : RowR M R z l ds) (e : l' = l) (hR : ∀ x cs, R M x cs → R (sub M' M0) x cs) (h0 : Le M0 M)
    (hM : (∀ ad u, M ad = some u → ad.block ≠ g) ∧ ∀ (o : Nat) (u : Value), ds[o]? = some u → M' ⟨g, o, none⟩ = some u) (hc : l'.length ≤ c) (hb : l'.length ≤ 9223372036854775807) : SlR (sub M' M0) R z by_ (some ⟨g, 0, none⟩) c l' := by
  subst e
  refine (h.mono hR).sl (fun o u hu => sub_of (hM.2 o u hu) ?_) hc hb
  cases hn : M0 ⟨g, o, none⟩ with
  | none => rfl
  | some v => exact absurd rfl (hM.1 _ _ (h0 _ _ hn))
/-- A filled row of a result's own. -/
theorem Fill.new {α : Type} {M0 : Mem} {R : Mem → α → List Value → Prop} {z by_ g : Nat} {l : List α} (f : Fill M0 (fun M' x cs => R (sub M' M0) x cs) z l) {Z : List Value} (hd : ¬ f.css.length < l.length) {M' : Mem} (hm : ∀ x cs, R (sub f.M M0) x cs → R (sub M' M0) x cs)
    (hM : (∀ ad u, f.M ad = some u → ad.block ≠ g) ∧ ∀ (o : Nat) (u : Value), (f.cells Z)[o]? = some u → M' ⟨g, o, none⟩ = some u) (hb : l.length ≤ 9223372036854775807) : SlR (sub M' M0) R z by_ (some ⟨g, 0, none⟩) l.length l := by
  have he : f.css.length = l.length := by have := f.len; omega
  have hc : f.cells Z = f.css.flatten := by unfold Fill.cells; rw [he, Nat.sub_self]; simp
  rw [hc] at hM
  refine slR_of f.hz (fun i x hx => ?_) (fun o u hu => sub_of (hM.2 o u hu) ?_) hb
  · have hi : i < f.css.length := by
      rcases Nat.lt_or_ge i l.length with h | h
      · omega
      · rw [List.getElem?_eq_none h] at hx; simp at hx
    refine ⟨f.css[i], List.getElem?_eq_getElem hi, ?_⟩
    obtain ⟨y, h1, h2⟩ := f.hR i _ (List.getElem?_eq_getElem hi)
    rw [hx] at h1
    simp only [Option.some.injEq] at h1
    subst h1
    exact hm _ _ h2
  · cases hn : M0 ⟨g, o, none⟩ with
    | none => rfl
    | some v => exact absurd rfl (hM.1 _ _ (f.le _ _ hn))
/-! Marks: what is written keeps the shape of memory. -/
def isS : Value → Bool
  | .int .. | .bool _ | .string _ => true
  | _ => false
/-- Plain values are not told apart. -/
def sh (M : Mem) : Mem := fun ad => (M ad).map fun v => bif isS v then .bool true else v
theorem sh_set {M M' : Mem} {ad : Addr} {u : Value} (h1 : M' ad = some u) (h2 : ∀ a, a ≠ ad → M' a = M a) {u0 : Value} (h0 : M ad = some u0) (s0 : isS u0 = true) (s1 : isS u = true) : sh M' = sh M := by
  funext a
  unfold sh
  by_cases he : a = ad
  · subst he; simp [h1, h0, s0, s1]
  · rw [h2 a he]
theorem sh_get {M M' : Mem} (h : sh M' = sh M) {ad : Addr} {u : Value} (hu : M ad = some u) (hs : isS u = false) : M' ad = some u := by
  have := congrFun h ad
  unfold sh at this
  rw [hu] at this
  cases hm : M' ad with
  | none => rw [hm] at this; simp at this
  | some v =>
    rw [hm] at this
    simp only [Option.map_some, hs, cond_false, Option.some.injEq] at this
    cases hv : isS v with
    | true => rw [hv] at this; simp only [cond_true] at this; subst this; cases hs
    | false => rw [hv] at this; simp only [cond_false] at this; rw [this]
theorem sh_some {M M' : Mem} (h : sh M' = sh M) {ad : Addr} {u : Value} (hu : M ad = some u) (hs : isS u = true) : ∃ v, M' ad = some v ∧ isS v = true := by
  have := congrFun h ad
  unfold sh at this
  rw [hu] at this
  cases hm : M' ad with
  | none => rw [hm] at this; simp at this
  | some v =>
    rw [hm] at this
    simp only [Option.map_some, hs, cond_true, Option.some.injEq] at this
    cases hv : isS v with
    | true => exact ⟨v, rfl, hv⟩
    | false => rw [hv] at this; simp only [cond_false] at this; subst this; cases hv
theorem sh_dom {M M' : Mem} (h : sh M' = sh M) {ad : Addr} {u : Value} (hu : M' ad = some u) : ∃ u0, M ad = some u0 := by
  have := congrFun h ad
  unfold sh at this
  rw [hu] at this
  cases hm : M ad with
  | none => rw [hm] at this; simp at this
  | some v => exact ⟨v, rfl⟩
theorem sh_over {M M1 M' : Mem} (h : sh M1 = sh M) (hl : Le M1 M') (hn : ∀ ad, M ad = none → M' ad = M ad) : sh M' = sh M := by
  funext ad
  cases hm : M ad with
  | none => unfold sh; rw [hn ad hm, hm]
  | some u =>
    have := congrFun h ad
    unfold sh at this
    rw [hm] at this
    cases h1 : M1 ad with
    | none => rw [h1] at this; simp at this
    | some v =>
      unfold sh
      rw [hl ad v h1, hm, ← this, h1]
theorem WrK.sh {M0 : Mem} {wr : Bool} {base M : Mem} {ad : Addr} {u u0 : Value} {K : Mem → Prop} (hM : Lw.sh M = Lw.sh M0) (hw : wr = true) (hb : base ad = none) (h0 : M0 ad = some u0) (s0 : isS u0 = true) (s1 : isS u = true) (k : ∀ M', Lw.sh M' = Lw.sh M0 → K M') : WrK wr base M ad u K := by
  obtain ⟨v, h1, h2⟩ := sh_some hM h0 s0
  exact .mk hw (by rw [h1]; rfl) hb fun M' g1 g2 => k M' ((sh_set g1 g2 h1 h2 s1).trans hM)
theorem LdK.sh {M0 M : Mem} {ad : Addr} {o : Nat} {u : Value} {K : Value → Prop} (hM : Lw.sh M = Lw.sh M0) (h0 : M0 (ad.add o) = some u) (hs : isS u = false) (k : K u) : LdK M ad o K := .mk u (sh_get hM h0 hs) k
theorem CallK.ms {P : Program} {wr : Bool} {base M M0 : Mem} {f : FuncId} {args : Array Value} {K : Value → Mem → Prop} {Q : Value → Prop} (hw : wr = true) (hM : sh M = sh M0) (h : AnsW P M f args (fun v M' => Q v ∧ sh M' = sh M)) (hb : ∀ ad u, M ad = some u → base ad = none) (k : ∀ v M', Q v → sh M' = sh M0 → K v M') : CallK P wr base M f args K :=
  .mx _ hw h hb fun v M1 M' ⟨h1, h2⟩ h3 h4 => k v M' h1 ((sh_over h2 h3 h4).trans hM)
theorem CallK.ms' {P : Program} {wr : Bool} {base M M0 : Mem} {f : FuncId} {args : Array Value} {K : Value → Mem → Prop} {Q : Value → Mem → Prop} (hw : wr = true) (hM : sh M = sh M0) (h : AnsW P M f args (fun v M' => Q v M' ∧ sh M' = sh M)) (hb : ∀ ad u, M ad = some u → base ad = none) (k : ∀ v M' M1, Q v M1 → Le M1 M' → sh M' = sh M0 → K v M') : CallK P wr base M f args K :=
  .mx _ hw h hb fun v M1 M' ⟨h1, h2⟩ h3 h4 => k v M' M1 h1 h3 ((sh_over h2 h3 h4).trans hM)
/-- One cell of memory written. -/
def upd (M : Mem) (ad : Addr) (u : Value) : Mem := fun a => if a = ad then some u else M a
theorem add_inj {ad : Addr} {p q : Nat} (h : ad.add p = ad.add q) : p = q := by
  unfold Addr.add at h
  split at h <;> split at h <;> first | omega | (have := congrArg Addr.off h; simp only at this; omega)
theorem upd_eq (M : Mem) (ad : Addr) (u : Value) : upd M ad u ad = some u := by simp [upd]
theorem upd_ne {M : Mem} {ad : Addr} {u : Value} {a b c d : Nat} (h : a + b ≠ c + d) : upd M ((ad.add a).add b) u ((ad.add c).add d) = M ((ad.add c).add d) := by
  unfold upd
  rw [if_neg]
  rw [add_add, add_add]
  intro he
  exact h (add_inj he).symm
theorem WrK.up {wr : Bool} {base M : Mem} {ad : Addr} {u u0 : Value} {K : Mem → Prop} (hw : wr = true) (hb : base ad = none) (h0 : M ad = some u0) (k : K (upd M ad u)) : WrK wr base M ad u K := by
  refine .mk hw (by rw [h0]; rfl) hb fun M' g1 g2 => ?_
  have : M' = upd M ad u := by
    funext a
    unfold upd
    by_cases he : a = ad
    · subst he; rw [if_pos rfl]; exact g1
    · rw [if_neg he]; exact g2 a he
  rw [this]; exact k
theorem WrK.us {M0 : Mem} {wr : Bool} {base M : Mem} {ad : Addr} {u u0 : Value} {K : Mem → Prop} (hM : Lw.sh M = Lw.sh M0) (hw : wr = true) (hb : base ad = none) (h0 : M0 ad = some u0) (s0 : isS u0 = true) (s1 : isS u = true) (k : Lw.sh (upd M ad u) = Lw.sh M0 → K (upd M ad u)) : WrK wr base M ad u K := by
  obtain ⟨v, h1, h2⟩ := sh_some hM h0 s0
  exact .up hw hb h1 (k ((sh_set (upd_eq M ad u) (fun a ha => by unfold upd; rw [if_neg ha]) h1 h2 s1).trans hM))
/-- What is known where the world was not written. -/
theorem Le.off {Mx M M' : Mem} {A : Mem} (hA : Le A M) (hn : ∀ ad, Mx ad = none → M' ad = M ad) (hx : ∀ ad u, A ad = some u → Mx ad = none) : Le A M' := fun ad u hu => by rw [hn ad (hx ad u hu)]; exact hA ad u hu
end Go.Proofs.Ytmmgknhefobloaa.Lw
