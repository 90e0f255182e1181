/- How an argument of a law is laid open, for the light walk: what reads as data of a type lies so. -/
import Derived.Test.YtmmgknhefobloaaLwTy
import Derived.ChangeArms
import Derived.DataReads
import Derived.WideShapes
import Derived.Carry
import Derived.ProofKit
import Derived.OpenShut
namespace Go.Proofs.Ytmmgknhefobloaa.LwOpen
open Go Go.RowKit Go.WideShapes Go.Proofs.Ytmmgknhefobloaa.Lw
set_option linter.unusedVariables false
def wm (W : World) : Mem := W.cell?
def Opens {α : Type} (P : Program) (R : Mem → α → List Value → Prop) (t : TypeId) : Prop :=
  ∀ (H : Type) (enc : TypeId × Value → H) (W : World) (base : Nat) (spare : Nat → Bool) (held : Bool) (fuel : Nat) (cs : List Value) (x : DataW H × List MemPlace),
    DataW.trod enc P W base spare held fuel t cs = some x → ∃ a, R (wm W) a cs
def ROne (k : IntKind) (M : Mem) (x : Int) (cs : List Value) : Prop := cs = [.int k x]
def RByteO (M : Mem) (x : Int) (cs : List Value) : Prop := cs = [.int .u8 x] ∧ 0 ≤ x ∧ x ≤ 255
def ROneB (M : Mem) (x : Bool) (cs : List Value) : Prop := cs = [.bool x]
def RSl {α : Type} (R : Mem → α → List Value → Prop) (z by_ : Nat) (M : Mem) (l : List α) (cs : List Value) : Prop := ∃ A c, cs = [.slice A l.length c] ∧ SlR M R z by_ A c l
section
variable {P : Program}
theorem opens_int {t : TypeId} {k : IntKind} (ht : P.underlying t = some (.int k)) : Opens P (ROne k) t := by
  intro H enc W base spare held fuel cs x h
  obtain ⟨n, rfl, rfl, hw⟩ := DataW.trod_int ht h
  exact ⟨n, rfl⟩
theorem opens_byte {t : TypeId} (ht : P.underlying t = some (.int .u8)) : Opens P RByteO t := by
  intro H enc W base spare held fuel cs x h
  obtain ⟨n, rfl, rfl, hw⟩ := DataW.trod_int ht h
  simp only [Lit.wf, Bool.and_eq_true, decide_eq_true_eq] at hw
  exact ⟨n, rfl, hw.1, hw.2⟩
theorem opens_bool {t : TypeId} (ht : P.underlying t = some .bool) : Opens P ROneB t := by
  intro H enc W base spare held fuel cs x h
  obtain ⟨n, rfl, rfl⟩ := DataW.trod_bool ht h
  exact ⟨n, rfl⟩
theorem opens_string {t : TypeId} (ht : P.underlying t = some .string) : Opens P RStr t := by
  intro H enc W base spare held fuel cs x h
  obtain ⟨s, rfl, rfl, hs⟩ := DataW.trod_string ht h
  exact ⟨s, rfl, by unfold maxLen at hs; omega⟩
theorem list_of {α : Type} {Q : Nat → α → Prop} : ∀ (n : Nat), (∀ i, i < n → ∃ a, Q i a) → ∃ l : List α, l.length = n ∧ ∀ i a, l[i]? = some a → Q i a
  | 0, _ => ⟨[], rfl, fun i a h => by simp at h⟩
  | n + 1, h => by
    obtain ⟨l, hl, hq⟩ := list_of n (fun i hi => h i (by omega))
    obtain ⟨a, ha⟩ := h n (by omega)
    refine ⟨l ++ [a], by simp [hl], fun i b hb => ?_⟩
    rcases Nat.lt_or_ge i l.length with hi | hi
    · rw [List.getElem?_append_left hi] at hb
      exact hq i b hb
    · have hi' : i = l.length := by
        have := (List.getElem?_eq_some_iff.1 hb).1
        simp at this
        omega
      subst hi'
      have : a = b := by simpa using hb
      subst this
      rw [hl]
      exact ha
theorem opens_slice {α : Type} {R : Mem → α → List Value → Prop} {t e z by_ : Nat} (ht : P.underlying t = some (.slice e)) (hsz : P.cellsOf e = z) (ho : Opens P R e) : Opens P (RSl R z by_) t := by
  intro H enc W base spare held fuel cs x h
  rcases DataW.trod_slice ht h with ⟨rfl, rfl⟩ | ⟨a, len, cap, elems, rest, n, _, rfl, rfl, hb, hl, hc, hel, hget, _, _⟩
  · exact ⟨[], none, 0, rfl, ⟨Nat.le_refl _, by simp, fun i x h => by simp at h⟩⟩
  · have each : ∀ i, i < len → ∃ p : α, ∃ c, R (wm W) p c ∧ c.length = z ∧ ∀ j u, c[j]? = some u → wm W ((a.add (i * z)).add j) = some u := by
      intro i hi
      have h1 := hget i hi
      rw [List.getElem?_eq_getElem (by omega), Option.bind_eq_some_iff] at h1
      obtain ⟨c, hc1, hc2⟩ := h1
      obtain ⟨_, hcl, hcg⟩ := World.cells?_some hc1
      obtain ⟨p, hk⟩ := ho H enc W base spare held n c _ hc2
      refine ⟨p, c, hk, by rw [hcl, hsz], fun j u hu => ?_⟩
      have hj : j < P.cellsOf e := by rw [← hcl]; exact (List.getElem?_eq_some_iff.1 hu).1
      have := hcg j hj
      rw [hsz] at this
      show W.cell? _ = _
      rw [this, hu]
    obtain ⟨l, hll, hq⟩ := list_of len each
    refine ⟨l, some a, cap, by rw [hll], ⟨by rw [hll]; exact hl, by rw [hll]; unfold maxLen at hc; omega, fun i x hx => ?_⟩⟩
    obtain ⟨c, h1, h2, h3⟩ := hq i x hx
    exact ⟨a, c, rfl, h1, h2, h3⟩
/-- The fields of a struct from one on, the cells in line. -/
def OpensF {α : Type} (P : Program) (R : Mem → α → List Value → Prop) (fs : List Field) (off total : Nat) : Prop :=
  ∀ (H : Type) (enc : TypeId × Value → H) (W : World) (base : Nat) (spare : Nat → Bool) (held : Bool) (fuel : Nat) (cs : List Value), cs.length = total →
    (∀ f ∈ fs, ∃ x, DataW.trod enc P W base spare held fuel f.type ((cs.drop f.offset).take (P.cellsOf f.type)) = some x) → ∃ a, R (wm W) a (cs.drop off)
def RPair {α β : Type} (R : Mem → α → List Value → Prop) (S : Mem → β → List Value → Prop) (M : Mem) (x : α × β) (cs : List Value) : Prop := ∃ c d, cs = c ++ d ∧ R M x.1 c ∧ S M x.2 d
theorem opensF_one {α : Type} {R : Mem → α → List Value → Prop} {f : Field} {off total : Nat} (ho : Opens P R f.type) (h1 : f.offset = off) (h2 : off + P.cellsOf f.type = total) : OpensF P R [f] off total := by
  intro H enc W base spare held fuel cs hl hf
  obtain ⟨x, hx⟩ := hf f (by simp)
  obtain ⟨a, hk⟩ := ho H enc W base spare held fuel _ x hx
  refine ⟨a, ?_⟩
  rw [h1, List.take_of_length_le (by rw [List.length_drop]; omega)] at hk
  exact hk
theorem opensF_cons {α β : Type} {R : Mem → α → List Value → Prop} {S : Mem → β → List Value → Prop} {f : Field} {fs : List Field} {off total : Nat} (ho : Opens P R f.type) (h1 : f.offset = off)
    (hr : OpensF P S fs (off + P.cellsOf f.type) total) : OpensF P (RPair R S) (f :: fs) off total := by
  intro H enc W base spare held fuel cs hl hf
  obtain ⟨x, hx⟩ := hf f (by simp)
  obtain ⟨p, hk⟩ := ho H enc W base spare held fuel _ x hx
  obtain ⟨q, hk2⟩ := hr H enc W base spare held fuel cs hl (fun g hg => hf g (by simp [hg]))
  rw [h1] at hk
  refine ⟨(p, q), _, _, ?_, hk, hk2⟩
  rw [← List.drop_drop]
  exact (List.take_append_drop _ _).symm
theorem opens_struct {α : Type} {R : Mem → α → List Value → Prop} {t : TypeId} {fs : Array Field} (ht : P.underlying t = some (.struct fs)) (hf : OpensF P R fs.toList 0 (P.cellsOf t)) : Opens P R t := by
  intro H enc W base spare held fuel cs x h
  obtain ⟨xs, n, _, _, hl, hlen, hg⟩ := DataW.trod_struct ht h
  have := hf H enc W base spare held n cs hl (fun f hm => by
    obtain ⟨i, hi, rfl⟩ := List.getElem_of_mem hm
    have hi' : i < fs.size := by simpa using hi
    have h1 := hg i fs[i] (Array.getElem?_eq_getElem hi')
    rw [List.getElem?_eq_getElem (by omega)] at h1
    exact ⟨_, by simpa using h1⟩)
  simpa using this
theorem opens_to {α β : Type} {R : Mem → α → List Value → Prop} {S : Mem → β → List Value → Prop} {t : TypeId} (f : α → β) (hf : ∀ M a cs, R M a cs → S M (f a) cs) (ho : Opens P R t) : Opens P S t := by
  intro H enc W base spare held fuel cs x h
  obtain ⟨a, hk⟩ := ho H enc W base spare held fuel cs x h
  exact ⟨f a, hf _ a cs hk⟩
/-- A struct by value: the value is what its cells say. -/
theorem agg_of {W : World} {r : Reach} {b0 : Nat} {t : TypeId} {fs : Array Field} {v : Value} (hs : P.underlying t = some (.struct fs)) (hv : Value.okWide P W r b0 t v) : v = .agg v.cells := by
  obtain ⟨cs, rfl, _⟩ := okWide_struct hs hv
  rfl
end
end Go.Proofs.Ytmmgknhefobloaa.LwOpen
