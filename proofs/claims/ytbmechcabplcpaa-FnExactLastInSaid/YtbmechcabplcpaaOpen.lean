/- How an argument of a law is laid open: what reads as data of a type is a value of that type's kind. -/
import Derived.Test.YtbmechcabplcpaaWWords
import Derived.Test.YtbmechcabplcpaaWSized
import Derived.ChangeArms
import Derived.DataReads
import Derived.WideShapes
import Derived.Carry
import Derived.ProofKit
import Derived.OpenShut
namespace Go.Proofs.Ytbmechcabplcpaa.Open
open Go Go.RowKit Go.WideShapes Go.Proofs.YtbmechcabplcpaaW.PrintWords
set_option linter.unusedVariables false

/-- Whatever reads as data of type t is a value of the kind d, of which 'good' holds. -/
def Opens {α : Type} (P : Program) (d : Kd α) (t : TypeId) (good : α → Prop) : Prop :=
  ∀ (H : Type) (enc : TypeId × Value → H) (W : World) (base : Nat) (spare : Nat → Bool) (held : Bool) (fuel : Nat) (cs : List Value) (x : DataW H × List MemPlace),
    DataW.trod enc P W base spare held fuel t cs = some x → ∃ a, good a ∧ d.K W a cs

section
variable {P : Program}
theorem opens_int {t : TypeId} {k : IntKind} (ht : P.underlying t = some (.int k)) : Opens P (Kd.int k) t (fun n => (Lit.int k n).wf = true) := by
  intro H enc W base spare held fuel cs x h
  obtain ⟨n, rfl, rfl, hw⟩ := DataW.trod_int ht h
  exact ⟨n, hw, rfl⟩
theorem opens_bool {t : TypeId} (ht : P.underlying t = some .bool) : Opens P Kd.bool t (fun _ => True) := by
  intro H enc W base spare held fuel cs x h
  obtain ⟨n, rfl, rfl⟩ := DataW.trod_bool ht h
  exact ⟨n, trivial, rfl⟩
theorem opens_string {t : TypeId} (ht : P.underlying t = some .string) : Opens P Kd.string t (fun s => s.size ≤ maxLen) := by
  intro H enc W base spare held fuel cs x h
  obtain ⟨s, rfl, rfl, hs⟩ := DataW.trod_string ht h
  exact ⟨s, hs, rfl⟩

theorem list_of {α : Type} {Q : Nat → α → Prop} : ∀ (n : Nat), (∀ i, i < n → ∃ a, Q i a) → ∃ l : List α, l.length = n ∧ ∀ i a, l[i]? = some a → Q i a
  | 0, _ => ⟨[], rfl, fun i a h => by simp at h⟩
  | n + 1, h => by
    obtain ⟨l, hl, hq⟩ := list_of n (fun i hi => h i (by omega))
    obtain ⟨a, ha⟩ := h n (by omega)
    refine ⟨l ++ [a], by simp [hl], fun i b hb => ?_⟩
    rcases Nat.lt_or_ge i l.length with hi | hi
    · rw [List.getElem?_append_left hi] at hb
      exact hq i b hb
    · have hi' : i = l.length := by
        have := (List.getElem?_eq_some_iff.1 hb).1
        simp at this
        omega
      subst hi'
      have : a = b := by simpa using hb
      subst this
      rw [hl]
      exact ha

theorem opens_slice {α : Type} {d : Kd α} {t e : TypeId} {good : α → Prop} (ht : P.underlying t = some (.slice e)) (hsz : P.cellsOf e = d.sz) (ho : Opens P d e good) :
    Opens P (Kd.slice e d) t (fun xs => xs.length ≤ maxLen ∧ ∀ x ∈ xs, good x) := by
  intro H enc W base spare held fuel cs x h
  rcases DataW.trod_slice ht h with ⟨rfl, rfl⟩ | ⟨a, len, cap, elems, rest, n, _, rfl, rfl, hb, hl, hc, hel, hget, _, _⟩
  · exact ⟨[], ⟨by simp, by simp⟩, none, 0, rfl, by simp, rfl, by simp, fun h0 => absurd h0 (by simp)⟩
  · have each : ∀ i, i < len → ∃ p : α, good p ∧ ∃ c, c.length = d.sz ∧ d.K W p c ∧ ∀ j u, c[j]? = some u → W.cell? (a.add (i * d.sz + j)) = some u := by
      intro i hi
      have h1 := hget i hi
      rw [List.getElem?_eq_getElem (by omega), Option.bind_eq_some_iff] at h1
      obtain ⟨c, hc1, hc2⟩ := h1
      obtain ⟨_, hcl, hcg⟩ := World.cells?_some hc1
      obtain ⟨p, hp, hk⟩ := ho H enc W base spare held n c _ hc2
      refine ⟨p, hp, c, by rw [hcl, hsz], hk, fun j u hu => ?_⟩
      have hj : j < P.cellsOf e := by rw [← hcl]; exact (List.getElem?_eq_some_iff.1 hu).1
      have := hcg j hj
      rw [add_add, hsz] at this
      rw [this, hu]
    obtain ⟨l, hll, hq⟩ := list_of len each
    refine ⟨l, ⟨by omega, fun y hy => ?_⟩, some a, cap, by rw [hll], by omega, rfl, by rw [hll]; unfold maxLen at hc; omega, fun _ => ⟨a, rfl, fun j p hp => ?_⟩⟩
    · obtain ⟨j, hj, rfl⟩ := List.getElem_of_mem hy
      exact (hq j _ (List.getElem?_eq_getElem hj)).1
    · obtain ⟨_, c, h1, h2, h3⟩ := hq j p hp
      exact ⟨c, h1, h2, h3⟩

/-- The fields of a struct from one on, the cells in line. -/
def OpensF {α : Type} (P : Program) (d : Kd α) (fs : List Field) (off total : Nat) (good : α → Prop) : Prop :=
  ∀ (H : Type) (enc : TypeId × Value → H) (W : World) (base : Nat) (spare : Nat → Bool) (held : Bool) (fuel : Nat) (cs : List Value), cs.length = total →
    (∀ f ∈ fs, ∃ x, DataW.trod enc P W base spare held fuel f.type ((cs.drop f.offset).take (P.cellsOf f.type)) = some x) → ∃ a, good a ∧ d.K W a (cs.drop off)
theorem opensF_one {α : Type} {d : Kd α} {f : Field} {off total : Nat} {good : α → Prop} (ho : Opens P d f.type good) (h1 : f.offset = off) (h2 : off + P.cellsOf f.type = total) : OpensF P d [f] off total good := by
  intro H enc W base spare held fuel cs hl hf
  obtain ⟨x, hx⟩ := hf f (by simp)
  obtain ⟨a, ha, hk⟩ := ho H enc W base spare held fuel _ x hx
  refine ⟨a, ha, ?_⟩
  rw [h1, List.take_of_length_le (by rw [List.length_drop]; omega)] at hk
  exact hk
theorem opensF_cons {α β : Type} {a : Kd α} {b : Kd β} {f : Field} {fs : List Field} {off total : Nat} {ga : α → Prop} {gb : β → Prop} (ho : Opens P a f.type ga) (h1 : f.offset = off)
    (hr : OpensF P b fs (off + P.cellsOf f.type) total gb) : OpensF P (Kd.pair a b) (f :: fs) off total (fun x => ga x.1 ∧ gb x.2) := by
  intro H enc W base spare held fuel cs hl hf
  obtain ⟨x, hx⟩ := hf f (by simp)
  obtain ⟨p, hp, hk⟩ := ho H enc W base spare held fuel _ x hx
  obtain ⟨q, hq, hk2⟩ := hr H enc W base spare held fuel cs hl (fun g hg => hf g (by simp [hg]))
  rw [h1] at hk
  refine ⟨(p, q), ⟨hp, hq⟩, _, _, ?_, hk, hk2⟩
  rw [← List.drop_drop]
  exact (List.take_append_drop _ _).symm
theorem opens_struct {α : Type} {d : Kd α} {t : TypeId} {fs : Array Field} {good : α → Prop} (ht : P.underlying t = some (.struct fs)) (hf : OpensF P d fs.toList 0 (P.cellsOf t) good) : Opens P d t good := by
  intro H enc W base spare held fuel cs x h
  obtain ⟨xs, n, _, _, hl, hlen, hg⟩ := DataW.trod_struct ht h
  have := hf H enc W base spare held n cs hl (fun f hm => by
    obtain ⟨i, hi, rfl⟩ := List.getElem_of_mem hm
    have hi' : i < fs.size := by simpa using hi
    have h1 := hg i fs[i] (Array.getElem?_eq_getElem hi')
    rw [List.getElem?_eq_getElem (by omega)] at h1
    exact ⟨_, by simpa using h1⟩)
  simpa using this
theorem opens_iso {α β : Type} {d : Kd α} {t : TypeId} {good : α → Prop} (f : β → α) (g : α → β) (hfg : ∀ a, f (g a) = a) (ho : Opens P d t good) : Opens P (Kd.iso d f) t (fun b => good (f b)) := by
  intro H enc W base spare held fuel cs x h
  obtain ⟨a, ha, hk⟩ := ho H enc W base spare held fuel cs x h
  exact ⟨g a, by show good (f (g a)); rw [hfg]; exact ha, by show d.K W (f (g a)) cs; rw [hfg]; exact hk⟩
theorem opens_mono {α : Type} {d : Kd α} {t : TypeId} {good good' : α → Prop} (h : ∀ a, good a → good' a) (ho : Opens P d t good) : Opens P d t good' := by
  intro H enc W base spare held fuel cs x hx
  obtain ⟨a, ha, hk⟩ := ho H enc W base spare held fuel cs x hx
  exact ⟨a, h a ha, hk⟩

/-- A struct by value: the value is what its cells say. -/
theorem agg_of {W : World} {r : Reach} {b0 : Nat} {t : TypeId} {fs : Array Field} {v : Value} (hs : P.underlying t = some (.struct fs)) (hv : Value.okWide P W r b0 t v) : v = .agg v.cells := by
  obtain ⟨cs, rfl, _⟩ := okWide_struct hs hv
  rfl
end
end Go.Proofs.Ytbmechcabplcpaa.Open
