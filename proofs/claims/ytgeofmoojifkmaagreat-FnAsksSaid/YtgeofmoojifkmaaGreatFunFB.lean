/- Matrices and shards: something of its kind comes out, of the right length. -/
import Derived.Test.YtgeofmoojifkmaaGreatFunFA
import Derived.Test.YtgeofmoojifkmaaGreatIns
import Derived.Test.YtgeofmoojifkmaaGreatFunE
namespace Go.Proofs.YtgeofmoojifkmaaGreat.Hlp
open Go Go.RowKit Go.Proofs Go.Proofs.YtgeofmoojifkmaaGreat.Lw
set_option linter.unusedVariables false
set_option linter.unusedSimpArgs false
set_option maxRecDepth 100000
set_option maxHeartbeats 4000000
theorem RowN.w {M N N1 : Mem} {z len cap : Nat} {ad : Addr} {ds vs : List Value} (h : RowN M N z (some ad) len cap ds) (hv : vs.length = z) (hle : len + 1 ≤ cap) (k1 : ∀ o u, vs[o]? = some u → N1 ((ad.add (len * z)).add o) = some u) (k2 : ∀ a, (∀ o, o < vs.length → a ≠ (ad.add (len * z)).add o) → N1 a = N a) : RowN M N1 z (some ad) (len + 1) cap (ds ++ vs) := by
  rcases h with ⟨h, _⟩ | ⟨ad', h1, h2, h3⟩
  · cases h
  · cases h1
    have hl := h2.len
    refine .inr ⟨ad, rfl, RowC.wr h2 k1 k2 (by rw [List.length_append, hl, hv, Nat.add_mul, Nat.one_mul]) hle (fun o u hu => ?_), h3⟩
    rcases Nat.lt_or_ge o ds.length with ho | ho
    · rw [List.getElem?_append_left ho] at hu
      exact .inr ⟨.inl (by omega), h2.el o u hu⟩
    · rw [List.getElem?_append_right ho] at hu
      exact .inl ⟨by omega, by rw [← hl]; exact hu⟩
theorem RowN.kept {M N N1 : Mem} {z len cap q : Nat} {ad : Addr} {ds vs : List Value} (h : RowN M N z (some ad) len cap ds) (hl : Le M N) (k2 : ∀ a, (∀ o, o < vs.length → a ≠ (ad.add q).add o) → N1 a = N a) : Le M N1 := fun a u hu => by
  rcases h with ⟨h, _⟩ | ⟨ad', h1, h2, h3⟩
  · cases h
  · cases h1
    rw [k2 a fun o _ he => h3 a u hu (by rw [he, add_blk, add_blk])]
    exact hl a u hu
theorem RowN.pub {M N N1 : Mem} {z len cap m : Nat} {ad : Addr} {ds : List Value} (hMN : Le M N) (hlen : ds.length = len * z) (hle : len ≤ cap) (hc : ∀ o u, ds[o]? = some u → N1 (ad.add o) = some u) (hroom : ∀ o, o < cap * z → ∃ u, N1 (ad.add o) = some u) (hf : ∀ a u, N a = some u → a.block ≠ ad.block) : RowN M N1 z (some ad) len cap ds :=
  .inr ⟨ad, rfl, ⟨hlen, hle, hc, hroom⟩, fun a u hu => hf a u (hMN a u hu)⟩
theorem RowN.isSome_of {M N : Mem} {z len cap : Nat} {A : Option Addr} {ds : List Value} (h : RowN M N z A len cap ds) (hp : 0 < len) : ∃ ad, A = some ad := by
  rcases h with ⟨_, h, _⟩ | ⟨ad, h, _⟩
  · omega
  · exact ⟨ad, h⟩
theorem RowN.get {M N : Mem} {z len cap : Nat} {ad : Addr} {ds : List Value} (h : RowN M N z (some ad) len cap ds) : RowC N ad z len cap ds ∧ ∀ a u, M a = some u → a.block ≠ ad.block := by
  rcases h with ⟨h, _⟩ | ⟨ad', h1, h2, h3⟩
  · cases h
  · cases h1; exact ⟨h2, h3⟩
theorem slIntsN {M N : Mem} {A : Option Addr} {cap : Nat} {ns : List Int} (h : RowN M N 1 A ns.length cap (ns.map (Value.int .i64))) (hn : ns.length ≤ 1000000) : SlR N RInt 1 8 A cap ns := by
  rcases h with ⟨rfl, h1, h2, h3⟩ | ⟨ad, rfl, h1, _⟩
  · have : ns = [] := List.eq_nil_of_length_eq_zero h1
    subst this
    exact SlR.nil
  · refine ⟨h1.le, by omega, fun i x hx => ⟨ad, [.int .i64 x], rfl, rfl, rfl, fun j u hu => ?_⟩⟩
    cases j with
    | succ j => simp at hu
    | zero =>
      simp only [List.getElem?_cons_zero, Option.some.injEq] at hu
      subst hu
      rw [add_add, Nat.mul_one, Nat.add_zero]
      exact h1.el i _ (by rw [List.getElem?_map, hx]; rfl)
theorem slStrsW {M1 : Mem} {ad2 : Addr} {ss : List ByteArray} {cap : Nat} (hcap : ss.length ≤ cap) (hlen : ss.length ≤ 1000000) (hb : ∀ x ∈ ss, x.size ≤ 1000000) (hc : ∀ o u, (ss.map Value.string)[o]? = some u → M1 (ad2.add o) = some u) : SlR M1 RStr 1 16 (some ad2) cap ss :=
  ⟨hcap, by omega, fun i x hx => ⟨ad2, [.string x], rfl, ⟨rfl, by have := hb x (List.mem_of_getElem? hx); omega⟩, rfl, fun j u hu => by
    cases j with
    | succ j => simp at hu
    | zero =>
      simp only [List.getElem?_cons_zero, Option.some.injEq] at hu
      subst hu
      rw [add_add, Nat.mul_one, Nat.add_zero]
      exact hc i _ (by rw [List.getElem?_map, hx]; rfl)⟩⟩
theorem addr0 {g o : Nat} : (⟨g, 0, none⟩ : Addr).add o = ⟨g, o, none⟩ := by unfold Addr.add; split <;> simp_all
theorem freshA (M : Mem) {ad : Addr} (h : ∀ a u, M a = some u → a.block ≠ ad.block) (p q : Nat) : M ((ad.add p).add q) = none := by
  cases hm : M ((ad.add p).add q) with
  | none => rfl
  | some u => exact absurd (by rw [add_blk, add_blk]) (h _ u hm)
theorem callStr {P : Program} {wr : Bool} {base M : Mem} {f : FuncId} {args : Array Value} {R : ByteArray → Prop} {K : Value → Mem → Prop} (h : AnsR P M f args (fun _ v => ∃ x : ByteArray, v = .string x ∧ R x)) (k : ∀ x M', R x → Le M M' → K (.string x) M') : CallK P wr base M f args K :=
  CallK.mr _ h fun v M' hl hv => by obtain ⟨x, rfl, hx⟩ := hv; exact k x M' hx hl
theorem RowN.up {M0 N N' : Mem} {z n cap : Nat} {A : Option Addr} {ds : List Value} (h : RowN M0 N z A n cap ds) (hl : Le N N') : RowN M0 N' z A n cap ds := by
  rcases h with h | ⟨ad, h1, h2, h3⟩
  · exact .inl h
  · exact .inr ⟨ad, h1, h2.mono hl, h3⟩
theorem allOne_i64 : ∀ (ns : List Int), allOne (ns.map (Value.int .i64)) = true
  | [] => rfl
  | n :: r => by simp only [List.map_cons, allOne, allOne_i64 r]; rfl
end Go.Proofs.YtgeofmoojifkmaaGreat.Hlp
