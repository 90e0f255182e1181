/- Worlds of nodes, drawn: a body put into the log and its pieces to the nodes. -/
import Derived.Test.YtefhbbmklpnpoaaGreatFunFF
namespace Go.Proofs.YtefhbbmklpnpoaaGreat.Hlp
open Go Go.RowKit Go.Proofs Go.Proofs.YtefhbbmklpnpoaaGreat.Lw
set_option linter.unusedVariables false
set_option linter.unusedSimpArgs false
set_option maxRecDepth 100000
set_option maxHeartbeats 4000000
def offX (N : Mem) (a w r : Nat) : Mem := off (off (off N a) w) r
theorem offX_out {N : Mem} {a w r : Nat} {x : Addr} {u : Value} (h : offX N a w r x = some u) : N x = some u ∧ x.block ≠ a ∧ x.block ≠ w ∧ x.block ≠ r :=
  ⟨off_le _ _ _ _ (off_le _ _ _ _ (off_le _ _ _ _ h)), off_ne (off_le _ _ _ _ (off_le _ _ _ _ h)), off_ne (off_le _ _ _ _ h), off_ne h⟩
theorem offX_of {N : Mem} {a w r : Nat} {x : Addr} {u : Value} (h : N x = some u) (h1 : x.block ≠ a) (h2 : x.block ≠ w) (h3 : x.block ≠ r) : offX N a w r x = some u := off_of (off_of (off_of h h1) h2) h3
theorem offX_le (N : Mem) (a w r : Nat) : Le (offX N a w r) N := fun x u h => (offX_out h).1
theorem offX_no {N : Mem} {a w r : Nat} {x : Addr} (h : x.block = a ∨ x.block = w ∨ x.block = r) : offX N a w r x = none := by
  cases hn : offX N a w r x with
  | none => rfl
  | some u => obtain ⟨_, h1, h2, h3⟩ := offX_out hn; rcases h with h | h | h <;> contradiction
theorem offX_blk {N : Mem} {a w r : Nat} {x : Addr} {u : Value} (h : N x = some u) (hn : offX N a w r x = none) : x.block = a ∨ x.block = w ∨ x.block = r := by
  by_cases h1 : x.block = a
  · exact .inl h1
  · by_cases h2 : x.block = w
    · exact .inr (.inl h2)
    · by_cases h3 : x.block = r
      · exact .inr (.inr h3)
      · rw [offX_of h h1 h2 h3] at hn; cases hn
theorem offX_dj (N : Mem) (a w r : Nat) : ∀ x u x' u', N x = some u → offX N a w r x = none → offX N a w r x' = some u' → x.block ≠ x'.block := fun x u x' u' h hn h' he => by
  obtain ⟨_, h1, h2, h3⟩ := offX_out h'
  rcases offX_blk h hn with h | h | h
  · exact h1 (he ▸ h)
  · exact h2 (he ▸ h)
  · exact h3 (he ▸ h)
theorem offX_mono {N N' : Mem} {a w r : Nat} (hl : Le (off N a) N') : Le (offX N a w r) (offX N' a w r) := fun x u h => by
  obtain ⟨h0, h1, h2, h3⟩ := offX_out h
  exact offX_of (hl _ _ (off_of h0 h1)) h1 h2 h3
/-- A notice in a row of a world. -/
def RowAt (N X : Mem) (B : Option Addr) (w r : Nat) (i : Nat) (x : GNotice) : Prop := r ≠ w ∧ ∃ ar cs, B = some ar ∧ ar.block = r ∧ RNotice X x cs ∧ cs.length = 13 ∧ SmallS x.State ∧ ∀ (j : Nat) u, cs[j]? = some u → N ((ar.add (i * 13)).add j) = some u
/-- A world of nodes: what its cells say. -/
structure W23 (N : Mem) (sb : Nat) (aw : Addr) (rb : Nat) (K m : Int) (acting : List Int) (A : Option Addr) (c : Nat) (s : GPgState) (pcs : List Value) (l : List GNotice) (B : Option Addr) (cap : Nat) : Prop where
  c0 : N (aw.add 0) = some (.int .i64 K)
  c1 : N (aw.add 1) = some (.int .i64 m)
  c2 : N (aw.add 2) = some (.slice A acting.length c)
  cp : ∀ j u, pcs[j]? = some u → N (aw.add (3 + j)) = some u
  c15 : N (aw.add 15) = some (.slice B l.length cap)
  km : 1 ≤ K ∧ K ≤ 3 ∧ 0 ≤ m ∧ m ≤ 2 ∧ (acting.length : Int) = K + m
  sa : SlR (offX N sb aw.block rb) RInt 1 8 A c acting
  sp : RPgState (offX N sb aw.block rb) s pcs
  ok : stateOkF s = true
  ll : l.length ≤ 100 ∧ l.length ≤ cap
  st : ∀ i x, l[i]? = some x → RowAt N (offX N sb aw.block rb) B aw.block rb i x
  ne : aw.block ≠ sb
  nr : rb ≠ sb
  kn : ∃ x u, x.block = rb ∧ N x = some u
variable {N N' M X : Mem} {sb rb : Nat} {aw : Addr} {K m : Int} {acting : List Int} {A : Option Addr} {c : Nat} {s : GPgState} {pcs : List Value} {l : List GNotice} {B : Option Addr} {cap : Nat}
theorem W23.mono (h : W23 N sb aw rb K m acting A c s pcs l B cap) (hl : Le (off N sb) N') : W23 N' sb aw rb K m acting A c s pcs l B cap := by
  have e : ∀ o u, N (aw.add o) = some u → N' (aw.add o) = some u := fun o u hu => hl _ _ (off_of hu (by rw [add_blk]; exact h.ne))
  have hx := offX_mono (w := aw.block) (r := rb) hl
  refine ⟨e _ _ h.c0, e _ _ h.c1, e _ _ h.c2, fun j u hu => e _ _ (h.cp j u hu), e _ _ h.c15, h.km, intUp h.sa hx, RPgState.mono hx _ _ h.sp, h.ok, h.ll, fun i x hi => ?_, h.ne, h.nr, ?_⟩
  · obtain ⟨hw, ar, cs, h1, h2, h3, h4, h5, h6⟩ := h.st i x hi
    exact ⟨hw, ar, cs, h1, h2, RNotice.mono hx _ _ h3, h4, h5, fun j u hu => hl _ _ (off_of (h6 j u hu) (by rw [add_blk, add_blk, h2]; exact h.nr))⟩
  · obtain ⟨x, u, h1, h2⟩ := h.kn
    exact ⟨x, u, h1, hl _ _ (off_of h2 (by rw [h1]; exact h.nr))⟩
theorem W23.up (h : W23 N sb aw rb K m acting A c s pcs l B cap) (hl : Le N N') : W23 N' sb aw rb K m acting A c s pcs l B cap := h.mono fun x u hu => hl _ _ (off_le _ _ _ _ hu)
theorem W23.sl (h : W23 N sb aw rb K m acting A c s pcs l B cap) : SlR N RNotice 13 168 B cap l :=
  ⟨h.ll.2, by have := h.ll.1; omega, fun i x hi => by
    obtain ⟨_, ar, cs, h1, h2, h3, h4, h5, h6⟩ := h.st i x hi
    exact ⟨ar, cs, h1, RNotice.mono (offX_le _ _ _ _) _ _ h3, h4, h6⟩⟩
/-- What is new lies apart from a world. -/
theorem W23.new {ad : Addr} {b : Int} (h : W23 N ad.block aw rb K m acting A c s pcs l B cap) (hS : Src X N ad b) (hf : Fr N N') : Le (sub N' N) (offX N' ad.block aw.block rb) := fun x u hu => by
  obtain ⟨h1, h2⟩ := sub_out (fun _ _ h => h) hu
  obtain ⟨u0, hu0⟩ := hS.blk
  obtain ⟨y, v, hy, hv⟩ := h.kn
  have k0 := hf x u h1 h2 _ _ hu0
  have k1 := hf x u h1 h2 _ _ h.c0
  have k2 := hf x u h1 h2 _ _ hv
  rw [add_blk] at k0 k1
  exact offX_of h2 (Ne.symm k0) (Ne.symm k1) (by rw [← hy]; exact Ne.symm k2)
/-- A new state is put into a world. -/
theorem W23.pick (h : W23 N sb aw rb K m acting A c s pcs l B cap) {y : GPgState} {ycs : List Value} (hy : RPgState (offX N sb aw.block rb) y ycs) (hok : stateOkF y = true) (hyl : ycs.length = 12) (k1 : ∀ o u, ycs[o]? = some u → N' ((aw.add 3).add o) = some u) (k2 : ∀ a, (∀ o, o < 12 → a ≠ (aw.add 3).add o) → N' a = N a) : W23 N' sb aw rb K m acting A c y ycs l B cap ∧ Le (offX N sb aw.block rb) (offX N' sb aw.block rb) ∧ ∀ x u, x.block ≠ aw.block → N x = some u → N' x = some u := by
  have out : ∀ x u, x.block ≠ aw.block → N x = some u → N' x = some u := fun x u hx hu => by rw [k2 x fun o _ he => hx (by rw [he, add_blk, add_blk])]; exact hu
  have at_ : ∀ q, (q < 3 ∨ 15 ≤ q) → N' (aw.add q) = N (aw.add q) := fun q hq => k2 _ fun o ho he => by rw [add_add] at he; have := add_inj he; omega
  have hx : Le (offX N sb aw.block rb) (offX N' sb aw.block rb) := fun x u hu => by
    obtain ⟨h0, h1, h2, h3⟩ := offX_out hu
    exact offX_of (out x u h2 h0) h1 h2 h3
  refine ⟨⟨by rw [at_ 0 (by omega)]; exact h.c0, by rw [at_ 1 (by omega)]; exact h.c1, by rw [at_ 2 (by omega)]; exact h.c2, fun j u hu => by rw [← add_add]; exact k1 j u hu, by rw [at_ 15 (by omega)]; exact h.c15, h.km, intUp h.sa hx, RPgState.mono hx _ _ hy, hok, h.ll, fun i x hi => ?_, h.ne, h.nr, ?_⟩, hx, out⟩
  · obtain ⟨hw, ar, cs, h1, h2, h3, h4, h5, h6⟩ := h.st i x hi
    exact ⟨hw, ar, cs, h1, h2, RNotice.mono hx _ _ h3, h4, h5, fun j u hu => out _ _ (by rw [add_blk, add_blk, h2]; exact hw) (h6 j u hu)⟩
  · obtain ⟨x, u, h1, h2⟩ := h.kn
    by_cases hb : rb = aw.block
    · exact ⟨aw.add 0, _, by rw [add_blk, hb], by rw [at_ 0 (by omega)]; exact h.c0⟩
    · exact ⟨x, u, h1, out x u (by rw [h1]; exact hb) h2⟩
/-- A node's state is put into a world. -/
theorem W23.node (h : W23 N sb aw rb K m acting A c s pcs l B cap) {y : GPgState} {ycs : List Value} {k : Nat} {x0 : GNotice} {ar : Addr} (hk : l[k]? = some x0) (hB : B = some ar) (hy : RPgState (offX N sb aw.block rb) y ycs) (hsm : SmallS y) (hyl : ycs.length = 12) (k1 : ∀ o u, ycs[o]? = some u → N' (((ar.add (k * 13)).add 1).add o) = some u) (k2 : ∀ a, (∀ o, o < 12 → a ≠ ((ar.add (k * 13)).add 1).add o) → N' a = N a) : W23 N' sb aw rb K m acting A c s pcs (l.set k ⟨x0.From, y⟩) B cap ∧ Le (offX N sb aw.block rb) (offX N' sb aw.block rb) ∧ ∀ x u, x.block ≠ rb → N x = some u → N' x = some u := by
  obtain ⟨hw, ar', cs0, g1, g2, g3, g4, g5, g6⟩ := h.st k x0 hk
  rw [hB] at g1
  cases g1
  have out : ∀ x u, x.block ≠ rb → N x = some u → N' x = some u := fun x u hx hu => by rw [k2 x fun o _ he => hx (by rw [he, add_blk, add_blk, add_blk, g2])]; exact hu
  have hx : Le (offX N sb aw.block rb) (offX N' sb aw.block rb) := fun x u hu => by
    obtain ⟨h0, h1, h2, h3⟩ := offX_out hu
    exact offX_of (out x u h3 h0) h1 h2 h3
  have e : ∀ o u, N (aw.add o) = some u → N' (aw.add o) = some u := fun o u hu => out _ _ (by rw [add_blk]; exact Ne.symm hw) hu
  have hlt : k < l.length := by rcases Nat.lt_or_ge k l.length with h1 | h1; exact h1; (rw [List.getElem?_eq_none h1] at hk; cases hk)
  refine ⟨⟨e _ _ h.c0, e _ _ h.c1, e _ _ h.c2, fun j u hu => e _ _ (h.cp j u hu), by rw [List.length_set]; exact e _ _ h.c15, h.km, intUp h.sa hx, RPgState.mono hx _ _ h.sp, h.ok, by rw [List.length_set]; exact h.ll, fun i x hi => ?_, h.ne, h.nr, ⟨(ar.add (k * 13)).add 0, .int .i64 x0.From, by rw [add_blk, add_blk, g2], ?_⟩⟩, hx, out⟩
  · by_cases hik : i = k
    · subst hik
      rw [List.getElem?_set_self hlt] at hi
      cases hi
      obtain ⟨A0, c0, A1, c1, A2, c2, A3, c3, rfl, hbb, s0, s1, s2, s3⟩ := RPgState.mono hx _ _ hy
      refine ⟨hw, ar, _, hB, g2, ⟨A0, c0, A1, c1, A2, c2, A3, c3, rfl, trivial, s0, s1, s2, s3⟩, rfl, hsm, fun j u hu => ?_⟩
      cases j with
      | zero =>
        obtain ⟨_, _, _, _, _, _, _, _, rfl, _⟩ := g3
        rw [k2 _ fun o _ he => by rw [add_add _ 1 o] at he; have := add_inj he; omega]
        simp only [List.getElem?_cons_zero, Option.some.injEq] at hu
        subst hu
        exact g6 0 _ rfl
      | succ j =>
        rw [show j + 1 = 1 + j by omega, ← add_add]
        exact k1 j u (by simpa using hu)
    · rw [List.getElem?_set_ne (Ne.symm hik)] at hi
      obtain ⟨_, ar2, cs, h1, h2, h3, h4, h5, h6⟩ := h.st i x hi
      rw [hB] at h1
      cases h1
      refine ⟨hw, ar, cs, hB, h2, RNotice.mono hx _ _ h3, h4, h5, fun j u hu => ?_⟩
      have hj : j < 13 := by rw [← h4]; rcases Nat.lt_or_ge j cs.length with h | h; exact h; (rw [List.getElem?_eq_none h] at hu; cases hu)
      rw [k2 _ fun o ho he => by rw [add_add, add_add, add_add] at he; have := add_inj he; omega]
      exact h6 j u hu
  · obtain ⟨_, _, _, _, _, _, _, _, rfl, _⟩ := g3
    rw [k2 _ fun o _ he => by rw [add_add _ 1 o] at he; have := add_inj he; omega]
    exact g6 0 _ rfl
end Go.Proofs.YtefhbbmklpnpoaaGreat.Hlp
