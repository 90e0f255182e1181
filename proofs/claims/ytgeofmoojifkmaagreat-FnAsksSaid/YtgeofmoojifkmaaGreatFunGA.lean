/- The generators' source: a pointer to three cells. What each function needs of it, and what it leaves. -/
import Derived.Test.YtgeofmoojifkmaaGreatFunA
namespace Go.Proofs.YtgeofmoojifkmaaGreat.Hlp
open Go Go.RowKit Go.Proofs Go.Proofs.YtgeofmoojifkmaaGreat.Lw
set_option linter.unusedVariables false
set_option linter.unusedSimpArgs false
set_option maxRecDepth 100000
set_option maxHeartbeats 4000000
/-- Memory without a block. -/
def off (M : Mem) (k : Nat) : Mem := fun a => if a.block = k then none else M a
theorem off_le (M : Mem) (k : Nat) : Le (off M k) M := fun a u h => by unfold off at h; split at h; cases h; exact h
theorem off_none {M : Mem} {k : Nat} {a : Addr} (h : a.block = k) : off M k a = none := if_pos h
theorem off_ne {M : Mem} {k : Nat} {a : Addr} {u : Value} (h : off M k a = some u) : a.block ≠ k := fun he => by rw [off_none he] at h; cases h
theorem off_of {M : Mem} {k : Nat} {a : Addr} {u : Value} (h : M a = some u) (hn : a.block ≠ k) : off M k a = some u := by unfold off; rw [if_neg hn]; exact h
theorem off_blk {M : Mem} {k : Nat} {a : Addr} {u : Value} (h : M a = some u) (hn : off M k a = none) : a.block = k := by
  by_cases hk : a.block = k
  · exact hk
  · rw [off_of h hk] at hn; cases hn
theorem off_dj (M : Mem) (k : Nat) : ∀ ad u ad' u', M ad = some u → off M k ad = none → off M k ad' = some u' → ad.block ≠ ad'.block := fun ad u ad' u' h hn h' he => off_ne h' (he ▸ off_blk h hn)
theorem add_blk (ad : Addr) (n : Nat) : (ad.add n).block = ad.block := by unfold Addr.add; split <;> rfl
def RByte (M : Mem) (x : Int) (cs : List Value) : Prop := cs = [.int .u8 x] ∧ 0 ≤ x ∧ x ≤ 255
theorem RByte.mono {M M' : Mem} (x : Int) (cs : List Value) (h : RByte M x cs) : RByte M' x cs := h
/-- A source: its cells, and the bytes that it reads, which lie in X, apart from it. -/
structure Src (X M : Mem) (ad : Addr) (b : Int) : Prop where
  sx : ∀ a u, X a = some u → M a = some u ∧ a.block ≠ ad.block
  ex : ∃ A c l p seed, M (ad.add 0) = some (.slice A (l : List Int).length c) ∧ M (ad.add 1) = some (.int .i64 p) ∧ M (ad.add 2) = some (.int .u64 seed) ∧ SlR X RByte 1 1 A c l ∧ 0 ≤ p ∧ p ≤ b
theorem Src.mono {X M M' : Mem} {ad : Addr} {b b' : Int} (h : Src X M ad b) (hl : Le M M') (hb : b ≤ b') : Src X M' ad b' := by
  obtain ⟨hx, A, c, l, p, seed, h0, h1, h2, hs, h3, h4⟩ := h
  exact ⟨fun a u hu => ⟨hl _ _ (hx a u hu).1, (hx a u hu).2⟩, A, c, l, p, seed, hl _ _ h0, hl _ _ h1, hl _ _ h2, hs, h3, by omega⟩
theorem Src.keep {X M M' : Mem} {ad : Addr} {b : Int} (h : Src X M ad b) (hX : Le X M') (hb : ∀ a u, a.block = ad.block → M a = some u → M' a = some u) : Src X M' ad b := by
  obtain ⟨hx, A, c, l, p, seed, h0, h1, h2, hs, h3, h4⟩ := h
  exact ⟨fun a u hu => ⟨hX _ _ hu, (hx a u hu).2⟩, A, c, l, p, seed, hb _ _ (add_blk _ _) h0, hb _ _ (add_blk _ _) h1, hb _ _ (add_blk _ _) h2, hs, h3, h4⟩
theorem Src.le {X M : Mem} {ad : Addr} {b : Int} (h : Src X M ad b) : Le X (off M ad.block) := fun a u hu => off_of (h.sx a u hu).1 (h.sx a u hu).2
/-- What a generator hands out: a value of a kind, and the source further on. -/
def GR {α : Type} (X : Mem) (val : α → Value) (Q : α → Prop) (ad : Addr) (b' : Int) (v : Value) (M' : Mem) : Prop := ∃ x, v = val x ∧ Q x ∧ Src X M' ad b'
theorem gcall {P : Program} {X base M : Mem} {ad : Addr} {b' : Int} {f : FuncId} {args : Array Value} {α : Type} {val : α → Value} {Q : α → Prop} {K : Value → Mem → Prop} (h : AnsB P (off M ad.block) M f args (GR X val Q ad b')) (hb : ∀ a, a.block = ad.block → base a = none) (k : ∀ x M', Q x → Src X M' ad b' → Le (off M ad.block) M' → K (val x) M') : CallK P true base M f args K :=
  CallK.mb (off M ad.block) _ rfl h (off_le _ _) (fun a u h1 h2 => hb a (off_blk h1 h2)) (off_dj _ _) (fun v Mx M2 hR hl hlb _ => by obtain ⟨x, rfl, hq, hS⟩ := hR; exact k x M2 hq (hS.mono hl (Int.le_refl _)) hlb)
theorem gcallB {P : Program} {X base M : Mem} {ad : Addr} {b' : Int} {f : FuncId} {args : Array Value} {α : Type} {val : α → Value} {Q : α → Prop} {K : Value → Mem → Prop} (h : AnsB P (off M ad.block) M f args (GR X val Q ad b')) (hb : ∀ a, a.block = ad.block → base a = none) (k : ∀ x M', Q x → Src X M' ad b' → Le (off M ad.block) M' → K (val x) M') : CallB P base M f args K :=
  CallB.mb (off M ad.block) _ h (off_le _ _) (fun a u h1 h2 => hb a (off_blk h1 h2)) (off_dj _ _) (fun v Mx M2 hR hl hlb _ => by obtain ⟨x, rfl, hq, hS⟩ := hR; exact k x M2 hq (hS.mono hl (Int.le_refl _)) hlb)
theorem Src.blk {X M : Mem} {ad : Addr} {b : Int} (h : Src X M ad b) : ∃ u, M (ad.add 0) = some u := let ⟨A, c, l, p, s, h0, _⟩ := h.ex; ⟨_, h0⟩
def intsOf : List Value → List Int
  | .int _ n :: r => n :: intsOf r
  | _ => []
def strsOf : List Value → List ByteArray
  | .string s :: r => s :: strsOf r
  | _ => []
def shortS : List ByteArray → Bool
  | [] => true
  | s :: r => Nat.ble s.size 1000 && shortS r
theorem shortS_mem : ∀ {l : List ByteArray}, shortS l = true → ∀ s ∈ l, s.size ≤ 1000
  | x :: r, h, s, hs => by
    simp only [shortS, Bool.and_eq_true] at h
    rcases List.mem_cons.mp hs with hs | hs
    · subst hs; exact Nat.le_of_ble_eq_true h.1
    · exact shortS_mem h.2 s hs
theorem gpubI {X M : Mem} {ad : Addr} {b : Int} {cs : List Value} {n : Nat} {K : Addr → Mem → Prop} (hS : Src X M ad b) (hcs : cs = (intsOf cs).map (Value.int .i64)) (hn : cs.length ≤ 1000) (k : ∀ ad2 M1, Le M M1 → Src X M1 ad b → SlR (off M1 ad.block) RInt 1 8 (some ad2) (intsOf cs).length (intsOf cs) → K ad2 M1) : PubK M cs n K := by
  refine PubK.fr fun ad2 M1 hl hc _ hf _ => k ad2 M1 hl (hS.mono hl (Int.le_refl _)) ⟨Nat.le_refl _, ?_, fun i x hx => ⟨ad2, [.int .i64 x], rfl, rfl, rfl, fun j u hu => ?_⟩⟩
  · have := congrArg List.length hcs
    rw [List.length_map] at this
    omega
  · obtain ⟨u0, h0⟩ := hS.blk
    have hne := hf _ _ h0
    rw [add_blk] at hne
    cases j with
    | succ j => simp at hu
    | zero =>
      simp only [List.getElem?_cons_zero, Option.some.injEq] at hu
      subst hu
      rw [add_add, Nat.mul_one, Nat.add_zero]
      refine off_of (hc i _ ?_) (by rw [add_blk]; exact fun he => hne he.symm)
      rw [hcs, List.getElem?_map, hx]
      rfl
theorem gpubS {X M : Mem} {ad : Addr} {b : Int} {cs : List Value} {n : Nat} {K : Addr → Mem → Prop} (hS : Src X M ad b) (hcs : cs = (strsOf cs).map Value.string) (hn : cs.length ≤ 1000) (hs : shortS (strsOf cs) = true) (k : ∀ ad2 M1, Le M M1 → Src X M1 ad b → SlR (off M1 ad.block) RStr 1 16 (some ad2) (strsOf cs).length (strsOf cs) → K ad2 M1) : PubK M cs n K := by
  refine PubK.fr fun ad2 M1 hl hc _ hf _ => k ad2 M1 hl (hS.mono hl (Int.le_refl _)) ⟨Nat.le_refl _, ?_, fun i x hx => ⟨ad2, [.string x], rfl, ⟨rfl, by have := shortS_mem hs x (List.mem_of_getElem? hx); omega⟩, rfl, fun j u hu => ?_⟩⟩
  · have := congrArg List.length hcs
    rw [List.length_map] at this
    omega
  · obtain ⟨u0, h0⟩ := hS.blk
    have hne := hf _ _ h0
    rw [add_blk] at hne
    cases j with
    | succ j => simp at hu
    | zero =>
      simp only [List.getElem?_cons_zero, Option.some.injEq] at hu
      subst hu
      rw [add_add, Nat.mul_one, Nat.add_zero]
      refine off_of (hc i _ ?_) (by rw [add_blk]; exact fun he => hne he.symm)
      rw [hcs, List.getElem?_map, hx]
      rfl
theorem i64_id {x : Int} (h0 : -9223372036854775808 ≤ x) (h1 : x ≤ 9223372036854775807) : IntKind.i64.wrap x = x := by
  exact i64_in h0 h1
theorem and255 (a : Int) : 0 ≤ IntKind.i64.wrap (IntKind.u64.wrap ((BitVec.ofInt 64 a &&& BitVec.ofInt 64 255).toNat : Int)) ∧ IntKind.i64.wrap (IntKind.u64.wrap ((BitVec.ofInt 64 a &&& BitVec.ofInt 64 255).toNat : Int)) ≤ 255 := by
  have h : (BitVec.ofInt 64 a &&& BitVec.ofInt 64 255).toNat ≤ 255 := by
    rw [BitVec.toNat_and]
    exact Nat.le_trans Nat.and_le_right (by decide)
  generalize (BitVec.ofInt 64 a &&& BitVec.ofInt 64 255).toNat = n at h
  have h1 : IntKind.u64.wrap (n : Int) = n := by
    unfold IntKind.wrap
    simp only [IntKind.bits, IntKind.signed]
    simp only [Bool.false_and, Bool.false_eq_true, if_false]
    omega
  rw [h1, i64_id (by omega) (by omega)]
  omega
theorem next_b {X M : Mem} {ad : Addr} {b : Int} (h : Src X M ad b) (hb : b ≤ 4611686018427387904) : AnsB Tryz.prog (off M ad.block) M 37 #[.pointer (some ad)] (GR X (Value.int .i64) (fun x => 0 ≤ x ∧ x ≤ 255) ad (b + 1)) := by
  refine ansB_of T (l := [.pointer (some ad)]) (Mb := off M ad.block) mixed Tryz.func37 rfl (by kernel_rfl) (Nat.le_of_ble_eq_true rfl) (off_le _ _) (off_dj _ _) ?_
  obtain ⟨hsx, A, c, l, p, seed, h0, h1, h2, hs, h3, h4⟩ := h
  have hno : ∀ n, off M ad.block (ad.add n) = none := fun n => off_none (add_blk ad n)
  have hw : IntKind.i64.wrap (p + 1) = p + 1 := i64_id (by omega) (by omega)
  have hr : ∀ (x : Int) (M2 : Mem), 0 ≤ x → x ≤ 255 → ∀ (M1 : Mem), (∀ a, a ≠ ad.add 1 → M1 a = M a) → M1 (ad.add 1) = some (.int .i64 (IntKind.i64.wrap (p + 1))) → ∀ s, M2 (ad.add 2) = some (.int .u64 s) → (∀ a, a ≠ ad.add 2 → M2 a = M1 a) → ∀ (g : Nat → Nat) M', Le M2 M' → GR X (Value.int .i64) (fun x => 0 ≤ x ∧ x ≤ 255) ad (b + 1) (Value.int .i64 x) M' := by
    intro x M2 hx0 hx1 M1 k1 k2 s k3 k4 g M' hl
    have n01 : ad.add 0 ≠ ad.add 1 := fun he => by have := add_inj he; omega
    have n02 : ad.add 0 ≠ ad.add 2 := fun he => by have := add_inj he; omega
    have n12 : ad.add 1 ≠ ad.add 2 := fun he => by have := add_inj he; omega
    refine ⟨x, rfl, ⟨hx0, hx1⟩, fun a u hu => ⟨hl _ _ ?_, (hsx a u hu).2⟩, A, c, l, p + 1, s, hl _ _ (by rw [k4 _ n02, k1 _ n01]; exact h0), hl _ _ (by rw [k4 _ n12, k2, hw]), hl _ _ k3, hs, by omega, by omega⟩
    have hne := (hsx a u hu).2
    rw [k4 a (fun he => hne (by rw [he, add_blk])), k1 a (fun he => hne (by rw [he, add_blk]))]
    exact (hsx a u hu).1
  have n01 : ad.add 0 ≠ ad.add 1 := fun he => by have := add_inj he; omega
  have n02 : ad.add 0 ≠ ad.add 2 := fun he => by have := add_inj he; omega
  have n12 : ad.add 1 ≠ ad.add 2 := fun he => by have := add_inj he; omega
  by_cases hlt : p < (l.length : Int)
  · have hi : p.toNat < l.length := by omega
    obtain ⟨A0, cs, hA, ⟨rfl, hy0, hy1⟩, hcl, hel⟩ := hs.el p.toNat _ (List.getElem?_eq_getElem hi)
    have hel0 := (hsx _ _ (hel 0 _ rfl)).1
    subst hA
    have hyw : IntKind.i64.wrap l[p.toNat] = l[p.toNat] := i64_id (by omega) (by omega)
    repeat' ((conv => whnf); first | refine DrawN.q (by kernel_rfl) ?_ | refine LdK.mk _ h0 ?_ | refine LdK.mk _ h1 ?_ | refine LdK.mk _ h2 ?_ | refine LdK.mk _ hel0 ?_ | refine IdxK.mk _ rfl (by omega) (by omega) ?_ | refine CondK.yes' (decide_eq_true hlt) ?_ | refine WrK.mk rfl (by show (M (ad.add 1)).isSome = true; rw [h1]; rfl) (hno _) (fun M1 k1 k2 => ?_) | fail)
    replace k1 : M1 (ad.add 1) = some (.int .i64 (IntKind.i64.wrap (p + 1))) := k1
    replace k2 : ∀ a, a ≠ ad.add 1 → M1 a = M a := k2
    have j0 : M1 (ad.add 0) = some (.slice (some A0) l.length c) := by rw [k2 _ n01]; exact h0
    have j2 : M1 (ad.add 2) = some (.int .u64 seed) := by rw [k2 _ (Ne.symm n12)]; exact h2
    repeat' ((conv => whnf); first | refine DrawN.q (by kernel_rfl) ?_ | refine LdK.mk _ j2 ?_ | refine WrK.mk rfl (by show (M1 (ad.add 2)).isSome = true; rw [j2]; rfl) (hno _) (fun M2 k3 k4 => ?_) | fail)
    replace k3 : M2 (ad.add 2) = some (.int .u64 _) := k3
    replace k4 : ∀ a, a ≠ ad.add 2 → M2 a = M1 a := k4
    have i0 : M2 (ad.add 0) = some (.slice (some A0) l.length c) := by rw [k4 _ n02]; exact j0
    have i1 : M2 (ad.add 1) = some (.int .i64 (p + 1)) := by rw [k4 _ n12, k1, hw]
    repeat' ((conv => whnf); first | refine DrawN.q (by kernel_rfl) ?_ | refine LdK.mk _ i0 ?_ | refine LdK.mk _ i1 ?_ | refine CondK.yes' (decide_eq_true (by omega)) ?_ | exact RetK.mk fun g M' hl hg => hr _ M2 (by rw [hyw]; exact hy0) (by rw [hyw]; exact hy1) M1 k2 k1 _ k3 k4 g M' hl | fail)
  · repeat' ((conv => whnf); first | refine DrawN.q (by kernel_rfl) ?_ | refine LdK.mk _ h0 ?_ | refine LdK.mk _ h1 ?_ | refine LdK.mk _ h2 ?_ | refine CondK.no' (decide_eq_false hlt) ?_ | refine WrK.mk rfl (by show (M (ad.add 1)).isSome = true; rw [h1]; rfl) (hno _) (fun M1 k1 k2 => ?_) | fail)
    replace k1 : M1 (ad.add 1) = some (.int .i64 (IntKind.i64.wrap (p + 1))) := k1
    replace k2 : ∀ a, a ≠ ad.add 1 → M1 a = M a := k2
    have j0 : M1 (ad.add 0) = some (.slice A l.length c) := by rw [k2 _ n01]; exact h0
    have j2 : M1 (ad.add 2) = some (.int .u64 seed) := by rw [k2 _ (Ne.symm n12)]; exact h2
    repeat' ((conv => whnf); first | refine DrawN.q (by kernel_rfl) ?_ | refine LdK.mk _ j2 ?_ | refine WrK.mk rfl (by show (M1 (ad.add 2)).isSome = true; rw [j2]; rfl) (hno _) (fun M2 k3 k4 => ?_) | fail)
    replace k3 : M2 (ad.add 2) = some (.int .u64 _) := k3
    replace k4 : ∀ a, a ≠ ad.add 2 → M2 a = M1 a := k4
    have i0 : M2 (ad.add 0) = some (.slice A l.length c) := by rw [k4 _ n02]; exact j0
    have i1 : M2 (ad.add 1) = some (.int .i64 (p + 1)) := by rw [k4 _ n12, k1, hw]
    repeat' ((conv => whnf); first | refine DrawN.q (by kernel_rfl) ?_ | refine LdK.mk _ i0 ?_ | refine LdK.mk _ i1 ?_ | refine LdK.mk _ k3 ?_ | refine CondK.no' (decide_eq_false (by omega)) ?_ | exact RetK.mk fun g M' hl hg => hr _ M2 (and255 _).1 (and255 _).2 M1 k2 k1 _ k3 k4 g M' hl | fail)
def pickOk (n x : Int) : Prop := (n ≤ 1 → x = 0) ∧ (1 < n → 0 ≤ x ∧ x < n)
theorem pick_b {X M : Mem} {ad : Addr} {b n : Int} (h : Src X M ad b) (hb : b ≤ 4611686018427387900) : AnsB Tryz.prog (off M ad.block) M 15 #[.pointer (some ad), .int .i64 n] (GR X (Value.int .i64) (pickOk n) ad (b + 2)) := by
  refine ansB_of T (l := [.pointer (some ad), .int .i64 n]) (Mb := off M ad.block) mixed Tryz.func15 rfl (by kernel_rfl) (Nat.le_of_ble_eq_true rfl) (off_le _ _) (off_dj _ _) ?_
  by_cases h1 : n ≤ 1
  · repeat' ((conv => whnf); first | refine CondK.yes' (decide_eq_true h1) ?_ | exact RetK.mk fun g M' hl hg => ⟨_, rfl, ⟨fun _ => rfl, fun h => absurd h1 (by omega)⟩, h.mono hl (by omega)⟩ | fail)
  · repeat' ((conv => whnf); first | refine CondK.no' (decide_eq_false h1) ?_ | refine CallK.mb (off M ad.block) _ rfl (next_b h (by omega)) (off_le _ _) (fun _ _ _ h => h) (off_dj _ _) (fun v Mx M1 hR hl hlb _ => ?_) | fail)
    obtain ⟨x, rfl, ⟨hx0, hx1⟩, hS⟩ := hR
    replace hS := hS.mono hl (Int.le_refl _)
    by_cases h2 : 200 < n
    · repeat' ((conv => whnf); first | refine CondK.yes' (decide_eq_true h2) ?_ | refine CallK.mb (off M1 ad.block) _ rfl (next_b hS (by omega)) (off_le _ _) (fun a u h1 h2 => off_none (off_blk h1 h2)) (off_dj _ _) (fun v Mx M2 hR hl2 hlb2 _ => ?_) | fail)
      obtain ⟨y, rfl, ⟨hy0, hy1⟩, hS2⟩ := hR
      replace hS2 := hS2.mono hl2 (Int.le_refl _)
      repeat' ((conv => whnf); first | refine DivK.mk (by omega) ?_ | fail)
      refine RetK.mk fun g M' hl hg => ⟨_, rfl, ⟨fun h => absurd h h1, fun _ => ?_⟩, hS2.mono hl (by omega)⟩
      show 0 ≤ (IntKind.i64.wrap (IntKind.i64.wrap (x * 256) + y)).tmod n ∧ (IntKind.i64.wrap (IntKind.i64.wrap (x * 256) + y)).tmod n < n
      rw [i64_id (x := x * 256) (by omega) (by omega), i64_id (by omega) (by omega)]
      exact ⟨Int.tmod_nonneg _ (by omega), Int.tmod_lt_of_pos _ (by omega)⟩
    · repeat' ((conv => whnf); first | refine CondK.no' (decide_eq_false (by omega)) ?_ | refine DivK.mk (by omega) ?_ | fail)
      refine RetK.mk fun g M' hl hg => ⟨_, rfl, ⟨fun h => absurd h h1, fun _ => ?_⟩, hS.mono hl (by omega)⟩
      exact ⟨Int.tmod_nonneg _ (by omega), Int.tmod_lt_of_pos _ (by omega)⟩
theorem one_b {X M : Mem} {ad : Addr} {b n : Int} (h : Src X M ad b) (hb : b ≤ 4611686018427387900) : AnsB Tryz.prog (off M ad.block) M 34 #[.pointer (some ad), .int .i64 n] (GR X Value.bool (fun _ => True) ad (b + 2)) := by
  refine ansB_of T (l := [.pointer (some ad), .int .i64 n]) (Mb := off M ad.block) mixed Tryz.func34 rfl (by kernel_rfl) (Nat.le_of_ble_eq_true rfl) (off_le _ _) (off_dj _ _) ?_
  repeat' ((conv => whnf); first | refine CallK.mb (off M ad.block) _ rfl (pick_b h (by omega)) (off_le _ _) (fun _ _ _ h => h) (off_dj _ _) (fun v Mx M1 hR hl hlb _ => ?_) | fail)
  obtain ⟨x, rfl, hx, hS⟩ := hR
  repeat' ((conv => whnf); first | exact RetK.mk fun g M' hl2 hg => ⟨_, rfl, trivial, hS.mono (hl.trans hl2) (by omega)⟩ | fail)
theorem among_b {X M : Mem} {ad : Addr} {b : Int} {A : Option Addr} {c n : Nat} {l : List Int} (h : Src X M ad b) (hb : b ≤ 4611686018427387900) (hr : SlR (off M ad.block) RInt 1 8 A c l) (hln : l.length = n) (hn : 0 < n) : AnsB Tryz.prog (off M ad.block) M 38 #[.pointer (some ad), .slice A n c] (GR X (Value.int .i64) (fun x => x ∈ l) ad (b + 2)) := by
  subst hln
  refine ansB_of T (l := [.pointer (some ad), .slice A l.length c]) (Mb := off M ad.block) mixed Tryz.func38 rfl (by kernel_rfl) (Nat.le_of_ble_eq_true rfl) (off_le _ _) (off_dj _ _) ?_
  have hll := hr.len
  repeat' ((conv => whnf); first | refine CallK.mb (off M ad.block) _ rfl (pick_b (n := (l.length : Int)) h (by omega)) (off_le _ _) (fun _ _ _ h => h) (off_dj _ _) (fun v Mx M1 hR hl hlb _ => ?_) | fail)
  obtain ⟨x, rfl, hx, hS⟩ := hR
  have hx0 : 0 ≤ x ∧ x < (l.length : Int) := by
    by_cases h1 : (l.length : Int) ≤ 1
    · have := hx.1 h1; omega
    · exact hx.2 (by omega)
  obtain ⟨y, hy⟩ : ∃ y, l[x.toNat]? = some y := ⟨_, List.getElem?_eq_getElem (show x.toNat < l.length by omega)⟩
  obtain ⟨A0, cs, hA, hcs, hcl, hel⟩ := hr.el x.toNat y hy
  replace hcs : cs = [.int .i64 y] := hcs
  subst hcs hA
  have hel0 := hlb _ _ (hel 0 _ rfl)
  repeat' ((conv => whnf); first | refine IdxK.mk _ rfl (by omega) (by omega) ?_ | refine LdK.mk _ hel0 ?_ | exact RetK.mk fun g M' hl2 hg => ⟨_, rfl, List.mem_of_getElem? hy, hS.mono (hl.trans hl2) (by omega)⟩ | fail)
theorem text_b {X M : Mem} {ad : Addr} {b : Int} {A : Option Addr} {c n : Nat} {l : List ByteArray} (h : Src X M ad b) (hb : b ≤ 4611686018427387900) (hr : SlR (off M ad.block) RStr 1 16 A c l) (hln : l.length = n) (hn : 0 < n) : AnsB Tryz.prog (off M ad.block) M 109 #[.pointer (some ad), .slice A n c] (GR X Value.string (fun x => x ∈ l) ad (b + 2)) := by
  subst hln
  refine ansB_of T (l := [.pointer (some ad), .slice A l.length c]) (Mb := off M ad.block) mixed Tryz.func109 rfl (by kernel_rfl) (Nat.le_of_ble_eq_true rfl) (off_le _ _) (off_dj _ _) ?_
  have hll := hr.len
  repeat' ((conv => whnf); first | refine CallK.mb (off M ad.block) _ rfl (pick_b (n := (l.length : Int)) h (by omega)) (off_le _ _) (fun _ _ _ h => h) (off_dj _ _) (fun v Mx M1 hR hl hlb _ => ?_) | fail)
  obtain ⟨x, rfl, hx, hS⟩ := hR
  have hx0 : 0 ≤ x ∧ x < (l.length : Int) := by
    by_cases h1 : (l.length : Int) ≤ 1
    · have := hx.1 h1; omega
    · exact hx.2 (by omega)
  obtain ⟨y, hy⟩ : ∃ y, l[x.toNat]? = some y := ⟨_, List.getElem?_eq_getElem (show x.toNat < l.length by omega)⟩
  obtain ⟨A0, cs, hA, hcs, hcl, hel⟩ := hr.el x.toNat y hy
  replace hcs : cs = [.string y] := hcs.1
  subst hcs hA
  have hel0 := hlb _ _ (hel 0 _ rfl)
  repeat' ((conv => whnf); first | refine IdxK.mk _ rfl (by omega) (by omega) ?_ | refine LdK.mk _ hel0 ?_ | exact RetK.mk fun g M' hl2 hg => ⟨_, rfl, List.mem_of_getElem? hy, hS.mono (hl.trans hl2) (by omega)⟩ | fail)
theorem l00From_r {M : Mem} {A : Option Addr} {c : Nat} {l : List Int} (hs : SlR M RByte 1 1 A c l) : AnsR Tryz.prog M 13 #[.slice A l.length c] (fun M' v => ∃ ad, v = .pointer (some ad) ∧ Src M M' ad 0 ∧ ∀ a u, M a = some u → a.block ≠ ad.block) := by
  refine ansR_of T (l := [.slice A l.length c]) mixed Tryz.func13 rfl (by kernel_rfl) (Nat.le_of_ble_eq_true rfl) ?_
  (conv => whnf)
  refine RetK.fr fun g M' hl hg => ?_
  obtain ⟨h1, h2⟩ := hg 0 _ rfl
  refine ⟨⟨g 0, 0, none⟩, rfl, ⟨fun a u hu => ⟨hl _ _ hu, h1 a u hu⟩, A, c, l, 0, 0, h2 0 _ rfl, h2 1 _ rfl, h2 2 _ rfl, hs, Int.le_refl _, Int.le_refl _⟩, h1⟩
