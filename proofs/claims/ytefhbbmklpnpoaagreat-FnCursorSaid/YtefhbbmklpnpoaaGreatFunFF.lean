/- Worlds of nodes, drawn: the places. -/
import Derived.Test.YtefhbbmklpnpoaaGreatFunFE
namespace Go.Proofs.YtefhbbmklpnpoaaGreat.Hlp
open Go Go.RowKit Go.Proofs Go.Proofs.YtefhbbmklpnpoaaGreat.Lw
set_option linter.unusedVariables false
set_option linter.unusedSimpArgs false
set_option maxRecDepth 100000
set_option maxHeartbeats 4000000
/-- A row of numbers in known memory, with its room, apart from what a walk must keep. -/
structure KRow (B N : Mem) (a : Addr) (ns : List Int) (cap : Nat) : Prop where
  c : RowC N a 1 ns.length cap (ns.map (Value.int .i64))
  f : ∀ x u, B x = some u → x.block ≠ a.block
theorem KRow.sl {B N : Mem} {a : Addr} {ns : List Int} {cap : Nat} (h : KRow B N a ns cap) (hn : ns.length ≤ 1000000) : SlR N RInt 1 8 (some a) cap ns :=
  slIntsN (M := fun _ => none) (.inr ⟨a, rfl, h.c, fun x u hx => by cases hx⟩) hn
theorem KRow.up {B N N' : Mem} {a : Addr} {ns : List Int} {cap : Nat} (h : KRow B N a ns cap) (hl : ∀ x u, x.block = a.block → N x = some u → N' x = some u) : KRow B N' a ns cap :=
  ⟨⟨h.c.len, h.c.le, fun o u hu => hl _ _ (add_blk _ _) (h.c.el o u hu), fun o ho => let ⟨u, hu⟩ := h.c.room o ho; ⟨u, hl _ _ (add_blk _ _) hu⟩⟩, h.f⟩
theorem KRow.w {B N N1 : Mem} {a : Addr} {ns : List Int} {cap : Nat} {y : Int} (h : KRow B N a ns cap) (hle : ns.length + 1 ≤ cap) (k1 : ∀ o u, [Value.int .i64 y][o]? = some u → N1 ((a.add (ns.length * 1)).add o) = some u) (k2 : ∀ x, (∀ o, o < 1 → x ≠ (a.add (ns.length * 1)).add o) → N1 x = N x) : KRow B N1 a (ns ++ [y]) cap := by
  refine ⟨?_, h.f⟩
  have hr : RowN (fun _ => none) N 1 (some a) ns.length cap (ns.map (Value.int .i64)) := .inr ⟨a, rfl, h.c, fun x u hx => by cases hx⟩
  have := (hr.w rfl hle k1 k2).get.1
  rw [List.length_append, List.map_append]
  exact this
theorem KRow.some_of {B N : Mem} {a : Addr} {ns : List Int} {cap : Nat} (h : KRow B N a ns cap) (hle : ns.length + 1 ≤ cap) : ∀ o, o < 1 → (N ((a.add (ns.length * 1)).add o)).isSome = true := fun o ho => by
  obtain ⟨u, hu⟩ := h.c.room (ns.length * 1 + o) (by omega)
  rw [add_add, hu]; rfl
theorem KRow.new {B N N1 : Mem} {a : Addr} {ns : List Int} {cap m : Nat} {ds : List Value} (hBN : Le B N) (hds : ds = ns.map (Value.int .i64)) (hle : ns.length ≤ cap) (hc : ∀ o u, ds[o]? = some u → N1 (a.add o) = some u) (hroom : ∀ o, o < cap * 1 → ∃ u, N1 (a.add o) = some u) (hf : ∀ x u, N x = some u → x.block ≠ a.block) : KRow B N1 a ns cap :=
  ⟨⟨by rw [List.length_map, Nat.mul_one], hle, by rw [← hds]; exact hc, hroom⟩, fun x u hx => hf x u (hBN x u hx)⟩
theorem slIntsC {M1 : Mem} {ad2 : Addr} {ns : List Int} {cap : Nat} (hcap : ns.length ≤ cap) (hlen : ns.length ≤ 1000000) (hc : ∀ o u, (ns.map (Value.int .i64))[o]? = some u → M1 (ad2.add o) = some u) : SlR M1 RInt 1 8 (some ad2) cap ns :=
  ⟨hcap, by omega, fun i x hx => ⟨ad2, [.int .i64 x], rfl, rfl, rfl, fun j u hu => by
    cases j with
    | succ j => simp at hu
    | zero =>
      simp only [List.getElem?_cons_zero, Option.some.injEq] at hu
      subst hu
      rw [add_add, Nat.mul_one, Nat.add_zero]
      exact hc i _ (by rw [List.getElem?_map, hx]; rfl)⟩⟩
def RAct (X : Mem) (ad : Addr) (b' : Int) (n : Nat) (v : Value) (M' : Mem) : Prop := ∃ (ns : List Int) (A : Option Addr) (cap : Nat), v = .slice A ns.length cap ∧ ns.length = n ∧ SlR (off M' ad.block) RInt 1 8 A cap ns ∧ Src X M' ad b'
theorem gcallA {P : Program} {X base M : Mem} {ad : Addr} {f : FuncId} {args : Array Value} {b' : Int} {n : Nat} {K : Value → Mem → Prop} (h : AnsB P (off M ad.block) M f args (RAct X ad b' n)) (hb : ∀ a, a.block = ad.block → base a = none) (k : ∀ (ns : List Int) A cap M', ns.length = n → SlR (off M' ad.block) RInt 1 8 A cap ns → Src X M' ad b' → Le (off M ad.block) M' → K (.slice A ns.length cap) M') : CallK P true base M f args K :=
  CallK.mb (off M ad.block) _ rfl h (off_le _ _) (fun a u h1 h2 => hb a (off_blk h1 h2)) (off_dj _ _) (fun v Mx M2 hR hl hlb _ => by
    obtain ⟨ns, A, cap, rfl, h1, h2, h3⟩ := hR
    exact k ns A cap M2 h1 (intUp h2 (fun a u hu => off_of (hl _ _ (off_le _ _ _ _ hu)) (off_ne hu))) (h3.mono hl (Int.le_refl _)) hlb)
theorem gcallAB {P : Program} {X base M : Mem} {ad : Addr} {f : FuncId} {args : Array Value} {b' : Int} {n : Nat} {K : Value → Mem → Prop} (h : AnsB P (off M ad.block) M f args (RAct X ad b' n)) (hb : ∀ a, a.block = ad.block → base a = none) (k : ∀ (ns : List Int) A cap M', ns.length = n → SlR (off M' ad.block) RInt 1 8 A cap ns → Src X M' ad b' → Le (off M ad.block) M' → K (.slice A ns.length cap) M') : CallB P base M f args K :=
  CallB.mb (off M ad.block) _ h (off_le _ _) (fun a u h1 h2 => hb a (off_blk h1 h2)) (off_dj _ _) (fun v Mx M2 hR hl hlb _ => by
    obtain ⟨ns, A, cap, rfl, h1, h2, h3⟩ := hR
    exact k ns A cap M2 h1 (intUp h2 (fun a u hu => off_of (hl _ _ (off_le _ _ _ _ hu)) (off_ne hu))) (h3.mono hl (Int.le_refl _)) hlb)
/-- The state of a walk over places: the row is one's own, or known. -/
def InvA (X M : Mem) (ad : Addr) (b : Int) (n : Nat) (q : List Int × Option Addr × Nat × Mem) : Prop :=
  q.1.length ≤ n ∧ Le (off M ad.block) q.2.2.2 ∧ Src X q.2.2.2 ad (b + 2 * q.1.length) ∧ match q.2.1 with | none => q.1.length ≤ q.2.2.1 | some a => KRow (off M ad.block) q.2.2.2 a q.1 q.2.2.1 ∧ a.block ≠ ad.block
theorem l23Acting_b {X M : Mem} {ad : Addr} {b : Int} (h : Src X M ad b) (hb : b ≤ 4611686018427380000) (n : Nat) (hn : n ≤ 10) : AnsB Tryz.prog (off M ad.block) M 86 #[.pointer (some ad), .int .i64 (n : Int)] (RAct X ad (b + 100) n) := by
  refine ansB_of T (l := [.pointer (some ad), .int .i64 (n : Int)]) (Mb := off M ad.block) mixed Tryz.func86 rfl (by kernel_rfl) (Nat.le_of_ble_eq_true rfl) (off_le _ _) (off_dj _ _) ?_
  have hno : ∀ a : Addr, a.block = ad.block → off M ad.block a = none := fun a h => off_none h
  have hXB := h.le
  (conv => whnf)
  refine LoopK.sw 0 1 {q : List Int × Option Addr × Nat × Mem // InvA X M ad b n q} (fun ⟨⟨ns, o, cap, N⟩, _⟩ => [(0, .v (.pointer (some ad))), (1, .v (.int .i64 (n : Int))), (5, match o with | none => .s 0 ns.length cap 1 | some a => .v (.slice (some a) ns.length cap)), (6, .v (.int .i64 (ns.length : Int)))]) (fun ⟨⟨ns, o, cap, N⟩, _⟩ => match o with | none => [(0, ns.map (Value.int .i64))] | some _ => []) (fun ⟨⟨ns, o, cap, N⟩, _⟩ => N) (fun q => n - q.1.1.length) ⟨([], none, 0, M), Nat.zero_le _, off_le _ _, h.mono (fun _ _ h => h) (by simp), Nat.le_refl _⟩ 0 ⟨⟨⟨rfl, rfl, rfl, rfl, trivial⟩, ⟨rfl, trivial⟩, rfl, rfl⟩, rfl⟩ ?_
  rintro ⟨⟨ns, o, cap, N⟩, hk, hlN, hS, ho⟩
  replace hk : ns.length ≤ n := hk
  replace hlN : Le (off M ad.block) N := hlN
  replace hS : Src X N ad (b + 2 * ns.length) := hS
  by_cases hlt : ns.length < n
  · have w1 : IntKind.i64.wrap ((ns.length : Int) + 1) = ((ns.length + 1 : Nat) : Int) := i64_succ (by omega)
    -- a known row written in its place
    have endW : ∀ {N2 N3 : Mem} {a : Addr} {x : Int}, KRow (off M ad.block) N2 a ns cap → a.block ≠ ad.block → Le (off M ad.block) N2 → Src X N2 ad (b + 2 * ns.length + 2) → ns.length + 1 ≤ cap → (∀ o u, [Value.int .i64 x][o]? = some u → N3 ((a.add (ns.length * 1)).add o) = some u) → (∀ z, (∀ o, o < 1 → z ≠ (a.add (ns.length * 1)).add o) → N3 z = N2 z) → InvA X M ad b n (ns ++ [x], some a, cap, N3) := by
      intro N2 N3 a x hkr hne hl hS2 hle k1 k2
      have hl3 : Le (off M ad.block) N3 := fun z u hu => by rw [k2 z fun o _ he => hkr.f z u hu (by rw [he, add_blk, add_blk])]; exact hl z u hu
      refine ⟨by show (ns ++ [x]).length ≤ n; simp; omega, hl3, ?_, hkr.w hle k1 k2, hne⟩
      exact (hS2.keep (fun z u hu => hl3 _ _ (hXB _ _ hu)) (fun z u hz hu => by rw [k2 z fun o _ he => hne (by rw [← hz, he, add_blk, add_blk])]; exact hu)).mono (fun _ _ h => h) (by show _ ≤ b + 2 * (((ns ++ [x]).length : Nat) : Int); simp; omega)
    -- a row of one's own
    have endO : ∀ {N2 : Mem} {x : Int} {cap' : Nat}, Le (off M ad.block) N2 → Src X N2 ad (b + 2 * ns.length + 2) → ns.length + 1 ≤ cap' → InvA X M ad b n (ns ++ [x], none, cap', N2) := by
      intro N2 x cap' hl hS2 hc
      exact ⟨by show (ns ++ [x]).length ≤ n; simp; omega, hl, hS2.mono (fun _ _ h => h) (by show _ ≤ b + 2 * (((ns ++ [x]).length : Nat) : Int); simp; omega), by show (ns ++ [x]).length ≤ cap'; simpa using hc⟩
    have hmu : ∀ x : Int, n - (ns ++ [x]).length < n - ns.length := fun x => by simp; omega
    have lkW : ∀ (a : Addr) (x : Int), some (PV.v (.slice (some a) (ns.length + 1) cap)) = some (PV.v (.slice (some a) (ns ++ [x]).length cap)) := fun a x => by simp
    have lkI : ∀ x : Int, some (PV.v (Value.int .i64 (IntKind.i64.wrap ((ns.length : Int) + 1)))) = some (PV.v (.int .i64 ((ns ++ [x]).length : Int))) := fun x => by rw [w1]; simp
    have lkS : ∀ (x : Int) (c : Nat), some (PV.s 2 (ns.length + 1) c 1) = some (PV.s 2 (ns ++ [x]).length c 1) := fun x c => by simp
    have lkB : ∀ x : Int, some (ns.map (Value.int .i64) ++ [.int .i64 x]) = some ((ns ++ [x]).map (Value.int .i64)) := fun x => by simp
    have ones := allOne_i64 ns
    cases o with
    | none =>
      replace ho : ns.length ≤ cap := ho
      (conv => whnf)
      refine CondK.yes' (decide_eq_true (by omega)) ?_
      (conv => whnf)
      refine gcall (pick_b hS (by omega)) hno (fun y N1 hy hS1 hlb => ?_)
      have hlN1 : Le (off M ad.block) N1 := fun a u hu => hlb a u (off_of (hlN a u hu) (off_ne hu))
      by_cases hx : IntKind.i64.wrap (y - 1) ≥ 0
      · (conv => whnf)
        refine CondK.yes' (decide_eq_true hx) ?_
        (conv => whnf)
        refine PubK.fr (fun a N2 hl2 hc hroom hf _ => ?_)
        have hkr : KRow (off M ad.block) N2 a ns cap := KRow.new (m := 0) hlN1 rfl ho hc hroom hf
        have hne : a.block ≠ ad.block := fun he => by
          obtain ⟨u, hu⟩ := hS1.blk
          exact hf _ _ hu (by rw [add_blk, he])
        have hS2 := hS1.mono hl2 (Int.le_refl _)
        have hlN2 := hlN1.trans hl2
        (conv => whnf)
        refine CallK.mk _ (l00Has_a N2 ns (some a) cap (hkr.sl (by omega)) _) ?_
        by_cases hle : ns.length + 1 ≤ cap
        · (conv => whnf)
          refine CondK.mk (fun hq => ?_) (fun hq => ?_)
          all_goals (conv => whnf)
          all_goals refine AppX.w hle (WrL.mk rfl (hkr.some_of hle) (fun o _ => freshA _ hkr.f _ o) rfl (fun N3 k1 k2 => ?_))
          all_goals exact ⟨⟨(ns ++ [_], some a, cap, N3), endW hkr hne hlN2 hS2 hle k1 k2⟩, 2, ⟨⟨rfl, rfl, lkW a _, lkI _, trivial⟩, trivial, rfl, rfl⟩, rfl, hmu _⟩
        · (conv => whnf)
          refine CondK.mk (fun hq => ?_) (fun hq => ?_)
          all_goals (conv => whnf)
          all_goals refine AppX.g hle (ns.map (Value.int .i64)) hkr.c.len hkr.c.el (allOne_append ones rfl) (by omega) (by show (2 * (ns.length + 1) + 512) * 8 ≤ 281474976710656; omega) (fun cap' hcap' => ?_)
          all_goals exact ⟨⟨(ns ++ [_], none, cap', N2), endO hlN2 hS2 hcap'⟩, 2, ⟨⟨rfl, rfl, lkS _ _, lkI _, trivial⟩, ⟨lkB _, trivial⟩, rfl, rfl⟩, rfl, hmu _⟩
      · (conv => whnf)
        refine CondK.no' (decide_eq_false hx) ?_
        (conv => whnf)
        refine AppK.mk (by show (2 * (ns.length + 1) + 512) * 8 ≤ 281474976710656; omega) (by omega) (.inr rfl) rfl (fun cap' hcap' => ?_)
        exact ⟨⟨(ns ++ [_], none, cap', N1), endO hlN1 hS1 hcap'⟩, 2, ⟨⟨rfl, rfl, lkS _ _, lkI _, trivial⟩, ⟨lkB _, trivial⟩, rfl, rfl⟩, rfl, hmu _⟩
    | some a =>
      replace ho : KRow (off M ad.block) N a ns cap ∧ a.block ≠ ad.block := ho
      obtain ⟨hkr0, hne⟩ := ho
      (conv => whnf)
      refine CondK.yes' (decide_eq_true (by omega)) ?_
      (conv => whnf)
      refine gcall (pick_b hS (by omega)) hno (fun y N1 hy hS1 hlb => ?_)
      have hlN1 : Le (off M ad.block) N1 := fun a u hu => hlb a u (off_of (hlN a u hu) (off_ne hu))
      have hkr : KRow (off M ad.block) N1 a ns cap := hkr0.up (fun x u hxa hu => hlb _ _ (off_of hu (by rw [hxa]; exact hne)))
      by_cases hx : IntKind.i64.wrap (y - 1) ≥ 0
      · (conv => whnf)
        refine CondK.yes' (decide_eq_true hx) ?_
        (conv => whnf)
        refine CallK.mk _ (l00Has_a N1 ns (some a) cap (hkr.sl (by omega)) _) ?_
        by_cases hle : ns.length + 1 ≤ cap
        · (conv => whnf)
          refine CondK.mk (fun hq => ?_) (fun hq => ?_)
          all_goals (conv => whnf)
          all_goals refine AppX.w hle (WrL.mk rfl (hkr.some_of hle) (fun o _ => freshA _ hkr.f _ o) rfl (fun N3 k1 k2 => ?_))
          all_goals exact ⟨⟨(ns ++ [_], some a, cap, N3), endW hkr hne hlN1 hS1 hle k1 k2⟩, 2, ⟨⟨rfl, rfl, lkW a _, lkI _, trivial⟩, trivial, rfl, rfl⟩, rfl, hmu _⟩
        · (conv => whnf)
          refine CondK.mk (fun hq => ?_) (fun hq => ?_)
          all_goals (conv => whnf)
          all_goals refine AppX.g hle (ns.map (Value.int .i64)) hkr.c.len hkr.c.el (allOne_append ones rfl) (by omega) (by show (2 * (ns.length + 1) + 512) * 8 ≤ 281474976710656; omega) (fun cap' hcap' => ?_)
          all_goals exact ⟨⟨(ns ++ [_], none, cap', N1), endO hlN1 hS1 hcap'⟩, 2, ⟨⟨rfl, rfl, lkS _ _, lkI _, trivial⟩, ⟨lkB _, trivial⟩, rfl, rfl⟩, rfl, hmu _⟩
      · by_cases hle : ns.length + 1 ≤ cap
        · (conv => whnf)
          refine CondK.no' (decide_eq_false hx) ?_
          (conv => whnf)
          refine AppX.w hle (WrL.mk rfl (hkr.some_of hle) (fun o _ => freshA _ hkr.f _ o) rfl (fun N3 k1 k2 => ?_))
          exact ⟨⟨(ns ++ [_], some a, cap, N3), endW hkr hne hlN1 hS1 hle k1 k2⟩, 2, ⟨⟨rfl, rfl, lkW a _, lkI _, trivial⟩, trivial, rfl, rfl⟩, rfl, hmu _⟩
        · (conv => whnf)
          refine CondK.no' (decide_eq_false hx) ?_
          (conv => whnf)
          refine AppX.g hle (ns.map (Value.int .i64)) hkr.c.len hkr.c.el (allOne_append ones rfl) (by omega) (by show (2 * (ns.length + 1) + 512) * 8 ≤ 281474976710656; omega) (fun cap' hcap' => ?_)
          exact ⟨⟨(ns ++ [_], none, cap', N1), endO hlN1 hS1 hcap'⟩, 2, ⟨⟨rfl, rfl, lkS _ _, lkI _, trivial⟩, ⟨lkB _, trivial⟩, rfl, rfl⟩, rfl, hmu _⟩
  · have he : ns.length = n := by omega
    (conv => whnf)
    refine CondK.no' (decide_eq_false (by omega)) ?_
    cases o with
    | none =>
      replace ho : ns.length ≤ cap := ho
      (conv => whnf)
      refine RetK.fr fun g M' hl hg => ?_
      obtain ⟨hf, hc⟩ := hg 0 _ rfl
      have hS' := hS.mono (b' := b + 100) hl (by omega)
      obtain ⟨u0, hu0⟩ := hS.blk
      have hne : g 0 ≠ ad.block := fun he => hf _ _ hu0 (by rw [add_blk, he])
      exact ⟨ns, some ⟨g 0, 0, none⟩, cap, rfl, he, slIntsC ho (by omega) (fun o u hu => off_of (by rw [addr0]; exact hc o u hu) (by rw [add_blk]; exact hne)), hS'⟩
    | some a =>
      replace ho : KRow (off M ad.block) N a ns cap ∧ a.block ≠ ad.block := ho
      (conv => whnf)
      exact RetK.mk fun g M' hl hg => ⟨ns, some a, cap, rfl, he, slIntsC ho.1.c.le (by omega) (fun o u hu => off_of (hl _ _ (ho.1.c.el o u hu)) (by rw [add_blk]; exact ho.2)), hS.mono hl (by omega)⟩
end Go.Proofs.YtefhbbmklpnpoaaGreat.Hlp
