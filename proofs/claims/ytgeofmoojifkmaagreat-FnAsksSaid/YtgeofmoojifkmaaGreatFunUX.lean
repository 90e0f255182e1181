/- Texts of the light walk, joined: FunUA FunUB FunUC FunUD FunUE FunUF FunUG FunUH FunUI FunUJ. -/
import Derived.Test.YtgeofmoojifkmaaGreatFunFC
import Derived.Test.YtgeofmoojifkmaaGreatFunSX
namespace Go.Proofs.YtgeofmoojifkmaaGreat.Hlp
open Go Go.RowKit Go.Proofs Go.Proofs.YtgeofmoojifkmaaGreat.Lw
set_option linter.unusedVariables false
set_option linter.unusedSimpArgs false
set_option maxRecDepth 100000
set_option maxHeartbeats 4000000
structure KRow (B N : Mem) (a : Addr) (ns : List Int) (cap : Nat) : Prop where
  c : RowC N a 1 ns.length cap (ns.map (Value.int .i64))
  f : ∀ x u, B x = some u → x.block ≠ a.block
theorem KRow.sl {B N : Mem} {a : Addr} {ns : List Int} {cap : Nat} (h : KRow B N a ns cap) (hn : ns.length ≤ 1000000) : SlR N RInt 1 8 (some a) cap ns :=
  slIntsN (M := fun _ => none) (.inr ⟨a, rfl, h.c, fun x u hx => by cases hx⟩) hn
theorem KRow.up {B N N' : Mem} {a : Addr} {ns : List Int} {cap : Nat} (h : KRow B N a ns cap) (hl : ∀ x u, x.block = a.block → N x = some u → N' x = some u) : KRow B N' a ns cap :=
  ⟨⟨h.c.len, h.c.le, fun o u hu => hl _ _ (add_blk _ _) (h.c.el o u hu), fun o ho => let ⟨u, hu⟩ := h.c.room o ho; ⟨u, hl _ _ (add_blk _ _) hu⟩⟩, h.f⟩
theorem KRow.w {B N N1 : Mem} {a : Addr} {ns : List Int} {cap : Nat} {y : Int} (h : KRow B N a ns cap) (hle : ns.length + 1 ≤ cap) (k1 : ∀ o u, [Value.int .i64 y][o]? = some u → N1 ((a.add (ns.length * 1)).add o) = some u) (k2 : ∀ x, (∀ o, o < 1 → x ≠ (a.add (ns.length * 1)).add o) → N1 x = N x) : KRow B N1 a (ns ++ [y]) cap := by
  refine ⟨?_, h.f⟩
  have hr : RowN (fun _ => none) N 1 (some a) ns.length cap (ns.map (Value.int .i64)) := .inr ⟨a, rfl, h.c, fun x u hx => by cases hx⟩
  have := (hr.w rfl hle k1 k2).get.1
  rw [List.length_append, List.map_append]
  exact this
theorem KRow.some_of {B N : Mem} {a : Addr} {ns : List Int} {cap : Nat} (h : KRow B N a ns cap) (hle : ns.length + 1 ≤ cap) : ∀ o, o < 1 → (N ((a.add (ns.length * 1)).add o)).isSome = true := fun o ho => by
  obtain ⟨u, hu⟩ := h.c.room (ns.length * 1 + o) (by omega)
  rw [add_add, hu]; rfl
theorem KRow.new {B N N1 : Mem} {a : Addr} {ns : List Int} {cap m : Nat} {ds : List Value} (hBN : Le B N) (hds : ds = ns.map (Value.int .i64)) (hle : ns.length ≤ cap) (hc : ∀ o u, ds[o]? = some u → N1 (a.add o) = some u) (hroom : ∀ o, o < cap * 1 → ∃ u, N1 (a.add o) = some u) (hf : ∀ x u, N x = some u → x.block ≠ a.block) : KRow B N1 a ns cap :=
  ⟨⟨by rw [List.length_map, Nat.mul_one], hle, by rw [← hds]; exact hc, hroom⟩, fun x u hx => hf x u (hBN x u hx)⟩
theorem slIntsC {M1 : Mem} {ad2 : Addr} {ns : List Int} {cap : Nat} (hcap : ns.length ≤ cap) (hlen : ns.length ≤ 1000000) (hc : ∀ o u, (ns.map (Value.int .i64))[o]? = some u → M1 (ad2.add o) = some u) : SlR M1 RInt 1 8 (some ad2) cap ns :=
  ⟨hcap, by omega, fun i x hx => ⟨ad2, [.int .i64 x], rfl, rfl, rfl, fun j u hu => by
    cases j with
    | succ j => simp at hu
    | zero =>
      simp only [List.getElem?_cons_zero, Option.some.injEq] at hu
      subst hu
      rw [add_add, Nat.mul_one, Nat.add_zero]
      exact hc i _ (by rw [List.getElem?_map, hx]; rfl)⟩⟩
def tkF (a : List Int) : Nat → Int
  | 0 => 0
  | k + 1 => if a[k]?.getD 0 ≥ 0 then tkF a k + 1 else tkF a k
theorem tkF_le (a : List Int) : ∀ k, 0 ≤ tkF a k ∧ tkF a k ≤ k
  | 0 => ⟨Int.le_refl _, Int.le_refl _⟩
  | k + 1 => by
    have := tkF_le a k
    unfold tkF
    split <;> omega
theorem l12Taken_a (M : Mem) (l : List Int) (A : Option Addr) (c : Nat) (h : SlR M RInt 1 8 A c l) (hn : l.length ≤ 1000) : Ans Tryz.prog M 36 #[.slice A l.length c] (.int .i64 (tkF l l.length)) := by
  refine ans_of T (l := [.slice A l.length c]) mixed Tryz.func36 rfl (by kernel_rfl) (Nat.le_of_ble_eq_true rfl) ?_
  (conv => whnf)
  refine LoopK.mk {k : Nat // k ≤ l.length} (fun ⟨k, _⟩ => [(0, .v (.slice A l.length c)), (3, .v (.int .i64 (tkF l k))), (4, .v (.int .i64 (k : Int)))]) (fun _ => []) (fun _ => M) (fun q => l.length - q.1) ⟨0, Nat.zero_le _⟩ ⟨⟨⟨rfl, rfl, rfl, trivial⟩, trivial, rfl, rfl⟩, rfl⟩ ?_
  rintro ⟨k, hk⟩
  by_cases hlt : k < l.length
  · obtain ⟨y, hy⟩ : ∃ y, l[k]? = some y := ⟨_, List.getElem?_eq_getElem hlt⟩
    obtain ⟨ad, rfl, _, x0⟩ := at_Int h hy
    have ht := tkF_le l k
    have hd : (k : Int) < (l.length : Int) := by omega
    have hst : tkF l (k + 1) = if y ≥ 0 then tkF l k + 1 else tkF l k := by rw [tkF, hy]; rfl
    by_cases hp : y ≥ 0
    · rw [if_pos hp] at hst
      repeat' ((conv => whnf); first | refine CondK.yes' (decide_eq_true hd) ?_ | refine CondK.yes' (decide_eq_true hp) ?_ | refine IdxK.mk _ rfl (by omega) (by omega) ?_ | refine LdK.mk _ (by assumption) ?_ | fail)
      exact ⟨⟨k + 1, hlt⟩, ⟨⟨rfl, congrArg (fun t => some (PV.v (.int .i64 t))) ((i64_id (x := tkF l k + 1) (by omega) (by omega)).trans hst.symm), look_int (i64_succ (by omega)), trivial⟩, trivial, rfl, rfl⟩, rfl, by show l.length - (k + 1) < l.length - k; omega⟩
    · rw [if_neg hp] at hst
      repeat' ((conv => whnf); first | refine CondK.yes' (decide_eq_true hd) ?_ | refine CondK.no' (decide_eq_false hp) ?_ | refine IdxK.mk _ rfl (by omega) (by omega) ?_ | refine LdK.mk _ (by assumption) ?_ | fail)
      exact ⟨⟨k + 1, hlt⟩, ⟨⟨rfl, congrArg (fun t => some (PV.v (.int .i64 t))) hst.symm, look_int (i64_succ (by omega)), trivial⟩, trivial, rfl, rfl⟩, rfl, by show l.length - (k + 1) < l.length - k; omega⟩
  · have he : k = l.length := by omega
    subst he
    have hd : ¬ ((l.length : Int) < (l.length : Int)) := by omega
    repeat' ((conv => whnf); first | refine CondK.no' (decide_eq_false hd) ?_ | fail)
    exact rfl
theorem l11Without_r (M : Mem) (l : List Int) (A : Option Addr) (c : Nat) (h : SlR M RInt 1 8 A c l) (hn : l.length ≤ 1000) (n : Int) : AnsR Tryz.prog M 35 #[.slice A l.length c, .int .i64 n] (fun M' v => ∃ (ns : List Int) (ad : Addr) (cap : Nat), v = .slice (some ad) ns.length cap ∧ ns.length ≤ l.length ∧ SlR (sub M' M) RInt 1 8 (some ad) cap ns) := by
  refine ansR_of T (l := [.slice A l.length c, .int .i64 n]) mixed Tryz.func35 rfl (by kernel_rfl) (Nat.le_of_ble_eq_true rfl) ?_
  (conv => whnf)
  refine LoopK.sw 0 1 {q : Nat × List Int × Nat // q.1 ≤ l.length ∧ q.2.1.length ≤ q.1 ∧ q.2.1.length ≤ q.2.2} (fun ⟨(k, ns, cap), _⟩ => [(0, .v (.slice A l.length c)), (1, .v (.int .i64 n)), (5, .s 0 ns.length cap 1), (6, .v (.int .i64 (k : Int)))]) (fun ⟨(k, ns, cap), _⟩ => [(0, ns.map (Value.int .i64))]) (fun _ => M) (fun q => l.length - q.1.1) ⟨(0, [], 0), Nat.zero_le _, Nat.le_refl _, Nat.le_refl _⟩ 0 ⟨⟨⟨rfl, rfl, rfl, rfl, trivial⟩, ⟨rfl, trivial⟩, rfl, rfl⟩, rfl⟩ ?_
  rintro ⟨⟨k, ns, cap⟩, hk, hns, hcap⟩
  replace hk : k ≤ l.length := hk
  replace hns : ns.length ≤ k := hns
  replace hcap : ns.length ≤ cap := hcap
  have ones := allOne_i64 ns
  by_cases hlt : k < l.length
  · obtain ⟨y, hy⟩ : ∃ y, l[k]? = some y := ⟨_, List.getElem?_eq_getElem hlt⟩
    obtain ⟨ad, rfl, _, x0⟩ := at_Int h hy
    rcases Bool.eq_false_or_eq_true (y != n) with hp | hp
    · repeat' ((conv => whnf); first | refine CondK.yes' (decide_eq_true (by omega)) ?_ | refine CondK.yes' hp ?_ | refine IdxK.mk _ rfl (by omega) (by omega) ?_ | refine LdK.mk _ (by assumption) ?_ | fail)
      refine AppK.mk (by show (2 * (ns.length + 1) + 512) * 8 ≤ 281474976710656; omega) (by omega) (.inr rfl) rfl (fun cap3 hcap3 => ?_)
      exact ⟨⟨(k + 1, ns ++ [y], cap3), hlt, by show (ns ++ [y]).length ≤ k + 1; simp; omega, by show (ns ++ [y]).length ≤ cap3; simpa using hcap3⟩, 2, ⟨⟨rfl, rfl, congrArg (fun t => some (PV.s 2 t cap3 1)) (by simp), look_int (i64_succ (by omega)), trivial⟩, ⟨congrArg some (by simp), trivial⟩, rfl, rfl⟩, rfl, by show l.length - (k + 1) < l.length - k; omega⟩
    · repeat' ((conv => whnf); first | refine CondK.yes' (decide_eq_true (by omega)) ?_ | refine CondK.no' hp ?_ | refine IdxK.mk _ rfl (by omega) (by omega) ?_ | refine LdK.mk _ (by assumption) ?_ | fail)
      exact ⟨⟨(k + 1, ns, cap), hlt, by show ns.length ≤ k + 1; omega, hcap⟩, 0, ⟨⟨rfl, rfl, rfl, look_int (i64_succ (by omega)), trivial⟩, ⟨rfl, trivial⟩, rfl, rfl⟩, rfl, by show l.length - (k + 1) < l.length - k; omega⟩
  · repeat' ((conv => whnf); first | refine CondK.no' (decide_eq_false (by omega)) ?_ | fail)
    refine RetK.fr fun g M' hl hg => ?_
    obtain ⟨h1, h2⟩ := hg 0 _ rfl
    refine ⟨ns, ⟨g 0, 0, none⟩, cap, rfl, by omega, slIntsC hcap (by omega) (fun o u hu => ?_)⟩
    have := h2 o u hu
    exact sub_of (by rw [addr0]; exact this) (by
      cases hm : M ((⟨g 0, 0, none⟩ : Addr).add o) with
      | none => rfl
      | some w => exact absurd (add_blk _ _) (h1 _ _ hm))
def vCode (c : GCode) : Value := .agg #[.int .i64 c.K, .int .i64 c.M]
theorem l22Code_b {X M : Mem} {ad : Addr} {b : Int} (h : Src X M ad b) (hb : b ≤ 4611686018427380000) : AnsB Tryz.prog (off M ad.block) M 16 #[.pointer (some ad)] (GR X vCode (fun _ => True) ad (b + 10)) := by
  refine ansB_of T (l := [.pointer (some ad)]) (Mb := off M ad.block) mixed Tryz.func16 rfl (by kernel_rfl) (Nat.le_of_ble_eq_true rfl) (off_le _ _) (off_dj _ _) ?_
  have hno : ∀ a : Addr, a.block = ad.block → off M ad.block a = none := fun a h => off_none h
  repeat' ((conv => whnf); first | refine gcall (one_b (by assumption) (by omega)) hno (fun x M1 hq hS hlb => ?_) | refine gcall (pick_b (by assumption) (by omega)) hno (fun x M1 hq hS hlb => ?_) | refine gcall (among_b (by assumption) (by omega) (by assumption) rfl (by decide)) hno (fun x M1 hq hS hlb => ?_) | refine gpubI (by assumption) rfl (by decide) (fun ad2 M1 hl hS hr => ?_) | refine CondK.mk (fun h => ?_) (fun h => ?_) | exact RetK.mk fun g M' hl hg => ⟨⟨_, _⟩, rfl, trivial, Src.mono (by assumption) hl (by omega)⟩ | fail)
end Go.Proofs.YtgeofmoojifkmaaGreat.Hlp
namespace Go.Proofs.YtgeofmoojifkmaaGreat.Hlp
open Go Go.RowKit Go.Proofs Go.Proofs.YtgeofmoojifkmaaGreat.Lw
set_option linter.unusedVariables false
set_option linter.unusedSimpArgs false
set_option maxRecDepth 100000
set_option maxHeartbeats 4000000
/-- What the walk over places keeps: the source, the places taken so far, the places left. -/
structure IV (X P N : Mem) (ad : Addr) (b : Int) (ns : List Int) (A : Option Addr) (cap : Nat) (lf : List Int) (o : Option (Addr × Nat)) : Prop where
  le : Le P N
  src : Src X N ad b
  row : (A = none ∧ ns = [] ∧ cap = 0) ∨ ∃ a, A = some a ∧ KRow P N a ns cap ∧ a.block ≠ ad.block
  left : match o with | none => True | some p => ∃ Q, SlR Q RInt 1 8 (some p.1) p.2 lf ∧ ∀ x u, Q x = some u → N x = some u ∧ x.block ≠ ad.block ∧ ∀ a, A = some a → x.block ≠ a.block
theorem IV.step {X P N N1 : Mem} {ad : Addr} {b b1 : Int} {ns : List Int} {A : Option Addr} {cap : Nat} {lf : List Int} {o : Option (Addr × Nat)} (h : IV X P N ad b ns A cap lf o) (hp : ∀ a u, P a = some u → a.block ≠ ad.block) (hS : Src X N1 ad b1) (hl : Le (off N ad.block) N1) : IV X P N1 ad b1 ns A cap lf o := by
  refine ⟨fun a u hu => hl _ _ (off_of (h.le _ _ hu) (hp a u hu)), hS, ?_, ?_⟩
  · rcases h.row with h1 | ⟨a, h1, h2, h3⟩
    · exact .inl h1
    · exact .inr ⟨a, h1, h2.up (fun x u hx hu => hl _ _ (off_of hu (by rw [hx]; exact h3))), h3⟩
  · have := h.left
    cases o with
    | none => trivial
    | some p =>
      obtain ⟨Q, h1, h2⟩ := this
      exact ⟨Q, h1, fun x u hu => ⟨hl _ _ (off_of (h2 x u hu).1 (h2 x u hu).2.1), (h2 x u hu).2⟩⟩
theorem IV.sl {X P N : Mem} {ad : Addr} {b : Int} {ns : List Int} {A : Option Addr} {cap : Nat} {lf : List Int} {o : Option (Addr × Nat)} (h : IV X P N ad b ns A cap lf o) (hn : ns.length ≤ 1000) : SlR (off N ad.block) RInt 1 8 A cap ns := by
  rcases h.row with ⟨rfl, rfl, rfl⟩ | ⟨a, rfl, h2, h3⟩
  · exact SlR.nil
  · exact KRow.sl (B := P) (h2.up (fun x u hx hu => off_of hu (by rw [hx]; exact h3))) (by omega)
theorem intUpU {M M' : Mem} {A : Option Addr} {c : Nat} {ns : List Int} (h : SlR M RInt 1 8 A c ns) (hl : Le M M') : SlR M' RInt 1 8 A c ns := h.mono hl (fun _ _ h => h)
theorem IV.more {X P N : Mem} {ad : Addr} {b b1 : Int} {ns : List Int} {A : Option Addr} {cap : Nat} {lf : List Int} {o : Option (Addr × Nat)} (h : IV X P N ad b ns A cap lf o) (hb : b ≤ b1) : IV X P N ad b1 ns A cap lf o :=
  ⟨h.le, h.src.mono (fun _ _ h => h) hb, h.row, h.left⟩
theorem IV.row4 {X P N N4 : Mem} {ad a : Addr} {b x : Int} {ns : List Int} {A : Option Addr} {cap c4 : Nat} {lf : List Int} {o : Option (Addr × Nat)} (h : IV X P N ad b ns A cap lf o) (hX : Le X P) (hkr : KRow P N4 a (ns ++ [x]) c4) (hne : a.block ≠ ad.block) (hl : ∀ z u, z.block ≠ a.block → N z = some u → N4 z = some u) (hA : ∀ z u, N z = some u → (∀ a', A = some a' → z.block ≠ a'.block) → z.block ≠ a.block) : IV X P N4 ad b (ns ++ [x]) (some a) c4 lf o := by
  have hl4 : Le P N4 := fun z u hu => hl z u (hkr.f z u hu) (h.le z u hu)
  refine ⟨hl4, h.src.keep (hX.trans hl4) (fun z u hz hu => hl z u (by rw [hz]; exact Ne.symm hne) hu), .inr ⟨a, rfl, hkr, hne⟩, ?_⟩
  have := h.left
  cases o with
  | none => trivial
  | some p =>
    obtain ⟨Q, h1, h2⟩ := this
    refine ⟨Q, h1, fun z u hu => ?_⟩
    obtain ⟨g1, g2, g3⟩ := h2 z u hu
    have g4 := hA z u g1 g3
    exact ⟨hl z u g4 g1, g2, fun a' ha => by rw [← Option.some.inj ha]; exact g4⟩
theorem IV.left6 {X P N4 N5 N6 : Mem} {ad a al : Addr} {b x : Int} {ns lf ls : List Int} {c4 c6 : Nat} {o : Option (Addr × Nat)} (h : IV X P N4 ad b (ns ++ [x]) (some a) c4 lf o) (hl5 : Le N4 N5) (hl6 : Le N5 N6) (fr : Fr N5 N6) (hs : SlR (sub N6 N5) RInt 1 8 (some al) c6 ls) : IV X P N6 ad b (ns ++ [x]) (some a) c4 ls (some (al, c6)) := by
  have hl := hl5.trans hl6
  obtain ⟨u0, hu0⟩ := h.src.blk
  rcases h.row with ⟨h1, _⟩ | ⟨a', h1, h2, h3⟩
  · cases h1
  cases h1
  have hc : N4 (a.add 0) = some (((ns ++ [x]).map (Value.int .i64))[0]'(by simp)) := h2.c.el 0 _ (List.getElem?_eq_getElem _)
  refine ⟨h.le.trans hl, h.src.mono hl (Int.le_refl _), .inr ⟨a, rfl, h2.up (fun z u _ hu => hl z u hu), h3⟩, sub N6 N5, hs, fun z u hu => ?_⟩
  obtain ⟨g2, g1⟩ := sub_out (Le.refl N5) hu
  refine ⟨g1, fun he => ?_, fun a' ha he => ?_⟩
  · exact fr z u g2 g1 _ _ (hl5 _ _ hu0) (by rw [add_blk, he])
  · cases ha
    exact fr z u g2 g1 _ _ (hl5 _ _ hc) (by rw [add_blk, he])
def RIvs (X : Mem) (ad : Addr) (b' : Int) (v : Value) (M' : Mem) : Prop := ∃ (l : List GInterval) (A : Option Addr) (c : Nat), v = .slice A l.length c ∧ l.length ≤ 5 ∧ SlR (off M' ad.block) RInterval 4 48 A c l ∧ Src X M' ad b'
theorem pick_in {n x : Int} (h : pickOk n x) (hn : n > 0) : 0 ≤ x ∧ x < n := by
  by_cases h1 : n ≤ 1
  · have := h.1 h1; omega
  · exact h.2 (by omega)
theorem l13Draw_b {X M : Mem} {ad : Addr} {b : Int} (h : Src X M ad b) (hb : b ≤ 4611686018427380000) (pl : Int) (hpl : 0 ≤ pl ∧ pl ≤ 7) : AnsB Tryz.prog (off M ad.block) M 14 #[.pointer (some ad), .int .i64 pl] (RIvs X ad (b + 300)) := by
  refine ansB_of T.cuts (l := [.pointer (some ad), .int .i64 pl]) (Mb := off M ad.block) mixed Tryz.func14 rfl (by kernel_rfl) (Nat.le_of_ble_eq_true rfl) (off_le _ _) (off_dj _ _) ?_
  have hno : ∀ a : Addr, a.block = ad.block → off M ad.block a = none := fun a h => off_none h
  repeat' ((conv => whnf); first | refine JoinK.go ?_ | refine gcall (pick_b h (by omega)) hno (fun k0 M1 hq0 hS0 hlb0 => ?_) | fail)
  have hk0 := hq0.2 (by decide)
  clear hq0
  refine LoopK.sw 0 1 {q : Int × Int × List GInterval × List Value × Nat × Mem × Mem // 0 ≤ q.1 ∧ q.2.2.1.length + q.1 ≤ 5 ∧ q.2.2.1.length ≤ q.2.2.2.2.1 ∧ RowR q.2.2.2.2.2.1 RInterval 4 q.2.2.1 q.2.2.2.1 ∧ Le (off M ad.block) q.2.2.2.2.2.1 ∧ Le q.2.2.2.2.2.1 (off q.2.2.2.2.2.2 ad.block) ∧ Src X q.2.2.2.2.2.2 ad (b + 2 + 40 * q.2.2.1.length)} (fun ⟨⟨k, nx, l, ds, cap, P, N⟩, _⟩ => [(0, .v (.pointer (some ad))), (1, .v (.int .i64 pl)), (5, .s 0 l.length cap 4), (6, .v (.int .i64 nx)), (7, .v (.int .i64 k))]) (fun ⟨⟨k, nx, l, ds, cap, P, N⟩, _⟩ => [(0, ds)]) (fun ⟨⟨k, nx, l, ds, cap, P, N⟩, _⟩ => N) (fun q => q.1.1.toNat) ⟨(k0, 1, [], [], 0, off M ad.block, M1), hk0.1, by show ((([] : List GInterval).length : Nat) : Int) + k0 ≤ 5; simp; omega, Nat.le_refl _, RowR.nil, Le.refl _, fun a u hu => off_of (hlb0 a u hu) (off_ne hu), hS0.mono (fun _ _ h => h) (by simp)⟩ 0 ⟨⟨⟨rfl, rfl, rfl, rfl, rfl, trivial⟩, ⟨rfl, trivial⟩, rfl, rfl⟩, rfl⟩ ?_
  rintro ⟨⟨k, nx, l, ds, cap, P0, N⟩, hk, hlk, hcap, hrow, hMP, hPN, hS⟩
  replace hk : 0 ≤ k := hk
  replace hlk : (l.length : Int) + k ≤ 5 := hlk
  replace hcap : l.length ≤ cap := hcap
  replace hrow : RowR P0 RInterval 4 l ds := hrow
  replace hMP : Le (off M ad.block) P0 := hMP
  replace hPN : Le P0 (off N ad.block) := hPN
  replace hS : Src X N ad (b + 2 + 40 * l.length) := hS
  by_cases hlt : k > 0
  · repeat' ((conv => whnf); first | refine CondK.yes' (decide_eq_true hlt) ?_ | refine JoinK.go ?_ | refine gcall (pick_b hS (by omega)) hno (fun y0 N1 hq1 hS1 hlb1 => ?_) | fail)
    (conv => whnf)
    have hPne : ∀ a u, off N1 ad.block a = some u → a.block ≠ ad.block := fun a u hu => off_ne hu
    have hno' : ∀ a : Addr, a.block = ad.block → off M ad.block a = none := hno
    have hMN : ∀ {N' : Mem}, Le (off N1 ad.block) N' → Le (off M ad.block) N' := fun {N'} hl a u hu => hl a u (off_of (hlb1 a u (hPN a u (hMP a u hu))) (off_ne hu))
    refine LoopK.mk {q : Nat × List Int × Option Addr × Nat × List Int × Option (Addr × Nat) × Mem // q.1 + q.2.1.length = pl.toNat ∧ q.2.2.2.2.1.length ≤ 5 ∧ IV X (off N1 ad.block) q.2.2.2.2.2.2 ad (b + 2 + 40 * l.length + 2 + 4 * q.2.1.length) q.2.1 q.2.2.1 q.2.2.2.1 q.2.2.2.2.1 q.2.2.2.2.2.1} (fun ⟨⟨n, ns, A, cp, lf, o, N⟩, _⟩ => [(0, .v (.pointer (some ad))), (1, .v (.int .i64 pl)), (5, .s 0 l.length cap 4), (6, .v (.int .i64 nx)), (7, .v (.int .i64 k)), (8, .p 1 0), (9, match o with | none => .s 2 lf.length 5 1 | some p => .v (.slice (some p.1) lf.length p.2)), (10, .v (.int .i64 (n : Int)))]) (fun ⟨⟨n, ns, A, cp, lf, o, N⟩, _⟩ => match o with | none => [(0, ds), (1, [.int .i64 nx, .int .i64 (IntKind.i64.wrap (nx + y0)), .slice A ns.length cp, .bool false]), (2, lf.map (Value.int .i64))] | some _ => [(0, ds), (1, [.int .i64 nx, .int .i64 (IntKind.i64.wrap (nx + y0)), .slice A ns.length cp, .bool false])]) (fun ⟨⟨n, ns, A, cp, lf, o, N⟩, _⟩ => N) (fun q => q.1.1) ⟨(pl.toNat, [], none, 0, [0, 1, 2, 3, 4], none, N1), rfl, Nat.le_refl _, off_le _ _, hS1.mono (fun _ _ h => h) (by simp), .inl ⟨rfl, rfl, rfl⟩, trivial⟩ ⟨⟨⟨rfl, rfl, rfl, rfl, rfl, rfl, rfl, look_int (by omega), trivial⟩, ⟨rfl, rfl, rfl, trivial⟩, rfl, rfl⟩, rfl⟩ ?_
    rintro ⟨⟨n, ns, A, cp, lf, o, N2⟩, hn, hlf, hI⟩
    replace hn : n + ns.length = pl.toNat := hn
    replace hlf : lf.length ≤ 5 := hlf
    replace hI : IV X (off N1 ad.block) N2 ad (b + 2 + 40 * l.length + 2 + 4 * ns.length) ns A cp lf o := hI
    by_cases hnp : (n : Int) > 0
    · (conv => whnf)
      refine JoinK.go ?_
      (conv => whnf)
      refine CondK.yes' (decide_eq_true hnp) ?_
      (conv => whnf)
      refine JoinK.go ?_
      (conv => whnf)
      refine JoinK.cut {q : Int × Mem // IV X (off N1 ad.block) q.2 ad (b + 2 + 40 * l.length + 2 + 4 * ns.length + 4) ns A cp lf o} (fun ⟨⟨x, N⟩, _⟩ => [(0, .v (.pointer (some ad))), (1, .v (.int .i64 pl)), (5, .s 0 l.length cap 4), (6, .v (.int .i64 nx)), (7, .v (.int .i64 k)), (8, .p 1 0), (9, match o with | none => .s 2 lf.length 5 1 | some p => .v (.slice (some p.1) lf.length p.2)), (10, .v (.int .i64 (n : Int))), (11, .v (.int .i64 x))]) (fun ⟨⟨x, N⟩, _⟩ => match o with | none => [(0, ds), (1, [.int .i64 nx, .int .i64 (IntKind.i64.wrap (nx + y0)), .slice A ns.length cp, .bool false]), (2, lf.map (Value.int .i64))] | some _ => [(0, ds), (1, [.int .i64 nx, .int .i64 (IntKind.i64.wrap (nx + y0)), .slice A ns.length cp, .bool false])]) 9 (fun ⟨⟨x, N⟩, _⟩ => N) ?_ ?_
      · by_cases h0 : (lf.length : Int) > 0
        · cases o with
          | none =>
            repeat' ((conv => whnf); first | refine CondK.yes' (decide_eq_true h0) ?_ | refine gcall (one_b hI.src (by omega)) hno (fun z N3 hq3 hS3 hlb3 => ?_) | fail)
            have hI3 := hI.step hPne hS3 hlb3
            cases z with
            | true =>
              repeat' ((conv => whnf); first | with_reducible refine CondK.tt ?_ | with_reducible refine CondK.ff ?_ | with_reducible refine CondK.not ?_ | fail)
              exact ⟨⟨(_, _), hI3.step hPne (hI3.src.mono (fun _ _ h => h) (by omega)) (off_le _ _)⟩, ⟨⟨rfl, rfl, rfl, rfl, rfl, rfl, rfl, rfl, rfl, trivial⟩, ⟨rfl, rfl, rfl, trivial⟩, rfl, rfl⟩, rfl⟩
            | false =>
              repeat' ((conv => whnf); first | with_reducible refine CondK.tt ?_ | with_reducible refine CondK.ff ?_ | with_reducible refine CondK.not ?_ | refine gcall (pick_b (n := (lf.length : Int)) hI3.src (by omega)) hno (fun y N4 hq4 hS4 hlb4 => ?_) | fail)
              have hI4 := hI3.step hPne hS4 hlb4
              have hy := pick_in hq4 h0
              obtain ⟨w, hw⟩ : ∃ w, lf[y.toNat]? = some w := ⟨_, List.getElem?_eq_getElem (show y.toNat < lf.length by omega)⟩
              repeat' ((conv => whnf); first | refine IdxA.mk y.toNat (Nat.mul_one _) (by omega) (by omega) ?_ | refine LdA.mk (.int .i64 w) (by rw [List.getElem?_map, hw]; rfl) ?_ | fail)
              exact ⟨⟨(_, _), hI4.more (by omega)⟩, ⟨⟨rfl, rfl, rfl, rfl, rfl, rfl, rfl, rfl, rfl, trivial⟩, ⟨rfl, rfl, rfl, trivial⟩, rfl, rfl⟩, rfl⟩
          | some p =>
            repeat' ((conv => whnf); first | refine CondK.yes' (decide_eq_true h0) ?_ | refine gcall (one_b hI.src (by omega)) hno (fun z N3 hq3 hS3 hlb3 => ?_) | fail)
            have hI3 := hI.step hPne hS3 hlb3
            cases z with
            | true =>
              repeat' ((conv => whnf); first | with_reducible refine CondK.tt ?_ | with_reducible refine CondK.ff ?_ | with_reducible refine CondK.not ?_ | fail)
              exact ⟨⟨(_, _), hI3.step hPne (hI3.src.mono (fun _ _ h => h) (by omega)) (off_le _ _)⟩, ⟨⟨rfl, rfl, rfl, rfl, rfl, rfl, rfl, rfl, rfl, trivial⟩, ⟨rfl, rfl, trivial⟩, rfl, rfl⟩, rfl⟩
            | false =>
              repeat' ((conv => whnf); first | with_reducible refine CondK.tt ?_ | with_reducible refine CondK.ff ?_ | with_reducible refine CondK.not ?_ | refine gcall (pick_b (n := (lf.length : Int)) hI3.src (by omega)) hno (fun y N4 hq4 hS4 hlb4 => ?_) | fail)
              have hI4 := hI3.step hPne hS4 hlb4
              have hy := pick_in hq4 h0
              obtain ⟨w, hw⟩ : ∃ w, lf[y.toNat]? = some w := ⟨_, List.getElem?_eq_getElem (show y.toNat < lf.length by omega)⟩
              obtain ⟨Q, hQ, hQ2⟩ := hI4.left
              obtain ⟨ap, hap, _, x0⟩ := at_Int hQ hw
              have x1 := (hQ2 _ _ x0).1
              repeat' ((conv => whnf); first | refine IdxK.mk ap hap (by omega) (by omega) ?_ | refine LdK.mk _ x1 ?_ | fail)
              exact ⟨⟨(_, _), hI4.more (by omega)⟩, ⟨⟨rfl, rfl, rfl, rfl, rfl, rfl, rfl, rfl, rfl, trivial⟩, ⟨rfl, rfl, trivial⟩, rfl, rfl⟩, rfl⟩
        · cases o with
          | none =>
            repeat' ((conv => whnf); first | refine CondK.no' (decide_eq_false h0) ?_ | with_reducible refine CondK.tt ?_ | with_reducible refine CondK.ff ?_ | with_reducible refine CondK.not ?_ | fail)
            exact ⟨⟨(_, _), hI.step hPne (hI.src.mono (fun _ _ h => h) (by omega)) (off_le _ _)⟩, ⟨⟨rfl, rfl, rfl, rfl, rfl, rfl, rfl, rfl, rfl, trivial⟩, ⟨rfl, rfl, rfl, trivial⟩, rfl, rfl⟩, rfl⟩
          | some p =>
            repeat' ((conv => whnf); first | refine CondK.no' (decide_eq_false h0) ?_ | with_reducible refine CondK.tt ?_ | with_reducible refine CondK.ff ?_ | with_reducible refine CondK.not ?_ | fail)
            exact ⟨⟨(_, _), hI.step hPne (hI.src.mono (fun _ _ h => h) (by omega)) (off_le _ _)⟩, ⟨⟨rfl, rfl, rfl, rfl, rfl, rfl, rfl, rfl, rfl, trivial⟩, ⟨rfl, rfl, trivial⟩, rfl, rfl⟩, rfl⟩
      rintro ⟨⟨x, N3⟩, hJ⟩
      replace hJ : IV X (off N1 ad.block) N3 ad (b + 2 + 40 * l.length + 2 + 4 * ns.length + 4) ns A cp lf o := hJ
      have hn4 : n - 1 + (ns ++ [x]).length = pl.toNat := by simp; omega
      have hb4 : (b + 2 + 40 * l.length + 2 + 4 * ns.length + 4 : Int) ≤ b + 2 + 40 * l.length + 2 + 4 * ((ns ++ [x]).length : Int) := by simp; omega
      have hw4 : IntKind.i64.wrap ((n : Int) - 1) = ((n - 1 : Nat) : Int) := (i64_id (x := (n : Int) - 1) (by omega) (by omega)).trans (by omega)
      have hmu4 : n - 1 < n := by omega
      have hXP : Le X (off N1 ad.block) := hS1.le
      have ones := allOne_i64 ns
      have new4 : ∀ {a : Addr} {c4 : Nat} {N4 : Mem}, ns.length + 1 ≤ c4 → Le N3 N4 → (∀ o u, ((ns ++ [x]).map (Value.int .i64))[o]? = some u → N4 (a.add o) = some u) → (∀ o, o < c4 * 1 → ∃ u, N4 (a.add o) = some u) → (∀ z u, N3 z = some u → z.block ≠ a.block) → IV X (off N1 ad.block) N4 ad (b + 2 + 40 * l.length + 2 + 4 * ns.length + 4) (ns ++ [x]) (some a) c4 lf o := by
        intro a c4 N4 hc4 hl hc hroom hf
        refine hJ.row4 hXP (KRow.new (m := 0) hJ.le rfl (by simpa using hc4) hc hroom hf) (fun he => ?_) (fun z u _ hu => hl z u hu) (fun z u hu _ => hf z u hu)
        obtain ⟨u0, hu0⟩ := hJ.src.blk
        exact hf _ _ hu0 (by rw [add_blk, he])
      cases o with
      | none =>
        rcases hJ.row with ⟨rfl, rfl, rfl⟩ | ⟨a, rfl, hkr, hne⟩
        · (conv => whnf)
          refine AppK.mk (by show (2 * 1 + 512) * 8 ≤ 281474976710656; omega) (by omega) (.inl (by omega)) rfl (fun cap3 hcap3 => ?_)
          (conv => whnf)
          refine PubK.fr (fun a N4 hl4 hc4 hroom4 hf4 _ => ?_)
          have hI4 := new4 (a := a) (c4 := cap3) (N4 := N4) hcap3 hl4 hc4 hroom4 hf4
          (conv => whnf)
          refine PubK.fr (fun al N5 hl5 hc5 _ hf5 _ => ?_)
          have hsl5 : SlR N5 RInt 1 8 (some al) 5 lf := slIntsC hlf (by omega) hc5
          (conv => whnf)
          refine CallK.mf _ (l11Without_r _ lf _ _ hsl5 (by omega) x) (fun v N6 hl6 fr6 hv => ?_)
          obtain ⟨ls, al6, c6, rfl, hls, hs6⟩ := hv
          have hI6 := hI4.left6 hl5 hl6 fr6 hs6
          (conv => whnf)
          exact ⟨⟨(n - 1, [x], some a, _, ls, some (al6, c6), N6), hn4, by show ls.length ≤ 5; omega, hI6.more hb4⟩, ⟨⟨rfl, rfl, rfl, rfl, rfl, rfl, rfl, look_int hw4, trivial⟩, ⟨rfl, congrArg some (by simp), trivial⟩, rfl, rfl⟩, rfl, hmu4⟩
        · by_cases hle : ns.length + 1 ≤ cp
          · (conv => whnf)
            refine AppX.w hle (WrL.mk rfl (hkr.some_of hle) (fun o _ => freshA _ (fun z u hu => hkr.f z u (hMN (Le.refl _) z u hu)) _ o) rfl (fun N4 k1 k2 => ?_))
            have hI4 := hJ.row4 (x := x) hXP (hkr.w hle k1 k2) hne (fun z u hz hu => by rw [k2 z fun o _ he => hz (by rw [he, add_blk, add_blk])]; exact hu) (fun z u _ hz => hz a rfl)
            (conv => whnf)
            refine PubK.fr (fun al N5 hl5 hc5 _ hf5 _ => ?_)
            have hsl5 : SlR N5 RInt 1 8 (some al) 5 lf := slIntsC hlf (by omega) hc5
            (conv => whnf)
            refine CallK.mf _ (l11Without_r _ lf _ _ hsl5 (by omega) x) (fun v N6 hl6 fr6 hv => ?_)
            obtain ⟨ls, al6, c6, rfl, hls, hs6⟩ := hv
            have hI6 := hI4.left6 hl5 hl6 fr6 hs6
            (conv => whnf)
            exact ⟨⟨(n - 1, ns ++ [x], some a, _, ls, some (al6, c6), N6), hn4, by show ls.length ≤ 5; omega, hI6.more hb4⟩, ⟨⟨rfl, rfl, rfl, rfl, rfl, rfl, rfl, look_int hw4, trivial⟩, ⟨rfl, congrArg some (by simp), trivial⟩, rfl, rfl⟩, rfl, hmu4⟩
          · (conv => whnf)
            refine AppX.g hle (ns.map (Value.int .i64)) hkr.c.len hkr.c.el (allOne_append ones rfl) (by omega) (by show (2 * (ns.length + 1) + 512) * 8 ≤ 281474976710656; omega) (fun cap3 hcap3 => ?_)
            (conv => whnf)
            refine PubK.fr (fun a2 N4 hl4 hc4 hroom4 hf4 _ => ?_)
            have hI4 := new4 (a := a2) (c4 := cap3) (N4 := N4) hcap3 hl4 (by rw [List.map_append]; exact hc4) hroom4 hf4
            (conv => whnf)
            refine PubK.fr (fun al N5 hl5 hc5 _ hf5 _ => ?_)
            have hsl5 : SlR N5 RInt 1 8 (some al) 5 lf := slIntsC hlf (by omega) hc5
            (conv => whnf)
            refine CallK.mf _ (l11Without_r _ lf _ _ hsl5 (by omega) x) (fun v N6 hl6 fr6 hv => ?_)
            obtain ⟨ls, al6, c6, rfl, hls, hs6⟩ := hv
            have hI6 := hI4.left6 hl5 hl6 fr6 hs6
            (conv => whnf)
            exact ⟨⟨(n - 1, ns ++ [x], some a2, _, ls, some (al6, c6), N6), hn4, by show ls.length ≤ 5; omega, hI6.more hb4⟩, ⟨⟨rfl, rfl, rfl, rfl, rfl, rfl, rfl, look_int hw4, trivial⟩, ⟨rfl, congrArg some (by simp), trivial⟩, rfl, rfl⟩, rfl, hmu4⟩
      | some p =>
        rcases hJ.row with ⟨rfl, rfl, rfl⟩ | ⟨a, rfl, hkr, hne⟩
        · (conv => whnf)
          refine AppK.mk (by show (2 * 1 + 512) * 8 ≤ 281474976710656; omega) (by omega) (.inl (by omega)) rfl (fun cap3 hcap3 => ?_)
          (conv => whnf)
          refine PubK.fr (fun a N4 hl4 hc4 hroom4 hf4 _ => ?_)
          have hI4 := new4 (a := a) (c4 := cap3) (N4 := N4) hcap3 hl4 hc4 hroom4 hf4
          have hl5 : Le N4 N4 := Le.refl _
          have hsl5 : SlR N4 RInt 1 8 (some p.1) p.2 lf := by
            obtain ⟨Q, hQ, hQ2⟩ := hI4.left
            exact intUpU hQ fun z u hu => (hQ2 z u hu).1
          (conv => whnf)
          refine CallK.mf _ (l11Without_r _ lf _ _ hsl5 (by omega) x) (fun v N6 hl6 fr6 hv => ?_)
          obtain ⟨ls, al6, c6, rfl, hls, hs6⟩ := hv
          have hI6 := hI4.left6 hl5 hl6 fr6 hs6
          (conv => whnf)
          exact ⟨⟨(n - 1, [x], some a, _, ls, some (al6, c6), N6), hn4, by show ls.length ≤ 5; omega, hI6.more hb4⟩, ⟨⟨rfl, rfl, rfl, rfl, rfl, rfl, rfl, look_int hw4, trivial⟩, ⟨rfl, congrArg some (by simp), trivial⟩, rfl, rfl⟩, rfl, hmu4⟩
        · by_cases hle : ns.length + 1 ≤ cp
          · (conv => whnf)
            refine AppX.w hle (WrL.mk rfl (hkr.some_of hle) (fun o _ => freshA _ (fun z u hu => hkr.f z u (hMN (Le.refl _) z u hu)) _ o) rfl (fun N4 k1 k2 => ?_))
            have hI4 := hJ.row4 (x := x) hXP (hkr.w hle k1 k2) hne (fun z u hz hu => by rw [k2 z fun o _ he => hz (by rw [he, add_blk, add_blk])]; exact hu) (fun z u _ hz => hz a rfl)
            have hl5 : Le N4 N4 := Le.refl _
            have hsl5 : SlR N4 RInt 1 8 (some p.1) p.2 lf := by
              obtain ⟨Q, hQ, hQ2⟩ := hI4.left
              exact intUpU hQ fun z u hu => (hQ2 z u hu).1
            (conv => whnf)
            refine CallK.mf _ (l11Without_r _ lf _ _ hsl5 (by omega) x) (fun v N6 hl6 fr6 hv => ?_)
            obtain ⟨ls, al6, c6, rfl, hls, hs6⟩ := hv
            have hI6 := hI4.left6 hl5 hl6 fr6 hs6
            (conv => whnf)
            exact ⟨⟨(n - 1, ns ++ [x], some a, _, ls, some (al6, c6), N6), hn4, by show ls.length ≤ 5; omega, hI6.more hb4⟩, ⟨⟨rfl, rfl, rfl, rfl, rfl, rfl, rfl, look_int hw4, trivial⟩, ⟨rfl, congrArg some (by simp), trivial⟩, rfl, rfl⟩, rfl, hmu4⟩
          · (conv => whnf)
            refine AppX.g hle (ns.map (Value.int .i64)) hkr.c.len hkr.c.el (allOne_append ones rfl) (by omega) (by show (2 * (ns.length + 1) + 512) * 8 ≤ 281474976710656; omega) (fun cap3 hcap3 => ?_)
            (conv => whnf)
            refine PubK.fr (fun a2 N4 hl4 hc4 hroom4 hf4 _ => ?_)
            have hI4 := new4 (a := a2) (c4 := cap3) (N4 := N4) hcap3 hl4 (by rw [List.map_append]; exact hc4) hroom4 hf4
            have hl5 : Le N4 N4 := Le.refl _
            have hsl5 : SlR N4 RInt 1 8 (some p.1) p.2 lf := by
              obtain ⟨Q, hQ, hQ2⟩ := hI4.left
              exact intUpU hQ fun z u hu => (hQ2 z u hu).1
            (conv => whnf)
            refine CallK.mf _ (l11Without_r _ lf _ _ hsl5 (by omega) x) (fun v N6 hl6 fr6 hv => ?_)
            obtain ⟨ls, al6, c6, rfl, hls, hs6⟩ := hv
            have hI6 := hI4.left6 hl5 hl6 fr6 hs6
            (conv => whnf)
            exact ⟨⟨(n - 1, ns ++ [x], some a2, _, ls, some (al6, c6), N6), hn4, by show ls.length ≤ 5; omega, hI6.more hb4⟩, ⟨⟨rfl, rfl, rfl, rfl, rfl, rfl, rfl, look_int hw4, trivial⟩, ⟨rfl, congrArg some (by simp), trivial⟩, rfl, rfl⟩, rfl, hmu4⟩
    · have hn7 : ns.length ≤ 7 := by omega
      have hsl := hI.sl (by omega)
      have fin : ∀ {N' : Mem}, IV X (off N1 ad.block) N' ad (b + 2 + 40 * l.length + 40) ns A cp lf o → ∀ y : GInterval, y.Acting = ns → RowR (off N' ad.block) RInterval 4 (l ++ [y]) (ds ++ [.int .i64 y.First, .int .i64 y.Last, .slice A ns.length cp, .bool y.May]) ∧ Le (off M ad.block) (off N' ad.block) ∧ Src X N' ad (b + 2 + 40 * ((l ++ [y]).length : Int)) := by
        intro N' hI' y hy
        have hP' : Le P0 (off N' ad.block) := fun a u hu => off_of (hI'.le _ _ (off_of (hlb1 a u (hPN a u hu)) (off_ne (hPN a u hu)))) (off_ne (hPN a u hu))
        subst hy
        exact ⟨RowR.app (RowR.mono hrow fun x cs => RInterval.mono hP' x cs) (RowR.one ⟨A, cp, rfl, trivial, hI'.sl (by omega)⟩ rfl rfl), hMP.trans hP', hI'.src.mono (fun _ _ h => h) (by simp; omega)⟩
      cases o with
      | none =>
        repeat' ((conv => whnf); first | refine JoinK.go ?_ | refine CondK.no' (decide_eq_false hnp) ?_ | refine CallK.mk _ (l12Taken_a _ ns A cp (intUpU hsl (off_le _ _)) (by omega)) ?_ | fail)
        by_cases h2 : tkF ns ns.length ≥ 2
        · repeat' ((conv => whnf); first | refine JoinK.go ?_ | refine CondK.yes' (decide_eq_true h2) ?_ | refine gcall (one_b hI.src (by omega)) hno (fun z N3 hq3 hS3 hlb3 => ?_) | fail)
          have hI3 := hI.step hPne hS3 hlb3
          refine AppK.mk (by show (2 * (l.length + 1) + 512) * 48 ≤ 281474976710656; omega) (by omega) (.inr rfl) rfl (fun cap3 hcap3 => ?_)
          obtain ⟨g1, g2, g3⟩ := fin (hI3.more (by omega)) ⟨nx, _, ns, !z⟩ rfl
          exact ⟨⟨(k - 1, _, l ++ [⟨nx, IntKind.i64.wrap (nx + y0), ns, !z⟩], ds ++ [.int .i64 nx, .int .i64 (IntKind.i64.wrap (nx + y0)), .slice A ns.length cp, .bool (!z)], cap3, off N3 ad.block, N3), by show 0 ≤ k - 1; omega, by show (((l ++ [_]).length : Nat) : Int) + (k - 1) ≤ 5; simp; omega, by show (l ++ [_]).length ≤ cap3; simpa using hcap3, g1, g2, Le.refl _, g3⟩, 4, ⟨⟨rfl, rfl, congrArg (fun t => some (PV.s 4 t cap3 4)) (by simp), rfl, look_int (i64_id (by omega) (by omega)), trivial⟩, ⟨rfl, trivial⟩, rfl, rfl⟩, rfl, by show (k - 1).toNat < k.toNat; omega⟩
        · repeat' ((conv => whnf); first | refine JoinK.go ?_ | refine CondK.no' (decide_eq_false h2) ?_ | fail)
          refine AppK.mk (by show (2 * (l.length + 1) + 512) * 48 ≤ 281474976710656; omega) (by omega) (.inr rfl) rfl (fun cap3 hcap3 => ?_)
          obtain ⟨g1, g2, g3⟩ := fin (hI.more (by omega)) ⟨nx, _, ns, false⟩ rfl
          exact ⟨⟨(k - 1, _, l ++ [⟨nx, IntKind.i64.wrap (nx + y0), ns, false⟩], ds ++ [.int .i64 nx, .int .i64 (IntKind.i64.wrap (nx + y0)), .slice A ns.length cp, .bool false], cap3, off N2 ad.block, N2), by show 0 ≤ k - 1; omega, by show (((l ++ [_]).length : Nat) : Int) + (k - 1) ≤ 5; simp; omega, by show (l ++ [_]).length ≤ cap3; simpa using hcap3, g1, g2, Le.refl _, g3⟩, 4, ⟨⟨rfl, rfl, congrArg (fun t => some (PV.s 4 t cap3 4)) (by simp), rfl, look_int (i64_id (by omega) (by omega)), trivial⟩, ⟨rfl, trivial⟩, rfl, rfl⟩, rfl, by show (k - 1).toNat < k.toNat; omega⟩
      | some p =>
        repeat' ((conv => whnf); first | refine JoinK.go ?_ | refine CondK.no' (decide_eq_false hnp) ?_ | refine CallK.mk _ (l12Taken_a _ ns A cp (intUpU hsl (off_le _ _)) (by omega)) ?_ | fail)
        by_cases h2 : tkF ns ns.length ≥ 2
        · repeat' ((conv => whnf); first | refine JoinK.go ?_ | refine CondK.yes' (decide_eq_true h2) ?_ | refine gcall (one_b hI.src (by omega)) hno (fun z N3 hq3 hS3 hlb3 => ?_) | fail)
          have hI3 := hI.step hPne hS3 hlb3
          refine AppK.mk (by show (2 * (l.length + 1) + 512) * 48 ≤ 281474976710656; omega) (by omega) (.inr rfl) rfl (fun cap3 hcap3 => ?_)
          obtain ⟨g1, g2, g3⟩ := fin (hI3.more (by omega)) ⟨nx, _, ns, !z⟩ rfl
          exact ⟨⟨(k - 1, _, l ++ [⟨nx, IntKind.i64.wrap (nx + y0), ns, !z⟩], ds ++ [.int .i64 nx, .int .i64 (IntKind.i64.wrap (nx + y0)), .slice A ns.length cp, .bool (!z)], cap3, off N3 ad.block, N3), by show 0 ≤ k - 1; omega, by show (((l ++ [_]).length : Nat) : Int) + (k - 1) ≤ 5; simp; omega, by show (l ++ [_]).length ≤ cap3; simpa using hcap3, g1, g2, Le.refl _, g3⟩, 4, ⟨⟨rfl, rfl, congrArg (fun t => some (PV.s 4 t cap3 4)) (by simp), rfl, look_int (i64_id (by omega) (by omega)), trivial⟩, ⟨rfl, trivial⟩, rfl, rfl⟩, rfl, by show (k - 1).toNat < k.toNat; omega⟩
        · repeat' ((conv => whnf); first | refine JoinK.go ?_ | refine CondK.no' (decide_eq_false h2) ?_ | fail)
          refine AppK.mk (by show (2 * (l.length + 1) + 512) * 48 ≤ 281474976710656; omega) (by omega) (.inr rfl) rfl (fun cap3 hcap3 => ?_)
          obtain ⟨g1, g2, g3⟩ := fin (hI.more (by omega)) ⟨nx, _, ns, false⟩ rfl
          exact ⟨⟨(k - 1, _, l ++ [⟨nx, IntKind.i64.wrap (nx + y0), ns, false⟩], ds ++ [.int .i64 nx, .int .i64 (IntKind.i64.wrap (nx + y0)), .slice A ns.length cp, .bool false], cap3, off N2 ad.block, N2), by show 0 ≤ k - 1; omega, by show (((l ++ [_]).length : Nat) : Int) + (k - 1) ≤ 5; simp; omega, by show (l ++ [_]).length ≤ cap3; simpa using hcap3, g1, g2, Le.refl _, g3⟩, 4, ⟨⟨rfl, rfl, congrArg (fun t => some (PV.s 4 t cap3 4)) (by simp), rfl, look_int (i64_id (by omega) (by omega)), trivial⟩, ⟨rfl, trivial⟩, rfl, rfl⟩, rfl, by show (k - 1).toNat < k.toNat; omega⟩
  · repeat' ((conv => whnf); first | refine CondK.no' (decide_eq_false hlt) ?_ | refine JoinK.go ?_ | fail)
    refine RetK.fr fun g M' hl hg => ?_
    obtain ⟨h1, h2⟩ := hg 0 _ rfl
    obtain ⟨u0, hu0⟩ := hS.blk
    have hne : g 0 ≠ ad.block := fun he => by
      have := h1 _ _ hu0
      rw [add_blk] at this
      exact this he.symm
    have hP' : Le P0 (off M' ad.block) := fun a u hu => off_of (hl _ _ ((off_le _ _) _ _ (hPN a u hu))) (off_ne (hPN a u hu))
    exact ⟨l, some ⟨g 0, 0, none⟩, cap, rfl, by omega, RowR.sl (RowR.mono hrow fun x cs => RInterval.mono hP' x cs) (fun o u hu => off_of (by have := h2 o u hu; exact this) hne) hcap (by omega), hS.mono hl (by omega)⟩
end Go.Proofs.YtgeofmoojifkmaaGreat.Hlp
namespace Go.Proofs.YtgeofmoojifkmaaGreat.Hlp
open Go Go.RowKit Go.Proofs Go.Proofs.YtgeofmoojifkmaaGreat.Lw
set_option linter.unusedVariables false
set_option linter.unusedSimpArgs false
set_option maxRecDepth 100000
set_option maxHeartbeats 4000000
theorem SlR.takeU {α : Type} {M : Mem} {R : Mem → α → List Value → Prop} {z by_ cap : Nat} {A : Option Addr} {l : List α} (h : SlR M R z by_ A cap l) (k : Nat) : SlR M R z by_ A cap (l.take k) := by
  refine ⟨Nat.le_trans (by rw [List.length_take]; exact Nat.min_le_right _ _) h.cap, Nat.le_trans (by rw [List.length_take]; exact Nat.min_le_right _ _) h.len, fun i x hx => ?_⟩
  rw [List.getElem?_take] at hx
  split at hx
  · exact h.el i x hx
  · cases hx
def newSt (g : GPg) : GPgState := ⟨if pgOkF g = true then g else ⟨0, 0⟩, 0, 0, ⟨0, 0⟩, [], [], [], ⟨0, 0⟩, []⟩
def newStC (g : GPg) : List Value := [.int .i64 (newSt g).Pg.Pool, .int .i64 (newSt g).Pg.No, .int .i64 0, .int .i64 0, .int .i64 0, .int .i64 0, .slice none 0 0, .slice none 0 0, .slice none 0 0, .int .i64 0, .int .i64 0, .slice none 0 0]
theorem newSt_r (M : Mem) (g : GPg) : RPgState M (newSt g) (newStC g) := ⟨none, 0, none, 0, none, 0, none, 0, rfl, trivial, SlR.nil, SlR.nil, SlR.nil, SlR.nil⟩
theorem newState_a (M : Mem) (g : GPg) : Ans Tryz.prog M 71 #[.agg #[.int .i64 g.Pool, .int .i64 g.No]] (.agg (newStC g).toArray) := by
  refine ans_of T (l := [.agg #[.int .i64 g.Pool, .int .i64 g.No]]) mixed Tryz.func71 rfl (by kernel_rfl) (Nat.le_of_ble_eq_true rfl) ?_
  rcases Bool.eq_false_or_eq_true (pgOkF g) with hg | hg
  · have e : newSt g = ⟨g, 0, 0, ⟨0, 0⟩, [], [], [], ⟨0, 0⟩, []⟩ := by unfold newSt; rw [if_pos hg]
    unfold newStC
    rw [e]
    repeat' ((conv => whnf); first | refine CallK.mk _ (l17Pg_a _ g) ?_ | refine CondK.no' (by rw [hg]; rfl) ?_ | fail)
    exact rfl
  · have e : newSt g = ⟨⟨0, 0⟩, 0, 0, ⟨0, 0⟩, [], [], [], ⟨0, 0⟩, []⟩ := by unfold newSt; rw [if_neg (by rw [hg]; decide)]
    unfold newStC
    rw [e]
    repeat' ((conv => whnf); first | refine CallK.mk _ (l17Pg_a _ g) ?_ | refine CondK.yes' (by rw [hg]; rfl) ?_ | fail)
    exact rfl
/-- A state and a code. -/
def RCut (M' : Mem) (v : Value) : Prop := ∃ (y : GPgState) (cs' : List Value) (c : Int), v = .tuple #[.agg cs'.toArray, .int .i64 c] ∧ RPgState M' y cs'
theorem rcut_no (M : Mem) (c : Int) : RCut M (.tuple #[.agg #[.int .i64 0, .int .i64 0, .int .i64 0, .int .i64 0, .int .i64 0, .int .i64 0, .slice none 0 0, .slice none 0 0, .slice none 0 0, .int .i64 0, .int .i64 0, .slice none 0 0], .int .i64 c]) := ⟨zSt, zStC, c, rfl, zSt_r M⟩
theorem cutLog_r (M : Mem) (s : GPgState) (cs : List Value) (h : RPgState M s cs) (v : GVer) : AnsR Tryz.prog M 73 #[.agg cs.toArray, .agg #[.int .i64 v.Epoch, .int .i64 v.Seq]] (fun M' w => RCut (sub M' M) w) := by
  have h' := h
  obtain ⟨A0, c0, A1, c1, A2, c2, A3, c3, rfl, _, s0, s1, s2, s3⟩ := h'
  refine ansR_of T (l := [.agg (List.toArray _), .agg #[.int .i64 v.Epoch, .int .i64 v.Seq]]) mixed Tryz.func73 rfl (by kernel_rfl) (Nat.le_of_ble_eq_true rfl) ?_
  by_cases hs : stateOkF s = true
  · have hsA := sStateOk_a M s _ h
    rw [hs] at hsA
    have hb24 := (state_base hs).2.2.2
    by_cases hn : cntF s v < 0
    · repeat' ((conv => whnf); first | refine CallK.mk _ hsA ?_ | refine CallK.mk _ (l17Upto_a M s _ h v (by omega)) ?_ | refine CondK.yes' (decide_eq_true hn) ?_ | exact RetK.mk fun _ M' _ _ => rcut_no (sub M' M) _ | fail)
    · have hcn := (cntF_le s v).2
      repeat' ((conv => whnf); first | refine CallK.mk _ hsA ?_ | refine CallK.mk _ (l17Upto_a M s _ h v (by omega)) ?_ | refine CondK.no' (decide_eq_false hn) ?_ | refine CallK.mr _ (l17Copy_r M s _ h (by have := (state_base hs).2.1; omega) (by have := state_clients hs; omega) (by omega) (by have := (chunkIx_ok hs).1; omega)) (fun w N1 hl1 hv => ?_) | fail)
      obtain ⟨a0, k0, a1, k1, ad, k2, a3, k3, ds2, rfl, t0, t1, t2, r2, t3, t4⟩ := hv
      obtain ⟨hrc, hfr⟩ := t2.get
      have hle := hrc.le
      (conv => whnf)
      refine SlK.mk 0 (cntF s v).toNat rfl (by omega) (by omega) (by omega) ?_
      have hlog : SlR (sub N1 M) REntry 10 88 (some ad) k2 (s.Log.take (cntF s v).toNat) := SlR.takeU (t2.slS (r2.mono (fun _ _ h => h)) (fun _ _ h => h) (by omega)) _
      have hll : (s.Log.take (cntF s v).toNat).length = (cntF s v).toNat := by rw [List.length_take]; omega
      have fin : ∀ (M' : Mem) (f : GVer) (A' : Option Addr) (n' k' : Nat), Le N1 M' → A' = some ad → n' = (cntF s v).toNat → k' = k2 → RCut (sub M' M) (.tuple #[.agg (List.toArray [.int .i64 s.Pg.Pool, .int .i64 s.Pg.No, .int .i64 s.Seen, .int .i64 s.Started, .int .i64 s.Tail.Epoch, .int .i64 s.Tail.Seq, .slice a0 s.Base.length k0, .slice a1 s.Clients.length k1, .slice A' n' k', .int .i64 f.Epoch, .int .i64 f.Seq, .slice a3 s.Chunks.length k3]), .int .i64 0]) := fun M' f A' n' k' hl hA hn' hk' => by
        subst hA hn' hk'
        have hu : Le (sub N1 M) (sub M' M) := fun a u hu => by
          obtain ⟨g1, g2⟩ := sub_out (Le.refl M) hu
          exact sub_of (hl _ _ g2) g1
        refine ⟨{ s with Log := s.Log.take (cntF s v).toNat, Firm := f }, _, 0, rfl, a0, k0, a1, k1, some ad, k', a3, k3, ?_, trivial, t0.mono hu (RHead.mono hu), t1.mono hu (fun _ _ h => h), hlog.mono hu (fun _ _ h => h), t3.mono hu (RChunk.mono hu)⟩
        show _ = [_, _, _, _, _, _, _, _, Value.slice (some ad) (s.Log.take (cntF s v).toNat).length k', _, _, _]
        rw [hll]
      (conv => whnf)
      refine CallK.mk _ (sVerLess_a _ v s.Firm) ?_
      (conv => whnf)
      refine CondK.mk (fun hc => ?_) (fun hc => ?_)
      · (conv => whnf)
        exact RetK.mk fun _ M' hl _ => fin M' v _ _ _ hl (by first | rfl | (split <;> simp [add0])) (by omega) (by omega)
      · (conv => whnf)
        exact RetK.mk fun _ M' hl _ => fin M' s.Firm _ _ _ hl (by first | rfl | (split <;> simp [add0])) (by omega) (by omega)
  · replace hs : stateOkF s = false := by simpa using hs
    have hsA := sStateOk_a M s _ h
    rw [hs] at hsA
    repeat' ((conv => whnf); first | refine CallK.mk _ hsA ?_ | exact RetK.mk fun _ M' _ _ => rcut_no (sub M' M) _ | fail)
end Go.Proofs.YtgeofmoojifkmaaGreat.Hlp
namespace Go.Proofs.YtgeofmoojifkmaaGreat.Hlp
open Go Go.RowKit Go.Proofs Go.Proofs.YtgeofmoojifkmaaGreat.Lw
set_option linter.unusedVariables false
set_option linter.unusedSimpArgs false
set_option maxRecDepth 100000
set_option maxHeartbeats 4000000
theorem callAdd {P : Program} {wr : Bool} {base M : Mem} {f : FuncId} {args : Array Value} {K : Value → Mem → Prop} (hc : AnsR P M f args (fun M' v => RAdd (sub M' M) v)) (k : ∀ (y : GPgState) A0 c0 A1 c1 A2 c2 A3 c3 (c : Int) M', RPgState (sub M' M) y [.int .i64 y.Pg.Pool, .int .i64 y.Pg.No, .int .i64 y.Seen, .int .i64 y.Started, .int .i64 y.Tail.Epoch, .int .i64 y.Tail.Seq, .slice A0 y.Base.length c0, .slice A1 y.Clients.length c1, .slice A2 y.Log.length c2, .int .i64 y.Firm.Epoch, .int .i64 y.Firm.Seq, .slice A3 y.Chunks.length c3] → (c = 0 → stateOkF y = true) → Le M M' → Fr M M' → K (.tuple #[.agg (List.toArray [.int .i64 y.Pg.Pool, .int .i64 y.Pg.No, .int .i64 y.Seen, .int .i64 y.Started, .int .i64 y.Tail.Epoch, .int .i64 y.Tail.Seq, .slice A0 y.Base.length c0, .slice A1 y.Clients.length c1, .slice A2 y.Log.length c2, .int .i64 y.Firm.Epoch, .int .i64 y.Firm.Seq, .slice A3 y.Chunks.length c3]), .int .i64 c]) M') : CallK P wr base M f args K :=
  CallK.mf _ hc fun v M' hl hf hv => by
    obtain ⟨y, cs', c, rfl, hy, hok⟩ := hv
    obtain ⟨A0, c0, A1, c1, A2, c2, A3, c3, rfl, hb, s0, s1, s2, s3⟩ := hy
    exact k y A0 c0 A1 c1 A2 c2 A3 c3 c M' ⟨A0, c0, A1, c1, A2, c2, A3, c3, rfl, hb, s0, s1, s2, s3⟩ hok hl hf
/-- The source, and memory apart from it. -/
structure GS (X P N : Mem) (ad : Addr) (b : Int) : Prop where
  le : Le P (off N ad.block)
  src : Src X N ad b
theorem GS.step {X P N N1 : Mem} {ad : Addr} {b b1 : Int} (h : GS X P N ad b) (hS : Src X N1 ad b1) (hl : Le (off N ad.block) N1) : GS X P N1 ad b1 :=
  ⟨fun a u hu => off_of (hl _ _ (h.le a u hu)) (off_ne (h.le a u hu)), hS⟩
theorem GS.more {X P N : Mem} {ad : Addr} {b b1 : Int} (h : GS X P N ad b) (hb : b ≤ b1) : GS X P N ad b1 := ⟨h.le, h.src.mono (fun _ _ h => h) hb⟩
theorem GS.up {X P N N1 : Mem} {ad : Addr} {b : Int} (h : GS X P N ad b) (hl : Le N N1) : GS X P N1 ad b := h.step (h.src.mono hl (Int.le_refl _)) fun a u hu => hl _ _ (off_le _ _ _ _ hu)
theorem GS.new {X P N N1 : Mem} {ad : Addr} {b : Int} (h : GS X P N ad b) (hl : Le N N1) (fr : Fr N N1) : GS X (sub N1 N) N1 ad b := by
  obtain ⟨u0, hu0⟩ := h.src.blk
  refine ⟨fun z u hu => ?_, h.src.mono hl (Int.le_refl _)⟩
  obtain ⟨g2, g1⟩ := sub_out (Le.refl N) hu
  exact off_of g1 fun he => fr z u g2 g1 _ _ hu0 (by rw [add_blk, he])
def RGrow (X : Mem) (ad : Addr) (b' : Int) (v : Value) (M' : Mem) : Prop := ∃ (y : GPgState) (A0 : Option Addr) (c0 : Nat) (A1 : Option Addr) (c1 : Nat) (A2 : Option Addr) (c2 : Nat) (A3 : Option Addr) (c3 : Nat), v = .agg (List.toArray [.int .i64 y.Pg.Pool, .int .i64 y.Pg.No, .int .i64 y.Seen, .int .i64 y.Started, .int .i64 y.Tail.Epoch, .int .i64 y.Tail.Seq, .slice A0 y.Base.length c0, .slice A1 y.Clients.length c1, .slice A2 y.Log.length c2, .int .i64 y.Firm.Epoch, .int .i64 y.Firm.Seq, .slice A3 y.Chunks.length c3]) ∧ RPgState (off M' ad.block) y [.int .i64 y.Pg.Pool, .int .i64 y.Pg.No, .int .i64 y.Seen, .int .i64 y.Started, .int .i64 y.Tail.Epoch, .int .i64 y.Tail.Seq, .slice A0 y.Base.length c0, .slice A1 y.Clients.length c1, .slice A2 y.Log.length c2, .int .i64 y.Firm.Epoch, .int .i64 y.Firm.Seq, .slice A3 y.Chunks.length c3] ∧ y.Log.length ≤ 24 ∧ Src X M' ad b'
theorem l22Grow_b {X M : Mem} {ad : Addr} {b : Int} (h : Src X M ad b) (hb : b ≤ 4611686018427380000) (s : GPgState) (cs : List Value) (hs : RPgState (off M ad.block) s cs) (hsl : s.Log.length ≤ 24) (ep many : Int) (hm : many ≤ 10) : AnsB Tryz.prog (off M ad.block) M 72 #[.pointer (some ad), .agg cs.toArray, .int .i64 ep, .int .i64 many] (RGrow X ad (b + 400)) := by
  have hs' := hs
  obtain ⟨A0, c0, A1, c1, A2, c2, A3, c3, rfl, _⟩ := hs'
  refine ansB_of T.cuts (l := [.pointer (some ad), .agg (List.toArray [.int .i64 s.Pg.Pool, .int .i64 s.Pg.No, .int .i64 s.Seen, .int .i64 s.Started, .int .i64 s.Tail.Epoch, .int .i64 s.Tail.Seq, .slice A0 s.Base.length c0, .slice A1 s.Clients.length c1, .slice A2 s.Log.length c2, .int .i64 s.Firm.Epoch, .int .i64 s.Firm.Seq, .slice A3 s.Chunks.length c3]), .int .i64 ep, .int .i64 many]) (Mb := off M ad.block) mixed Tryz.func72 rfl (by kernel_rfl) (Nat.le_of_ble_eq_true rfl) (off_le _ _) (off_dj _ _) ?_
  have hno : ∀ a : Addr, a.block = ad.block → off M ad.block a = none := fun a h => off_none h
  repeat' ((conv => whnf); first | refine JoinK.go ?_ | fail)
  refine LoopK.mk {q : (Int × GPgState) × (Option Addr × Nat) × (Option Addr × Nat) × (Option Addr × Nat) × (Option Addr × Nat) × Mem × Mem // 1 ≤ q.1.1 ∧ (q.1.1 ≤ 11 ∨ q.1.1 ≤ many + 1) ∧ q.1.2.Log.length ≤ 24 ∧ RPgState q.2.2.2.2.2.1 q.1.2 [.int .i64 q.1.2.Pg.Pool, .int .i64 q.1.2.Pg.No, .int .i64 q.1.2.Seen, .int .i64 q.1.2.Started, .int .i64 q.1.2.Tail.Epoch, .int .i64 q.1.2.Tail.Seq, .slice q.2.1.1 q.1.2.Base.length q.2.1.2, .slice q.2.2.1.1 q.1.2.Clients.length q.2.2.1.2, .slice q.2.2.2.1.1 q.1.2.Log.length q.2.2.2.1.2, .int .i64 q.1.2.Firm.Epoch, .int .i64 q.1.2.Firm.Seq, .slice q.2.2.2.2.1.1 q.1.2.Chunks.length q.2.2.2.2.1.2] ∧ GS X q.2.2.2.2.2.1 q.2.2.2.2.2.2 ad (b + 20 * q.1.1)} (fun ⟨⟨⟨k, y⟩, _, _, _, _, _, _⟩, _⟩ => [(0, .v (.pointer (some ad))), (2, .v (.int .i64 ep)), (3, .v (.int .i64 many)), (5, .p 0 0), (8, .p 1 0), (9, .v (.int .i64 k))]) (fun ⟨⟨⟨k, y⟩, ⟨A0, c0⟩, ⟨A1, c1⟩, ⟨A2, c2⟩, ⟨A3, c3⟩, P, N⟩, _⟩ => [(0, [.int .i64 y.Pg.Pool, .int .i64 y.Pg.No, .int .i64 y.Seen, .int .i64 y.Started, .int .i64 y.Tail.Epoch, .int .i64 y.Tail.Seq, .slice A0 y.Base.length c0, .slice A1 y.Clients.length c1, .slice A2 y.Log.length c2, .int .i64 y.Firm.Epoch, .int .i64 y.Firm.Seq, .slice A3 y.Chunks.length c3]), (1, zStC)]) (fun ⟨⟨_, _, _, _, _, P, N⟩, _⟩ => N) (fun q => (many + 1 - q.1.1.1).toNat) ⟨((1, s), (A0, c0), (A1, c1), (A2, c2), (A3, c3), off M ad.block, M), Int.le_refl _, .inl (by show (1 : Int) ≤ 11; decide), hsl, hs, Le.refl _, h.mono (fun _ _ h => h) (by show b ≤ b + 20 * 1; omega)⟩ ⟨⟨⟨rfl, rfl, rfl, rfl, rfl, rfl, trivial⟩, ⟨rfl, rfl, trivial⟩, rfl, rfl⟩, rfl⟩ ?_
  rintro ⟨⟨⟨k, y⟩, ⟨A0, c0⟩, ⟨A1, c1⟩, ⟨A2, c2⟩, ⟨A3, c3⟩, P, N⟩, hk1, hk2, hyl, hy, hG⟩
  replace hk1 : 1 ≤ k := hk1
  replace hk2 : k ≤ 11 ∨ k ≤ many + 1 := hk2
  replace hyl : y.Log.length ≤ 24 := hyl
  replace hy : RPgState P y [.int .i64 y.Pg.Pool, .int .i64 y.Pg.No, .int .i64 y.Seen, .int .i64 y.Started, .int .i64 y.Tail.Epoch, .int .i64 y.Tail.Seq, .slice A0 y.Base.length c0, .slice A1 y.Clients.length c1, .slice A2 y.Log.length c2, .int .i64 y.Firm.Epoch, .int .i64 y.Firm.Seq, .slice A3 y.Chunks.length c3] := hy
  replace hG : GS X P N ad (b + 20 * k) := hG
  by_cases hlt : k ≤ many
  · (conv => whnf)
    refine JoinK.go ?_
    (conv => whnf)
    refine CondK.yes' (decide_eq_true hlt) ?_
    repeat' ((conv => whnf); first | refine JoinK.go ?_ | refine CallK.mk _ (sLastOf_a _ y _ (RPgState.mono (hG.le.trans (off_le _ _)) _ _ hy)) ?_ | fail)
    refine gpubS hG.src rfl (by decide) rfl (fun ad2 N1 hl1 hS1 hr1 => ?_)
    have hG1 := hG.up hl1
    (conv => whnf)
    refine gcall (text_b hG1.src (by omega) hr1 rfl (by decide)) hno (fun nm N2 hq2 hS2 hlb2 => ?_)
    have hG2 := hG1.step hS2 hlb2
    have hnm : nm.size ≤ 1000 := shortS_mem rfl nm hq2
    (conv => whnf)
    refine gcall (pick_b hG2.src (by omega)) hno (fun sz0 N3 hq3 hS3 hlb3 => ?_)
    have hG3 := hG2.step hS3 hlb3
    (conv => whnf)
    refine JoinK.cut {q : Bool × Int × Int × Mem // GS X P q.2.2.2 ad (b + 20 * k + 6)} (fun ⟨⟨gn, sz, sm, N⟩, _⟩ => [(0, .v (.pointer (some ad))), (2, .v (.int .i64 ep)), (3, .v (.int .i64 many)), (5, .p 0 0), (8, .p 1 0), (9, .v (.int .i64 k)), (10, .p 3 0)]) (fun ⟨⟨gn, sz, sm, N⟩, _⟩ => [(0, [.int .i64 y.Pg.Pool, .int .i64 y.Pg.No, .int .i64 y.Seen, .int .i64 y.Started, .int .i64 y.Tail.Epoch, .int .i64 y.Tail.Seq, .slice A0 y.Base.length c0, .slice A1 y.Clients.length c1, .slice A2 y.Log.length c2, .int .i64 y.Firm.Epoch, .int .i64 y.Firm.Seq, .slice A3 y.Chunks.length c3]), (1, zStC), (3, [.int .i64 ep, .int .i64 k, .int .i64 (lastOfF y).Epoch, .int .i64 (lastOfF y).Seq, .string nm, .bool gn, .int .i64 sz, .int .i64 sm, .int .i64 0, .int .i64 0])]) 9 (fun ⟨⟨gn, sz, sm, N⟩, _⟩ => N) ?_ ?_
    · (conv => whnf)
      refine gcall (one_b hG3.src (by omega)) hno (fun z N4 hq4 hS4 hlb4 => ?_)
      have hG4 := hG3.step hS4 hlb4
      (conv => whnf)
      refine CondK.mk (fun hz => ?_) (fun hz => ?_)
      · (conv => whnf)
        exact ⟨⟨(_, _, _, _), hG4.more (by omega)⟩, ⟨⟨rfl, rfl, rfl, rfl, rfl, rfl, rfl, trivial⟩, ⟨rfl, rfl, rfl, trivial⟩, rfl, rfl⟩, rfl⟩
      · (conv => whnf)
        exact ⟨⟨(_, _, _, _), hG4.more (by omega)⟩, ⟨⟨rfl, rfl, rfl, rfl, rfl, rfl, rfl, trivial⟩, ⟨rfl, rfl, rfl, trivial⟩, rfl, rfl⟩, rfl⟩
    rintro ⟨⟨gn, sz, sm, N4⟩, hG4⟩
    replace hG4 : GS X P N4 ad (b + 20 * k + 6) := hG4
    (conv => whnf)
    refine JoinK.cut {q : Int × Int × Mem // GS X P q.2.2 ad (b + 20 * k + 10)} (fun ⟨⟨cl, no, N⟩, _⟩ => [(0, .v (.pointer (some ad))), (2, .v (.int .i64 ep)), (3, .v (.int .i64 many)), (5, .p 0 0), (8, .p 1 0), (9, .v (.int .i64 k)), (10, .p 3 0)]) (fun ⟨⟨cl, no, N⟩, _⟩ => [(0, [.int .i64 y.Pg.Pool, .int .i64 y.Pg.No, .int .i64 y.Seen, .int .i64 y.Started, .int .i64 y.Tail.Epoch, .int .i64 y.Tail.Seq, .slice A0 y.Base.length c0, .slice A1 y.Clients.length c1, .slice A2 y.Log.length c2, .int .i64 y.Firm.Epoch, .int .i64 y.Firm.Seq, .slice A3 y.Chunks.length c3]), (1, zStC), (3, [.int .i64 ep, .int .i64 k, .int .i64 (lastOfF y).Epoch, .int .i64 (lastOfF y).Seq, .string nm, .bool gn, .int .i64 sz, .int .i64 sm, .int .i64 cl, .int .i64 no])]) 9 (fun ⟨⟨cl, no, N⟩, _⟩ => N) ?_ ?_
    · (conv => whnf)
      refine gcall (one_b hG4.src (by omega)) hno (fun z N5 hq5 hS5 hlb5 => ?_)
      have hG5 := hG4.step hS5 hlb5
      (conv => whnf)
      refine CondK.mk (fun hz => ?_) (fun hz => ?_)
      · (conv => whnf)
        refine gcall (pick_b hG5.src (by omega)) hno (fun w N6 hq6 hS6 hlb6 => ?_)
        have hG6 := hG5.step hS6 hlb6
        (conv => whnf)
        exact ⟨⟨(_, _, _), hG6.more (by omega)⟩, ⟨⟨rfl, rfl, rfl, rfl, rfl, rfl, rfl, trivial⟩, ⟨rfl, rfl, rfl, trivial⟩, rfl, rfl⟩, rfl⟩
      · (conv => whnf)
        exact ⟨⟨(_, _, _), hG5.more (by omega)⟩, ⟨⟨rfl, rfl, rfl, rfl, rfl, rfl, rfl, trivial⟩, ⟨rfl, rfl, rfl, trivial⟩, rfl, rfl⟩, rfl⟩
    rintro ⟨⟨cl, no, N5⟩, hG5⟩
    replace hG5 : GS X P N5 ad (b + 20 * k + 10) := hG5
    (conv => whnf)
    refine callAdd (addEntry_r N5 y _ (RPgState.mono (hG5.le.trans (off_le _ _)) _ _ hy) ⟨⟨ep, k⟩, lastOfF y, nm, gn, sz, sm, ⟨cl, no⟩⟩ hnm) (fun y' B0 d0 B1 d1 B2 d2 B3 d3 c N6 hy' hok hl6 fr6 => ?_)
    have hG6 := hG5.up hl6
    have hG6' := hG5.new hl6 fr6
    by_cases hc : c = 0
    · have hyl' := (state_base (hok hc)).2.2.2
      repeat' ((conv => whnf); first | refine JoinK.go ?_ | refine CondK.yes' (show (c == 0) = true by rw [hc]; rfl) ?_ | fail)
      exact ⟨⟨((k + 1, y'), (B0, d0), (B1, d1), (B2, d2), (B3, d3), sub N6 N5, N6), by show 1 ≤ k + 1; omega, .inr (by show k + 1 ≤ many + 1; omega), hyl', hy', hG6'.more (by show b + 20 * k + 10 ≤ b + 20 * (k + 1); omega)⟩, ⟨⟨rfl, rfl, rfl, rfl, rfl, look_int (i64_id (by omega) (by omega)), trivial⟩, ⟨rfl, rfl, trivial⟩, rfl, rfl⟩, rfl, by show (many + 1 - (k + 1)).toNat < (many + 1 - k).toNat; omega⟩
    · repeat' ((conv => whnf); first | refine JoinK.go ?_ | refine CondK.no' (show (c == 0) = false from beq_eq_false_iff_ne.2 hc) ?_ | fail)
      exact ⟨⟨((k + 1, y), (A0, c0), (A1, c1), (A2, c2), (A3, c3), P, N6), by show 1 ≤ k + 1; omega, .inr (by show k + 1 ≤ many + 1; omega), hyl, hy, hG6.more (by show b + 20 * k + 10 ≤ b + 20 * (k + 1); omega)⟩, ⟨⟨rfl, rfl, rfl, rfl, rfl, look_int (i64_id (by omega) (by omega)), trivial⟩, ⟨rfl, rfl, trivial⟩, rfl, rfl⟩, rfl, by show (many + 1 - (k + 1)).toNat < (many + 1 - k).toNat; omega⟩
  · (conv => whnf)
    refine JoinK.go ?_
    (conv => whnf)
    refine CondK.no' (decide_eq_false hlt) ?_
    repeat' ((conv => whnf); first | refine JoinK.go ?_ | exact RetK.mk fun g M' hl _ => ⟨y, A0, c0, A1, c1, A2, c2, A3, c3, rfl, RPgState.mono ((hG.up hl).le) _ _ hy, hyl, hG.src.mono hl (by omega)⟩ | fail)
end Go.Proofs.YtgeofmoojifkmaaGreat.Hlp
namespace Go.Proofs.YtgeofmoojifkmaaGreat.Hlp
open Go Go.RowKit Go.Proofs Go.Proofs.YtgeofmoojifkmaaGreat.Lw
set_option linter.unusedVariables false
set_option linter.unusedSimpArgs false
set_option maxRecDepth 100000
set_option maxHeartbeats 4000000
/-- A state with its rows' places. -/
abbrev StQ := GPgState × (Option Addr × Nat) × (Option Addr × Nat) × (Option Addr × Nat) × (Option Addr × Nat)
def stC (q : StQ) : List Value := [.int .i64 q.1.Pg.Pool, .int .i64 q.1.Pg.No, .int .i64 q.1.Seen, .int .i64 q.1.Started, .int .i64 q.1.Tail.Epoch, .int .i64 q.1.Tail.Seq, .slice q.2.1.1 q.1.Base.length q.2.1.2, .slice q.2.2.1.1 q.1.Clients.length q.2.2.1.2, .slice q.2.2.2.1.1 q.1.Log.length q.2.2.2.1.2, .int .i64 q.1.Firm.Epoch, .int .i64 q.1.Firm.Seq, .slice q.2.2.2.2.1 q.1.Chunks.length q.2.2.2.2.2]
def RNts (X M : Mem) (ad : Addr) (b' : Int) (v : Value) (M' : Mem) : Prop := ∃ (l : List GNotice) (a : Addr) (c : Nat) (ds : List Value), v = .slice (some a) l.length c ∧ l.length ≤ 6 ∧ l.length ≤ c ∧ a.block ≠ ad.block ∧ (∀ (o : Nat) u, ds[o]? = some u → M' (a.add o) = some u) ∧ (∃ P, RowR P RNotice 13 l ds ∧ Le P (off M' ad.block) ∧ ∀ z u, P z = some u → z.block ≠ a.block) ∧ Src X M' ad b' ∧ (∀ z u, X z = some u → z.block ≠ a.block) ∧ ∀ z u, off M ad.block z = some u → z.block ≠ a.block
theorem take2 {l : List Value} {i : Nat} {a b : Value} (h0 : l[i]? = some a) (h1 : l[i + 1]? = some b) : List.take 2 (List.drop i l) = [a, b] := by
  obtain ⟨hi, rfl⟩ := List.getElem?_eq_some_iff.1 h0
  obtain ⟨hj, rfl⟩ := List.getElem?_eq_some_iff.1 h1
  rw [List.drop_eq_getElem_cons hi, List.drop_eq_getElem_cons hj]
  rfl
theorem Owe.agg {p : Prop} {f : Value → Prop} {cs cs' : List Value} (h : p) (e : cs = cs') (k : f (.agg cs'.toArray)) : Owe p (f (.agg cs.toArray)) := ⟨h, e ▸ k⟩
theorem stSt {M : Mem} {y : GPgState} {B0 B1 B2 B3 : Option Addr} {d0 d1 d2 d3 : Nat} (t : Int) (h : RPgState M y [.int .i64 y.Pg.Pool, .int .i64 y.Pg.No, .int .i64 y.Seen, .int .i64 y.Started, .int .i64 y.Tail.Epoch, .int .i64 y.Tail.Seq, .slice B0 y.Base.length d0, .slice B1 y.Clients.length d1, .slice B2 y.Log.length d2, .int .i64 y.Firm.Epoch, .int .i64 y.Firm.Seq, .slice B3 y.Chunks.length d3]) : RPgState M { y with Started := t } (stC ({ y with Started := t }, (B0, d0), (B1, d1), (B2, d2), (B3, d3))) := by
  obtain ⟨A0, c0, A1, c1, A2, c2, A3, c3, e, hb, s0, s1, s2, s3⟩ := h
  cases e
  exact ⟨_, _, _, _, _, _, _, _, rfl, hb, s0, s1, s2, s3⟩
theorem stSeen {M : Mem} {y : GPgState} {B0 B1 B2 B3 : Option Addr} {d0 d1 d2 d3 : Nat} (t : Int) (h : RPgState M y [.int .i64 y.Pg.Pool, .int .i64 y.Pg.No, .int .i64 y.Seen, .int .i64 y.Started, .int .i64 y.Tail.Epoch, .int .i64 y.Tail.Seq, .slice B0 y.Base.length d0, .slice B1 y.Clients.length d1, .slice B2 y.Log.length d2, .int .i64 y.Firm.Epoch, .int .i64 y.Firm.Seq, .slice B3 y.Chunks.length d3]) : RPgState M { y with Seen := t } [.int .i64 y.Pg.Pool, .int .i64 y.Pg.No, .int .i64 t, .int .i64 y.Started, .int .i64 y.Tail.Epoch, .int .i64 y.Tail.Seq, .slice B0 y.Base.length d0, .slice B1 y.Clients.length d1, .slice B2 y.Log.length d2, .int .i64 y.Firm.Epoch, .int .i64 y.Firm.Seq, .slice B3 y.Chunks.length d3] := by
  obtain ⟨A0, c0, A1, c1, A2, c2, A3, c3, e, hb, s0, s1, s2, s3⟩ := h
  cases e
  exact ⟨_, _, _, _, _, _, _, _, rfl, hb, s0, s1, s2, s3⟩
theorem st_log {M : Mem} {y : GPgState} {A0 A1 A2 A3 : Option Addr} {c0 c1 c2 c3 : Nat} (h : RPgState M y [.int .i64 y.Pg.Pool, .int .i64 y.Pg.No, .int .i64 y.Seen, .int .i64 y.Started, .int .i64 y.Tail.Epoch, .int .i64 y.Tail.Seq, .slice A0 y.Base.length c0, .slice A1 y.Clients.length c1, .slice A2 y.Log.length c2, .int .i64 y.Firm.Epoch, .int .i64 y.Firm.Seq, .slice A3 y.Chunks.length c3]) : SlR M REntry 10 88 A2 c2 y.Log := by
  obtain ⟨_, _, _, _, _, _, _, _, e, _, _, _, s2, _⟩ := h
  cases e
  exact s2
theorem callGrowB {P : Program} {X base M : Mem} {ad : Addr} {b' : Int} {f : FuncId} {args : Array Value} {K : Value → Mem → Prop} (h : AnsB P (off M ad.block) M f args (RGrow X ad b')) (hb : ∀ a, a.block = ad.block → base a = none) (k : ∀ (y : GPgState) A0 c0 A1 c1 A2 c2 A3 c3 M', RPgState (off M' ad.block) y [.int .i64 y.Pg.Pool, .int .i64 y.Pg.No, .int .i64 y.Seen, .int .i64 y.Started, .int .i64 y.Tail.Epoch, .int .i64 y.Tail.Seq, .slice A0 y.Base.length c0, .slice A1 y.Clients.length c1, .slice A2 y.Log.length c2, .int .i64 y.Firm.Epoch, .int .i64 y.Firm.Seq, .slice A3 y.Chunks.length c3] → y.Log.length ≤ 24 → Src X M' ad b' → Le (off M ad.block) M' → K (.agg (List.toArray [.int .i64 y.Pg.Pool, .int .i64 y.Pg.No, .int .i64 y.Seen, .int .i64 y.Started, .int .i64 y.Tail.Epoch, .int .i64 y.Tail.Seq, .slice A0 y.Base.length c0, .slice A1 y.Clients.length c1, .slice A2 y.Log.length c2, .int .i64 y.Firm.Epoch, .int .i64 y.Firm.Seq, .slice A3 y.Chunks.length c3])) M') : CallB P base M f args K :=
  CallB.mb (off M ad.block) _ h (off_le _ _) (fun a u h1 h2 => hb a (off_blk h1 h2)) (off_dj _ _) (fun v Mx M2 hR hl hlb _ => by
    obtain ⟨y, A0, c0, A1, c1, A2, c2, A3, c3, rfl, h1, h2, h3⟩ := hR
    exact k y A0 c0 A1 c1 A2 c2 A3 c3 M2 (RPgState.mono (fun a u hu => off_of (hl _ _ (off_le _ _ _ _ hu)) (off_ne hu)) _ _ h1) h2 (h3.mono hl (Int.le_refl _)) hlb)
theorem pick4 {x : Int} (h : pickOk 4 x) : IntKind.i64.wrap (2 + x) ≤ 10 := by
  have := h.2 (by decide)
  rw [i64_id (by omega) (by omega)]
  omega
theorem callCut {P : Program} {wr : Bool} {base M : Mem} {f : FuncId} {args : Array Value} {K : Value → Mem → Prop} (hc : AnsR P M f args (fun M' v => RCut (sub M' M) v)) (k : ∀ (y : GPgState) A0 c0 A1 c1 A2 c2 A3 c3 (c : Int) M', RPgState (sub M' M) y [.int .i64 y.Pg.Pool, .int .i64 y.Pg.No, .int .i64 y.Seen, .int .i64 y.Started, .int .i64 y.Tail.Epoch, .int .i64 y.Tail.Seq, .slice A0 y.Base.length c0, .slice A1 y.Clients.length c1, .slice A2 y.Log.length c2, .int .i64 y.Firm.Epoch, .int .i64 y.Firm.Seq, .slice A3 y.Chunks.length c3] → Le M M' → Fr M M' → K (.tuple #[.agg (List.toArray [.int .i64 y.Pg.Pool, .int .i64 y.Pg.No, .int .i64 y.Seen, .int .i64 y.Started, .int .i64 y.Tail.Epoch, .int .i64 y.Tail.Seq, .slice A0 y.Base.length c0, .slice A1 y.Clients.length c1, .slice A2 y.Log.length c2, .int .i64 y.Firm.Epoch, .int .i64 y.Firm.Seq, .slice A3 y.Chunks.length c3]), .int .i64 c]) M') : CallK P wr base M f args K :=
  CallK.mf _ hc fun v M' hl hf hv => by
    obtain ⟨y, cs', c, rfl, hy⟩ := hv
    obtain ⟨A0, c0, A1, c1, A2, c2, A3, c3, rfl, hb, s0, s1, s2, s3⟩ := hy
    exact k y A0 c0 A1 c1 A2 c2 A3 c3 c M' ⟨A0, c0, A1, c1, A2, c2, A3, c3, rfl, hb, s0, s1, s2, s3⟩ hl hf
theorem l22Draw_b {X M : Mem} {ad : Addr} {b : Int} (h : Src X M ad b) (hb : b ≤ 4611686018427370000) (ivs : List GInterval) (A : Option Addr) (c : Nat) (hi : SlR (off M ad.block) RInterval 4 48 A c ivs) (hil : ivs.length ≤ 5) (g : GPg) : AnsB Tryz.prog (off M ad.block) M 39 #[.pointer (some ad), .slice A ivs.length c, .agg #[.int .i64 g.Pool, .int .i64 g.No]] (RNts X M ad (b + 1000)) := by
  refine ansB_of T.cuts (l := [.pointer (some ad), .slice A ivs.length c, .agg #[.int .i64 g.Pool, .int .i64 g.No]]) (Mb := off M ad.block) mixed Tryz.func39 rfl (by kernel_rfl) (Nat.le_of_ble_eq_true rfl) (off_le _ _) (off_dj _ _) ?_
  have hno : ∀ a : Addr, a.block = ad.block → off M ad.block a = none := fun a h => off_none h
  have hG : GS X (off M ad.block) M ad b := ⟨Le.refl _, h⟩
  repeat' ((conv => whnf); first | refine CallK.mk _ (newState_a _ g) ?_ | fail)
  refine JoinK.cut {q : Int × StQ × Mem × Mem // q.2.1.1.Log.length ≤ 24 ∧ RPgState q.2.2.1 q.2.1.1 (stC q.2.1) ∧ GS X q.2.2.1 q.2.2.2 ad (b + 500) ∧ Le (off M ad.block) q.2.2.1} (fun ⟨⟨at_, _, _, N⟩, _⟩ => [(0, .v (.pointer (some ad))), (5, .p 0 0), (7, .p 1 0), (8, .v (.int .i64 at_))]) (fun ⟨⟨at_, ⟨y, ⟨A0, c0⟩, ⟨A1, c1⟩, ⟨A2, c2⟩, ⟨A3, c3⟩⟩, _, N⟩, _⟩ => [(0, [.int .i64 g.Pool, .int .i64 g.No]), (1, [.int .i64 y.Pg.Pool, .int .i64 y.Pg.No, .int .i64 y.Seen, .int .i64 y.Started, .int .i64 y.Tail.Epoch, .int .i64 y.Tail.Seq, .slice A0 y.Base.length c0, .slice A1 y.Clients.length c1, .slice A2 y.Log.length c2, .int .i64 y.Firm.Epoch, .int .i64 y.Firm.Seq, .slice A3 y.Chunks.length c3])]) 9 (fun ⟨⟨_, _, _, N⟩, _⟩ => N) ?_ ?_
  · by_cases h0 : (ivs.length : Int) > 0
    · repeat' ((conv => whnf); first | refine CondK.yes' (decide_eq_true h0) ?_ | refine gcall (one_b h (by omega)) hno (fun z N1 hq1 hS1 hlb1 => ?_) | fail)
      have hG1 := hG.step hS1 hlb1
      cases z with
      | true =>
        repeat' ((conv => whnf); first | with_reducible refine CondK.tt ?_ | with_reducible refine CondK.ff ?_ | with_reducible refine CondK.not ?_ | fail)
        exact ⟨⟨(_, (newSt g, (none, 0), (none, 0), (none, 0), (none, 0)), off M ad.block, N1), Nat.zero_le _, newSt_r _ g, hG1.more (by omega), Le.refl _⟩, ⟨⟨rfl, rfl, rfl, rfl, trivial⟩, ⟨rfl, rfl, trivial⟩, rfl, rfl⟩, rfl⟩
      | false =>
        repeat' ((conv => whnf); first | with_reducible refine CondK.tt ?_ | with_reducible refine CondK.ff ?_ | with_reducible refine CondK.not ?_ | refine gcall (pick_b (n := (ivs.length : Int)) hG1.src (by omega)) hno (fun y N2 hq2 hS2 hlb2 => ?_) | fail)
        have hG2 := hG1.step hS2 hlb2
        have hy := pick_in hq2 h0
        obtain ⟨w, hw⟩ : ∃ w, ivs[y.toNat]? = some w := ⟨_, List.getElem?_eq_getElem (show y.toNat < ivs.length by omega)⟩
        obtain ⟨ap, hap, _, _, _, _, x0, _⟩ := at_Interval (hi.mono (hG2.le.trans (off_le _ _)) (RInterval.mono (hG2.le.trans (off_le _ _)))) hw
        repeat' ((conv => whnf); first | refine IdxK.mk ap hap (by omega) (by omega) ?_ | refine LdK.mk _ x0 ?_ | fail)
        have hS2' := hG2.src
        clear hS2 hS1 h
        refine DrawN.b [1] {q : StQ × Mem // q.1.1.Log.length ≤ 24 ∧ RPgState (off q.2 ad.block) q.1.1 (stC q.1) ∧ GS X (off M ad.block) q.2 ad (b + 500)} (fun _ => [(0, .v (.pointer (some ad))), (5, .p 0 0), (7, .p 1 0), (8, .v (.int .i64 w.First))]) (fun ⟨⟨⟨y, ⟨A0, c0⟩, ⟨A1, c1⟩, ⟨A2, c2⟩, ⟨A3, c3⟩⟩, N⟩, _⟩ => [(0, [.int .i64 g.Pool, .int .i64 g.No]), (1, [.int .i64 y.Pg.Pool, .int .i64 y.Pg.No, .int .i64 y.Seen, .int .i64 y.Started, .int .i64 y.Tail.Epoch, .int .i64 y.Tail.Seq, .slice A0 y.Base.length c0, .slice A1 y.Clients.length c1, .slice A2 y.Log.length c2, .int .i64 y.Firm.Epoch, .int .i64 y.Firm.Seq, .slice A3 y.Chunks.length c3])]) 9 (fun ⟨⟨_, N⟩, _⟩ => N) rfl (by kernel_rfl) ?_ ?_
        · repeat' ((conv => whnf); first | refine AndK.mk ?_ ?_ | refine HeldK.mk (by kernel_rfl) ?_ | refine gcallB (pick_b hS2' (by omega)) hno (fun m0 N3 hq3 hS3 hlb3 => ?_) | refine callGrowB (l22Grow_b (by assumption) (by omega) (newSt g) (newStC g) (newSt_r _ g) (Nat.zero_le _) _ _ (pick4 (by assumption))) hno (fun y' B0 d0 B1 d1 B2 d2 B3 d3 N4 hy' hyl' hS4 hlb4 => ?_) | fail)
          all_goals exact ⟨⟨((_, (_, _), (_, _), (_, _), (_, _)), _), hyl', hy', ((hG2.step hS3 hlb3).step hS4 hlb4).more (by omega)⟩, ⟨⟨rfl, rfl, rfl, rfl, trivial⟩, ⟨rfl, rfl, trivial⟩, rfl, rfl⟩, rfl⟩
        rintro ⟨⟨⟨y', ⟨B0, d0⟩, ⟨B1, d1⟩, ⟨B2, d2⟩, ⟨B3, d3⟩⟩, N4⟩, hyl', hy', hS4⟩
        (conv => whnf)
        exact ⟨⟨(_, (y', (B0, d0), (B1, d1), (B2, d2), (B3, d3)), off N4 ad.block, N4), hyl', hy', ⟨Le.refl _, hS4.src⟩, hS4.le⟩, ⟨⟨rfl, rfl, rfl, rfl, trivial⟩, ⟨rfl, rfl, trivial⟩, rfl, rfl⟩, rfl⟩
    · repeat' ((conv => whnf); first | refine CondK.no' (decide_eq_false h0) ?_ | with_reducible refine CondK.tt ?_ | with_reducible refine CondK.ff ?_ | with_reducible refine CondK.not ?_ | fail)
      exact ⟨⟨(_, (newSt g, (none, 0), (none, 0), (none, 0), (none, 0)), off M ad.block, M), Nat.zero_le _, newSt_r _ g, hG.more (by omega), Le.refl _⟩, ⟨⟨rfl, rfl, rfl, rfl, trivial⟩, ⟨rfl, rfl, trivial⟩, rfl, rfl⟩, rfl⟩
  rintro ⟨⟨at_, ⟨y, ⟨A0, c0⟩, ⟨A1, c1⟩, ⟨A2, c2⟩, ⟨A3, c3⟩⟩, P0, N0⟩, hyl, hy, hG0, hMP0⟩
  replace hMP0 : Le (off M ad.block) P0 := hMP0
  replace hyl : y.Log.length ≤ 24 := hyl
  replace hy : RPgState P0 y [.int .i64 y.Pg.Pool, .int .i64 y.Pg.No, .int .i64 y.Seen, .int .i64 y.Started, .int .i64 y.Tail.Epoch, .int .i64 y.Tail.Seq, .slice A0 y.Base.length c0, .slice A1 y.Clients.length c1, .slice A2 y.Log.length c2, .int .i64 y.Firm.Epoch, .int .i64 y.Firm.Seq, .slice A3 y.Chunks.length c3] := hy
  replace hG0 : GS X P0 N0 ad (b + 500) := hG0
  repeat' ((conv => whnf); first | refine JoinK.go ?_ | fail)
  refine LoopK.sw 9 10 {q : Nat × List GNotice × List Value × Nat × Mem × Mem // q.1 ≤ 6 ∧ q.2.1.length ≤ q.1 ∧ q.2.1.length ≤ q.2.2.2.1 ∧ RowR q.2.2.2.2.1 RNotice 13 q.2.1 q.2.2.1 ∧ RPgState q.2.2.2.2.1 y [.int .i64 y.Pg.Pool, .int .i64 y.Pg.No, .int .i64 y.Seen, .int .i64 y.Started, .int .i64 y.Tail.Epoch, .int .i64 y.Tail.Seq, .slice A0 y.Base.length c0, .slice A1 y.Clients.length c1, .slice A2 y.Log.length c2, .int .i64 y.Firm.Epoch, .int .i64 y.Firm.Seq, .slice A3 y.Chunks.length c3] ∧ GS X q.2.2.2.2.1 q.2.2.2.2.2 ad (b + 500 + 12 * q.1) ∧ Le (off M ad.block) q.2.2.2.2.1} (fun ⟨⟨n, l, ds, cap, P, N⟩, _⟩ => [(0, .v (.pointer (some ad))), (5, .p 0 0), (7, .p 1 0), (8, .v (.int .i64 at_)), (9, .s 9 l.length cap 13), (10, .v (.int .i64 (n : Int)))]) (fun ⟨⟨n, l, ds, cap, P, N⟩, _⟩ => [(0, [.int .i64 g.Pool, .int .i64 g.No]), (1, [.int .i64 y.Pg.Pool, .int .i64 y.Pg.No, .int .i64 y.Seen, .int .i64 y.Started, .int .i64 y.Tail.Epoch, .int .i64 y.Tail.Seq, .slice A0 y.Base.length c0, .slice A1 y.Clients.length c1, .slice A2 y.Log.length c2, .int .i64 y.Firm.Epoch, .int .i64 y.Firm.Seq, .slice A3 y.Chunks.length c3]), (9, ds)]) (fun ⟨⟨n, l, ds, cap, P, N⟩, _⟩ => N) (fun q => 6 - q.1.1) ⟨(0, [], [], 0, P0, N0), Nat.zero_le _, Nat.le_refl _, Nat.le_refl _, RowR.nil, hy, hG0.more (by show b + 500 ≤ b + 500 + 12 * ((0 : Nat) : Int); omega), hMP0⟩ 9 ⟨⟨⟨rfl, rfl, rfl, rfl, rfl, rfl, trivial⟩, ⟨rfl, rfl, rfl, trivial⟩, rfl, rfl⟩, rfl⟩ ?_
  rintro ⟨⟨n, l, ds, cap, P, N⟩, hn, hln, hcap, hrow, hyP, hGl, hMP⟩
  replace hMP : Le (off M ad.block) P := hMP
  replace hn : n ≤ 6 := hn
  replace hln : l.length ≤ n := hln
  replace hcap : l.length ≤ cap := hcap
  replace hrow : RowR P RNotice 13 l ds := hrow
  replace hyP : RPgState P y [.int .i64 y.Pg.Pool, .int .i64 y.Pg.No, .int .i64 y.Seen, .int .i64 y.Started, .int .i64 y.Tail.Epoch, .int .i64 y.Tail.Seq, .slice A0 y.Base.length c0, .slice A1 y.Clients.length c1, .slice A2 y.Log.length c2, .int .i64 y.Firm.Epoch, .int .i64 y.Firm.Seq, .slice A3 y.Chunks.length c3] := hyP
  replace hGl : GS X P N ad (b + 500 + 12 * n) := hGl
  obtain ⟨dl, rl, nl, ml⟩ := (st_log hyP).row (fun x cs hx => (REntry.one x cs hx).1)
  by_cases hlt : (n : Int) < 6
  · (conv => whnf)
    refine JoinK.go ?_
    (conv => whnf)
    refine CondK.yes' (decide_eq_true hlt) ?_
    repeat' ((conv => whnf); first | refine JoinK.go ?_ | refine gcall (one_b hGl.src (by omega)) hno (fun z N1 hq1 hS1 hlb1 => ?_) | fail)
    have hG1 := hGl.step hS1 hlb1
    cases z with
    | true =>
      repeat' ((conv => whnf); first | with_reducible refine CondK.tt ?_ | with_reducible refine CondK.ff ?_ | refine JoinK.go ?_ | fail)
      exact ⟨⟨(n + 1, l, ds, cap, P, N1), by show n + 1 ≤ 6; omega, by show l.length ≤ n + 1; omega, hcap, hrow, hyP, hG1.more (by show _ ≤ b + 500 + 12 * ((n + 1 : Nat) : Int); omega), hMP⟩, 9, ⟨⟨rfl, rfl, rfl, rfl, rfl, look_int (i64_succ (by omega)), trivial⟩, ⟨rfl, rfl, rfl, trivial⟩, rfl, rfl⟩, rfl, by show 6 - (n + 1) < 6 - n; omega⟩
    | false =>
      repeat' ((conv => whnf); first | with_reducible refine CondK.tt ?_ | with_reducible refine CondK.ff ?_ | refine CallK.mk _ (newState_a _ g) ?_ | fail)
      refine JoinK.cut {q : StQ × Mem // RPgState (off q.2 ad.block) q.1.1 (stC q.1) ∧ GS X P q.2 ad (b + 500 + 12 * n + 8)} (fun ⟨⟨_, N⟩, _⟩ => [(0, .v (.pointer (some ad))), (5, .p 0 0), (7, .p 1 0), (8, .v (.int .i64 at_)), (9, .s 9 l.length cap 13), (10, .v (.int .i64 (n : Int))), (11, .p 10 0)]) (fun ⟨⟨⟨x, ⟨B0, d0⟩, ⟨B1, d1⟩, ⟨B2, d2⟩, ⟨B3, d3⟩⟩, N⟩, _⟩ => [(0, [.int .i64 g.Pool, .int .i64 g.No]), (1, [.int .i64 y.Pg.Pool, .int .i64 y.Pg.No, .int .i64 y.Seen, .int .i64 y.Started, .int .i64 y.Tail.Epoch, .int .i64 y.Tail.Seq, .slice A0 y.Base.length c0, .slice A1 y.Clients.length c1, .slice A2 y.Log.length c2, .int .i64 y.Firm.Epoch, .int .i64 y.Firm.Seq, .slice A3 y.Chunks.length c3]), (9, ds), (10, [.int .i64 x.Pg.Pool, .int .i64 x.Pg.No, .int .i64 x.Seen, .int .i64 x.Started, .int .i64 x.Tail.Epoch, .int .i64 x.Tail.Seq, .slice B0 x.Base.length d0, .slice B1 x.Clients.length d1, .slice B2 x.Log.length d2, .int .i64 x.Firm.Epoch, .int .i64 x.Firm.Seq, .slice B3 x.Chunks.length d3])]) 20 (fun ⟨⟨_, N⟩, _⟩ => N) ?_ ?_
      · by_cases h0 : at_ > 0
        · repeat' ((conv => whnf); first | refine CondK.yes' (decide_eq_true h0) ?_ | refine gcall (one_b hG1.src (by omega)) hno (fun z N2 hq2 hS2 hlb2 => ?_) | fail)
          have hG2 := hG1.step hS2 hlb2
          cases z with
          | true =>
            repeat' ((conv => whnf); first | with_reducible refine CondK.tt ?_ | with_reducible refine CondK.ff ?_ | with_reducible refine CondK.not ?_ | fail)
            exact ⟨⟨((newSt g, (none, 0), (none, 0), (none, 0), (none, 0)), N2), newSt_r _ g, hG2.more (by omega)⟩, ⟨⟨rfl, rfl, rfl, rfl, rfl, rfl, rfl, trivial⟩, ⟨rfl, rfl, rfl, rfl, trivial⟩, rfl, rfl⟩, rfl⟩
          | false =>
            repeat' ((conv => whnf); first | with_reducible refine CondK.tt ?_ | with_reducible refine CondK.ff ?_ | with_reducible refine CondK.not ?_ | fail)
            refine SrcK.mk dl nl (src_up ml (hG2.le.trans (off_le _ _))) ?_
            (conv => whnf)
            refine AppK.mk (by show (2 * (0 + y.Log.length) + 512) * 88 ≤ 281474976710656; omega) (by omega) (.inr rfl) rl.all (fun c5 hc5 => ?_)
            repeat' ((conv => whnf); first | refine JoinK.go ?_ | refine gcall (pick_b hG2.src (by omega)) hno (fun k N3 hq3 hS3 hlb3 => ?_) | fail)
            have hG3 := hG2.step hS3 hlb3
            by_cases hk : k > 0
            · repeat' ((conv => whnf); first | refine CondK.yes' (decide_eq_true hk) ?_ | fail)
              have hw5 : IntKind.i64.wrap ((y.Log.length : Int) + 1) = (y.Log.length : Int) + 1 := i64_id (by omega) (by omega)
              have hkl : k ≤ (y.Log.length : Int) := by
                have h5 := hq3.2
                have h6 := hq3.1
                rw [show ((0 + y.Log.length : Nat) : Int) = (y.Log.length : Int) by omega, hw5] at h5 h6
                by_cases h7 : 1 < (y.Log.length : Int) + 1
                · have := h5 h7; omega
                · have := h6 (by omega); omega
              have hi5 : IntKind.i64.wrap (k - 1) = (((k - 1).toNat : Nat) : Int) := (i64_id (x := k - 1) (by omega) (by omega)).trans (by omega)
              obtain ⟨e, he⟩ : ∃ e, y.Log[(k - 1).toNat]? = some e := ⟨_, List.getElem?_eq_getElem (show (k - 1).toNat < y.Log.length by omega)⟩
              obtain ⟨css, hcs, hcl, hcz, hce⟩ := rl.ex
              obtain ⟨ecs, g1, rfl, _⟩ := hce _ _ he
              have e0 : dl[(k - 1).toNat * 10 + 0]? = some (.int .i64 e.Ver.Epoch) := by rw [hcs]; exact flat_get (fun c hc => (hcz c hc).1) g1 rfl
              have e1 : dl[(k - 1).toNat * 10 + 1]? = some (.int .i64 e.Ver.Seq) := by rw [hcs]; exact flat_get (fun c hc => (hcz c hc).1) g1 rfl
              (conv => whnf)
              refine IdxA.mk ((k - 1).toNat * 10) (by rw [hi5]; rfl) (by rw [hi5]; omega) (by rw [hi5]; omega) ?_
              repeat' ((conv => whnf); first | refine IdxA.mk ((k - 1).toNat * 10) (by rw [hi5]; rfl) (by rw [hi5]; omega) (by rw [hi5]; omega) ?_ | refine LdA.mk _ (by first | exact e0 | (rw [List.nil_append]; exact e0)) ?_ | refine LdA.mk _ (by first | exact e1 | (rw [List.nil_append]; exact e1)) ?_ | refine JoinK.go ?_ | fail)
              (conv => whnf)
              have hv : List.take 2 (List.drop ((k - 1).toNat * 10 + 0) ([] ++ dl)) = [.int .i64 e.Ver.Epoch, .int .i64 e.Ver.Seq] := by rw [List.nil_append]; exact take2 e0 e1
              refine Owe.mk (by show (k - 1).toNat * 10 + 0 + 2 ≤ ([] ++ dl).length; rw [List.nil_append, nl]; omega) ?_
              erw [hv]
              repeat' ((conv => whnf); first | refine JoinK.go ?_ | fail)
              (conv => whnf)
              refine callCut (cutLog_r _ y _ (RPgState.mono (hG3.le.trans (off_le _ _)) _ _ hyP) ⟨_, _⟩) (fun y' B0 d0 B1 d1 B2 d2 B3 d3 c4 N4 hy' hl4 fr4 => ?_)
              have hG4 := hG3.up hl4
              have hG4' := hG3.new hl4 fr4
              by_cases hc : c4 = 0
              · repeat' ((conv => whnf); first | refine JoinK.go ?_ | refine CondK.yes' (show (c4 == 0) = true by rw [hc]; rfl) ?_ | fail)
                exact ⟨⟨(({ y' with Started := at_ }, (B0, d0), (B1, d1), (B2, d2), (B3, d3)), N4), stSt at_ (RPgState.mono hG4'.le _ _ hy'), hG4.more (by omega)⟩, ⟨⟨rfl, rfl, rfl, rfl, rfl, rfl, rfl, trivial⟩, ⟨rfl, rfl, rfl, rfl, trivial⟩, rfl, rfl⟩, rfl⟩
              · repeat' ((conv => whnf); first | refine JoinK.go ?_ | refine CondK.no' (show (c4 == 0) = false from beq_eq_false_iff_ne.2 hc) ?_ | fail)
                exact ⟨⟨(({ newSt g with Started := at_ }, (none, 0), (none, 0), (none, 0), (none, 0)), N4), stSt at_ (newSt_r _ g), hG4.more (by omega)⟩, ⟨⟨rfl, rfl, rfl, rfl, rfl, rfl, rfl, trivial⟩, ⟨rfl, rfl, rfl, rfl, trivial⟩, rfl, rfl⟩, rfl⟩
            · repeat' ((conv => whnf); first | refine JoinK.go ?_ | refine CondK.no' (decide_eq_false hk) ?_ | fail)
              (conv => whnf)
              refine callCut (cutLog_r _ y _ (RPgState.mono (hG3.le.trans (off_le _ _)) _ _ hyP) ⟨_, _⟩) (fun y' B0 d0 B1 d1 B2 d2 B3 d3 c4 N4 hy' hl4 fr4 => ?_)
              have hG4 := hG3.up hl4
              have hG4' := hG3.new hl4 fr4
              by_cases hc : c4 = 0
              · repeat' ((conv => whnf); first | refine JoinK.go ?_ | refine CondK.yes' (show (c4 == 0) = true by rw [hc]; rfl) ?_ | fail)
                exact ⟨⟨(({ y' with Started := at_ }, (B0, d0), (B1, d1), (B2, d2), (B3, d3)), N4), stSt at_ (RPgState.mono hG4'.le _ _ hy'), hG4.more (by omega)⟩, ⟨⟨rfl, rfl, rfl, rfl, rfl, rfl, rfl, trivial⟩, ⟨rfl, rfl, rfl, rfl, trivial⟩, rfl, rfl⟩, rfl⟩
              · repeat' ((conv => whnf); first | refine JoinK.go ?_ | refine CondK.no' (show (c4 == 0) = false from beq_eq_false_iff_ne.2 hc) ?_ | fail)
                exact ⟨⟨(({ newSt g with Started := at_ }, (none, 0), (none, 0), (none, 0), (none, 0)), N4), stSt at_ (newSt_r _ g), hG4.more (by omega)⟩, ⟨⟨rfl, rfl, rfl, rfl, rfl, rfl, rfl, trivial⟩, ⟨rfl, rfl, rfl, rfl, trivial⟩, rfl, rfl⟩, rfl⟩
        · repeat' ((conv => whnf); first | refine CondK.no' (decide_eq_false h0) ?_ | with_reducible refine CondK.tt ?_ | with_reducible refine CondK.ff ?_ | with_reducible refine CondK.not ?_ | fail)
          exact ⟨⟨((newSt g, (none, 0), (none, 0), (none, 0), (none, 0)), N1), newSt_r _ g, hG1.more (by omega)⟩, ⟨⟨rfl, rfl, rfl, rfl, rfl, rfl, rfl, trivial⟩, ⟨rfl, rfl, rfl, rfl, trivial⟩, rfl, rfl⟩, rfl⟩
      rintro ⟨⟨⟨x, ⟨B0, d0⟩, ⟨B1, d1⟩, ⟨B2, d2⟩, ⟨B3, d3⟩⟩, N2⟩, hx, hG2⟩
      replace hx : RPgState (off N2 ad.block) x [.int .i64 x.Pg.Pool, .int .i64 x.Pg.No, .int .i64 x.Seen, .int .i64 x.Started, .int .i64 x.Tail.Epoch, .int .i64 x.Tail.Seq, .slice B0 x.Base.length d0, .slice B1 x.Clients.length d1, .slice B2 x.Log.length d2, .int .i64 x.Firm.Epoch, .int .i64 x.Firm.Seq, .slice B3 x.Chunks.length d3] := hx
      replace hG2 : GS X P N2 ad (b + 500 + 12 * n + 8) := hG2
      (conv => whnf)
      have hS2x := hG2.src
      clear hS1 h
      refine DrawN.b [10] {q : GPgState × Mem // RPgState (off q.2 ad.block) q.1 [.int .i64 q.1.Pg.Pool, .int .i64 q.1.Pg.No, .int .i64 q.1.Seen, .int .i64 q.1.Started, .int .i64 q.1.Tail.Epoch, .int .i64 q.1.Tail.Seq, .slice B0 q.1.Base.length d0, .slice B1 q.1.Clients.length d1, .slice B2 q.1.Log.length d2, .int .i64 q.1.Firm.Epoch, .int .i64 q.1.Firm.Seq, .slice B3 q.1.Chunks.length d3] ∧ GS X P q.2 ad (b + 500 + 12 * n + 10)} (fun _ => [(0, .v (.pointer (some ad))), (5, .p 0 0), (7, .p 1 0), (8, .v (.int .i64 at_)), (9, .s 9 l.length cap 13), (10, .v (.int .i64 (n : Int))), (11, .p 10 0)]) (fun ⟨⟨x, N⟩, _⟩ => [(0, [.int .i64 g.Pool, .int .i64 g.No]), (1, [.int .i64 y.Pg.Pool, .int .i64 y.Pg.No, .int .i64 y.Seen, .int .i64 y.Started, .int .i64 y.Tail.Epoch, .int .i64 y.Tail.Seq, .slice A0 y.Base.length c0, .slice A1 y.Clients.length c1, .slice A2 y.Log.length c2, .int .i64 y.Firm.Epoch, .int .i64 y.Firm.Seq, .slice A3 y.Chunks.length c3]), (9, ds), (10, [.int .i64 x.Pg.Pool, .int .i64 x.Pg.No, .int .i64 x.Seen, .int .i64 x.Started, .int .i64 x.Tail.Epoch, .int .i64 x.Tail.Seq, .slice B0 x.Base.length d0, .slice B1 x.Clients.length d1, .slice B2 x.Log.length d2, .int .i64 x.Firm.Epoch, .int .i64 x.Firm.Seq, .slice B3 x.Chunks.length d3])]) 20 (fun ⟨⟨_, N⟩, _⟩ => N) rfl (by kernel_rfl) ?_ ?_
      · repeat' ((conv => whnf); first | refine AndK.mk ?_ ?_ | refine HeldK.mk (by kernel_rfl) ?_ | refine CallB.mk _ (l00Max_a _ _ _) ?_ | refine gcallB (pick_b hS2x (by omega)) hno (fun m0 N3 hq3 hS3 hlb3 => ?_) | fail)
        all_goals exact ⟨⟨({ x with Seen := if m0 > x.Started then m0 else x.Started }, _), stSeen (if m0 > x.Started then m0 else x.Started) (RPgState.mono ((GS.step ⟨Le.refl _, hS2x⟩ hS3 hlb3).le) _ _ hx), (hG2.step hS3 hlb3).more (by omega)⟩, ⟨⟨rfl, rfl, rfl, rfl, rfl, rfl, rfl, trivial⟩, ⟨rfl, rfl, rfl, rfl, trivial⟩, rfl, rfl⟩, rfl⟩
      rintro ⟨⟨xn, N3⟩, hxn, hG3⟩
      replace hxn : RPgState (off N3 ad.block) xn [.int .i64 xn.Pg.Pool, .int .i64 xn.Pg.No, .int .i64 xn.Seen, .int .i64 xn.Started, .int .i64 xn.Tail.Epoch, .int .i64 xn.Tail.Seq, .slice B0 xn.Base.length d0, .slice B1 xn.Clients.length d1, .slice B2 xn.Log.length d2, .int .i64 xn.Firm.Epoch, .int .i64 xn.Firm.Seq, .slice B3 xn.Chunks.length d3] := hxn
      replace hG3 : GS X P N3 ad (b + 500 + 12 * n + 10) := hG3
      (conv => whnf)
      refine AppK.mk (by show (2 * (l.length + 1) + 512) * 168 ≤ 281474976710656; omega) (by omega) (.inr rfl) rfl (fun cap3 hcap3 => ?_)
      have hrn : RNotice (off N3 ad.block) ⟨(n : Int), xn⟩ (.int .i64 (n : Int) :: [.int .i64 xn.Pg.Pool, .int .i64 xn.Pg.No, .int .i64 xn.Seen, .int .i64 xn.Started, .int .i64 xn.Tail.Epoch, .int .i64 xn.Tail.Seq, .slice B0 xn.Base.length d0, .slice B1 xn.Clients.length d1, .slice B2 xn.Log.length d2, .int .i64 xn.Firm.Epoch, .int .i64 xn.Firm.Seq, .slice B3 xn.Chunks.length d3]) := by
        obtain ⟨_, _, _, _, _, _, _, _, e, hb', s0, s1, s2, s3⟩ := hxn
        cases e
        exact ⟨_, _, _, _, _, _, _, _, rfl, trivial, s0, s1, s2, s3⟩
      repeat' ((conv => whnf); first | refine JoinK.go ?_ | fail)
      exact ⟨⟨(n + 1, l ++ [⟨(n : Int), xn⟩], ds ++ (.int .i64 (n : Int) :: [.int .i64 xn.Pg.Pool, .int .i64 xn.Pg.No, .int .i64 xn.Seen, .int .i64 xn.Started, .int .i64 xn.Tail.Epoch, .int .i64 xn.Tail.Seq, .slice B0 xn.Base.length d0, .slice B1 xn.Clients.length d1, .slice B2 xn.Log.length d2, .int .i64 xn.Firm.Epoch, .int .i64 xn.Firm.Seq, .slice B3 xn.Chunks.length d3]), cap3, off N3 ad.block, N3), by show n + 1 ≤ 6; omega, by show (l ++ [_]).length ≤ n + 1; simp; omega, by show (l ++ [_]).length ≤ cap3; simpa using hcap3, RowR.app (hrow.mono fun x cs => RNotice.mono hG3.le x cs) (RowR.one hrn rfl rfl), RPgState.mono hG3.le _ _ hyP, ⟨Le.refl _, (hG3.more (by show b + 500 + 12 * (n : Int) + 10 ≤ b + 500 + 12 * ((n + 1 : Nat) : Int); omega)).src⟩, hMP.trans hG3.le⟩, 21, ⟨⟨rfl, rfl, rfl, rfl, congrArg (fun t => some (PV.s 21 t cap3 13)) (by simp), look_int (i64_succ (by omega)), trivial⟩, ⟨rfl, rfl, rfl, trivial⟩, rfl, rfl⟩, rfl, by show 6 - (n + 1) < 6 - n; omega⟩
  · repeat' ((conv => whnf); first | refine JoinK.go ?_ | refine CondK.no' (decide_eq_false hlt) ?_ | fail)
    refine RetK.fr fun g' M' hl hg => ?_
    obtain ⟨h1, h2⟩ := hg 9 _ rfl
    replace h1 : ∀ z u, N z = some u → z.block ≠ g' 9 := h1
    obtain ⟨u0, hu0⟩ := hGl.src.blk
    have hup := hGl.up hl
    refine ⟨l, ⟨g' 9, 0, none⟩, cap, ds, rfl, by omega, hcap, fun he => h1 _ _ hu0 (by rw [add_blk]; exact he.symm), fun o u hu => by rw [addr0]; exact h2 o u hu, ⟨P, hrow, hup.le, fun z u hu => h1 z u (off_le _ _ _ _ (hGl.le z u hu))⟩, (hup.more (by omega)).src, fun z u hu => h1 z u (hGl.src.sx z u hu).1, fun z u hu => h1 z u (off_le _ _ _ _ (hGl.le z u (hMP z u hu)))⟩
end Go.Proofs.YtgeofmoojifkmaaGreat.Hlp
namespace Go.Proofs.YtgeofmoojifkmaaGreat.Hlp
open Go Go.RowKit Go.Proofs Go.Proofs.YtgeofmoojifkmaaGreat.Lw
set_option linter.unusedVariables false
set_option linter.unusedSimpArgs false
set_option maxRecDepth 100000
set_option maxHeartbeats 4000000
theorem bent_same {P N1 : Mem} {a : Addr} {l : List GNotice} {ds : List Value} {c sb : Nat} (hr : RowR P RNotice 13 l ds) (hc : l.length ≤ c) (hl6 : l.length ≤ 6) (hd : ∀ (o : Nat) u, ds[o]? = some u → N1 (a.add o) = some u) (hP : Le P (off N1 sb)) (ha : a.block ≠ sb) : SlR (off N1 sb) RNotice 13 168 (some a) c l := by
  obtain ⟨css, rfl, hcl, hcz, hce⟩ := hr.ex
  refine ⟨hc, by omega, fun j y hy => ?_⟩
  obtain ⟨cs, g1, g2⟩ := hce _ _ hy
  refine ⟨a, cs, rfl, RNotice.mono hP _ _ g2, (hcz cs (List.mem_of_getElem? g1)).1, fun q u hu => off_of ?_ (by rw [add_blk, add_blk]; exact ha)⟩
  rw [add_add]
  exact hd _ _ (flat_get (fun c hc => (hcz c hc).1) g1 hu)
theorem bent_sl {P N N1 : Mem} {a w : Addr} {l : List GNotice} {ds : List Value} {c k i sb : Nat} {x x' : GNotice} {vs : List Value} (hr : RowR P RNotice 13 l ds) (hc : l.length ≤ c) (hl6 : l.length ≤ 6) (hd : ∀ (o : Nat) u, ds[o]? = some u → N (a.add o) = some u) (hk : l[k]? = some x) (hP : Le P (off N1 sb)) (ha : a.block ≠ sb)
    (hx : ∀ cs, RNotice P x cs → ∃ cs', RNotice P x' cs' ∧ cs'.length = 13 ∧ ∀ (j : Nat) u, cs'[j]? = some u → (∃ o, j = i + o ∧ vs[o]? = some u) ∨ ((j < i ∨ i + vs.length ≤ j) ∧ cs[j]? = some u))
    (hw : w = (a.add (k * 13)).add i) (hi : i + vs.length ≤ 13) (k1 : ∀ (o : Nat) u, vs[o]? = some u → N1 (w.add o) = some u) (k2 : ∀ z, (∀ o, o < vs.length → z ≠ w.add o) → N1 z = N z) : SlR (off N1 sb) RNotice 13 168 (some a) c (l.set k x') := by
  subst hw
  obtain ⟨css, rfl, hcl, hcz, hce⟩ := hr.ex
  refine ⟨by rw [List.length_set]; exact hc, by rw [List.length_set]; omega, fun j y hy => ?_⟩
  by_cases hjk : j = k
  · subst hjk
    have hjl : j < l.length := (List.getElem?_eq_some_iff.1 hk).1
    rw [List.getElem?_set_self hjl] at hy
    cases hy
    obtain ⟨cs, g1, g2⟩ := hce _ _ hk
    obtain ⟨cs', h1, h2, h3⟩ := hx cs g2
    refine ⟨a, cs', rfl, RNotice.mono hP _ _ h1, h2, fun q u hu => off_of ?_ (by rw [add_blk, add_blk]; exact ha)⟩
    rcases h3 q u hu with ⟨o, rfl, ho⟩ | ⟨hq, hq2⟩
    · have := k1 o u ho
      rw [add_add (a.add (j * 13)) i o] at this
      exact this
    · rw [k2 _ fun o ho he => ?_]
      · rw [add_add]
        exact hd _ _ (flat_get (fun c hc => (hcz c hc).1) g1 hq2)
      · rw [add_add (a.add (j * 13)) i o, add_add, add_add] at he
        have := add_inj he
        omega
  · rw [List.getElem?_set_ne (Ne.symm hjk)] at hy
    obtain ⟨cs, g1, g2⟩ := hce _ _ hy
    have hcs := (hcz cs (List.mem_of_getElem? g1)).1
    refine ⟨a, cs, rfl, RNotice.mono hP _ _ g2, hcs, fun q u hu => off_of ?_ (by rw [add_blk, add_blk]; exact ha)⟩
    have hq : q < 13 := by rw [← hcs]; exact (List.getElem?_eq_some_iff.1 hu).1
    rw [k2 _ fun o ho he => ?_]
    · rw [add_add]
      exact hd _ _ (flat_get (fun c hc => (hcz c hc).1) g1 hu)
    · rw [add_add (a.add (k * 13)) i o, add_add, add_add] at he
      have := add_inj he
      omega
theorem bent0 {P : Mem} {x : GNotice} (v : Int) : ∀ cs, RNotice P x cs → ∃ cs', RNotice P { x with From := v } cs' ∧ cs'.length = 13 ∧ ∀ (j : Nat) u, cs'[j]? = some u → (∃ o, j = 0 + o ∧ [Value.int .i64 v][o]? = some u) ∨ ((j < 0 ∨ 0 + [Value.int .i64 v].length ≤ j) ∧ cs[j]? = some u) := by
  rintro cs ⟨A0, c0, A1, c1, A2, c2, A3, c3, rfl, t, s0, s1, s2, s3⟩
  refine ⟨_, ⟨A0, c0, A1, c1, A2, c2, A3, c3, rfl, t, s0, s1, s2, s3⟩, rfl, fun j u hu => ?_⟩
  rcases j with _ | j
  · exact .inl ⟨0, rfl, hu⟩
  · exact .inr ⟨.inr (by simp), hu⟩
theorem bent1 {P : Mem} {x : GNotice} (v : Int) : ∀ cs, RNotice P x cs → ∃ cs', RNotice P { x with State := { x.State with Pg := ⟨x.State.Pg.Pool, v⟩ } } cs' ∧ cs'.length = 13 ∧ ∀ (j : Nat) u, cs'[j]? = some u → (∃ o, j = 2 + o ∧ [Value.int .i64 v][o]? = some u) ∨ ((j < 2 ∨ 2 + [Value.int .i64 v].length ≤ j) ∧ cs[j]? = some u) := by
  rintro cs ⟨A0, c0, A1, c1, A2, c2, A3, c3, rfl, t, s0, s1, s2, s3⟩
  refine ⟨_, ⟨A0, c0, A1, c1, A2, c2, A3, c3, rfl, t, s0, s1, s2, s3⟩, rfl, fun j u hu => ?_⟩
  rcases j with _ | _ | _ | j
  · exact .inr ⟨.inl (by omega), hu⟩
  · exact .inr ⟨.inl (by omega), hu⟩
  · exact .inl ⟨0, rfl, hu⟩
  · exact .inr ⟨.inr (by simp), hu⟩
theorem bent2 {P : Mem} {x : GNotice} (v : Int) : ∀ cs, RNotice P x cs → ∃ cs', RNotice P { x with State := { x.State with Started := v } } cs' ∧ cs'.length = 13 ∧ ∀ (j : Nat) u, cs'[j]? = some u → (∃ o, j = 4 + o ∧ [Value.int .i64 v][o]? = some u) ∨ ((j < 4 ∨ 4 + [Value.int .i64 v].length ≤ j) ∧ cs[j]? = some u) := by
  rintro cs ⟨A0, c0, A1, c1, A2, c2, A3, c3, rfl, t, s0, s1, s2, s3⟩
  refine ⟨_, ⟨A0, c0, A1, c1, A2, c2, A3, c3, rfl, t, s0, s1, s2, s3⟩, rfl, fun j u hu => ?_⟩
  rcases j with _ | _ | _ | _ | _ | j
  · exact .inr ⟨.inl (by omega), hu⟩
  · exact .inr ⟨.inl (by omega), hu⟩
  · exact .inr ⟨.inl (by omega), hu⟩
  · exact .inr ⟨.inl (by omega), hu⟩
  · exact .inl ⟨0, rfl, hu⟩
  · exact .inr ⟨.inr (by simp), hu⟩
theorem bent3 {P : Mem} {x : GNotice} (v : GVer) : ∀ cs, RNotice P x cs → ∃ cs', RNotice P { x with State := { x.State with Firm := v } } cs' ∧ cs'.length = 13 ∧ ∀ (j : Nat) u, cs'[j]? = some u → (∃ o, j = 10 + o ∧ [Value.int .i64 v.Epoch, Value.int .i64 v.Seq][o]? = some u) ∨ ((j < 10 ∨ 10 + [Value.int .i64 v.Epoch, Value.int .i64 v.Seq].length ≤ j) ∧ cs[j]? = some u) := by
  rintro cs ⟨A0, c0, A1, c1, A2, c2, A3, c3, rfl, t, s0, s1, s2, s3⟩
  refine ⟨_, ⟨A0, c0, A1, c1, A2, c2, A3, c3, rfl, t, s0, s1, s2, s3⟩, rfl, fun j u hu => ?_⟩
  rcases j with _ | _ | _ | _ | _ | _ | _ | _ | _ | _ | _ | _ | j
  iterate 10 exact .inr ⟨.inl (by omega), hu⟩
  · exact .inl ⟨0, rfl, hu⟩
  · exact .inl ⟨1, rfl, hu⟩
  · exact .inr ⟨.inr (by simp), hu⟩
theorem w1 {N1 : Mem} {w : Addr} {v : Value} (h : N1 w = some v) : ∀ (o : Nat) u, [v][o]? = some u → N1 (w.add o) = some u := fun o u hu => by
  cases o with
  | zero => rw [add0]; rw [h]; exact hu
  | succ o => simp at hu
theorem w2 {N N1 : Mem} {w : Addr} {v : Value} (h : ∀ z, z ≠ w → N1 z = N z) : ∀ z, (∀ o, o < [v].length → z ≠ w.add o) → N1 z = N z := fun z hz => h z (by have := hz 0 (by simp); rwa [add0] at this)
def RBent (X : Mem) (ad : Addr) (b' : Int) (v : Value) (M' : Mem) : Prop := ∃ (l : List GNotice) (A : Option Addr) (c : Nat), v = .slice A l.length c ∧ l.length ≤ 6 ∧ SlR (off M' ad.block) RNotice 13 168 A c l ∧ Src X M' ad b'
theorem callNts {P : Program} {X base M : Mem} {ad : Addr} {b' : Int} {f : FuncId} {args : Array Value} {K : Value → Mem → Prop} (h : AnsB P (off M ad.block) M f args (RNts X M ad b')) (hb : ∀ a, a.block = ad.block → base a = none) (k : ∀ (l : List GNotice) (a : Addr) (c : Nat) (ds : List Value) Q M', l.length ≤ 6 → l.length ≤ c → a.block ≠ ad.block → (∀ (o : Nat) u, ds[o]? = some u → M' (a.add o) = some u) → RowR Q RNotice 13 l ds → Le Q (off M' ad.block) → (∀ z u, Q z = some u → z.block ≠ a.block) → Src X M' ad b' → (∀ z u, X z = some u → z.block ≠ a.block) → (∀ z u, off M ad.block z = some u → z.block ≠ a.block) → Le (off M ad.block) M' → K (.slice (some a) l.length c) M') : CallK P true base M f args K :=
  CallK.mb (off M ad.block) _ rfl h (off_le _ _) (fun a u h1 h2 => hb a (off_blk h1 h2)) (off_dj _ _) (fun v Mx M2 hR hl hlb _ => by
    obtain ⟨l, a, c, ds, rfl, h1, h2, h3, h4, ⟨Q, q1, q2, q3⟩, h5, h6, h7⟩ := hR
    exact k l a c ds Q M2 h1 h2 h3 (fun o u hu => hl _ _ (h4 o u hu)) q1 (fun z u hu => off_of (hl _ _ (off_le _ _ _ _ (q2 z u hu))) (off_ne (q2 z u hu))) q3 (h5.mono hl (Int.le_refl _)) h6 h7 hlb)
theorem l22Bent_b {X M : Mem} {ad : Addr} {b : Int} (h : Src X M ad b) (hb : b ≤ 4611686018427360000) (ivs : List GInterval) (A : Option Addr) (c : Nat) (hi : SlR (off M ad.block) RInterval 4 48 A c ivs) (hil : ivs.length ≤ 5) : AnsB Tryz.prog (off M ad.block) M 17 #[.pointer (some ad), .slice A ivs.length c] (RBent X ad (b + 1100)) := by
  refine ansB_of T (l := [.pointer (some ad), .slice A ivs.length c]) (Mb := off M ad.block) mixed Tryz.func17 rfl (by kernel_rfl) (Nat.le_of_ble_eq_true rfl) (off_le _ _) (off_dj _ _) ?_
  have hno : ∀ a : Addr, a.block = ad.block → off M ad.block a = none := fun a h => off_none h
  (conv => whnf)
  refine callNts (l22Draw_b h (by omega) ivs A c hi hil ⟨1, 0⟩) hno (fun l a c1 ds Q N hl6 hc1 hne hd hrow hQ hQa hS hXa hMa hlb => ?_)
  by_cases h0 : (l.length : Int) = 0
  · repeat' ((conv => whnf); first | refine CondK.yes' (show ((l.length : Int) == 0) = true by rw [h0]; rfl) ?_ | fail)
    exact RetK.mk fun g M' hl hg => ⟨l, some a, c1, rfl, hl6, bent_same hrow hc1 hl6 (fun o u hu => hl _ _ (hd o u hu)) (fun z u hu => off_of (hl _ _ (off_le _ _ _ _ (hQ z u hu))) (off_ne (hQ z u hu))) hne, hS.mono hl (by omega)⟩
  · have hG : GS X Q N ad (b + 1000) := ⟨hQ, hS⟩
    repeat' ((conv => whnf); first | refine CondK.no' (show ((l.length : Int) == 0) = false from beq_eq_false_iff_ne.2 h0) ?_ | refine gcall (pick_b (n := (l.length : Int)) hG.src (by omega)) hno (fun k N1 hq1 hS1 hlb1 => ?_) | fail)
    have hk := pick_in hq1 (by omega)
    have hG1 := hG.step hS1 hlb1
    (conv => whnf)
    refine gcall (pick_b hG1.src (by omega)) hno (fun t N2 hq2 hS2 hlb2 => ?_)
    have hG2 := hG1.step hS2 hlb2
    have up : ∀ {N' N'' : Mem}, Le (off N' ad.block) N'' → (∀ (o : Nat) u, ds[o]? = some u → N' (a.add o) = some u) → ∀ (o : Nat) u, ds[o]? = some u → N'' (a.add o) = some u := fun hl hd o u hu => hl _ _ (off_of (hd o u hu) (by rw [add_blk]; exact hne))
    have hd2 := up hlb2 (up hlb1 hd)
    obtain ⟨x, hx⟩ : ∃ x, l[k.toNat]? = some x := ⟨_, List.getElem?_eq_getElem (show k.toNat < l.length by omega)⟩
    have hdl := hrow.len
    have has : ∀ {N' : Mem}, (∀ (o : Nat) u, ds[o]? = some u → N' (a.add o) = some u) → ∀ i, i < 13 → (N' ((a.add (k.toNat * 13)).add i)).isSome = true := fun hd' i hi' => by
      rw [add_add]
      have hlt : k.toNat * 13 + i < ds.length := by rw [hdl]; omega
      rw [hd' _ _ (List.getElem?_eq_getElem hlt)]
      rfl
    have hfr : ∀ i, off M ad.block ((a.add (k.toNat * 13)).add i) = none := fun i => freshA _ hMa _ i
    -- after a write
    have fin : ∀ {N' N1' M' : Mem} {w : Addr} {i : Nat} {x' : GNotice} {vs : List Value}, GS X Q N' ad (b + 1100) → (∀ (o : Nat) u, ds[o]? = some u → N' (a.add o) = some u) → (∀ cs, RNotice Q x cs → ∃ cs', RNotice Q x' cs' ∧ cs'.length = 13 ∧ ∀ (j : Nat) u, cs'[j]? = some u → (∃ o, j = i + o ∧ vs[o]? = some u) ∨ ((j < i ∨ i + vs.length ≤ j) ∧ cs[j]? = some u)) → w = (a.add (k.toNat * 13)).add i → i + vs.length ≤ 13 → (∀ (o : Nat) u, vs[o]? = some u → N1' (w.add o) = some u) → (∀ z, (∀ o, o < vs.length → z ≠ w.add o) → N1' z = N' z) → Le N1' M' → RBent X ad (b + 1100) (.slice (some a) l.length c1) M' := by
      intro N' N1' M' w i x' vs hG' hd' hx' hw hiv k1 k2 hl
      have hk2 : ∀ z u, z.block ≠ a.block → N' z = some u → N1' z = some u := fun z u hz hu => by
        rw [k2 z fun o _ he => hz (by rw [he, hw]; simp only [add_blk])]
        exact hu
      have hQ1 : Le Q (off N1' ad.block) := fun z u hu => off_of (hk2 z u (hQa z u hu) (off_le _ _ _ _ (hG'.le z u hu))) (off_ne (hG'.le z u hu))
      have hs := bent_sl (sb := ad.block) hrow hc1 hl6 hd' hx hQ1 hne hx' hw hiv k1 k2
      have hS' : Src X N1' ad (b + 1100) := hG'.src.keep (fun z u hu => hk2 z u (hXa z u hu) (hG'.src.sx z u hu).1) (fun z u hz hu => hk2 z u (by rw [hz]; exact Ne.symm hne) hu)
      refine ⟨l.set k.toNat x', some a, c1, by rw [List.length_set], by rw [List.length_set]; exact hl6, ?_, hS'.mono hl (Int.le_refl _)⟩
      have hle : Le (off N1' ad.block) (off M' ad.block) := fun z u hu => off_of (hl _ _ (off_le _ _ _ _ hu)) (off_ne hu)
      exact hs.mono hle (RNotice.mono hle)
    have same : ∀ {N' M' : Mem}, GS X Q N' ad (b + 1100) → (∀ (o : Nat) u, ds[o]? = some u → N' (a.add o) = some u) → Le N' M' → RBent X ad (b + 1100) (.slice (some a) l.length c1) M' := by
      intro N' M' hG' hd' hl
      exact ⟨l, some a, c1, rfl, hl6, bent_same hrow hc1 hl6 (fun o u hu => hl _ _ (hd' o u hu)) ((hG'.up hl).le) hne, (hG'.up hl).src⟩
    by_cases t0 : t = 0
    · repeat' ((conv => whnf); first | refine CondK.yes' (show (t == 0) = true by rw [t0]; rfl) ?_ | fail)
      refine gpubI hG2.src rfl (by decide) (fun ad2 N3 hl3 hS3 hr3 => ?_)
      have hG3 := hG2.up hl3
      (conv => whnf)
      refine gcall (among_b hG3.src (by omega) hr3 rfl (by decide)) hno (fun v N4 hq4 hS4 hlb4 => ?_)
      have hG4 := hG3.step hS4 hlb4
      have hd4 := up hlb4 (fun o u hu => hl3 _ _ (hd2 o u hu))
      repeat' ((conv => whnf); first | refine IdxK.mk a rfl (by omega) (by omega) ?_ | fail)
      refine WrK.mk rfl (has hd4 0 (by omega)) (hfr 0) (fun N5 k1 k2 => ?_)
      (conv => whnf)
      exact RetK.mk fun g M' hl _ => fin (hG4.more (by omega)) hd4 (bent0 v) rfl (by show 0 + 1 ≤ 13; decide) (w1 k1) (w2 k2) hl
    · by_cases t1 : t = 1
      · repeat' ((conv => whnf); first | refine CondK.no' (show (t == 0) = false from beq_eq_false_iff_ne.2 t0) ?_ | refine CondK.yes' (show (t == 1) = true by rw [t1]; rfl) ?_ | refine IdxK.mk a rfl (by omega) (by omega) ?_ | fail)
        have hw : (((a.add (k.toNat * 13)).add 1).add 0).add 1 = (a.add (k.toNat * 13)).add 2 := by simp only [add_add, Nat.add_assoc]
        refine WrK.mk rfl (by show (N2 ((((a.add (k.toNat * 13)).add 1).add 0).add 1)).isSome = true; rw [hw]; exact has hd2 2 (by omega)) (by show off M ad.block ((((a.add (k.toNat * 13)).add 1).add 0).add 1) = none; rw [hw]; exact hfr 2) (fun N5 k1 k2 => ?_)
        (conv => whnf)
        exact RetK.mk fun g M' hl _ => fin (hG2.more (by omega)) hd2 (bent1 1) hw (by show 2 + 1 ≤ 13; decide) (w1 k1) (w2 k2) hl
      · by_cases t2 : t = 2
        · repeat' ((conv => whnf); first | refine CondK.no' (show (t == 0) = false from beq_eq_false_iff_ne.2 t0) ?_ | refine CondK.no' (show (t == 1) = false from beq_eq_false_iff_ne.2 t1) ?_ | refine CondK.yes' (show (t == 2) = true by rw [t2]; rfl) ?_ | fail)
          refine gpubI hG2.src rfl (by decide) (fun ad2 N3 hl3 hS3 hr3 => ?_)
          have hG3 := hG2.up hl3
          (conv => whnf)
          refine gcall (among_b hG3.src (by omega) hr3 rfl (by decide)) hno (fun v N4 hq4 hS4 hlb4 => ?_)
          have hG4 := hG3.step hS4 hlb4
          have hd4 := up hlb4 (fun o u hu => hl3 _ _ (hd2 o u hu))
          repeat' ((conv => whnf); first | refine IdxK.mk a rfl (by omega) (by omega) ?_ | fail)
          have hw : ((a.add (k.toNat * 13)).add 1).add 3 = (a.add (k.toNat * 13)).add 4 := by simp only [add_add, Nat.add_assoc]
          refine WrK.mk rfl (by show (N4 (((a.add (k.toNat * 13)).add 1).add 3)).isSome = true; rw [hw]; exact has hd4 4 (by omega)) (by show off M ad.block (((a.add (k.toNat * 13)).add 1).add 3) = none; rw [hw]; exact hfr 4) (fun N5 k1 k2 => ?_)
          (conv => whnf)
          exact RetK.mk fun g M' hl _ => fin (hG4.more (by omega)) hd4 (bent2 v) hw (by show 4 + 1 ≤ 13; decide) (w1 k1) (w2 k2) hl
        · by_cases t3 : t = 3
          · repeat' ((conv => whnf); first | refine CondK.no' (show (t == 0) = false from beq_eq_false_iff_ne.2 t0) ?_ | refine CondK.no' (show (t == 1) = false from beq_eq_false_iff_ne.2 t1) ?_ | refine CondK.no' (show (t == 2) = false from beq_eq_false_iff_ne.2 t2) ?_ | refine CondK.yes' (show (t == 3) = true by rw [t3]; rfl) ?_ | refine IdxK.mk a rfl (by omega) (by omega) ?_ | fail)
            have hw : ((a.add (k.toNat * 13)).add 1).add 9 = (a.add (k.toNat * 13)).add 10 := by simp only [add_add, Nat.add_assoc]
            have hw2 : ∀ o, (((a.add (k.toNat * 13)).add 1).add 9).add o = (a.add (k.toNat * 13)).add (10 + o) := fun o => by rw [hw, add_add]
            refine WrL.mk rfl (fun o ho => by replace ho : o < 2 := ho; show (N2 ((((a.add (k.toNat * 13)).add 1).add 9).add o)).isSome = true; rw [hw2]; exact has hd2 _ (by omega)) (fun o ho => by show off M ad.block ((((a.add (k.toNat * 13)).add 1).add 9).add o) = none; rw [hw2]; exact hfr _) rfl (fun N5 k1 k2 => ?_)
            (conv => whnf)
            exact RetK.mk fun g M' hl _ => fin (hG2.more (by omega)) hd2 (bent3 ⟨50, 1⟩) hw (by show 10 + 2 ≤ 13; decide) k1 k2 hl
          · repeat' ((conv => whnf); first | refine CondK.no' (show (t == 0) = false from beq_eq_false_iff_ne.2 t0) ?_ | refine CondK.no' (show (t == 1) = false from beq_eq_false_iff_ne.2 t1) ?_ | refine CondK.no' (show (t == 2) = false from beq_eq_false_iff_ne.2 t2) ?_ | refine CondK.no' (show (t == 3) = false from beq_eq_false_iff_ne.2 t3) ?_ | fail)
            exact RetK.mk fun g M' hl _ => same (hG2.more (by omega)) hd2 hl
end Go.Proofs.YtgeofmoojifkmaaGreat.Hlp
namespace Go.Proofs.YtgeofmoojifkmaaGreat.Hlp
open Go Go.RowKit Go.Proofs Go.Proofs.YtgeofmoojifkmaaGreat.Lw
set_option linter.unusedVariables false
set_option linter.unusedSimpArgs false
set_option maxRecDepth 100000
set_option maxHeartbeats 4000000
theorem look_sl (A : Option Addr) (c n : Nat) : some (PV.v (.slice (if c = 0 then A else A.map (·.add (0 * 13))) (n - 0) (c - 0))) = some (PV.v (.slice A n c)) := by
  split
  · rfl
  · cases A <;> simp [add0]
theorem callIvs {P : Program} {X base M : Mem} {ad : Addr} {b' : Int} {f : FuncId} {args : Array Value} {K : Value → Mem → Prop} (h : AnsB P (off M ad.block) M f args (RIvs X ad b')) (hb : ∀ a, a.block = ad.block → base a = none) (k : ∀ (l : List GInterval) A c M', l.length ≤ 5 → SlR (off M' ad.block) RInterval 4 48 A c l → Src X M' ad b' → Le (off M ad.block) M' → K (.slice A l.length c) M') : CallK P true base M f args K :=
  CallK.mb (off M ad.block) _ rfl h (off_le _ _) (fun a u h1 h2 => hb a (off_blk h1 h2)) (off_dj _ _) (fun v Mx M2 hR hl hlb _ => by
    obtain ⟨l, A, c, rfl, h1, h2, h3⟩ := hR
    have hle : Le (off Mx ad.block) (off M2 ad.block) := fun a u hu => off_of (hl _ _ (off_le _ _ _ _ hu)) (off_ne hu)
    exact k l A c M2 h1 (h2.mono hle (RInterval.mono hle)) (h3.mono hl (Int.le_refl _)) hlb)
theorem callBent {P : Program} {X base M : Mem} {ad : Addr} {b' : Int} {f : FuncId} {args : Array Value} {K : Value → Mem → Prop} (h : AnsB P (off M ad.block) M f args (RBent X ad b')) (hb : ∀ a, a.block = ad.block → base a = none) (k : ∀ (l : List GNotice) A c M', l.length ≤ 6 → SlR (off M' ad.block) RNotice 13 168 A c l → Src X M' ad b' → Le (off M ad.block) M' → K (.slice A l.length c) M') : CallK P true base M f args K :=
  CallK.mb (off M ad.block) _ rfl h (off_le _ _) (fun a u h1 h2 => hb a (off_blk h1 h2)) (off_dj _ _) (fun v Mx M2 hR hl hlb _ => by
    obtain ⟨l, A, c, rfl, h1, h2, h3⟩ := hR
    have hle : Le (off Mx ad.block) (off M2 ad.block) := fun a u hu => off_of (hl _ _ (off_le _ _ _ _ hu)) (off_ne hu)
    exact k l A c M2 h1 (h2.mono hle (RNotice.mono hle)) (h3.mono hl (Int.le_refl _)) hlb)
def RDraw (M' : Mem) (v : Value) : Prop := ∃ (ivs : List GInterval) (A : Option Addr) (c : Nat) (cd : GCode) (l : List GNotice) (B : Option Addr) (dc : Nat), v = .tuple #[.slice A ivs.length c, .agg #[.int .i64 cd.K, .int .i64 cd.M], .slice B l.length dc] ∧ SlR M' RInterval 4 48 A c ivs ∧ SlR M' RNotice 13 168 B dc l
theorem drawStillLacks_r {M : Mem} {A : Option Addr} {c : Nat} {l : List Int} (h : SlR M RByte 1 1 A c l) : AnsR Tryz.prog M 5 #[.slice A l.length c] (fun M' v => RDraw M' v) := by
  refine ansR_of (T.at M) (l := [.slice A l.length c]) mixed Tryz.func5 rfl (by kernel_rfl) (Nat.le_of_ble_eq_true rfl) ?_ (fun _ a u h1 h2 => by rw [show M a = none from h1] at h2; cases h2)
  (conv => whnf)
  refine CallK.mr _ (l00From_r h) (fun v M0 hl0 hv => ?_)
  obtain ⟨ad, rfl, hS0, hfr⟩ := hv
  have hno : ∀ a : Addr, a.block = ad.block → M a = none := fun a ha => by
    cases hm : M a with
    | none => rfl
    | some u => exact absurd ha (hfr a u hm)
  (conv => whnf)
  refine gcall (pick_b hS0 (by omega)) hno (fun p M1 hp hS1 hlb1 => ?_)
  have hp3 := hp.2 (by decide)
  have hw : IntKind.i64.wrap (2 + p) = 2 + p := i64_id (by omega) (by omega)
  (conv => whnf)
  refine callIvs (l13Draw_b hS1 (by omega) (IntKind.i64.wrap (2 + p)) (by rw [hw]; omega)) hno (fun ivs Ai ci M2 hil hi hS2 hlb2 => ?_)
  (conv => whnf)
  refine gcall (l22Code_b hS2 (by omega)) hno (fun cd M3 _ hS3 hlb3 => ?_)
  have hi3 : SlR (off M3 ad.block) RInterval 4 48 Ai ci ivs := by
    have hle : Le (off M2 ad.block) (off M3 ad.block) := fun a u hu => off_of (hlb3 _ _ hu) (off_ne hu)
    exact hi.mono hle (RInterval.mono hle)
  (conv => whnf)
  refine callBent (l22Bent_b hS3 (by omega) ivs Ai ci hi3 hil) hno (fun ln An cn M4 hll hn hS4 hlb4 => ?_)
  have hi4 : SlR (off M4 ad.block) RInterval 4 48 Ai ci ivs := by
    have hle : Le (off M3 ad.block) (off M4 ad.block) := fun a u hu => off_of (hlb4 _ _ hu) (off_ne hu)
    exact hi3.mono hle (RInterval.mono hle)
  by_cases h2 : (ln.length : Int) > 2
  · repeat' ((conv => whnf); first | refine CondK.yes' (decide_eq_true h2) ?_ | fail)
    have hcap := hn.cap
    refine DrawN.b [0] {q : Nat × Mem // q.1 ≤ ln.length ∧ Le (off M4 ad.block) q.2} (fun ⟨⟨n, _⟩, _⟩ => [(2, .v (.slice Ai ivs.length ci)), (3, .p 0 0), (4, .v (.slice An n cn))]) (fun _ => [(0, [.int .i64 cd.K, .int .i64 cd.M])]) 9 (fun ⟨⟨_, N⟩, _⟩ => N) rfl (by kernel_rfl) ?_ ?_
    · repeat' ((conv => whnf); first | refine AndK.mk ?_ ?_ | refine HeldK.mk (by kernel_rfl) ?_ | refine gcallB (pick_b hS4 (by omega)) hno (fun x N5 hq5 hS5 hlb5 => ?_) | refine SlK.mk 0 x.toNat rfl (by have := hq5.2 (by decide); omega) (by omega) (by have := hq5.2 (by decide); omega) ?_ | fail)
      all_goals exact ⟨⟨(x.toNat, N5), by have := hq5.2 (by decide); show x.toNat ≤ ln.length; omega, hlb5⟩, ⟨⟨rfl, rfl, look_sl An cn x.toNat, trivial⟩, ⟨rfl, trivial⟩, rfl, rfl⟩, rfl⟩
    rintro ⟨⟨n, N5⟩, hn5, hl5⟩
    replace hn5 : n ≤ ln.length := hn5
    replace hl5 : Le (off M4 ad.block) N5 := hl5
    (conv => whnf)
    refine RetK.mk fun g M' hl _ => ⟨ivs, Ai, ci, cd, ln.take n, An, cn, ?_, hi4.mono (hl5.trans hl) (RInterval.mono (hl5.trans hl)), (SlR.takeU hn n).mono (hl5.trans hl) (RNotice.mono (hl5.trans hl))⟩
    rw [List.length_take, Nat.min_eq_left hn5]
    rfl
  · repeat' ((conv => whnf); first | refine CondK.no' (decide_eq_false h2) ?_ | fail)
    refine DrawN.b [0] {q : Mem // Le (off M4 ad.block) q} (fun _ => [(2, .v (.slice Ai ivs.length ci)), (3, .p 0 0), (4, .v (.slice An ln.length cn))]) (fun _ => [(0, [.int .i64 cd.K, .int .i64 cd.M])]) 9 (fun ⟨N, _⟩ => N) rfl (by kernel_rfl) ?_ ?_
    · repeat' ((conv => whnf); first | refine AndK.mk ?_ ?_ | refine HeldK.mk (by kernel_rfl) ?_ | fail)
      all_goals exact ⟨⟨M4, off_le _ _⟩, ⟨⟨rfl, rfl, rfl, trivial⟩, ⟨rfl, trivial⟩, rfl, rfl⟩, rfl⟩
    rintro ⟨N5, hl5⟩
    (conv => whnf)
    exact RetK.mk fun g M' hl _ => ⟨ivs, Ai, ci, cd, ln, An, cn, rfl, hi4.mono (hl5.trans hl) (RInterval.mono (hl5.trans hl)), hn.mono (hl5.trans hl) (RNotice.mono (hl5.trans hl))⟩
end Go.Proofs.YtgeofmoojifkmaaGreat.Hlp
namespace Go.Proofs.YtgeofmoojifkmaaGreat.Hlp
open Go Go.RowKit Go.Proofs Go.Proofs.YtgeofmoojifkmaaGreat.Lw
set_option linter.unusedVariables false
set_option linter.unusedSimpArgs false
set_option maxRecDepth 100000
set_option maxHeartbeats 4000000
theorem c2Has_a (M : Mem) (l : List Int) (A : Option Addr) (c : Nat) (h : SlR M RInt 1 8 A c l) (n : Int) : Ans Tryz.prog M 10 #[.slice A l.length c, .int .i64 n] (.bool (l.any fun x => decide (n = x))) := by
  have hl := h.len
  refine ans_of T (l := [.slice A l.length c, .int .i64 n]) mixed Tryz.func10 rfl (by kernel_rfl) (Nat.le_of_ble_eq_true rfl) ?_
  (conv => whnf)
  refine LoopK.mk {k : Nat // k ≤ l.length ∧ ∀ (j : Nat) (hj : j < l.length), j < k → decide (n = (l[j]'hj)) = false} (fun ⟨k, _⟩ => [(0, .v (.slice A l.length c)), (1, .v (.int .i64 n)), (5, .v (.int .i64 (k : Int)))]) (fun _ => []) (fun _ => M) (fun k => l.length - k.1) ⟨0, Nat.zero_le _, fun j _ hj => absurd hj (by omega)⟩ ⟨⟨⟨rfl, rfl, rfl, trivial⟩, trivial, rfl, rfl⟩, rfl⟩ ?_
  rintro ⟨k, hk, hp⟩
  (conv => whnf)
  refine CondK.mk (fun h1 => ?_) (fun h1 => ?_)
  · have hlt : k < l.length := by simpa using h1
    obtain ⟨ad, rfl, _, x0⟩ := at_Int h (List.getElem?_eq_getElem hlt)
    repeat' ((conv => whnf); first | with_reducible refine CondK.tt ?_ | with_reducible refine CondK.ff ?_ | refine IdxK.mk _ rfl (by omega) (by omega) ?_ | refine LdK.mk _ (by assumption) ?_ | refine DrawN.q (by kernel_rfl) ?_ | refine CondK.mk (fun hc => ?_) (fun hc => ?_) | fail)
    all_goals first
      | (have hd : decide (n = l[k]) = true := decide_eq_true (eq_of_beq hc).symm
         exact ret_bool (Eq.symm (List.any_eq_true.2 ⟨_, List.getElem_mem hlt, hd⟩)))
      | (have hd : decide (n = l[k]) = false := decide_eq_false fun q => by rw [q] at hc; exact absurd (beq_self_eq_true _) (by rw [hc]; decide)
         exact ⟨⟨k + 1, hlt, fun j hj hj' => by rcases Nat.lt_succ_iff_lt_or_eq.mp hj' with hj' | rfl; exact hp j hj hj'; exact hd⟩, ⟨⟨rfl, rfl, look_int (i64_succ (by omega)), trivial⟩, trivial, rfl, rfl⟩, rfl, by simp; omega⟩)
      | fail
  · have he : k = l.length := by have : ¬ k < l.length := by simpa using h1
                                 omega
    subst he
    refine ret_bool (Eq.symm (List.any_eq_false.2 fun x hx => ?_))
    obtain ⟨j, hj, rfl⟩ := List.getElem_of_mem hx
    rw [hp j hj hj]
    decide
theorem c2Ints_a (M : Mem) (l : List Int) (A B : Option Addr) (c d : Nat) (h : SlR M RInt 1 8 A c l) (h' : SlR M RInt 1 8 B d l) : Ans Tryz.prog M 7 #[.slice A l.length c, .slice B l.length d] (.bool true) := by
  have hl := h.len
  refine ans_of T (l := [.slice A l.length c, .slice B l.length d]) mixed Tryz.func7 rfl (by kernel_rfl) (Nat.le_of_ble_eq_true rfl) ?_
  repeat' ((conv => whnf); first | refine CondK.no' (show ((l.length : Int) != (l.length : Int)) = false by simp) ?_ | fail)
  refine LoopK.mk {k : Nat // k ≤ l.length} (fun ⟨k, _⟩ => [(0, .v (.slice A l.length c)), (1, .v (.slice B l.length d)), (5, .v (.int .i64 (k : Int)))]) (fun _ => []) (fun _ => M) (fun k => l.length - k.1) ⟨0, Nat.zero_le _⟩ ⟨⟨⟨rfl, rfl, rfl, trivial⟩, trivial, rfl, rfl⟩, rfl⟩ ?_
  rintro ⟨k, hk⟩
  by_cases hlt : (k : Int) < (l.length : Int)
  · obtain ⟨y, hy⟩ : ∃ y, l[k]? = some y := ⟨_, List.getElem?_eq_getElem (show k < l.length by omega)⟩
    obtain ⟨a, rfl, _, x0⟩ := at_Int h hy
    obtain ⟨b, rfl, _, x1⟩ := at_Int h' hy
    repeat' ((conv => whnf); first | refine CondK.yes' (decide_eq_true hlt) ?_ | refine IdxK.mk _ rfl (by omega) (by omega) ?_ | refine LdK.mk _ x0 ?_ | refine LdK.mk _ x1 ?_ | refine DrawN.q (by kernel_rfl) ?_ | refine CondK.no' (show (y != y) = false by simp) ?_ | fail)
    exact ⟨⟨k + 1, by omega⟩, ⟨⟨rfl, rfl, look_int (i64_succ (by omega)), trivial⟩, trivial, rfl, rfl⟩, rfl, by show l.length - (k + 1) < l.length - k; omega⟩
  · repeat' ((conv => whnf); first | refine CondK.no' (decide_eq_false hlt) ?_ | fail)
    exact rfl
theorem c2Big_a (M : Mem) (n c : Nat) (A : Option Addr) (hn : (n : Int) ≤ 9223372036854775807) : Ans Tryz.prog M 4 #[.slice A n c, .slice none 0 0] (.bool (decide ((n : Int) > 1048576))) := by
  refine ans_of T (l := [.slice A n c, .slice none 0 0]) mixed Tryz.func4 rfl (by kernel_rfl) (Nat.le_of_ble_eq_true rfl) ?_
  by_cases h : (n : Int) > 1048576
  · rw [decide_eq_true h]
    repeat' ((conv => whnf); first | refine CondK.yes' (decide_eq_true h) ?_ | fail)
    exact rfl
  · rw [decide_eq_false h]
    repeat' ((conv => whnf); first | refine CondK.no' (decide_eq_false h) ?_ | fail)
    exact rfl
end Go.Proofs.YtgeofmoojifkmaaGreat.Hlp
namespace Go.Proofs.YtgeofmoojifkmaaGreat.Hlp
open Go Go.RowKit Go.Proofs Go.Proofs.YtgeofmoojifkmaaGreat.Lw
set_option linter.unusedVariables false
set_option linter.unusedSimpArgs false
set_option maxRecDepth 100000
set_option maxHeartbeats 4000000
def askF (ivs : List GInterval) : List Int := if intervalsF ivs = true then outF (ivs.flatMap fun y => memF y.Acting) else []
theorem sl_mem {ivs : List GInterval} {c : GCode} {l : List GNotice} {x : Int} (h : x ∈ slF ivs c l) : x ∈ askF ivs ∧ x ∉ fromsF l ∧ (voF ivs c l).2 = 8 := by
  unfold slF at h
  by_cases h8 : (voF ivs c l).2 = 8
  · rw [if_pos h8] at h
    have hr := ((outF_ok _).2 x).1 h
    unfold rawTo at hr
    rw [List.take_length] at hr
    obtain ⟨y, hy, hxy⟩ := List.mem_flatMap.1 hr
    unfold rawOne at hxy
    split at hxy
    · unfold lackF at hxy
      obtain ⟨h1, h2⟩ := List.mem_filter.1 hxy
      have hiv : intervalsF ivs = true := by
        cases hp : peerF ivs c l with
        | true => exact (peer_in hp).1
        | false =>
          unfold voF at h8
          rw [hp] at h8
          simp at h8
      refine ⟨?_, fun hx => ?_, h8⟩
      · unfold askF
        rw [if_pos hiv]
        exact ((outF_ok _).2 x).2 (List.mem_flatMap.2 ⟨y, hy, h1⟩)
      · have : ((fromsF l).any fun z => decide (x = z)) = true := List.any_eq_true.2 ⟨x, hx, by simp⟩
        rw [this] at h2
        cases h2
    · cases hxy
  · rw [if_neg h8] at h
    cases h
end Go.Proofs.YtgeofmoojifkmaaGreat.Hlp
namespace Go.Proofs.YtgeofmoojifkmaaGreat.Hlp
open Go Go.RowKit Go.Proofs Go.Proofs.YtgeofmoojifkmaaGreat.Lw
set_option linter.unusedVariables false
set_option linter.unusedSimpArgs false
set_option maxRecDepth 100000
set_option maxHeartbeats 4000000
def akTo (ivs : List GInterval) (j : Nat) : List Int := (ivs.take j).flatMap fun y => memF y.Acting
theorem akTo_step {ivs : List GInterval} {j : Nat} {y : GInterval} (h : ivs[j]? = some y) : akTo ivs (j + 1) = akTo ivs j ++ memF y.Acting := by
  unfold akTo
  rw [List.take_add_one, h, List.flatMap_append]
  simp
theorem akTo_len {ivs : List GInterval} (hi : ∀ y ∈ ivs, y.Acting.length ≤ 7) : ∀ j, j ≤ ivs.length → (akTo ivs j).length ≤ 7 * j
  | 0, _ => by simp [akTo]
  | j + 1, hj => by
    have ih := akTo_len hi j (by omega)
    have hy : ivs[j]? = some ivs[j] := List.getElem?_eq_getElem (by omega)
    rw [akTo_step hy, List.length_append]
    have h1 := hi _ (List.mem_of_getElem? hy)
    have h2 := memF_len ivs[j].Acting
    omega
theorem row_cellsI {M : Mem} {l : List Int} {ds : List Value} (h : RowR M RInt 1 l ds) : ds = cellsI l := by
  have hl := h.len
  refine List.ext_getElem? fun o => ?_
  cases hc : (cellsI l)[o]? with
  | some u => exact rowI_at h hc
  | none =>
    rw [List.getElem?_eq_none_iff] at hc ⊢
    rw [cellsI_len] at hc
    omega
theorem askOf_f (M : Mem) (ivs : List GInterval) (A : Option Addr) (c : Nat) (h : SlR M RInterval 4 48 A c ivs) : AnsR Tryz.prog M 9 #[.slice A ivs.length c] (fun M' v => ∃ A' c', v = .slice A' (askF ivs).length c' ∧ SlR (sub M' M) RInt 1 8 A' c' (askF ivs)) := by
  have hok := intervalsOk_a M ivs A c h
  refine ansR_of (T.at M) (l := [.slice A ivs.length c]) mixed Tryz.func9 rfl (by kernel_rfl) (Nat.le_of_ble_eq_true rfl) ?_ (fun _ ad u h1 h2 => by rw [show M ad = none from h1] at h2; cases h2)
  unfold askF
  rcases Bool.eq_false_or_eq_true (intervalsF ivs) with hiv | hiv
  case inr =>
    rw [hiv] at hok
    rw [if_neg (by rw [hiv]; decide)]
    repeat' ((conv => whnf); first | with_reducible refine CondK.tt ?_ | with_reducible refine CondK.ff ?_ | with_reducible refine CondK.not ?_ | refine CallK.mk _ hok ?_ | fail)
    exact RetK.mk fun g M' hl hg => ⟨none, 0, rfl, SlR.nil⟩
  rw [hiv] at hok
  rw [if_pos hiv]
  have hil := intervals_len hiv
  have hac7 : ∀ y ∈ ivs, y.Acting.length ≤ 7 := fun y hy => acting_le (intervals_at hiv hy)
  rw [show (ivs.flatMap fun y => memF y.Acting) = akTo ivs ivs.length by unfold akTo; rw [List.take_length]]
  repeat' ((conv => whnf); first | with_reducible refine CondK.tt ?_ | with_reducible refine CondK.ff ?_ | with_reducible refine CondK.not ?_ | refine CallK.mk _ hok ?_ | fail)
  refine LoopK.sw 2 3 {q : (Nat × Option Nat) × Mem // q.1.1 ≤ ivs.length ∧ RowOX (akTo ivs q.1.1) q.1.2 ∧ Le M q.2} (fun ⟨⟨⟨j, o⟩, _⟩, _⟩ => [(3, rowPX (akTo ivs j).length o), (9, .v (.slice A ivs.length c)), (10, .v (.int .i64 (ivs.length : Int))), (11, .v (.int .i64 (j : Int)))]) (fun ⟨⟨⟨j, o⟩, _⟩, _⟩ => rowBX (akTo ivs j) o []) (fun q => q.1.2) (fun q => ivs.length - q.1.1.1) ⟨((0, none), M), Nat.zero_le _, rfl, Le.refl M⟩ 2 ⟨⟨⟨rfl, rfl, rfl, rfl, trivial⟩, trivial, rfl, rfl⟩, rfl⟩ ?_
  rintro ⟨⟨⟨j, o⟩, N2⟩, hj, hro, hle2⟩
  simp only at hj hro hle2
  have hrl := akTo_len hac7 j hj
  (conv => whnf)
  refine CondK.mk (fun h1 => ?_) (fun h1 => ?_)
  · have hlt : j < ivs.length := by simpa using h1
    obtain ⟨y, hyk⟩ : ∃ y, ivs[j] = y := ⟨_, rfl⟩
    have hy : ivs[j]? = some y := by rw [List.getElem?_eq_getElem hlt, hyk]
    have hym := List.mem_of_getElem? hy
    have hy7 := hac7 y hym
    have hst := akTo_step hy
    have hml := memF_len y.Acting
    obtain ⟨ad, rfl, A0, c0, bny, s0, y0, y1, y2, y3⟩ := at_Interval (h.mono hle2 (RInterval.mono hle2)) hy
    cases o with
    | none =>
      replace hro : akTo ivs j = [] := hro
      repeat' ((conv => whnf); first | refine IdxK.mk _ rfl (by omega) (by omega) ?_ | refine LdK.mk _ (by assumption) ?_ | fail)
      refine CallK.mr _ (members_f N2 y.Acting A0 c0 s0 (by omega)) (fun v N3 hl3 hv => ?_)
      obtain ⟨A4, c4, ds4, rfl, hr4, hn4⟩ := hv
      have hsrc : ∀ (o : Nat) (u : Value), ds4[o]? = some u → ∃ a, A4 = some a ∧ N3 (a.add o) = some u := fun o u hu => by
        rcases hn4 with ⟨_, _, _, hd⟩ | ⟨a, ha, hc, _⟩
        · rw [hd] at hu; simp at hu
        · exact ⟨a, ha, hc.el o u hu⟩
      have hd4 := row_cellsI hr4
      (conv => whnf)
      refine SrcK.mk ds4 (by rw [hr4.len]; try rfl) hsrc ?_
      (conv => whnf)
      by_cases hz : (memF y.Acting).length = 0
      · have hm0 := List.eq_nil_of_length_eq_zero hz
        rw [hro, hm0] at hst
        refine AppK.z hz rfl ?_
        (conv => whnf)
        exact ⟨⟨((j + 1, none), N3), hlt, hst, hle2.trans hl3⟩, 2, ⟨⟨rfl, rfl, rfl, look_int (i64_succ (by omega)), trivial⟩, trivial, rfl, rfl⟩, rfl, by show ivs.length - (j + 1) < ivs.length - j; omega⟩
      · rw [hro, List.nil_append] at hst
        refine AppK.mk (by show (2 * (0 + (memF y.Acting).length) + 512) * 8 ≤ 281474976710656; omega) (by omega) (.inl (by omega)) hr4.all (fun cap3 hcap3 => ?_)
        (conv => whnf)
        exact ⟨⟨((j + 1, some cap3), N3), hlt, by show (akTo ivs (j + 1)).length ≤ cap3; rw [hst]; omega, hle2.trans hl3⟩, 4, ⟨⟨congrArg (fun t => some (PV.s 4 t cap3 1)) (by rw [hst]; omega), rfl, rfl, look_int (i64_succ (by omega)), trivial⟩, ⟨congrArg some (by rw [hst, hd4]; rfl), trivial⟩, rfl, rfl⟩, rfl, by show ivs.length - (j + 1) < ivs.length - j; omega⟩
    | some cap =>
      have hcap : (akTo ivs j).length ≤ cap := hro
      repeat' ((conv => whnf); first | refine IdxK.mk _ rfl (by omega) (by omega) ?_ | refine LdK.mk _ (by assumption) ?_ | fail)
      refine CallK.mr _ (members_f N2 y.Acting A0 c0 s0 (by omega)) (fun v N3 hl3 hv => ?_)
      obtain ⟨A4, c4, ds4, rfl, hr4, hn4⟩ := hv
      have hsrc : ∀ (o : Nat) (u : Value), ds4[o]? = some u → ∃ a, A4 = some a ∧ N3 (a.add o) = some u := fun o u hu => by
        rcases hn4 with ⟨_, _, _, hd⟩ | ⟨a, ha, hc, _⟩
        · rw [hd] at hu; simp at hu
        · exact ⟨a, ha, hc.el o u hu⟩
      have hd4 := row_cellsI hr4
      (conv => whnf)
      refine SrcK.mk ds4 (by rw [hr4.len]; try rfl) hsrc ?_
      (conv => whnf)
      refine AppK.mk (by show (2 * ((akTo ivs j).length + (memF y.Acting).length) + 512) * 8 ≤ 281474976710656; omega) (by omega) (.inr rfl) hr4.all (fun cap3 hcap3 => ?_)
      (conv => whnf)
      exact ⟨⟨((j + 1, some cap3), N3), hlt, by show (akTo ivs (j + 1)).length ≤ cap3; rw [hst, List.length_append]; omega, hle2.trans hl3⟩, 4, ⟨⟨congrArg (fun t => some (PV.s 4 t cap3 1)) (by rw [hst, List.length_append]), rfl, rfl, look_int (i64_succ (by omega)), trivial⟩, ⟨congrArg some (by rw [hst, hd4]; unfold cellsI; rw [List.map_append]), trivial⟩, rfl, rfl⟩, rfl, by show ivs.length - (j + 1) < ivs.length - j; omega⟩
  · have hjl : j = ivs.length := by
      have : ¬ j < ivs.length := by simpa using h1
      omega
    subst hjl
    have hrl2 : (akTo ivs ivs.length).length ≤ 420 := by omega
    cases o with
    | none =>
      have hr0 : akTo ivs ivs.length = [] := hro
      have ho : outF (akTo ivs ivs.length) = [] := by
        rw [hr0]
        refine List.eq_nil_of_length_eq_zero ?_
        have h1 := compact_le (srt [])
        rw [srt_len] at h1
        exact Nat.le_zero.1 h1
      rw [ho]
      (conv => whnf)
      refine CallK.mk _ (sortInts_0 _ none 0) ?_
      (conv => whnf)
      refine CallK.mk _ (compactInts_0 _ none 0) ?_
      (conv => whnf)
      exact RetK.mk fun g M' hl hg => ⟨none, 0, rfl, SlR.nil⟩
    | some cap =>
      have hcap : (akTo ivs ivs.length).length ≤ cap := hro
      (conv => whnf)
      refine PubK.fr fun av N3 hl3 hc3 hroom3 hfresh3 hdom3 => ?_
      (conv => whnf)
      have hrow : RowN M N3 1 (some av) (akTo ivs ivs.length).length cap (cellsI (akTo ivs ivs.length)) := .inr ⟨av, rfl, ⟨by rw [cellsI_len]; omega, hcap, fun o u hu => hc3 o u hu, fun o ho => hroom3 o ho⟩, fun a u hu => hfresh3 a u (hle2 a u hu)⟩
      refine sortInts_k rfl hrow (rowI _) (by omega) (hle2.trans hl3) (fun N4 ds4 hM4 hrow4 hr4 => ?_)
      (conv => whnf)
      have hsl : (srt (akTo ivs ivs.length)).length = (akTo ivs ivs.length).length := srt_len _
      have hk2 := fun (K : Value → Mem → Prop) (k : ∀ N' ds', Le M N' → RowN M N' 1 (some av) (Lib.compact (srt (akTo ivs ivs.length))).length cap ds' → RowR N' RInt 1 (Lib.compact (srt (akTo ivs ivs.length))) ds' → K (.slice (some av) (Lib.compact (srt (akTo ivs ivs.length))).length cap) N') => compactInts_k (wr := true) rfl hrow4 hr4 (by rw [hsl]; omega) hM4 k
      rw [hsl] at hk2
      refine hk2 _ (fun N5 ds5 hM5 hrow5 hr5 => ?_)
      (conv => whnf)
      have hol : (outF (akTo ivs ivs.length)).length ≤ 9223372036854775807 := by
        have h1 := compact_le (srt (akTo ivs ivs.length))
        rw [hsl] at h1
        show (Lib.compact _).length ≤ _
        omega
      exact RetK.mk fun g M' hl hg => ⟨some av, cap, rfl, (hrow5.slS' hr5 (fun _ _ h => h) hol).mono (sub_mono _ hl) (fun _ _ h => h)⟩
end Go.Proofs.YtgeofmoojifkmaaGreat.Hlp
