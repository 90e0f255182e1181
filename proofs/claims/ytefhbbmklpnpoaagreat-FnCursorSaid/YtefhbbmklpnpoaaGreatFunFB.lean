/- Matrices and shards: something of its kind comes out, of the right length. -/
import Derived.Test.YtefhbbmklpnpoaaGreatFunFA
import Derived.Test.YtefhbbmklpnpoaaGreatIns
import Derived.Test.YtefhbbmklpnpoaaGreatFunE
namespace Go.Proofs.YtefhbbmklpnpoaaGreat.Hlp
open Go Go.RowKit Go.Proofs Go.Proofs.YtefhbbmklpnpoaaGreat.Lw
set_option linter.unusedVariables false
set_option linter.unusedSimpArgs false
set_option maxRecDepth 100000
set_option maxHeartbeats 4000000
theorem RowN.w {M N N1 : Mem} {z len cap : Nat} {ad : Addr} {ds vs : List Value} (h : RowN M N z (some ad) len cap ds) (hv : vs.length = z) (hle : len + 1 ≤ cap) (k1 : ∀ o u, vs[o]? = some u → N1 ((ad.add (len * z)).add o) = some u) (k2 : ∀ a, (∀ o, o < vs.length → a ≠ (ad.add (len * z)).add o) → N1 a = N a) : RowN M N1 z (some ad) (len + 1) cap (ds ++ vs) := by
  rcases h with ⟨h, _⟩ | ⟨ad', h1, h2, h3⟩
  · cases h
  · cases h1
    have hl := h2.len
    refine .inr ⟨ad, rfl, RowC.wr h2 k1 k2 (by rw [List.length_append, hl, hv, Nat.add_mul, Nat.one_mul]) hle (fun o u hu => ?_), h3⟩
    rcases Nat.lt_or_ge o ds.length with ho | ho
    · rw [List.getElem?_append_left ho] at hu
      exact .inr ⟨.inl (by omega), h2.el o u hu⟩
    · rw [List.getElem?_append_right ho] at hu
      exact .inl ⟨by omega, by rw [← hl]; exact hu⟩
theorem RowN.kept {M N N1 : Mem} {z len cap q : Nat} {ad : Addr} {ds vs : List Value} (h : RowN M N z (some ad) len cap ds) (hl : Le M N) (k2 : ∀ a, (∀ o, o < vs.length → a ≠ (ad.add q).add o) → N1 a = N a) : Le M N1 := fun a u hu => by
  rcases h with ⟨h, _⟩ | ⟨ad', h1, h2, h3⟩
  · cases h
  · cases h1
    rw [k2 a fun o _ he => h3 a u hu (by rw [he, add_blk, add_blk])]
    exact hl a u hu
theorem RowN.pub {M N N1 : Mem} {z len cap m : Nat} {ad : Addr} {ds : List Value} (hMN : Le M N) (hlen : ds.length = len * z) (hle : len ≤ cap) (hc : ∀ o u, ds[o]? = some u → N1 (ad.add o) = some u) (hroom : ∀ o, o < cap * z → ∃ u, N1 (ad.add o) = some u) (hf : ∀ a u, N a = some u → a.block ≠ ad.block) : RowN M N1 z (some ad) len cap ds :=
  .inr ⟨ad, rfl, ⟨hlen, hle, hc, hroom⟩, fun a u hu => hf a u (hMN a u hu)⟩
theorem RowN.isSome_of {M N : Mem} {z len cap : Nat} {A : Option Addr} {ds : List Value} (h : RowN M N z A len cap ds) (hp : 0 < len) : ∃ ad, A = some ad := by
  rcases h with ⟨_, h, _⟩ | ⟨ad, h, _⟩
  · omega
  · exact ⟨ad, h⟩
theorem RowN.get {M N : Mem} {z len cap : Nat} {ad : Addr} {ds : List Value} (h : RowN M N z (some ad) len cap ds) : RowC N ad z len cap ds ∧ ∀ a u, M a = some u → a.block ≠ ad.block := by
  rcases h with ⟨h, _⟩ | ⟨ad', h1, h2, h3⟩
  · cases h
  · cases h1; exact ⟨h2, h3⟩
theorem slIntsN {M N : Mem} {A : Option Addr} {cap : Nat} {ns : List Int} (h : RowN M N 1 A ns.length cap (ns.map (Value.int .i64))) (hn : ns.length ≤ 1000000) : SlR N RInt 1 8 A cap ns := by
  rcases h with ⟨rfl, h1, h2, h3⟩ | ⟨ad, rfl, h1, _⟩
  · have : ns = [] := List.eq_nil_of_length_eq_zero h1
    subst this
    exact SlR.nil
  · refine ⟨h1.le, by omega, fun i x hx => ⟨ad, [.int .i64 x], rfl, rfl, rfl, fun j u hu => ?_⟩⟩
    cases j with
    | succ j => simp at hu
    | zero =>
      simp only [List.getElem?_cons_zero, Option.some.injEq] at hu
      subst hu
      rw [add_add, Nat.mul_one, Nat.add_zero]
      exact h1.el i _ (by rw [List.getElem?_map, hx]; rfl)
theorem slStrsW {M1 : Mem} {ad2 : Addr} {ss : List ByteArray} {cap : Nat} (hcap : ss.length ≤ cap) (hlen : ss.length ≤ 1000000) (hb : ∀ x ∈ ss, x.size ≤ 1000000) (hc : ∀ o u, (ss.map Value.string)[o]? = some u → M1 (ad2.add o) = some u) : SlR M1 RStr 1 16 (some ad2) cap ss :=
  ⟨hcap, by omega, fun i x hx => ⟨ad2, [.string x], rfl, ⟨rfl, by have := hb x (List.mem_of_getElem? hx); omega⟩, rfl, fun j u hu => by
    cases j with
    | succ j => simp at hu
    | zero =>
      simp only [List.getElem?_cons_zero, Option.some.injEq] at hu
      subst hu
      rw [add_add, Nat.mul_one, Nat.add_zero]
      exact hc i _ (by rw [List.getElem?_map, hx]; rfl)⟩⟩
theorem addr0 {g o : Nat} : (⟨g, 0, none⟩ : Addr).add o = ⟨g, o, none⟩ := by unfold Addr.add; split <;> simp_all
theorem freshA (M : Mem) {ad : Addr} (h : ∀ a u, M a = some u → a.block ≠ ad.block) (p q : Nat) : M ((ad.add p).add q) = none := by
  cases hm : M ((ad.add p).add q) with
  | none => rfl
  | some u => exact absurd (by rw [add_blk, add_blk]) (h _ u hm)
theorem callStr {P : Program} {wr : Bool} {base M : Mem} {f : FuncId} {args : Array Value} {R : ByteArray → Prop} {K : Value → Mem → Prop} (h : AnsR P M f args (fun _ v => ∃ x : ByteArray, v = .string x ∧ R x)) (k : ∀ x M', R x → Le M M' → K (.string x) M') : CallK P wr base M f args K :=
  CallK.mr _ h fun v M' hl hv => by obtain ⟨x, rfl, hx⟩ := hv; exact k x M' hx hl
theorem RowN.up {M0 N N' : Mem} {z n cap : Nat} {A : Option Addr} {ds : List Value} (h : RowN M0 N z A n cap ds) (hl : Le N N') : RowN M0 N' z A n cap ds := by
  rcases h with h | ⟨ad, h1, h2, h3⟩
  · exact .inl h
  · exact .inr ⟨ad, h1, h2.mono hl, h3⟩
theorem allOne_i64 : ∀ (ns : List Int), allOne (ns.map (Value.int .i64)) = true
  | [] => rfl
  | n :: r => by simp only [List.map_cons, allOne, allOne_i64 r]; rfl
theorem l03Unit_r (M : Mem) (n : Nat) (h1 : 1 ≤ n) (h3 : n ≤ 3) : AnsR Tryz.prog M 155 #[.int .i64 (n : Int)] (fun M' v => ∃ (ns : List Int) (A : Option Addr) (cap : Nat), v = .agg #[.int .i64 (n : Int), .int .i64 (n : Int), .slice A ns.length cap] ∧ ns.length = n * n ∧ RowN M M' 1 A ns.length cap (ns.map (Value.int .i64))) := by
  refine ansR_of (T.at M) (l := [.int .i64 (n : Int)]) mixed Tryz.func155 rfl (by kernel_rfl) (Nat.le_of_ble_eq_true rfl) ?_ (fun _ a u h1 h2 => by rw [show M a = none from h1] at h2; cases h2)
  obtain ⟨mm, hmm⟩ : ∃ mm, mm = n * n := ⟨_, rfl⟩
  have hm9 : mm ≤ 9 := by rw [hmm]; exact Nat.mul_le_mul h3 h3
  have hnn : IntKind.i64.wrap ((n : Int) * (n : Int)) = (mm : Int) := by
    rw [show (n : Int) * (n : Int) = (mm : Int) by rw [hmm]; push_cast; rfl]
    exact i64_id (by omega) (by omega)
  rw [← hmm]
  (conv => whnf)
  refine LoopK.mk {q : List Int × Option Addr × Nat × Mem // q.1.length ≤ mm ∧ RowN M q.2.2.2 1 q.2.1 q.1.length q.2.2.1 (q.1.map (Value.int .i64)) ∧ Le M q.2.2.2} (fun ⟨⟨ns, A, cap, N⟩, _⟩ => [(0, .v (.int .i64 (n : Int))), (2, .p 0 0), (3, .p 1 0), (4, .v (.int .i64 (ns.length : Int)))]) (fun ⟨⟨ns, A, cap, N⟩, _⟩ => [(0, [.int .i64 0, .int .i64 0, .slice none 0 0]), (1, [.int .i64 (n : Int), .int .i64 (n : Int), .slice A ns.length cap])]) (fun ⟨⟨ns, A, cap, N⟩, _⟩ => N) (fun q => mm - q.1.1.length) ⟨([], none, 0, M), Nat.zero_le _, .inl ⟨rfl, rfl, rfl, rfl⟩, fun _ _ h => h⟩ ⟨⟨⟨rfl, rfl, rfl, rfl, trivial⟩, ⟨rfl, rfl, trivial⟩, rfl, rfl⟩, rfl⟩ ?_
  rintro ⟨⟨ns, A, cap, N⟩, hk, hr, hl⟩
  replace hk : ns.length ≤ mm := hk
  replace hr : RowN M N 1 A ns.length cap (ns.map (Value.int .i64)) := hr
  replace hl : Le M N := hl
  by_cases hlt : ns.length < mm
  · cases A with
    | none =>
      have hz : ns = [] ∧ cap = 0 := by
        rcases hr with ⟨_, h, h2, _⟩ | ⟨ad, h, _⟩
        · exact ⟨List.eq_nil_of_length_eq_zero h, h2⟩
        · cases h
      obtain ⟨rfl, rfl⟩ := hz
      (conv => whnf)
      refine CondK.yes' (by rw [hnn]; exact decide_eq_true (by simpa using hlt)) ?_
      repeat' ((conv => whnf); first | refine DivK.mk (by rw [i64_succ (by omega)]; omega) ?_ | refine CondK.mk (fun hc => ?_) (fun hc => ?_) | refine AppK.mk (by show (2 * (0 + 1) + 512) * 8 ≤ 281474976710656; decide) (by decide) (.inl (by decide)) rfl (fun cap hcap => ?_) | refine PubK.fr (fun ad N1 hl1 hc hroom hf _ => ?_) | fail)
      all_goals exact ⟨⟨([_], some ad, cap, N1), by show 1 ≤ mm; simp at hlt; omega, RowN.pub (m := 0) hl rfl hcap hc hroom hf, hl.trans hl1⟩, ⟨⟨rfl, rfl, rfl, rfl, trivial⟩, ⟨rfl, rfl, trivial⟩, rfl, rfl⟩, rfl, by show mm - 1 < mm - 0; simp at hlt; omega⟩
    | some ad =>
      obtain ⟨hrc, hfr⟩ := hr.get
      have hlen := hrc.len
      by_cases hle : ns.length + 1 ≤ cap
      · have hsome : ∀ o, o < 1 → (N ((ad.add (ns.length * 1)).add o)).isSome = true := fun o ho => by
          obtain ⟨u, hu⟩ := hrc.room (ns.length * 1 + o) (by omega)
          rw [add_add, hu]; rfl
        (conv => whnf)
        refine CondK.yes' (by rw [hnn]; exact decide_eq_true (by omega)) ?_
        repeat' ((conv => whnf); first | refine DivK.mk (by rw [i64_succ (by omega)]; omega) ?_ | refine CondK.mk (fun hc => ?_) (fun hc => ?_) | refine AppX.w hle (WrL.mk rfl hsome (fun o _ => freshA M hfr _ o) rfl (fun N1 k1 k2 => ?_)) | fail)
        all_goals exact ⟨⟨(ns ++ [_], some ad, cap, N1), by show (ns ++ [_]).length ≤ mm; simp; omega, by show RowN M N1 1 (some ad) (ns ++ [_]).length cap ((ns ++ [_]).map (Value.int .i64)); rw [List.length_append, List.map_append]; exact hr.w rfl hle k1 k2, hr.kept hl k2⟩, ⟨⟨rfl, rfl, rfl, look_int ((i64_succ (by omega)).trans (by simp)), trivial⟩, ⟨rfl, congrArg (fun t => some [Value.int .i64 (n : Int), .int .i64 (n : Int), .slice (some ad) t cap]) (by simp), trivial⟩, rfl, rfl⟩, rfl, by show mm - (ns ++ [_]).length < mm - ns.length; simp; omega⟩
      · (conv => whnf)
        refine CondK.yes' (by rw [hnn]; exact decide_eq_true (by omega)) ?_
        repeat' ((conv => whnf); first | refine DivK.mk (by rw [i64_succ (by omega)]; omega) ?_ | refine CondK.mk (fun hc => ?_) (fun hc => ?_) | refine AppX.g hle (ns.map (Value.int .i64)) hlen hrc.el (allOne_append (allOne_i64 ns) rfl) (by omega) (by show (2 * (ns.length + 1) + 512) * 8 ≤ 281474976710656; omega) (fun cap' hcap' => ?_) | refine PubK.fr (fun ad1 N1 hl1 hc hroom hf _ => ?_) | fail)
        all_goals exact ⟨⟨(ns ++ [_], some ad1, cap', N1), by show (ns ++ [_]).length ≤ mm; simp; omega, by show RowN M N1 1 (some ad1) (ns ++ [_]).length cap' ((ns ++ [_]).map (Value.int .i64)); rw [List.length_append, List.map_append]; exact RowN.pub (m := 0) hl (by simp) hcap' hc hroom hf, hl.trans hl1⟩, ⟨⟨rfl, rfl, rfl, look_int ((i64_succ (by omega)).trans (by simp)), trivial⟩, ⟨rfl, congrArg (fun t => some [Value.int .i64 (n : Int), .int .i64 (n : Int), .slice (some ad1) t cap']) (by simp), trivial⟩, rfl, rfl⟩, rfl, by show mm - (ns ++ [_]).length < mm - ns.length; simp; omega⟩
  · have he : ns.length = mm := by omega
    (conv => whnf)
    refine CondK.no' (by rw [hnn]; exact decide_eq_false (by omega)) ?_
    (conv => whnf)
    exact RetK.mk fun g M' hl2 hg => ⟨ns, A, cap, rfl, he, hr.up hl2⟩
theorem l03Code_r (M : Mem) (n m : Nat) (h1 : 1 ≤ n) (h3 : n ≤ 3) (hm : m ≤ 2) : AnsR Tryz.prog M 144 #[.int .i64 (n : Int), .int .i64 (m : Int)] (fun M' v => ∃ (ns : List Int) (A : Option Addr) (cap : Nat), v = .agg #[.int .i64 ((n + m : Nat) : Int), .int .i64 (n : Int), .slice A ns.length cap] ∧ ns.length = (n + m) * n ∧ SlR M' RInt 1 8 A cap ns) := by
  refine ansR_of (T.at M) (l := [.int .i64 (n : Int), .int .i64 (m : Int)]) mixed Tryz.func144 rfl (by kernel_rfl) (Nat.le_of_ble_eq_true rfl) ?_ (fun _ a u h1 h2 => by rw [show M a = none from h1] at h2; cases h2)
  have h9 : n * n ≤ 9 := Nat.mul_le_mul h3 h3
  have h0 : 1 ≤ n * n := Nat.mul_le_mul h1 h1
  have hkm : IntKind.i64.wrap ((n : Int) + (m : Int)) = ((n + m : Nat) : Int) := by
    rw [show (n : Int) + (m : Int) = ((n + m : Nat) : Int) by push_cast; rfl]
    exact i64_id (by omega) (by omega)
  repeat' ((conv => whnf); first | refine CallK.mr _ (l03Unit_r M n h1 h3) (fun v M1 hl1 hv => ?_) | fail)
  obtain ⟨ns0, A0, cap0, rfl, hn0, hr0⟩ := hv
  (conv => whnf)
  refine LoopK.mk {q : Nat × List Int × Option Addr × Nat × Mem // q.1 ≤ m ∧ q.2.1.length = n * n + q.1 * n ∧ RowN M q.2.2.2.2 1 q.2.2.1 q.2.1.length q.2.2.2.1 (q.2.1.map (Value.int .i64)) ∧ Le M q.2.2.2.2} (fun ⟨⟨i, ns, A, cap, N⟩, _⟩ => [(0, .v (.int .i64 (n : Int))), (1, .v (.int .i64 (m : Int))), (4, .p 0 0), (5, .p 1 0), (6, .v (.int .i64 (i : Int)))]) (fun ⟨⟨i, ns, A, cap, N⟩, _⟩ => [(0, [.int .i64 0, .int .i64 0, .slice none 0 0]), (1, [.int .i64 (IntKind.i64.wrap ((n : Int) + (m : Int))), .int .i64 (n : Int), .slice A ns.length cap])]) (fun ⟨⟨i, ns, A, cap, N⟩, _⟩ => N) (fun q => m - q.1.1) ⟨(0, ns0, A0, cap0, M1), Nat.zero_le _, by show ns0.length = n * n + 0 * n; omega, hr0, hl1⟩ ⟨⟨⟨rfl, rfl, rfl, rfl, rfl, trivial⟩, ⟨rfl, rfl, trivial⟩, rfl, rfl⟩, rfl⟩ ?_
  clear hn0 hr0 hl1
  rintro ⟨⟨i, ns, A, cap, N⟩, hi, hn, hr, hl⟩
  replace hi : i ≤ m := hi
  replace hn : ns.length = n * n + i * n := hn
  replace hr : RowN M N 1 A ns.length cap (ns.map (Value.int .i64)) := hr
  replace hl : Le M N := hl
  by_cases hlt : i < m
  · have hin : i * n ≤ 6 := Nat.mul_le_mul (show i ≤ 2 by omega) h3
    (conv => whnf)
    refine CondK.yes' (decide_eq_true (by omega)) ?_
    (conv => whnf)
    refine LoopK.mk {q : Nat × List Int × Option Addr × Nat × Mem // q.1 ≤ n ∧ q.2.1.length = n * n + i * n + q.1 ∧ RowN M q.2.2.2.2 1 q.2.2.1 q.2.1.length q.2.2.2.1 (q.2.1.map (Value.int .i64)) ∧ Le M q.2.2.2.2} (fun ⟨⟨j, ns, A, cap, N⟩, _⟩ => [(0, .v (.int .i64 (n : Int))), (1, .v (.int .i64 (m : Int))), (4, .p 0 0), (5, .p 1 0), (6, .v (.int .i64 (i : Int))), (7, .v (.int .i64 (j : Int)))]) (fun ⟨⟨j, ns, A, cap, N⟩, _⟩ => [(0, [.int .i64 0, .int .i64 0, .slice none 0 0]), (1, [.int .i64 (IntKind.i64.wrap ((n : Int) + (m : Int))), .int .i64 (n : Int), .slice A ns.length cap])]) (fun ⟨⟨j, ns, A, cap, N⟩, _⟩ => N) (fun q => n - q.1.1) ⟨(0, ns, A, cap, N), Nat.zero_le _, by show ns.length = n * n + i * n + 0; omega, hr, hl⟩ ⟨⟨⟨rfl, rfl, rfl, rfl, rfl, rfl, trivial⟩, ⟨rfl, rfl, trivial⟩, rfl, rfl⟩, rfl⟩ ?_
    clear hn hr hl
    rintro ⟨⟨j, ns, A, cap, N⟩, hj, hn, hr, hl⟩
    replace hj : j ≤ n := hj
    replace hn : ns.length = n * n + i * n + j := hn
    replace hr : RowN M N 1 A ns.length cap (ns.map (Value.int .i64)) := hr
    replace hl : Le M N := hl
    by_cases hjt : j < n
    · obtain ⟨ad, rfl⟩ := hr.isSome_of (by omega)
      obtain ⟨hrc, hfr⟩ := hr.get
      have hlen := hrc.len
      have hsome : ∀ o, ns.length + 1 ≤ cap → o < 1 → (N ((ad.add (ns.length * 1)).add o)).isSome = true := fun o hle ho => by
        obtain ⟨u, hu⟩ := hrc.room (ns.length * 1 + o) (by omega)
        rw [add_add, hu]; rfl
      (conv => whnf)
      refine CondK.yes' (decide_eq_true (by omega)) ?_
      (conv => whnf)
      refine DrawN.b [1] {q : List Int × Option Addr × Nat × Mem // q.1.length = ns.length + 1 ∧ RowN M q.2.2.2 1 q.2.1 q.1.length q.2.2.1 (q.1.map (Value.int .i64)) ∧ Le M q.2.2.2} (fun ⟨⟨ns, A, cap, N⟩, _⟩ => [(0, .v (.int .i64 (n : Int))), (1, .v (.int .i64 (m : Int))), (4, .p 0 0), (5, .p 1 0), (6, .v (.int .i64 (i : Int))), (7, .v (.int .i64 (j : Int)))]) (fun ⟨⟨ns, A, cap, N⟩, _⟩ => [(0, [.int .i64 0, .int .i64 0, .slice none 0 0]), (1, [.int .i64 (IntKind.i64.wrap ((n : Int) + (m : Int))), .int .i64 (n : Int), .slice A ns.length cap])]) 20 (fun ⟨⟨ns, A, cap, N⟩, _⟩ => N) rfl (by kernel_rfl) ?_ ?_
      · by_cases hle : ns.length + 1 ≤ cap
        · repeat' ((conv => whnf); first | refine AndK.mk ?_ ?_ | refine HeldK.mk (by kernel_rfl) ?_ | refine CallB.mk _ (l02Inv_a _ _) ?_ | refine CallB.mk _ (l02Times_a _ _ _) ?_ | refine AppX.w hle (WrL.mk rfl (fun o ho => hsome o hle ho) (fun o _ => freshA M hfr _ o) rfl (fun N1 k1 k2 => ?_)) | fail)
          all_goals exact ⟨⟨(ns ++ [_], some ad, cap, N1), by show (ns ++ [_]).length = ns.length + 1; simp, by show RowN M N1 1 (some ad) (ns ++ [_]).length cap ((ns ++ [_]).map (Value.int .i64)); rw [List.length_append, List.map_append]; exact hr.w rfl hle k1 k2, hr.kept hl k2⟩, ⟨⟨rfl, rfl, rfl, rfl, rfl, rfl, trivial⟩, ⟨rfl, congrArg (fun t => some [Value.int .i64 (IntKind.i64.wrap ((n : Int) + (m : Int))), .int .i64 (n : Int), .slice (some ad) t cap]) (by simp), trivial⟩, rfl, rfl⟩, rfl⟩
        · repeat' ((conv => whnf); first | refine AndK.mk ?_ ?_ | refine HeldK.mk (by kernel_rfl) ?_ | refine CallB.mk _ (l02Inv_a _ _) ?_ | refine CallB.mk _ (l02Times_a _ _ _) ?_ | refine AppX.g hle (ns.map (Value.int .i64)) hlen hrc.el (allOne_append (allOne_i64 ns) rfl) (by omega) (by show (2 * (ns.length + 1) + 512) * 8 ≤ 281474976710656; omega) (fun cap' hcap' => ?_) | refine PubK.fr (fun ad1 N1 hl1 hc hroom hf _ => ?_) | fail)
          all_goals exact ⟨⟨(ns ++ [_], some ad1, cap', N1), by show (ns ++ [_]).length = ns.length + 1; simp, by show RowN M N1 1 (some ad1) (ns ++ [_]).length cap' ((ns ++ [_]).map (Value.int .i64)); rw [List.length_append, List.map_append]; exact RowN.pub (m := 0) hl (by simp) hcap' hc hroom hf, hl.trans hl1⟩, ⟨⟨rfl, rfl, rfl, rfl, rfl, rfl, trivial⟩, ⟨rfl, congrArg (fun t => some [Value.int .i64 (IntKind.i64.wrap ((n : Int) + (m : Int))), .int .i64 (n : Int), .slice (some ad1) t cap']) (by simp), trivial⟩, rfl, rfl⟩, rfl⟩
      · rintro ⟨⟨ns1, A1, cap1, N1⟩, hn1, hr1, hl1⟩
        replace hn1 : ns1.length = ns.length + 1 := hn1
        (conv => whnf)
        exact ⟨⟨(j + 1, ns1, A1, cap1, N1), hjt, by show ns1.length = n * n + i * n + (j + 1); omega, hr1, hl1⟩, ⟨⟨rfl, rfl, rfl, rfl, rfl, look_int (i64_succ (by omega)), trivial⟩, ⟨rfl, rfl, trivial⟩, rfl, rfl⟩, rfl, by show n - (j + 1) < n - j; omega⟩
    · (conv => whnf)
      refine CondK.no' (decide_eq_false (by omega)) ?_
      exact ⟨⟨(i + 1, ns, A, cap, N), hlt, by show ns.length = n * n + (i + 1) * n; rw [Nat.add_mul, Nat.one_mul]; omega, hr, hl⟩, ⟨⟨rfl, rfl, rfl, rfl, look_int (i64_succ (by omega)), trivial⟩, ⟨rfl, rfl, trivial⟩, rfl, rfl⟩, rfl, by show m - (i + 1) < m - i; omega⟩
  · have he : i = m := by omega
    subst he
    (conv => whnf)
    refine CondK.no' (decide_eq_false (by omega)) ?_
    (conv => whnf)
    exact RetK.mk fun g M' hl2 hg => ⟨ns, A, cap, by show Value.agg _ = Value.agg _; rw [hkm], by rw [hn, Nat.add_mul], (slIntsN hr (by have := Nat.mul_le_mul hm h3; omega)).mono hl2 (fun _ _ h => h)⟩
theorem l04Size_a (M : Mem) (K m : Int) (n : Nat) (h1 : 1 ≤ K) (h3 : K ≤ 3) (hn : n ≤ 100000) : Ans Tryz.prog M 158 #[.agg #[.int .i64 K, .int .i64 m], .int .i64 (n : Int)] (.int .i64 (((n + K.toNat - 1) / K.toNat : Nat) : Int)) := by
  refine ans_of T (l := [.agg #[.int .i64 K, .int .i64 m], .int .i64 (n : Int)]) mixed Tryz.func158 rfl (by kernel_rfl) (Nat.le_of_ble_eq_true rfl) ?_
  repeat' ((conv => whnf); first | refine DivK.mk (by omega) ?_ | fail)
  refine ret_int ?_
  obtain ⟨k, rfl⟩ : ∃ k : Nat, K = (k : Int) := ⟨K.toNat, by omega⟩
  rw [i64_id (x := (n : Int) + (k : Int)) (by omega) (by omega), i64_id (x := (n : Int) + (k : Int) - 1) (by omega) (by omega)]
  rw [show (n : Int) + (k : Int) - 1 = ((n + k - 1 : Nat) : Int) by omega, Int.toNat_natCast]
  have hd : (n + k - 1) / k ≤ n + k - 1 := Nat.div_le_self _ _
  obtain ⟨q, hq⟩ : ∃ q, q = (n + k - 1) / k := ⟨_, rfl⟩
  rw [show ((n + k - 1 : Nat) : Int).tdiv (k : Int) = (((n + k - 1) / k : Nat) : Int) from rfl, ← hq]
  rw [← hq] at hd
  exact i64_id (by omega) (by omega)
theorem size_room {n k : Nat} (h1 : 1 ≤ k) : n ≤ (n + k - 1) / k * k ∧ (n + k - 1) / k ≤ n := by
  have e := Nat.div_add_mod (n + k - 1) k
  have hm := Nat.mod_lt (n + k - 1) h1
  rw [Nat.mul_comm] at e
  refine ⟨by omega, ?_⟩
  refine Nat.le_of_lt_succ ((Nat.div_lt_iff_lt_mul h1).2 ?_)
  rw [Nat.succ_mul]
  have : n ≤ n * k := Nat.le_mul_of_pos_right n h1
  omega
theorem l04Data_r (M : Mem) (K m : Int) (s : ByteArray) (h1 : 1 ≤ K) (h3 : K ≤ 3) (hn : s.size ≤ 1000) : AnsR Tryz.prog M 145 #[.agg #[.int .i64 K, .int .i64 m], .string s] (fun M' v => ∃ (ps : List ByteArray) (A : Option Addr) (cap sz : Nat), v = .slice A ps.length cap ∧ (ps.length : Int) = K ∧ sz ≤ 1000 ∧ (∀ p ∈ ps, p.size = sz) ∧ SlR M' RStr 1 16 A cap ps) := by
  refine ansR_of T (l := [.agg #[.int .i64 K, .int .i64 m], .string s]) mixed Tryz.func145 rfl (by kernel_rfl) (Nat.le_of_ble_eq_true rfl) ?_
  obtain ⟨k, rfl⟩ : ∃ k : Nat, K = (k : Int) := ⟨K.toNat, by omega⟩
  obtain ⟨hz1, hz2⟩ := size_room (n := s.size) (k := k) (by omega)
  obtain ⟨n, hnd⟩ : ∃ n, n = (s.size + k - 1) / k := ⟨_, rfl⟩
  rw [← hnd] at hz1 hz2
  have hnk : n * k ≤ 3000 := Nat.mul_le_mul (show n ≤ 1000 by omega) (show k ≤ 3 by omega)
  have hmul : ∀ i : Nat, i ≤ 3 → IntKind.i64.wrap ((i : Int) * (n : Int)) = ((i * n : Nat) : Int) := fun i hi => by
    have : i * n ≤ 3000 := Nat.mul_le_mul hi (show n ≤ 1000 by omega)
    rw [show (i : Int) * (n : Int) = ((i * n : Nat) : Int) by push_cast; rfl]
    exact i64_id (by omega) (by omega)
  have hsz : ∀ M, Ans Tryz.prog M 158 #[.agg #[.int .i64 (k : Int), .int .i64 m], .int .i64 (s.size : Int)] (.int .i64 (n : Int)) := fun M => by
    have := l04Size_a M (k : Int) m s.size h1 h3 (by omega)
    rw [Int.toNat_natCast, ← hnd] at this
    exact this
  repeat' ((conv => whnf); first | refine CallK.mk _ (hsz _) ?_ | fail)
  refine LoopK.mk {b : ByteArray // b.size ≤ 10000} (fun ⟨b, _⟩ => [(1, .v (.string b)), (2, .p 0 0), (5, .v (.int .i64 (n : Int)))]) (fun _ => [(0, [.int .i64 (k : Int), .int .i64 m])]) (fun _ => M) (fun b => n * k - b.1.size) ⟨s, by omega⟩ ⟨⟨⟨rfl, rfl, rfl, trivial⟩, ⟨rfl, trivial⟩, rfl, rfl⟩, rfl⟩ ?_
  rintro ⟨b, hb⟩
  have hkn : IntKind.i64.wrap ((n : Int) * (k : Int)) = ((n * k : Nat) : Int) := by
    rw [show (n : Int) * (k : Int) = ((n * k : Nat) : Int) by push_cast; rfl]
    exact i64_id (by omega) (by omega)
  by_cases hlt : b.size < n * k
  · (conv => whnf)
    refine CondK.yes' (by rw [hkn]; exact decide_eq_true (by omega)) ?_
    (conv => whnf)
    refine Owe.mk (by show b.size + 1 ≤ _; omega) ?_
    (conv => whnf)
    have hs1 : (b ++ ⟨#[0]⟩).size = b.size + 1 := ByteArray.size_append
    exact ⟨⟨b ++ ⟨#[0]⟩, by rw [hs1]; omega⟩, ⟨⟨rfl, rfl, rfl, trivial⟩, ⟨rfl, trivial⟩, rfl, rfl⟩, rfl, by show n * k - (b ++ ⟨#[0]⟩).size < n * k - b.size; rw [hs1]; omega⟩
  · (conv => whnf)
    refine CondK.no' (by rw [hkn]; exact decide_eq_false (by omega)) ?_
    (conv => whnf)
    refine LoopK.sw 1 2 {q : List ByteArray × Nat // q.1.length ≤ k ∧ q.1.length ≤ q.2 ∧ ∀ p ∈ q.1, p.size = n} (fun ⟨⟨ps, cap⟩, _⟩ => [(1, .v (.string b)), (2, .p 0 0), (5, .v (.int .i64 (n : Int))), (6, .s 1 ps.length cap 1), (7, .v (.int .i64 (ps.length : Int)))]) (fun ⟨⟨ps, cap⟩, _⟩ => [(1, ps.map Value.string), (0, [.int .i64 (k : Int), .int .i64 m])]) (fun _ => M) (fun q => k - q.1.1.length) ⟨([], 0), Nat.zero_le _, Nat.le_refl _, fun p hp => by cases hp⟩ 1 ⟨⟨⟨rfl, rfl, rfl, rfl, rfl, trivial⟩, ⟨rfl, rfl, trivial⟩, rfl, rfl⟩, rfl⟩ ?_
    rintro ⟨⟨ps, cap⟩, hp1, hcap, hp2⟩
    replace hp1 : ps.length ≤ k := hp1
    replace hcap : ps.length ≤ cap := hcap
    replace hp2 : ∀ p ∈ ps, p.size = n := hp2
    by_cases hpl : ps.length < k
    · have hle : (ps.length + 1) * n ≤ b.size := Nat.le_trans (Nat.mul_le_mul_right n hpl) (by rw [Nat.mul_comm]; omega)
      have hle2 : ps.length * n + n = (ps.length + 1) * n := by rw [Nat.add_mul, Nat.one_mul]
      have e1 := hmul ps.length (by omega)
      have e2 := hmul (ps.length + 1) (by omega)
      have e3 := i64_succ (k := ps.length) (by omega)
      (conv => whnf)
      refine CondK.yes' (decide_eq_true (by omega)) ?_
      repeat' ((conv => whnf); first | refine SlK.mk (ps.length * n) ((ps.length + 1) * n) e1 (by rw [e3]; exact e2) (by omega) (by omega) ?_ | refine AppK.mk (by show (2 * (ps.length + 1) + 512) * 16 ≤ 281474976710656; omega) (by omega) (.inr rfl) rfl (fun cap3 hcap3 => ?_) | fail)
      refine ⟨⟨(ps ++ [b.extract (ps.length * n) ((ps.length + 1) * n)], cap3), by show (ps ++ [_]).length ≤ k; simp; omega, by show (ps ++ [_]).length ≤ cap3; simpa using hcap3, fun p hp => ?_⟩, 3, ⟨⟨rfl, rfl, rfl, congrArg (fun t => some (PV.s 3 t cap3 1)) (by simp), look_int (e3.trans (by simp)), trivial⟩, ⟨congrArg some (by rw [List.map_append]; rfl), rfl, trivial⟩, rfl, rfl⟩, rfl, by show k - (ps ++ [_]).length < k - ps.length; simp; omega⟩
      rcases List.mem_append.mp hp with h | h
      · exact hp2 p h
      · rw [List.mem_singleton.mp h, ByteArray.size_extract]
        omega
    · have he : ps.length = k := by omega
      (conv => whnf)
      refine CondK.no' (decide_eq_false (by omega)) ?_
      (conv => whnf)
      exact RetK.mk fun g M' hl2 hg => ⟨ps, _, cap, n, rfl, by omega, by omega, hp2, slStrsW hcap (by omega) (fun x hx => by rw [hp2 x hx]; omega) (fun o u hu => by rw [addr0]; exact hg 1 _ rfl o u hu)⟩
theorem l03Pieces_r (M : Mem) (H W : Nat) (hH : H ≤ 10) (hW0 : 1 ≤ W) (hW : W ≤ 3) (ns : List Int) (A : Option Addr) (c : Nat) (hns : SlR M RInt 1 8 A c ns) (hn : ns.length = H * W) (ps : List ByteArray) (B : Option Addr) (d sz : Nat) (hps : SlR M RStr 1 16 B d ps) (hp : ps.length = W) (hsz : sz ≤ 1000) (hall : ∀ p ∈ ps, p.size = sz) : AnsR Tryz.prog M 143 #[.agg #[.int .i64 (H : Int), .int .i64 (W : Int), .slice A ns.length c], .slice B ps.length d] (fun M' v => ∃ (os : List ByteArray) (A' : Option Addr) (cap : Nat), v = .slice A' os.length cap ∧ os.length = H ∧ (∀ p ∈ os, p.size = sz) ∧ SlR (sub M' M) RStr 1 16 A' cap os) := by
  refine ansR_of T (l := [.agg #[.int .i64 (H : Int), .int .i64 (W : Int), .slice A ns.length c], .slice B ps.length d]) mixed Tryz.func143 rfl (by kernel_rfl) (Nat.le_of_ble_eq_true rfl) ?_
  have hHW : H * W ≤ 30 := Nat.mul_le_mul hH hW
  (conv => whnf)
  refine LoopK.sw 1 2 {q : List ByteArray × Nat × Mem // q.1.length ≤ H ∧ q.1.length ≤ q.2.1 ∧ (∀ p ∈ q.1, p.size = sz) ∧ Le M q.2.2} (fun ⟨⟨os, cap, N⟩, _⟩ => [(1, .v (.slice B ps.length d)), (2, .p 0 0), (5, .s 1 os.length cap 1), (6, .v (.int .i64 (os.length : Int)))]) (fun ⟨⟨os, cap, N⟩, _⟩ => [(1, os.map Value.string), (0, [.int .i64 (H : Int), .int .i64 (W : Int), .slice A ns.length c])]) (fun ⟨⟨os, cap, N⟩, _⟩ => N) (fun q => H - q.1.1.length) ⟨([], 0, M), Nat.zero_le _, Nat.le_refl _, (fun p hp => by cases hp), fun _ _ h => h⟩ 1 ⟨⟨⟨rfl, rfl, rfl, rfl, trivial⟩, ⟨rfl, rfl, trivial⟩, rfl, rfl⟩, rfl⟩ ?_
  rintro ⟨⟨os, cap, N⟩, ho1, hcap, ho2, hl⟩
  replace ho1 : os.length ≤ H := ho1
  replace hcap : os.length ≤ cap := hcap
  replace ho2 : ∀ p ∈ os, p.size = sz := ho2
  replace hl : Le M N := hl
  have hstr : ∀ (N : Mem), Le M N → ∀ j, j < ps.length → ∃ A0 y, B = some A0 ∧ y.size = sz ∧ N ((A0.add (j * 1)).add 0) = some (.string y) := fun N hl j hj => by
    obtain ⟨A0, cs, hA, hcs, hcl, hel⟩ := hps.el j _ (List.getElem?_eq_getElem hj)
    obtain ⟨rfl, _⟩ := hcs
    exact ⟨A0, _, hA, hall _ (List.getElem_mem hj), hl _ _ (hel 0 _ rfl)⟩
  by_cases hlt : os.length < H
  · obtain ⟨B0, y0, rfl, hy0, hld0⟩ := hstr N hl 0 (by omega)
    (conv => whnf)
    refine CondK.yes' (decide_eq_true (by omega)) ?_
    (conv => whnf)
    refine IdxK.mk _ rfl (by omega) (by omega) ?_
    (conv => whnf)
    refine LdK.mk _ hld0 ?_
    (conv => whnf)
    refine callStr (l02Scale_r N 0 y0 (by omega)) (fun t N1 ht hl1 => ?_)
    (conv => whnf)
    refine LoopK.mk {q : Nat × ByteArray × Mem // q.1 ≤ W ∧ q.2.1.size = sz ∧ Le M q.2.2} (fun ⟨⟨j, t, N⟩, _⟩ => [(1, .v (.slice (some B0) ps.length d)), (2, .p 0 0), (5, .s 1 os.length cap 1), (6, .v (.int .i64 (os.length : Int))), (7, .v (.string t)), (8, .v (.int .i64 (j : Int)))]) (fun _ => [(1, os.map Value.string), (0, [.int .i64 (H : Int), .int .i64 (W : Int), .slice A ns.length c])]) (fun ⟨⟨j, t, N⟩, _⟩ => N) (fun q => W - q.1.1) ⟨(0, t, N1), Nat.zero_le _, by show t.size = sz; omega, hl.trans hl1⟩ ⟨⟨⟨rfl, rfl, rfl, rfl, rfl, rfl, trivial⟩, ⟨rfl, rfl, trivial⟩, rfl, rfl⟩, rfl⟩ ?_
    clear ht hl1 hl hld0
    rintro ⟨⟨j, t, N⟩, hj, ht, hl⟩
    replace hj : j ≤ W := hj
    replace ht : t.size = sz := ht
    replace hl : Le M N := hl
    by_cases hjt : j < W
    · obtain ⟨B1, y1, hB1, hy1, hld1⟩ := hstr N hl j (by omega)
      cases hB1
      have hix : os.length * W + j < ns.length := by
        have : (os.length + 1) * W ≤ H * W := Nat.mul_le_mul_right W hlt
        rw [Nat.add_mul, Nat.one_mul] at this
        omega
      obtain ⟨x, hx⟩ : ∃ x, ns[os.length * W + j]? = some x := ⟨_, List.getElem?_eq_getElem hix⟩
      obtain ⟨A0, cs, rfl, hcs, hcl, hel⟩ := hns.el _ x hx
      replace hcs : cs = [.int .i64 x] := hcs
      subst hcs
      have hld := hl _ _ (hel 0 _ rfl)
      have e1 : IntKind.i64.wrap ((os.length : Int) * (W : Int)) = ((os.length * W : Nat) : Int) := by
        rw [show (os.length : Int) * (W : Int) = ((os.length * W : Nat) : Int) by push_cast; rfl]
        exact i64_id (by omega) (by omega)
      have e2 : IntKind.i64.wrap (IntKind.i64.wrap ((os.length : Int) * (W : Int)) + (j : Int)) = ((os.length * W + j : Nat) : Int) := by
        rw [e1, show ((os.length * W : Nat) : Int) + (j : Int) = ((os.length * W + j : Nat) : Int) by push_cast; rfl]
        exact i64_id (by omega) (by omega)
      (conv => whnf)
      refine CondK.yes' (decide_eq_true (by omega)) ?_
      (conv => whnf)
      refine DrawN.h {q : ByteArray × Mem // q.1.size = sz ∧ Le M q.2} (fun ⟨⟨t, N⟩, _⟩ => [(1, .v (.slice (some B0) ps.length d)), (2, .p 0 0), (5, .s 1 os.length cap 1), (6, .v (.int .i64 (os.length : Int))), (7, .v (.string t)), (8, .v (.int .i64 (j : Int)))]) (fun _ => [(1, os.map Value.string), (0, [.int .i64 (H : Int), .int .i64 (W : Int), .slice (some A0) ns.length c])]) 20 (fun ⟨⟨t, N⟩, _⟩ => N) (by kernel_rfl) ?_ ?_
      · repeat' ((conv => whnf); first | refine AndK.mk ?_ ?_ | refine HeldK.mk (by kernel_rfl) ?_ | refine IdxK.at (os.length * W + j) _ e2 rfl (by omega) ?_ | refine IdxK.mk _ rfl (by omega) (by omega) ?_ | refine LdK.mk _ hld ?_ | refine LdK.mk _ hld1 ?_ | refine callStr (l02Scale_r _ _ y1 (by omega)) (fun t1 N1 ht1 hl1 => ?_) | refine callStr (l02Sum_r _ t t1 (by omega) (by omega)) (fun t2 N2 ht2 hl2 => ?_) | fail)
        all_goals exact ⟨⟨(t2, N2), by show t2.size = sz; omega, hl.trans (hl1.trans hl2)⟩, ⟨⟨rfl, rfl, rfl, rfl, rfl, rfl, trivial⟩, ⟨rfl, rfl, trivial⟩, rfl, rfl⟩, rfl⟩
      · rintro ⟨⟨t2, N2⟩, ht2, hl2⟩
        (conv => whnf)
        exact ⟨⟨(j + 1, t2, N2), hjt, ht2, hl2⟩, ⟨⟨rfl, rfl, rfl, rfl, rfl, look_int (i64_succ (by omega)), trivial⟩, ⟨rfl, rfl, trivial⟩, rfl, rfl⟩, rfl, by show W - (j + 1) < W - j; omega⟩
    · (conv => whnf)
      refine CondK.no' (decide_eq_false (by omega)) ?_
      repeat' ((conv => whnf); first | refine AppK.mk (by show (2 * (os.length + 1) + 512) * 16 ≤ 281474976710656; omega) (by omega) (.inr rfl) rfl (fun cap3 hcap3 => ?_) | fail)
      refine ⟨⟨(os ++ [t], cap3, N), by show (os ++ [t]).length ≤ H; simp; omega, by show (os ++ [t]).length ≤ cap3; simpa using hcap3, fun p hp => ?_, hl⟩, 3, ⟨⟨rfl, rfl, congrArg (fun t => some (PV.s 3 t cap3 1)) (by simp), look_int ((i64_succ (by omega)).trans (by simp)), trivial⟩, ⟨congrArg some (by rw [List.map_append]; rfl), rfl, trivial⟩, rfl, rfl⟩, rfl, by show H - (os ++ [t]).length < H - os.length; simp; omega⟩
      rcases List.mem_append.mp hp with h | h
      · exact ho2 p h
      · rw [List.mem_singleton.mp h]; exact ht
  · have he : os.length = H := by omega
    (conv => whnf)
    refine CondK.no' (decide_eq_false (by omega)) ?_
    (conv => whnf)
    exact RetK.fr fun g M' hl2 hg => ⟨os, _, cap, rfl, he, ho2, slStrsW hcap (by omega) (fun x hx => by rw [ho2 x hx]; omega) (fun o u hu => by
      rw [addr0]
      refine sub_of ((hg 1 _ rfl).2 o u hu) ?_
      cases hm : M ⟨g 1, o, none⟩ with
      | none => rfl
      | some v => exact absurd rfl ((hg 1 _ rfl).1 _ _ (hl _ _ hm)))⟩
theorem intUp {M M' : Mem} {A : Option Addr} {c : Nat} {ns : List Int} (h : SlR M RInt 1 8 A c ns) (hl : Le M M') : SlR M' RInt 1 8 A c ns := h.mono hl (fun _ _ h => h)
theorem strUp {M M' : Mem} {A : Option Addr} {c : Nat} {ns : List ByteArray} (h : SlR M RStr 1 16 A c ns) (hl : Le M M') : SlR M' RStr 1 16 A c ns := h.mono hl (fun _ _ h => h)
theorem callCode {P : Program} {wr : Bool} {base M : Mem} {f : FuncId} {args : Array Value} {K : Value → Mem → Prop} {h w : Int} {len : Nat} (hc : AnsR P M f args (fun M' v => ∃ (ns : List Int) (A : Option Addr) (cap : Nat), v = .agg #[.int .i64 h, .int .i64 w, .slice A ns.length cap] ∧ ns.length = len ∧ SlR M' RInt 1 8 A cap ns)) (k : ∀ ns A cap M', ns.length = len → SlR M' RInt 1 8 A cap ns → Le M M' → K (.agg #[.int .i64 h, .int .i64 w, .slice A ns.length cap]) M') : CallK P wr base M f args K :=
  CallK.mr _ hc fun v M' hl hv => by obtain ⟨ns, A, cap, rfl, h1, h2⟩ := hv; exact k ns A cap M' h1 h2 hl
theorem callData {P : Program} {wr : Bool} {base M : Mem} {f : FuncId} {args : Array Value} {K : Value → Mem → Prop} {len : Int} (hc : AnsR P M f args (fun M' v => ∃ (ps : List ByteArray) (A : Option Addr) (cap sz : Nat), v = .slice A ps.length cap ∧ (ps.length : Int) = len ∧ sz ≤ 1000 ∧ (∀ p ∈ ps, p.size = sz) ∧ SlR M' RStr 1 16 A cap ps)) (k : ∀ (ps : List ByteArray) A cap sz M', (ps.length : Int) = len → sz ≤ 1000 → (∀ p ∈ ps, p.size = sz) → SlR M' RStr 1 16 A cap ps → Le M M' → K (.slice A ps.length cap) M') : CallK P wr base M f args K :=
  CallK.mr _ hc fun v M' hl hv => by obtain ⟨ps, A, cap, sz, rfl, h1, h2, h3, h4⟩ := hv; exact k ps A cap sz M' h1 h2 h3 h4 hl
theorem callPcs {P : Program} {wr : Bool} {base M : Mem} {f : FuncId} {args : Array Value} {K : Value → Mem → Prop} {len sz : Nat} (hc : AnsR P M f args (fun M' v => ∃ (os : List ByteArray) (A' : Option Addr) (cap : Nat), v = .slice A' os.length cap ∧ os.length = len ∧ (∀ p ∈ os, p.size = sz) ∧ SlR (sub M' M) RStr 1 16 A' cap os)) (k : ∀ (ps : List ByteArray) A cap M', ps.length = len → (∀ p ∈ ps, p.size = sz) → SlR (sub M' M) RStr 1 16 A cap ps → Le M M' → K (.slice A ps.length cap) M') : CallK P wr base M f args K :=
  CallK.mr _ hc fun v M' hl hv => by obtain ⟨ps, A, cap, rfl, h1, h2, h3⟩ := hv; exact k ps A cap M' h1 h2 h3 hl
theorem l04Shards_r (M : Mem) (K m : Int) (s : ByteArray) (h1 : 1 ≤ K) (h3 : K ≤ 3) (h0 : 0 ≤ m) (h2 : m ≤ 2) (hn : s.size ≤ 1000) : AnsR Tryz.prog M 129 #[.agg #[.int .i64 K, .int .i64 m], .string s] (fun M' v => ∃ (ps : List ByteArray) (A : Option Addr) (cap : Nat), v = .slice A ps.length cap ∧ (ps.length : Int) = K + m ∧ (∀ p ∈ ps, p.size ≤ 1000) ∧ SlR (sub M' M) RStr 1 16 A cap ps) := by
  refine ansR_of T (l := [.agg #[.int .i64 K, .int .i64 m], .string s]) mixed Tryz.func129 rfl (by kernel_rfl) (Nat.le_of_ble_eq_true rfl) ?_
  obtain ⟨k, rfl⟩ : ∃ k : Nat, K = (k : Int) := ⟨K.toNat, by omega⟩
  obtain ⟨q, rfl⟩ : ∃ q : Nat, m = (q : Int) := ⟨m.toNat, by omega⟩
  (conv => whnf)
  refine DrawN.h {z : List ByteArray × Option Addr × Nat × Mem // (z.1.length : Int) = (k : Int) + (q : Int) ∧ (∀ p ∈ z.1, p.size ≤ 1000) ∧ SlR (sub z.2.2.2 M) RStr 1 16 z.2.1 z.2.2.1 z.1} (fun ⟨⟨ps, A, cap, N⟩, _⟩ => [(4, .v (.slice A ps.length cap))]) (fun _ => []) 9 (fun ⟨⟨ps, A, cap, N⟩, _⟩ => N) (by kernel_rfl) ?_ ?_
  · repeat' ((conv => whnf); first | refine AndK.mk ?_ ?_ | refine HeldK.mk (by kernel_rfl) ?_ | refine callCode (l03Code_r _ k q (by omega) (by omega) (by omega)) (fun ns A1 cap1 N1 hn1 hs1 hl1 => ?_) | refine callData (l04Data_r _ (k : Int) (q : Int) s h1 h3 hn) (fun ps A2 cap2 sz N2 hp1 hp2 hp3 hs2 hl2 => ?_) | refine callPcs (l03Pieces_r _ (k + q) k (by omega) (by omega) (by omega) ns A1 cap1 (intUp hs1 (by first | exact hl2 | exact fun _ _ h => h)) hn1 ps A2 cap2 sz (strUp hs2 (by first | exact hl1 | exact fun _ _ h => h)) (by omega) hp2 hp3) (fun os A3 cap3 N3 ho1 ho2 hs3 hl3 => ?_) | fail)
    all_goals exact ⟨⟨(os, A3, cap3, N3), by show (os.length : Int) = _; omega, fun p hp => by rw [ho2 p hp]; exact hp2, strUp hs3 (sub_anti _ (hl1.trans hl2))⟩, ⟨⟨rfl, trivial⟩, trivial, rfl, rfl⟩, rfl⟩
  · rintro ⟨⟨ps, A, cap, N⟩, hp1, hp2, hs⟩
    (conv => whnf)
    exact RetK.mk fun g M' hl _ => ⟨ps, A, cap, rfl, hp1, hp2, strUp hs (sub_mono M hl)⟩
end Go.Proofs.YtefhbbmklpnpoaaGreat.Hlp
