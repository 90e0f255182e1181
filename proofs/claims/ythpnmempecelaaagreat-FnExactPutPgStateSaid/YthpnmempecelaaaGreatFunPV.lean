/- Numbers and texts in bytes, by the light walk. -/
import Derived.Test.YthpnmempecelaaaGreatFunA
namespace Go.Proofs.YthpnmempecelaaaGreat.Hlp
open Go Go.RowKit Go.Proofs Go.Proofs.YthpnmempecelaaaGreat.Lw
set_option linter.unusedVariables false
set_option linter.unusedSimpArgs false
set_option maxRecDepth 100000
set_option maxHeartbeats 4000000
def vI (n : Nat) : List Int := if h : n < 128 then [(n : Int)] else ((n % 128 + 128 : Nat) : Int) :: vI (n / 128)
termination_by n
decreasing_by omega
theorem vI_lt {n : Nat} (h : n < 128) : vI n = [(n : Int)] := by rw [vI]; simp [h]
theorem vI_ge {n : Nat} (h : 128 ≤ n) : vI n = ((n % 128 + 128 : Nat) : Int) :: vI (n / 128) := by rw [vI]; simp [show ¬ n < 128 by omega]
theorem vI_len : ∀ (k n : Nat), n < 128 ^ (k + 1) → (vI n).length ≤ k + 1
  | 0, n, h => by rw [vI_lt (by simpa using h)]; simp
  | k + 1, n, h => by
    by_cases hn : n < 128
    · rw [vI_lt hn]; simp
    · rw [vI_ge (by omega)]
      have := vI_len k (n / 128) (by rw [Nat.div_lt_iff_lt_mul (by decide)]; rw [Nat.pow_succ] at h; exact h)
      simp only [List.length_cons]
      omega
theorem vI_9 {n : Nat} (h : n ≤ 4611686018427387904) : (vI n).length ≤ 9 := vI_len 8 n (by omega)
def strI (ns : List Int) : ByteArray := ns.foldl (fun r n => r.push (UInt8.ofNat n.toNat)) ByteArray.empty
theorem strI_size (ns : List Int) : (strI ns).size = ns.length := by
  have : ∀ (ns : List Int) (r : ByteArray), (ns.foldl (fun r n => r.push (UInt8.ofNat n.toNat)) r).size = r.size + ns.length := by
    intro ns
    induction ns with
    | nil => intro r; simp
    | cons x t ih => intro r; simp only [List.foldl_cons, List.length_cons]; rw [ih, ByteArray.size_push]; omega
  unfold strI
  rw [this]
  simp
def varS (n : Int) : ByteArray := if inR n 0 4611686018427387904 = true then strI (vI n.toNat) else ⟨#[]⟩
theorem varS_size (n : Int) : (varS n).size ≤ 9 := by
  unfold varS
  split
  · rename_i h
    have hx : 0 ≤ n ∧ n ≤ 4611686018427387904 := by
      unfold inR at h
      simpa using h
    rw [strI_size]
    exact vI_9 (by omega)
  · show 0 ≤ 9
    omega
def rowV (ns : List Int) (cap : Nat) : PV := match ns with | [] => .v (.slice none 0 0) | x :: r => .s 0 (r.length + 1) cap 1
def rowV2 (ns : List Int) (cap : Nat) : PV := match ns with | [] => .v (.slice none 0 0) | x :: r => .s 2 (r.length + 1) cap 1
def rowX (ns : List Int) : Bx := match ns with | [] => [] | x :: r => [(0, (x :: r).map (Value.int .u8))]
def cI (ns : List Int) : List Value := ns.map (Value.int .u8)
theorem cI_one (ns : List Int) : allOne (cI ns) = true := by
  unfold cI
  induction ns with
  | nil => rfl
  | cons x r ih => simp only [List.map_cons, allOne, Bool.and_eq_true]; exact ⟨rfl, ih⟩
theorem u8_id {x : Int} (h0 : 0 ≤ x) (h1 : x ≤ 255) : IntKind.u8.wrap x = x := by
  unfold IntKind.wrap
  simp only [IntKind.bits, IntKind.signed]
  simp only [Bool.false_and, Bool.false_eq_true, if_false]
  omega
theorem l01Var_a (M : Mem) (n0 : Nat) (h0 : n0 ≤ 4611686018427387904) : Ans Tryz.prog M 80 #[.int .i64 (n0 : Int)] (.string (strI (vI n0))) := by
  refine ans_of T (l := [.int .i64 (n0 : Int)]) mixed Tryz.func80 rfl (by kernel_rfl) (Nat.le_of_ble_eq_true rfl) ?_
  (conv => whnf)
  refine LoopK.sw 0 1 {q : Nat × List Int × Nat // q.1 ≤ 4611686018427387904 ∧ q.2.1 ++ vI q.1 = vI n0 ∧ q.2.1.length ≤ q.2.2} (fun ⟨⟨n, ns, cap⟩, _⟩ => [(0, .v (.int .i64 (n : Int))), (3, .s 0 ns.length cap 1)]) (fun ⟨⟨n, ns, cap⟩, _⟩ => [(0, cI ns)]) (fun _ => M) (fun q => q.1.1) ⟨(n0, [], 0), h0, rfl, Nat.le_refl _⟩ 0 ⟨⟨⟨rfl, rfl, trivial⟩, ⟨rfl, trivial⟩, rfl, rfl⟩, rfl⟩ ?_
  rintro ⟨⟨n, ns, cap⟩, hn, he, hc⟩
  replace hn : n ≤ 4611686018427387904 := hn
  replace he : ns ++ vI n = vI n0 := he
  replace hc : ns.length ≤ cap := hc
  have hl : ns.length ≤ 9 := by have := vI_9 h0; rw [← he, List.length_append] at this; omega
  (conv => whnf)
  by_cases hg : 127 < n
  · refine CondK.yes' (decide_eq_true (by omega)) ?_
    (conv => whnf)
    have e1 : IntKind.u8.wrap (IntKind.i64.wrap (128 + (n : Int).tmod 128)) = ((n % 128 + 128 : Nat) : Int) := by
      rw [show (n : Int).tmod 128 = ((n % 128 : Nat) : Int) from rfl, i64_in (by omega) (by omega), u8_id (by omega) (by omega)]
      omega
    have e2 : IntKind.i64.wrap ((n : Int).tdiv 128) = ((n / 128 : Nat) : Int) := by
      rw [show (n : Int).tdiv 128 = ((n / 128 : Nat) : Int) from rfl, i64_in (by omega) (by omega)]
    repeat' ((conv => whnf); first | refine DivK.mk (by omega) ?_ | refine AppK.mk (by show (2 * (ns.length + 1) + 512) * 1 ≤ 281474976710656; omega) (by omega) (.inl (by omega)) rfl (fun cap' hcap' => ?_) | fail)
    refine ⟨⟨(n / 128, ns ++ [((n % 128 + 128 : Nat) : Int)], cap'), by show n / 128 ≤ _; omega, by show (ns ++ [_]) ++ vI (n / 128) = _; rw [List.append_assoc, List.singleton_append, ← vI_ge (by omega)]; exact he, by show (ns ++ [_]).length ≤ cap'; simpa using hcap'⟩, 2, ⟨⟨look_int e2, congrArg (fun t => some (PV.s 2 t cap' 1)) (by simp), trivial⟩, ⟨?_, trivial⟩, rfl, rfl⟩, rfl, by show n / 128 < n; omega⟩
    show some (cI ns ++ [Value.int .u8 (IntKind.u8.wrap (IntKind.i64.wrap (128 + (n : Int).tmod 128)))]) = some (cI (ns ++ [((n % 128 + 128 : Nat) : Int)]))
    rw [e1]
    simp [cI]
  · refine CondK.no' (decide_eq_false (by omega)) ?_
    have e1 : IntKind.u8.wrap (n : Int) = (n : Int) := u8_id (by omega) (by omega)
    have hv : vI n0 = ns ++ [(n : Int)] := by rw [← he, vI_lt (by omega)]
    repeat' ((conv => whnf); first | refine AppK.mk (by show (2 * (ns.length + 1) + 512) * 1 ≤ 281474976710656; omega) (by omega) (.inl (by omega)) rfl (fun cap' hcap' => ?_) | fail)
    (conv => whnf)
    refine StrK.mk (ns ++ [(n : Int)]) (by rw [e1, show cI ns ++ [Value.int .u8 (n : Int)] = (ns ++ [(n : Int)]).map (Value.int .u8) by simp [cI]]; exact bytesL_map _) ?_
    (conv => whnf)
    rw [hv]
    exact rfl
theorem putVar_a (M : Mem) (x : Int) : Ans Tryz.prog M 93 #[.int .i64 x] (.string (varS x)) := by
  refine ans_of T (l := [.int .i64 x]) mixed Tryz.func93 rfl (by kernel_rfl) (Nat.le_of_ble_eq_true rfl) ?_
  have g1 := between_a M x 0 4611686018427387904
  unfold varS
  cases q : inR x 0 4611686018427387904 with
  | false =>
    rw [q] at g1
    repeat' ((conv => whnf); first | with_reducible refine CondK.tt ?_ | with_reducible refine CondK.ff ?_ | refine CallK.mk _ g1 ?_ | fail)
    (conv => whnf)
    exact rfl
  | true =>
    rw [q] at g1
    rw [if_pos rfl]
    have hx : 0 ≤ x ∧ x ≤ 4611686018427387904 := by
      unfold inR at q
      simpa using q
    obtain ⟨n0, rfl⟩ : ∃ n0 : Nat, x = (n0 : Int) := ⟨x.toNat, by omega⟩
    have h0 : n0 ≤ 4611686018427387904 := by omega
    rw [Int.toNat_natCast]
    repeat' ((conv => whnf); first | with_reducible refine CondK.tt ?_ | with_reducible refine CondK.ff ?_ | refine CallK.mk _ g1 ?_ | fail)
    (conv => whnf)
    refine LoopK.sw 0 1 {q : Nat × List Int × Nat // q.1 ≤ 4611686018427387904 ∧ q.2.1 ++ vI q.1 = vI n0 ∧ q.2.1.length ≤ q.2.2} (fun ⟨⟨n, ns, cap⟩, _⟩ => [(0, .v (.int .i64 (n : Int))), (3, rowV ns cap)]) (fun ⟨⟨n, ns, cap⟩, _⟩ => rowX ns) (fun _ => M) (fun q => q.1.1) ⟨(n0, [], 0), h0, rfl, Nat.le_refl _⟩ 0 ⟨⟨⟨rfl, rfl, trivial⟩, trivial, rfl, rfl⟩, rfl⟩ ?_
    rintro ⟨⟨n, ns, cap⟩, hn, he, hc⟩
    replace hn : n ≤ 4611686018427387904 := hn
    replace he : ns ++ vI n = vI n0 := he
    replace hc : ns.length ≤ cap := hc
    have hl : ns.length ≤ 9 := by have := vI_9 h0; rw [← he, List.length_append] at this; omega
    by_cases hg : 128 ≤ n
    · have e1 : IntKind.u8.wrap (IntKind.i64.wrap ((n : Int).tmod 128 + 128)) = ((n % 128 + 128 : Nat) : Int) := by
        rw [show (n : Int).tmod 128 = ((n % 128 : Nat) : Int) from rfl, i64_in (by omega) (by omega), u8_id (by omega) (by omega)]
        omega
      have e2 : IntKind.i64.wrap ((n : Int).tdiv 128) = ((n / 128 : Nat) : Int) := by
        rw [show (n : Int).tdiv 128 = ((n / 128 : Nat) : Int) from rfl, i64_in (by omega) (by omega)]
      cases ns with
      | nil =>
        repeat' ((conv => whnf); first | refine CondK.yes' (decide_eq_true (by omega)) ?_ | refine DivK.mk (by omega) ?_ | refine AppK.mk (by show (2 * (0 + 1) + 512) * 1 ≤ 281474976710656; omega) (by omega) (.inl (by omega)) rfl (fun cap' hcap' => ?_) | fail)
        refine ⟨⟨(n / 128, [((n % 128 + 128 : Nat) : Int)], cap'), by show n / 128 ≤ _; omega, by show [_] ++ vI (n / 128) = _; rw [List.singleton_append, ← vI_ge (by omega)]; exact he, by show 1 ≤ cap'; omega⟩, 2, ⟨⟨look_int e2, rfl, trivial⟩, ⟨?_, trivial⟩, rfl, rfl⟩, rfl, by show n / 128 < n; omega⟩
        show some ([] ++ [Value.int .u8 (IntKind.u8.wrap (IntKind.i64.wrap ((n : Int).tmod 128 + 128)))]) = some ([((n % 128 + 128 : Nat) : Int)].map (Value.int .u8))
        rw [e1]
        rfl
      | cons y r =>
        repeat' ((conv => whnf); first | refine CondK.yes' (decide_eq_true (by omega)) ?_ | refine DivK.mk (by omega) ?_ | refine AppK.mk (by show (2 * (r.length + 1 + 1) + 512) * 1 ≤ 281474976710656; simp at hl; omega) (by simp at hl; omega) (.inl (by omega)) rfl (fun cap' hcap' => ?_) | fail)
        refine ⟨⟨(n / 128, (y :: r) ++ [((n % 128 + 128 : Nat) : Int)], cap'), by show n / 128 ≤ _; omega, by show ((y :: r) ++ [_]) ++ vI (n / 128) = _; rw [List.append_assoc, List.singleton_append, ← vI_ge (by omega)]; exact he, by show ((y :: r) ++ [_]).length ≤ cap'; simpa using hcap'⟩, 2, ⟨⟨look_int e2, congrArg (fun t => some (PV.s 2 t cap' 1)) (by simp), trivial⟩, ⟨?_, trivial⟩, rfl, rfl⟩, rfl, by show n / 128 < n; omega⟩
        show some ((y :: r).map (Value.int .u8) ++ [Value.int .u8 (IntKind.u8.wrap (IntKind.i64.wrap ((n : Int).tmod 128 + 128)))]) = some (((y :: r) ++ [((n % 128 + 128 : Nat) : Int)]).map (Value.int .u8))
        rw [e1]
        simp
    · have e1 : IntKind.u8.wrap (n : Int) = (n : Int) := u8_id (by omega) (by omega)
      have hv : vI n0 = ns ++ [(n : Int)] := by rw [← he, vI_lt (by omega)]
      cases ns with
      | nil =>
        repeat' ((conv => whnf); first | refine CondK.no' (decide_eq_false (by omega)) ?_ | refine AppK.mk (by show (2 * (0 + 1) + 512) * 1 ≤ 281474976710656; omega) (by omega) (.inl (by omega)) rfl (fun cap' hcap' => ?_) | fail)
        (conv => whnf)
        refine StrK.mk [(n : Int)] (by rw [e1]; exact bytesL_map [(n : Int)]) ?_
        (conv => whnf)
        rw [hv]
        exact rfl
      | cons y r =>
        repeat' ((conv => whnf); first | refine CondK.no' (decide_eq_false (by omega)) ?_ | refine AppK.mk (by show (2 * (r.length + 1 + 1) + 512) * 1 ≤ 281474976710656; simp at hl; omega) (by simp at hl; omega) (.inl (by omega)) rfl (fun cap' hcap' => ?_) | fail)
        (conv => whnf)
        refine StrK.mk ((y :: r) ++ [(n : Int)]) (by rw [e1, show (y :: r).map (Value.int .u8) ++ [Value.int .u8 (n : Int)] = ((y :: r) ++ [(n : Int)]).map (Value.int .u8) by simp]; exact bytesL_map _) ?_
        (conv => whnf)
        rw [hv]
        exact rfl
theorem sPutVar_a (M : Mem) (x : Int) : Ans Tryz.prog M 41 #[.int .i64 x] (.string (varS x)) := by
  refine ans_of T (l := [.int .i64 x]) mixed Tryz.func41 rfl (by kernel_rfl) (Nat.le_of_ble_eq_true rfl) ?_
  have g1 := l00In_a M x 0 4611686018427387904
  unfold varS
  cases q : inR x 0 4611686018427387904 with
  | false =>
    rw [q] at g1
    repeat' ((conv => whnf); first | with_reducible refine CondK.tt ?_ | with_reducible refine CondK.ff ?_ | refine CallK.mk _ g1 ?_ | fail)
    (conv => whnf)
    exact rfl
  | true =>
    rw [q] at g1
    rw [if_pos rfl]
    have hx : 0 ≤ x ∧ x ≤ 4611686018427387904 := by
      unfold inR at q
      simpa using q
    obtain ⟨n0, rfl⟩ : ∃ n0 : Nat, x = (n0 : Int) := ⟨x.toNat, by omega⟩
    have h0 : n0 ≤ 4611686018427387904 := by omega
    rw [Int.toNat_natCast]
    repeat' ((conv => whnf); first | with_reducible refine CondK.tt ?_ | with_reducible refine CondK.ff ?_ | refine CallK.mk _ g1 ?_ | refine CallK.mk _ (l01Var_a M n0 h0) ?_ | fail)
    (conv => whnf)
    exact rfl
def txtS (s : ByteArray) : ByteArray := varS (s.size : Int) ++ s
theorem putText_a (M : Mem) (s : ByteArray) (hs : s.size ≤ 9223372036854775000) : Ans Tryz.prog M 95 #[.string s] (.string (txtS s)) := by
  refine ans_of T (l := [.string s]) mixed Tryz.func95 rfl (by kernel_rfl) (Nat.le_of_ble_eq_true rfl) ?_
  have h9 := varS_size (s.size : Int)
  repeat' ((conv => whnf); first | refine CallK.mk _ (putVar_a M _) ?_ | refine Owe.mk (by omega) ?_ | fail)
  (conv => whnf)
  exact rfl
theorem l01Text_a (M : Mem) (s : ByteArray) (hs : s.size ≤ 1152921504606846976) : Ans Tryz.prog M 81 #[.string s] (.string (txtS s)) := by
  refine ans_of T (l := [.string s]) mixed Tryz.func81 rfl (by kernel_rfl) (Nat.le_of_ble_eq_true rfl) ?_
  have h9 := varS_size (s.size : Int)
  have e : varS (s.size : Int) = strI (vI s.size) := by
    unfold varS
    rw [if_pos (by unfold inR; simp; omega), Int.toNat_natCast]
  rw [show txtS s = strI (vI s.size) ++ s by unfold txtS; rw [e]]
  rw [e] at h9
  repeat' ((conv => whnf); first | refine CallK.mk _ (l01Var_a M s.size (by omega)) ?_ | refine Owe.mk (by omega) ?_ | fail)
  (conv => whnf)
  exact rfl
theorem sPutText_a (M : Mem) (s : ByteArray) (hs : s.size ≤ 1152921504606846976) : Ans Tryz.prog M 43 #[.string s] (.string (txtS s)) := by
  refine ans_of T (l := [.string s]) mixed Tryz.func43 rfl (by kernel_rfl) (Nat.le_of_ble_eq_true rfl) ?_
  repeat' ((conv => whnf); first | refine CallK.mk _ (l01Text_a M s hs) ?_ | fail)
  (conv => whnf)
  exact rfl
end Go.Proofs.YthpnmempecelaaaGreat.Hlp
