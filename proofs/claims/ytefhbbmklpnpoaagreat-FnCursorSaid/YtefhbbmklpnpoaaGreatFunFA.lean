/- Field arithmetic, shards: something of its kind comes out. -/
import Derived.Test.YtefhbbmklpnpoaaGreatFunGA
namespace Go.Proofs.YtefhbbmklpnpoaaGreat.Hlp
open Go Go.RowKit Go.Proofs Go.Proofs.YtefhbbmklpnpoaaGreat.Lw
set_option linter.unusedVariables false
set_option linter.unusedSimpArgs false
set_option maxRecDepth 100000
set_option maxHeartbeats 4000000
def xorI (a b : Int) : Int := IntKind.i64.wrap ((BitVec.ofInt IntKind.i64.bits a ^^^ BitVec.ofInt IntKind.i64.bits b).toNat : Int)
def andI (a b : Int) : Int := IntKind.i64.wrap ((BitVec.ofInt IntKind.i64.bits a &&& BitVec.ofInt IntKind.i64.bits b).toNat : Int)
def shlI (a : Int) : Int := IntKind.i64.wrap (a * 2 ^ min (Int.toNat 1) IntKind.i64.bits)
def shrI (a : Int) : Int := a.fdiv (2 ^ min (Int.toNat 1) IntKind.i64.bits)
def tmA (a : Int) : Int := if decide (shlI a > 255) = true then xorI (shlI a) 285 else shlI a
def tmN (a b n : Int) : Int := if (andI b 1 != 0) = true then xorI n a else n
def timesN : Nat → Int → Int → Int → Int
  | 0, a, b, n => n
  | k + 1, a, b, n => timesN k (tmA a) (shrI b) (tmN a b n)
def timesF (a b : Int) : Int := timesN 8 a b 0
theorem l02Times_a (M : Mem) (a b : Int) : Ans Tryz.prog M 156 #[.int .i64 a, .int .i64 b] (.int .i64 (timesF a b)) := by
  refine ans_of T (l := [.int .i64 a, .int .i64 b]) mixed Tryz.func156 rfl (by kernel_rfl) (Nat.le_of_ble_eq_true rfl) ?_
  obtain ⟨r, hr⟩ : ∃ r, r = timesF a b := ⟨_, rfl⟩
  rw [← hr]
  (conv => whnf)
  refine LoopK.mk {q : Nat × Int × Int × Int // q.1 ≤ 8 ∧ timesN (8 - q.1) q.2.1 q.2.2.1 q.2.2.2 = r} (fun ⟨⟨k, a, b, n⟩, _⟩ => [(0, .v (.int .i64 a)), (1, .v (.int .i64 b)), (5, .v (.int .i64 n)), (6, .v (.int .i64 (k : Int)))]) (fun _ => []) (fun _ => M) (fun q => 8 - q.1.1) ⟨(0, a, b, 0), Nat.zero_le _, hr.symm⟩ ⟨⟨⟨rfl, rfl, rfl, rfl, trivial⟩, trivial, rfl, rfl⟩, rfl⟩ ?_
  clear hr
  rintro ⟨⟨k, a, b, n⟩, hk, hn⟩
  replace hk : k ≤ 8 := hk
  replace hn : timesN (8 - k) a b n = r := hn
  by_cases hlt : k < 8
  · rw [show 8 - k = (8 - (k + 1)) + 1 by omega] at hn
    replace hn : timesN (8 - (k + 1)) (tmA a) (shrI b) (tmN a b n) = r := hn
    have e : ∀ a' n', tmA a = a' → tmN a b n = n' → timesN (8 - (k + 1)) a' (shrI b) n' = r := fun a' n' h1 h2 => by rw [← h1, ← h2]; exact hn
    clear hn
    (conv => whnf)
    refine CondK.yes' (decide_eq_true (by omega)) ?_
    repeat' ((conv => whnf); first | refine CondK.mk (fun h1 => ?_) (fun h1 => ?_) | fail)
    · rename_i h0
      exact ⟨⟨(k + 1, _, _, _), hlt, e _ _ (if_pos h1) (if_pos h0)⟩, ⟨⟨rfl, rfl, rfl, look_int (i64_succ (by omega)), trivial⟩, trivial, rfl, rfl⟩, rfl, by show 8 - (k + 1) < 8 - k; omega⟩
    · rename_i h0
      exact ⟨⟨(k + 1, _, _, _), hlt, e _ _ (if_neg (fun h => by rw [show decide (shlI a > 255) = false from h1] at h; cases h)) (if_pos h0)⟩, ⟨⟨rfl, rfl, rfl, look_int (i64_succ (by omega)), trivial⟩, trivial, rfl, rfl⟩, rfl, by show 8 - (k + 1) < 8 - k; omega⟩
    · rename_i h0
      exact ⟨⟨(k + 1, _, _, _), hlt, e _ _ (if_pos h1) (if_neg (fun h => by rw [show (andI b 1 != 0) = false from h0] at h; cases h))⟩, ⟨⟨rfl, rfl, rfl, look_int (i64_succ (by omega)), trivial⟩, trivial, rfl, rfl⟩, rfl, by show 8 - (k + 1) < 8 - k; omega⟩
    · rename_i h0
      exact ⟨⟨(k + 1, _, _, _), hlt, e _ _ (if_neg (fun h => by rw [show decide (shlI a > 255) = false from h1] at h; cases h)) (if_neg (fun h => by rw [show (andI b 1 != 0) = false from h0] at h; cases h))⟩, ⟨⟨rfl, rfl, rfl, look_int (i64_succ (by omega)), trivial⟩, trivial, rfl, rfl⟩, rfl, by show 8 - (k + 1) < 8 - k; omega⟩
  · have : k = 8 := by omega
    subst this
    (conv => whnf)
    exact ret_int hn
def powN : Nat → Int → Int → Int → Int
  | 0, a, n, out => out
  | k + 1, a, n, out => powN k (timesF a a) (IntKind.i64.wrap (n.tdiv 2)) (if (n.tmod 2 == 1) = true then timesF out a else out)
def powK (n : Int) : Nat := if n ≤ 0 then 0 else Nat.log2 n.toNat + 1
theorem powK_step {n : Int} (h0 : 0 < n) (h1 : n ≤ 1000) : powK n = powK (n.tdiv 2) + 1 ∧ n.tdiv 2 < n ∧ 0 ≤ n.tdiv 2 := by
  obtain ⟨m, rfl⟩ : ∃ m : Nat, n = (m : Int) := ⟨n.toNat, by omega⟩
  have ht : (m : Int).tdiv 2 = ((m / 2 : Nat) : Int) := rfl
  rw [ht]
  unfold powK
  rw [if_neg (by omega)]
  refine ⟨?_, by omega, by omega⟩
  rw [Int.toNat_natCast, Int.toNat_natCast]
  by_cases h : m = 1
  · subst h; rfl
  · rw [if_neg (by omega)]
    rw [Nat.log2_def, if_pos (by omega)]
def powF (a n : Int) : Int := powN (powK n) a n 1
theorem l02Pow_a (M : Mem) (a n : Int) (hn0 : 0 ≤ n) (hn1 : n ≤ 1000) : Ans Tryz.prog M 164 #[.int .i64 a, .int .i64 n] (.int .i64 (powF a n)) := by
  refine ans_of T (l := [.int .i64 a, .int .i64 n]) mixed Tryz.func164 rfl (by kernel_rfl) (Nat.le_of_ble_eq_true rfl) ?_
  obtain ⟨r, hr⟩ : ∃ r, r = powF a n := ⟨_, rfl⟩
  rw [← hr]
  (conv => whnf)
  refine LoopK.mk {q : Int × Int × Int // (0 ≤ q.2.1 ∧ q.2.1 ≤ 1000) ∧ powN (powK q.2.1) q.1 q.2.1 q.2.2 = r} (fun ⟨⟨a, n, o⟩, _⟩ => [(0, .v (.int .i64 a)), (1, .v (.int .i64 n)), (5, .v (.int .i64 o))]) (fun _ => []) (fun _ => M) (fun q => q.1.2.1.toNat) ⟨(a, n, 1), ⟨hn0, hn1⟩, hr.symm⟩ ⟨⟨⟨rfl, rfl, rfl, trivial⟩, trivial, rfl, rfl⟩, rfl⟩ ?_
  clear hr hn0 hn1
  rintro ⟨⟨a, n, o⟩, ⟨h0, h1⟩, hn⟩
  replace h0 : 0 ≤ n := h0
  replace h1 : n ≤ 1000 := h1
  replace hn : powN (powK n) a n o = r := hn
  by_cases hlt : 0 < n
  · obtain ⟨hs, hl1, hl2⟩ := powK_step hlt h1
    have hw : IntKind.i64.wrap (n.tdiv 2) = n.tdiv 2 := i64_id (by omega) (by omega)
    rw [hs] at hn
    replace hn : powN (powK (n.tdiv 2)) (timesF a a) (IntKind.i64.wrap (n.tdiv 2)) (if (n.tmod 2 == 1) = true then timesF o a else o) = r := hn
    rw [hw] at hn
    have e : ∀ o', (if (n.tmod 2 == 1) = true then timesF o a else o) = o' → powN (powK (n.tdiv 2)) (timesF a a) (n.tdiv 2) o' = r := fun o' h2 => by rw [← h2]; exact hn
    clear hn
    repeat' ((conv => whnf); first | refine CondK.yes' (show decide (n > 0) = true from decide_eq_true hlt) ?_ | refine DivK.mk (by decide) ?_ | refine CallK.mk _ (l02Times_a _ _ _) ?_ | refine CondK.mk (fun hq => ?_) (fun hq => ?_) | fail)
    · skip
      exact ⟨⟨(_, n.tdiv 2, _), ⟨hl2, by show n.tdiv 2 ≤ 1000; omega⟩, e _ (if_pos hq)⟩, ⟨⟨rfl, look_int hw, rfl, trivial⟩, trivial, rfl, rfl⟩, rfl, by show (n.tdiv 2).toNat < n.toNat; omega⟩
    · skip
      exact ⟨⟨(_, n.tdiv 2, _), ⟨hl2, by show n.tdiv 2 ≤ 1000; omega⟩, e _ (if_neg (fun h => by rw [show (n.tmod 2 == 1) = false from hq] at h; cases h))⟩, ⟨⟨rfl, look_int hw, rfl, trivial⟩, trivial, rfl, rfl⟩, rfl, by show (n.tdiv 2).toNat < n.toNat; omega⟩
  · have : n = 0 := by omega
    subst this
    (conv => whnf)
    exact ret_int hn
theorem l02Inv_a (M : Mem) (a : Int) : Ans Tryz.prog M 157 #[.int .i64 a] (.int .i64 (powF a 254)) := by
  refine ans_of T (l := [.int .i64 a]) mixed Tryz.func157 rfl (by kernel_rfl) (Nat.le_of_ble_eq_true rfl) ?_
  repeat' ((conv => whnf); first | refine CallK.mk _ (l02Pow_a _ a 254 (by decide) (by decide)) ?_ | fail)
  rfl
theorem l02Scale_r (M : Mem) (a : Int) (s : ByteArray) (hs : s.size ≤ 100000) : AnsR Tryz.prog M 153 #[.int .i64 a, .string s] (fun _ v => ∃ t : ByteArray, v = .string t ∧ t.size = s.size) := by
  refine ansR_of T (l := [.int .i64 a, .string s]) mixed Tryz.func153 rfl (by kernel_rfl) (Nat.le_of_ble_eq_true rfl) ?_
  (conv => whnf)
  refine LoopK.sw 0 1 {q : Nat × List Int × Nat // q.1 ≤ s.size ∧ q.2.1.length = q.1 ∧ q.2.1.length ≤ q.2.2} (fun ⟨⟨k, ns, cap⟩, _⟩ => [(0, .v (.int .i64 a)), (1, .v (.string s)), (5, .s 0 ns.length cap 1), (6, .v (.int .i64 (k : Int)))]) (fun ⟨⟨k, ns, cap⟩, _⟩ => [(0, ns.map (Value.int .u8))]) (fun _ => M) (fun q => s.size - q.1.1) ⟨(0, [], 0), Nat.zero_le _, rfl, Nat.le_refl _⟩ 0 ⟨⟨⟨rfl, rfl, rfl, rfl, trivial⟩, ⟨rfl, trivial⟩, rfl, rfl⟩, rfl⟩ ?_
  rintro ⟨⟨k, ns, cap⟩, hk, hn, hcap⟩
  replace hk : k ≤ s.size := hk
  replace hn : ns.length = k := hn
  replace hcap : ns.length ≤ cap := hcap
  by_cases hlt : k < s.size
  · repeat' ((conv => whnf); first | refine CondK.yes' (decide_eq_true (by omega)) ?_ | refine IdxS.mk (by omega) (by omega) ?_ | refine CallK.mk _ (l02Times_a _ _ _) ?_ | refine AppK.mk (by show (2 * (ns.length + 1) + 512) * 1 ≤ 281474976710656; omega) (by omega) (.inr rfl) rfl (fun cap3 hcap3 => ?_) | fail)
    refine ⟨⟨(k + 1, ns ++ [_], cap3), hlt, by show (ns ++ [_]).length = k + 1; simp [hn], by show (ns ++ [_]).length ≤ cap3; simpa using hcap3⟩, 2, ⟨⟨rfl, rfl, congrArg (fun t => some (PV.s 2 t cap3 1)) (by simp), look_int (i64_succ (by omega)), trivial⟩, ⟨congrArg some (by rw [List.map_append]; rfl), trivial⟩, rfl, rfl⟩, rfl, by show s.size - (k + 1) < s.size - k; omega⟩
  · repeat' ((conv => whnf); first | refine CondK.no' (decide_eq_false (by omega)) ?_ | refine StrK.mk ns (bytesL_map ns) ?_ | exact RetK.mk fun g M' hl2 hg => ⟨_, rfl, by show ByteArray.size _ = s.size; rw [bytes_size]; show 0 + ns.length = s.size; omega⟩ | fail)
theorem l02Sum_r (M : Mem) (s t : ByteArray) (hs : s.size ≤ 100000) (ht : s.size ≤ t.size) : AnsR Tryz.prog M 154 #[.string s, .string t] (fun _ v => ∃ r : ByteArray, v = .string r ∧ r.size = s.size) := by
  refine ansR_of T (l := [.string s, .string t]) mixed Tryz.func154 rfl (by kernel_rfl) (Nat.le_of_ble_eq_true rfl) ?_
  (conv => whnf)
  refine LoopK.sw 0 1 {q : Nat × List Int × Nat // q.1 ≤ s.size ∧ q.2.1.length = q.1 ∧ q.2.1.length ≤ q.2.2} (fun ⟨⟨k, ns, cap⟩, _⟩ => [(0, .v (.string s)), (1, .v (.string t)), (5, .s 0 ns.length cap 1), (6, .v (.int .i64 (k : Int)))]) (fun ⟨⟨k, ns, cap⟩, _⟩ => [(0, ns.map (Value.int .u8))]) (fun _ => M) (fun q => s.size - q.1.1) ⟨(0, [], 0), Nat.zero_le _, rfl, Nat.le_refl _⟩ 0 ⟨⟨⟨rfl, rfl, rfl, rfl, trivial⟩, ⟨rfl, trivial⟩, rfl, rfl⟩, rfl⟩ ?_
  rintro ⟨⟨k, ns, cap⟩, hk, hn, hcap⟩
  replace hk : k ≤ s.size := hk
  replace hn : ns.length = k := hn
  replace hcap : ns.length ≤ cap := hcap
  by_cases hlt : k < s.size
  · (conv => whnf)
    refine CondK.yes' (decide_eq_true (by omega)) ?_
    (conv => whnf)
    refine DrawN.w [0] {q : List Int × Nat // q.1.length = k + 1 ∧ k + 1 ≤ q.2} (fun ⟨⟨ns, cap⟩, _⟩ => [(0, .v (.string s)), (1, .v (.string t)), (5, .s 2 ns.length cap 1), (6, .v (.int .i64 (k : Int)))]) (fun ⟨⟨ns, cap⟩, _⟩ => [(2, ns.map (Value.int .u8))]) 3 (fun _ => M) (by kernel_rfl) ?_ ?_
    · repeat' ((conv => whnf); first | refine AndK.mk ?_ ?_ | refine HeldK.mk (by kernel_rfl) ?_ | refine IdxS.mk (by omega) (by omega) ?_ | refine AppK.mk (by show (2 * (ns.length + 1) + 512) * 1 ≤ 281474976710656; omega) (by omega) (.inr rfl) rfl (fun cap3 hcap3 => ?_) | fail)
      all_goals exact ⟨⟨(ns ++ [_], cap3), by show (ns ++ [_]).length = k + 1; simp [hn], by show k + 1 ≤ cap3; omega⟩, ⟨⟨rfl, rfl, congrArg (fun t => some (PV.s 2 t cap3 1)) (by simp), rfl, trivial⟩, ⟨congrArg some (by rw [List.map_append]; rfl), trivial⟩, rfl, rfl⟩, rfl⟩
    · rintro ⟨⟨ns, cap⟩, hn, hcap⟩
      replace hn : ns.length = k + 1 := hn
      replace hcap : k + 1 ≤ cap := hcap
      (conv => whnf)
      exact ⟨⟨(k + 1, ns, cap), hlt, hn, by show ns.length ≤ cap; omega⟩, 2, ⟨⟨rfl, rfl, rfl, look_int (i64_succ (by omega)), trivial⟩, ⟨rfl, trivial⟩, rfl, rfl⟩, rfl, by show s.size - (k + 1) < s.size - k; omega⟩
  · repeat' ((conv => whnf); first | refine CondK.no' (decide_eq_false (by omega)) ?_ | refine StrK.mk ns (bytesL_map ns) ?_ | exact RetK.mk fun g M' hl2 hg => ⟨_, rfl, by show ByteArray.size _ = s.size; rw [bytes_size]; show 0 + ns.length = s.size; omega⟩ | fail)
theorem l01Crc_r (M : Mem) (s : ByteArray) (hs : s.size ≤ 100000) : AnsR Tryz.prog M 127 #[.string s] (fun _ v => ∃ x : Int, v = .int .i64 x) := by
  refine ansR_of T (l := [.string s]) mixed Tryz.func127 rfl (by kernel_rfl) (Nat.le_of_ble_eq_true rfl) ?_
  (conv => whnf)
  refine LoopK.mk {q : Nat × Int // q.1 ≤ s.size} (fun ⟨⟨k, c⟩, _⟩ => [(0, .v (.string s)), (3, .v (.int .i64 c)), (4, .v (.int .i64 (k : Int)))]) (fun _ => []) (fun _ => M) (fun q => s.size - q.1.1) ⟨(0, 4294967295), Nat.zero_le _⟩ ⟨⟨⟨rfl, rfl, rfl, trivial⟩, trivial, rfl, rfl⟩, rfl⟩ ?_
  rintro ⟨⟨k, c⟩, hk⟩
  replace hk : k ≤ s.size := hk
  by_cases hlt : k < s.size
  · repeat' ((conv => whnf); first | refine CondK.yes' (decide_eq_true (by omega)) ?_ | refine IdxS.mk (by omega) (by omega) ?_ | fail)
    refine LoopK.mk {q : Nat × Int // q.1 ≤ 8} (fun ⟨⟨j, c⟩, _⟩ => [(0, .v (.string s)), (3, .v (.int .i64 c)), (4, .v (.int .i64 (k : Int))), (5, .v (.int .i64 (j : Int)))]) (fun _ => []) (fun _ => M) (fun q => 8 - q.1.1) ⟨(0, _), Nat.zero_le _⟩ ⟨⟨⟨rfl, rfl, rfl, rfl, trivial⟩, trivial, rfl, rfl⟩, rfl⟩ ?_
    rintro ⟨⟨j, c⟩, hj⟩
    replace hj : j ≤ 8 := hj
    by_cases hjl : j < 8
    · (conv => whnf)
      refine CondK.yes' (decide_eq_true (by omega)) ?_
      repeat' ((conv => whnf); first | refine CondK.mk (fun h1 => ?_) (fun h1 => ?_) | fail)
      all_goals exact ⟨⟨(j + 1, _), hjl⟩, ⟨⟨rfl, rfl, rfl, look_int (i64_succ (by omega)), trivial⟩, trivial, rfl, rfl⟩, rfl, by show 8 - (j + 1) < 8 - j; omega⟩
    · (conv => whnf)
      refine CondK.no' (decide_eq_false (by omega)) ?_
      exact ⟨⟨(k + 1, _), hlt⟩, ⟨⟨rfl, rfl, look_int (i64_succ (by omega)), trivial⟩, trivial, rfl, rfl⟩, rfl, by show s.size - (k + 1) < s.size - k; omega⟩
  · repeat' ((conv => whnf); first | refine CondK.no' (decide_eq_false (by omega)) ?_ | exact RetK.mk fun g M' hl2 hg => ⟨_, rfl⟩ | fail)
end Go.Proofs.YtefhbbmklpnpoaaGreat.Hlp
