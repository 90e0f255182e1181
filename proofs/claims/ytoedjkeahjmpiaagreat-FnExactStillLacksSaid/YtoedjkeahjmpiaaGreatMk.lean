/- The laws' marks by the light walk. -/
import Derived.Test.YtoedjkeahjmpiaaGreatHlpG
namespace Go.Proofs.YtoedjkeahjmpiaaGreat.Hlp
open Go Go.RowKit Go.Proofs Go.Proofs.YtoedjkeahjmpiaaGreat.Lw
set_option linter.unusedVariables false
set_option linter.unusedSimpArgs false
set_option maxRecDepth 100000
set_option maxHeartbeats 4000000
theorem sub_at {A B : Mem} {ad : Addr} {u : Value} (h : sub B A ad = some u) : A ad = none ∧ B ad = some u := by
  unfold sub at h
  cases ha : A ad with
  | none => rw [ha] at h; exact ⟨rfl, h⟩
  | some v => rw [ha] at h; cases h
theorem sub_none {A B : Mem} {ad : Addr} {u : Value} (h : A ad = some u) : sub B A ad = none := by unfold sub; rw [h]
theorem fr_trans {A B C : Mem} (h0 : Le A B) (h : Fr A B) (hl : Le B C) (k : Fr B C) : Fr A C := fun ad u hn hu ad' u' hu' => by
  cases hb : B ad with
  | some u2 => exact h ad u2 hn hb ad' u' hu'
  | none => exact k ad u hb hu ad' u' (h0 _ _ hu')
theorem fr_refl (A : Mem) : Fr A A := fun ad u hn hu => by rw [hn] at hu; cases hu
/-- What was new between two moments lies apart from all else. -/
theorem apart {A B C D : Mem} (h1 : Fr A B) (h2 : Fr B C) (hD : ∀ ad u, D ad = some u → ∃ v, C ad = some v) : ∀ ad u ad' u', sub B A ad = some u → D ad' = some u' → sub B A ad' = none → ad.block ≠ ad'.block := by
  intro ad u ad' u' h hu' hn
  obtain ⟨g1, g2⟩ := sub_at h
  obtain ⟨v, hv⟩ := hD ad' u' hu'
  cases ha : A ad' with
  | some w => exact (h1 ad u g1 g2 ad' w ha).symm
  | none =>
    have hb : B ad' = none := by unfold sub at hn; rw [ha] at hn; exact hn
    exact h2 ad' v hb hv ad u g2
theorem dom_w {Mx M M' : Mem} (hs : Le Mx M) (hn : ∀ ad, Mx ad = none → M' ad = M ad) : ∀ ad u, M' ad = some u → ∃ v, M ad = some v := fun ad u hu => by
  cases hx : Mx ad with
  | some v => exact ⟨v, hs ad v hx⟩
  | none => exact ⟨u, by rw [← hn ad hx]; exact hu⟩
/-- The digit that is written next. -/
def digS (k : Int) : ByteArray := List.foldl (fun (r : ByteArray) (n : Int) => r.push (UInt8.ofNat n.toNat)) ByteArray.empty [IntKind.u8.wrap (IntKind.i64.wrap (48 + k.tmod 10))]
theorem digS_size (k : Int) : (digS k).size = 1 := rfl
def digs : Nat → Int → ByteArray → ByteArray
  | 0, _, o => o
  | n + 1, k, o => if 0 < k then digs n (k.tdiv 10) (digS k ++ o) else o
def textF (k : Int) : ByteArray := if k ≤ 0 then ⟨#[109, 48]⟩ else ⟨#[109]⟩ ++ digs 63 k ⟨#[]⟩
theorem digs_step {n : Nat} {k : Int} {o : ByteArray} (h : 0 < k) : digs (n + 1) k o = digs n (k.tdiv 10) (digS k ++ o) := by simp only [digs, if_pos h]
theorem digs_end {n : Nat} {k : Int} {o : ByteArray} (h : ¬ 0 < k) : digs n k o = o := by
  cases n with
  | zero => rfl
  | succ n => simp only [digs, if_neg h]
theorem markText_a (M : Mem) (k0 : Int) (h1 : k0 ≤ 4611686018427387904) : Ans Tryz.prog M 79 #[.int .i64 k0] (.string (textF k0)) := by
  refine ans_of T (l := [.int .i64 k0]) mixed Tryz.func79 rfl (by kernel_rfl) (Nat.le_of_ble_eq_true rfl) ?_
  (conv => whnf)
  refine CondK.mk (fun h => ?_) (fun h => ?_)
  · (conv => whnf)
    show Value.string _ = _
    rw [textF, if_pos (by simpa using h)]
  have hk0 : ¬ k0 ≤ 0 := by simpa using h
  (conv => whnf)
  refine LoopK.mk {p : Nat × Int × ByteArray // p.2.1 ≤ 4611686018427387904 ∧ p.2.1 < 2 ^ p.1 ∧ p.2.2.size + p.1 ≤ 63 ∧ digs 63 k0 ⟨#[]⟩ = digs p.1 p.2.1 p.2.2} (fun ⟨(n, k, o), _⟩ => [(0, .v (.int .i64 k)), (3, .v (.string o))]) (fun _ => []) (fun _ => M) (fun p => p.1.2.1.toNat) ⟨(63, k0, ⟨#[]⟩), h1, by show k0 < 9223372036854775808; omega, by simp [ByteArray.size], rfl⟩ ⟨⟨⟨rfl, rfl, trivial⟩, trivial, rfl, rfl⟩, rfl⟩ ?_
  rintro ⟨⟨n, k, o⟩, hb, hk, hs, hd⟩
  simp only at hb hk hs hd
  (conv => whnf)
  refine CondK.mk (fun h => ?_) (fun h => ?_)
  · have hk1 : 0 < k := by simpa using h
    have ht : 0 ≤ k.tdiv 10 ∧ k.tdiv 10 < k ∧ k.tdiv 10 * 2 ≤ k := by rw [Int.tdiv_eq_ediv_of_nonneg (by omega)]; omega
    repeat' ((conv => whnf); first | (refine Owe.mk (by have h9 := digS_size k; unfold digS at h9; omega) ?_) | fail)
    cases n with
    | zero => exfalso; simp at hk; omega
    | succ n =>
      rw [digs_step (n := n) hk1] at hd
      exact ⟨⟨(n, k.tdiv 10, digS k ++ o), by simp only; omega, by rw [Int.pow_succ] at hk; simp only; omega, by simp only [ByteArray.size_append, digS_size]; omega, hd⟩, ⟨⟨look_int (i64_in (by omega) (by omega)), rfl, trivial⟩, trivial, rfl, rfl⟩, rfl, by simp only; omega⟩
  · have hk1 : ¬ 0 < k := by simpa using h
    rw [digs_end hk1] at hd
    (conv => whnf)
    refine Owe.mk (by have h9 : (⟨#[109]⟩ : ByteArray).size = 1 := rfl; omega) ?_
    (conv => whnf)
    show Value.string _ = _
    rw [textF, if_neg hk0, hd]
theorem markInt64S_a (M0 M : Mem) (hM : sh M = sh M0) (l : List Int) (A : Option Addr) (c : Nat) (h : SlR M0 RInt 1 8 A c l) (hlen : l.length ≤ 1048576) (hsm : ∀ y ∈ l, True) (k : Int) (hk : 0 ≤ k) (hb : k + (l.length : Int) * 1 ≤ 4611686018427387904) : AnsW Tryz.prog M 20 #[.slice A l.length c, .int .i64 k] (fun v M' => (∃ j : Int, v = .int .i64 j ∧ k ≤ j ∧ j ≤ k + (l.length : Int) * 1) ∧ sh M' = sh M) := by
  refine ansW_of T (l := [.slice A l.length c, .int .i64 k]) mixed Tryz.func20 rfl (by kernel_rfl) (Nat.le_of_ble_eq_true rfl) ?_
  (conv => whnf)
  refine LoopK.mk {p : Nat × Int × Mem // p.1 ≤ l.length ∧ sh p.2.2 = sh M0 ∧ k ≤ p.2.1 ∧ p.2.1 ≤ k + (p.1 : Int) * 1} (fun ⟨(i, j, _), _⟩ => [(0, .v (.slice A l.length c)), (1, .v (.int .i64 j)), (5, .v (.int .i64 (i : Int)))]) (fun _ => []) (fun p => p.1.2.2) (fun p => l.length - p.1.1) ⟨(0, k, M), Nat.zero_le _, hM, by simp only; omega, by simp only; omega⟩ ⟨⟨⟨rfl, rfl, rfl, trivial⟩, trivial, rfl, rfl⟩, rfl⟩ ?_
  rintro ⟨⟨i, j, M1⟩, hi, hM1, hj0, hj1⟩
  simp only at hi hM1 hj0 hj1
  (conv => whnf)
  refine CondK.mk (fun h1 => ?_) (fun h1 => ?_)
  · have hlt : i < l.length := by simpa using h1
    obtain ⟨ad, rfl, bnx, x0⟩ := at_Int h (List.getElem?_eq_getElem hlt)
    repeat' ((conv => whnf); first | with_reducible refine CondK.tt ?_ | with_reducible refine CondK.ff ?_ | with_reducible refine CondK.not ?_ | refine CallK.mk _ (markText_a _ _ (by (try simp (disch := omega) only [i64_in]); omega)) ?_ | refine CallQ.mk _ (markText_a _ _ (by (try simp (disch := omega) only [i64_in]); omega)) ?_ | refine LdK.sh (by assumption) (by assumption) rfl ?_ | refine IdxK.mk _ rfl (by omega) (by omega) ?_ | refine DrawN.q (by kernel_rfl) ?_ | (refine WrK.sh (by assumption) rfl rfl (by assumption) rfl rfl (fun M1 hM1 => ?_)) | exact rfl)
    exact ⟨⟨(i + 1, _, _), hlt, by assumption, (by simp only; (try simp (disch := omega) only [i64_in]); omega), (by simp only; (try simp (disch := omega) only [i64_in]); omega)⟩, ⟨⟨rfl, rfl, look_int (i64_succ (by omega)), trivial⟩, trivial, rfl, rfl⟩, rfl, by simp only; omega⟩
  · (conv => whnf)
    refine AndK.mk (fun ad u hu => sh_dom (hM1.trans hM.symm) hu) ?_
    have hii : i = l.length := by simp at h1; omega
    subst hii
    exact ⟨⟨j, rfl, hj0, hj1⟩, hM1.trans hM.symm⟩
def MkInt64 (M : Mem) (A : Option Addr) (n : Nat) (k : Int) : Prop := ∀ i : Nat, i < n → ∃ ad, A = some ad ∧ M ((ad.add (i * 1)).add 0) = some (.int .i64 (k + (i : Int) * 1))
theorem MkInt64.mono {M M' : Mem} (hl : Le M M') {A : Option Addr} {n : Nat} {k : Int} (h : MkInt64 M A n k) : MkInt64 M' A n k := fun i hi => by
  obtain ⟨ad, h0, x0⟩ := h i hi
  exact ⟨ad, h0, hl _ _ x0⟩
theorem markInt64S_x (M0 M : Mem) (hM : sh M = sh M0) (l : List Int) (A : Option Addr) (c : Nat) (h : SlR M0 RInt 1 8 A c l) (hlen : l.length ≤ 1048576) (k : Int) (hk : 0 ≤ k) (hb : k + (l.length : Int) * 1 ≤ 4611686018427387904) : AnsW Tryz.prog M 20 #[.slice A l.length c, .int .i64 k] (fun v M' => (v = .int .i64 (k + (l.length : Int) * 1) ∧ MkInt64 M' A l.length k) ∧ sh M' = sh M) := by
  refine ansW_of T (l := [.slice A l.length c, .int .i64 k]) mixed Tryz.func20 rfl (by kernel_rfl) (Nat.le_of_ble_eq_true rfl) ?_
  (conv => whnf)
  refine LoopK.mk {p : Nat × Mem // p.1 ≤ l.length ∧ sh p.2 = sh M0 ∧ MkInt64 p.2 A p.1 k} (fun ⟨(i, _), _⟩ => [(0, .v (.slice A l.length c)), (1, .v (.int .i64 (k + (i : Int) * 1))), (5, .v (.int .i64 (i : Int)))]) (fun _ => []) (fun p => p.1.2) (fun p => l.length - p.1.1) ⟨(0, M), Nat.zero_le _, hM, fun i hi => absurd hi (Nat.not_lt_zero i)⟩ ⟨⟨⟨rfl, look_int (by simp), rfl, trivial⟩, trivial, rfl, rfl⟩, rfl⟩ ?_
  rintro ⟨⟨i, M1⟩, hi, hM1, hmk⟩
  simp only at hi hM1 hmk
  (conv => whnf)
  refine CondK.mk (fun h1 => ?_) (fun h1 => ?_)
  · have hlt : i < l.length := by simpa using h1
    obtain ⟨ad, rfl, bnx, x0⟩ := at_Int h (List.getElem?_eq_getElem hlt)
    repeat' ((conv => whnf); first | with_reducible refine CondK.tt ?_ | with_reducible refine CondK.ff ?_ | with_reducible refine CondK.not ?_ | refine CallK.mk _ (markText_a _ _ (by (try simp (disch := omega) only [i64_in]); omega)) ?_ | refine CallQ.mk _ (markText_a _ _ (by (try simp (disch := omega) only [i64_in]); omega)) ?_ | refine IdxK.mk _ rfl (by omega) (by omega) ?_ | refine DrawN.q (by kernel_rfl) ?_ | (refine WrK.us (ad := (ad.add (i * 1)).add 0) (by assumption) rfl rfl x0 rfl rfl (fun hM1 => ?_)))
    refine ⟨⟨(i + 1, upd (M1) ((ad.add (i * 1)).add 0) (.int .i64 (k + (i : Int) * 1))), hlt, by assumption, fun i' hi' => ?_⟩, ⟨⟨rfl, look_int (by (try simp (disch := omega) only [i64_in]); omega), look_int (i64_succ (by omega)), trivial⟩, trivial, rfl, rfl⟩, rfl, by simp only; omega⟩
    simp only at hi'
    by_cases he : i' = i
    · subst he
      refine ⟨ad, rfl, ?_⟩
      · simp (disch := omega) only [upd_ne, upd_eq, i64_in]
    · obtain ⟨ad', h9, w0⟩ := hmk i' (by omega)
      simp only [Option.some.injEq] at h9
      subst h9
      refine ⟨ad, rfl, ?_⟩
      · simp (disch := omega) only [upd_ne]; exact w0
  · (conv => whnf)
    refine AndK.mk (fun ad u hu => sh_dom (hM1.trans hM.symm) hu) ?_
    have hii : i = l.length := by simp at h1; omega
    subst hii
    exact ⟨⟨rfl, hmk⟩, hM1.trans hM.symm⟩
theorem heldInt64S_a (M : Mem) (n : Nat) (A : Option Addr) (c : Nat) (k : Int) (h : MkInt64 M A n k) (hlen : n ≤ 1048576) (hk : 0 ≤ k) (hb : k + (n : Int) * 1 ≤ 4611686018427387904) : Ans Tryz.prog M 21 #[.slice A n c, .int .i64 k] (.int .i64 (k + (n : Int) * 1)) := by
  refine ans_of T (l := [.slice A n c, .int .i64 k]) mixed Tryz.func21 rfl (by kernel_rfl) (Nat.le_of_ble_eq_true rfl) ?_
  (conv => whnf)
  refine LoopK.mk {i : Nat // i ≤ n} (fun ⟨i, _⟩ => [(0, .v (.slice A n c)), (1, .v (.int .i64 (k + (i : Int) * 1))), (5, .v (.int .i64 (i : Int)))]) (fun _ => []) (fun _ => M) (fun p => n - p.1) ⟨0, Nat.zero_le _⟩ ⟨⟨⟨rfl, look_int (by simp), rfl, trivial⟩, trivial, rfl, rfl⟩, rfl⟩ ?_
  rintro ⟨i, hi⟩
  (conv => whnf)
  refine CondK.mk (fun h1 => ?_) (fun h1 => ?_)
  · have hlt : i < n := by simpa using h1
    obtain ⟨ad, rfl, w0⟩ := h i hlt
    repeat' ((conv => whnf); first | with_reducible refine CondK.tt ?_ | with_reducible refine CondK.ff ?_ | with_reducible refine CondK.not ?_ | refine CallK.mk _ (markText_a _ _ (by (try simp (disch := omega) only [i64_in]); omega)) ?_ | refine CallQ.mk _ (markText_a _ _ (by (try simp (disch := omega) only [i64_in]); omega)) ?_ | refine LdK.mk _ (by assumption) ?_ | refine IdxK.mk _ rfl (by omega) (by omega) ?_ | refine DrawN.q (by kernel_rfl) ?_ | (refine CondK.no' ?_ ?_; focus (simp (disch := omega) [i64_in]; done)) | (refine CondK.yes' ?_ ?_; focus (simp (disch := omega) [i64_in]; done)))
    exact ⟨⟨i + 1, hlt⟩, ⟨⟨rfl, look_int (by (try simp (disch := omega) only [i64_in]); omega), look_int (i64_succ (by omega)), trivial⟩, trivial, rfl, rfl⟩, rfl, by simp only; omega⟩
  · have hii : i = n := by simp at h1; omega
    subst hii
    rfl
theorem markIntervalS_a (M0 M : Mem) (hM : sh M = sh M0) (l : List GInterval) (A : Option Addr) (c : Nat) (h : SlR M0 RInterval 4 48 A c l) (hlen : l.length ≤ 1048576) (hsm : ∀ y ∈ l, SmallInterval y) (k : Int) (hk : 0 ≤ k) (hb : k + (l.length : Int) * 1048579 ≤ 4611686018427387904) : AnsW Tryz.prog M 18 #[.slice A l.length c, .int .i64 k] (fun v M' => (∃ j : Int, v = .int .i64 j ∧ k ≤ j ∧ j ≤ k + (l.length : Int) * 1048579) ∧ sh M' = sh M) := by
  refine ansW_of T (l := [.slice A l.length c, .int .i64 k]) mixed Tryz.func18 rfl (by kernel_rfl) (Nat.le_of_ble_eq_true rfl) ?_
  (conv => whnf)
  refine LoopK.mk {p : Nat × Int × Mem // p.1 ≤ l.length ∧ sh p.2.2 = sh M0 ∧ k ≤ p.2.1 ∧ p.2.1 ≤ k + (p.1 : Int) * 1048579} (fun ⟨(i, j, _), _⟩ => [(0, .v (.slice A l.length c)), (1, .v (.int .i64 j)), (5, .v (.int .i64 (i : Int)))]) (fun _ => []) (fun p => p.1.2.2) (fun p => l.length - p.1.1) ⟨(0, k, M), Nat.zero_le _, hM, by simp only; omega, by simp only; omega⟩ ⟨⟨⟨rfl, rfl, rfl, trivial⟩, trivial, rfl, rfl⟩, rfl⟩ ?_
  rintro ⟨⟨i, j, M1⟩, hi, hM1, hj0, hj1⟩
  simp only at hi hM1 hj0 hj1
  (conv => whnf)
  refine CondK.mk (fun h1 => ?_) (fun h1 => ?_)
  · have hlt : i < l.length := by simpa using h1
    obtain ⟨ad, rfl, A0, c0, bnx, s0, x0, x1, x2, x3⟩ := at_Interval h (List.getElem?_eq_getElem hlt)
    have y0 := hsm _ (List.getElem_mem hlt)
    obtain ⟨ya, yb⟩ := y0
    have y1 := And.intro ya yb
    have z0 := y1
    repeat' ((conv => whnf); first | with_reducible refine CondK.tt ?_ | with_reducible refine CondK.ff ?_ | with_reducible refine CondK.not ?_ | refine CallK.mk _ (markText_a _ _ (by (try simp (disch := omega) only [i64_in]); omega)) ?_ | refine CallQ.mk _ (markText_a _ _ (by (try simp (disch := omega) only [i64_in]); omega)) ?_ | refine LdK.sh (by assumption) (by assumption) rfl ?_ | refine IdxK.mk _ rfl (by omega) (by omega) ?_ | refine DrawN.q (by kernel_rfl) ?_ | (refine WrK.sh (by assumption) rfl rfl (by assumption) rfl rfl (fun M1 hM1 => ?_)) | ((refine CallK.ms rfl (by assumption) (markInt64S_a _ _ (by assumption) _ _ _ s0 (by omega) (z0.2) _ (by (try simp (disch := omega) only [i64_in]); omega) (by (try simp (disch := omega) only [i64_in]); omega)) (fun _ _ _ => rfl) (fun v M2 hv hM2 => ?_)); obtain ⟨j2, rfl, g1, g2⟩ := hv; (try simp (disch := omega) only [i64_in] at g1 g2)) | exact rfl)
    exact ⟨⟨(i + 1, _, _), hlt, by assumption, (by simp only; (try simp (disch := omega) only [i64_in]); omega), (by simp only; (try simp (disch := omega) only [i64_in]); omega)⟩, ⟨⟨rfl, rfl, look_int (i64_succ (by omega)), trivial⟩, trivial, rfl, rfl⟩, rfl, by simp only; omega⟩
  · (conv => whnf)
    refine AndK.mk (fun ad u hu => sh_dom (hM1.trans hM.symm) hu) ?_
    have hii : i = l.length := by simp at h1; omega
    subst hii
    exact ⟨⟨j, rfl, hj0, hj1⟩, hM1.trans hM.symm⟩
theorem markHeadS_a (M0 M : Mem) (hM : sh M = sh M0) (l : List GHead) (A : Option Addr) (c : Nat) (h : SlR M0 RHead 5 48 A c l) (hlen : l.length ≤ 1048576) (hsm : ∀ y ∈ l, True) (k : Int) (hk : 0 ≤ k) (hb : k + (l.length : Int) * 5 ≤ 4611686018427387904) : AnsW Tryz.prog M 40 #[.slice A l.length c, .int .i64 k] (fun v M' => (∃ j : Int, v = .int .i64 j ∧ k ≤ j ∧ j ≤ k + (l.length : Int) * 5) ∧ sh M' = sh M) := by
  refine ansW_of T (l := [.slice A l.length c, .int .i64 k]) mixed Tryz.func40 rfl (by kernel_rfl) (Nat.le_of_ble_eq_true rfl) ?_
  (conv => whnf)
  refine LoopK.mk {p : Nat × Int × Mem // p.1 ≤ l.length ∧ sh p.2.2 = sh M0 ∧ k ≤ p.2.1 ∧ p.2.1 ≤ k + (p.1 : Int) * 5} (fun ⟨(i, j, _), _⟩ => [(0, .v (.slice A l.length c)), (1, .v (.int .i64 j)), (5, .v (.int .i64 (i : Int)))]) (fun _ => []) (fun p => p.1.2.2) (fun p => l.length - p.1.1) ⟨(0, k, M), Nat.zero_le _, hM, by simp only; omega, by simp only; omega⟩ ⟨⟨⟨rfl, rfl, rfl, trivial⟩, trivial, rfl, rfl⟩, rfl⟩ ?_
  rintro ⟨⟨i, j, M1⟩, hi, hM1, hj0, hj1⟩
  simp only at hi hM1 hj0 hj1
  (conv => whnf)
  refine CondK.mk (fun h1 => ?_) (fun h1 => ?_)
  · have hlt : i < l.length := by simpa using h1
    obtain ⟨ad, rfl, bnx, x0, x1, x2, x3, x4⟩ := at_Head h (List.getElem?_eq_getElem hlt)
    repeat' ((conv => whnf); first | with_reducible refine CondK.tt ?_ | with_reducible refine CondK.ff ?_ | with_reducible refine CondK.not ?_ | refine CallK.mk _ (markText_a _ _ (by (try simp (disch := omega) only [i64_in]); omega)) ?_ | refine CallQ.mk _ (markText_a _ _ (by (try simp (disch := omega) only [i64_in]); omega)) ?_ | refine LdK.sh (by assumption) (by assumption) rfl ?_ | refine IdxK.mk _ rfl (by omega) (by omega) ?_ | refine DrawN.q (by kernel_rfl) ?_ | (refine WrK.sh (by assumption) rfl rfl (by assumption) rfl rfl (fun M1 hM1 => ?_)) | exact rfl)
    exact ⟨⟨(i + 1, _, _), hlt, by assumption, (by simp only; (try simp (disch := omega) only [i64_in]); omega), (by simp only; (try simp (disch := omega) only [i64_in]); omega)⟩, ⟨⟨rfl, rfl, look_int (i64_succ (by omega)), trivial⟩, trivial, rfl, rfl⟩, rfl, by simp only; omega⟩
  · (conv => whnf)
    refine AndK.mk (fun ad u hu => sh_dom (hM1.trans hM.symm) hu) ?_
    have hii : i = l.length := by simp at h1; omega
    subst hii
    exact ⟨⟨j, rfl, hj0, hj1⟩, hM1.trans hM.symm⟩
theorem markLastS_a (M0 M : Mem) (hM : sh M = sh M0) (l : List GLast) (A : Option Addr) (c : Nat) (h : SlR M0 RLast 4 32 A c l) (hlen : l.length ≤ 1048576) (hsm : ∀ y ∈ l, True) (k : Int) (hk : 0 ≤ k) (hb : k + (l.length : Int) * 4 ≤ 4611686018427387904) : AnsW Tryz.prog M 41 #[.slice A l.length c, .int .i64 k] (fun v M' => (∃ j : Int, v = .int .i64 j ∧ k ≤ j ∧ j ≤ k + (l.length : Int) * 4) ∧ sh M' = sh M) := by
  refine ansW_of T (l := [.slice A l.length c, .int .i64 k]) mixed Tryz.func41 rfl (by kernel_rfl) (Nat.le_of_ble_eq_true rfl) ?_
  (conv => whnf)
  refine LoopK.mk {p : Nat × Int × Mem // p.1 ≤ l.length ∧ sh p.2.2 = sh M0 ∧ k ≤ p.2.1 ∧ p.2.1 ≤ k + (p.1 : Int) * 4} (fun ⟨(i, j, _), _⟩ => [(0, .v (.slice A l.length c)), (1, .v (.int .i64 j)), (5, .v (.int .i64 (i : Int)))]) (fun _ => []) (fun p => p.1.2.2) (fun p => l.length - p.1.1) ⟨(0, k, M), Nat.zero_le _, hM, by simp only; omega, by simp only; omega⟩ ⟨⟨⟨rfl, rfl, rfl, trivial⟩, trivial, rfl, rfl⟩, rfl⟩ ?_
  rintro ⟨⟨i, j, M1⟩, hi, hM1, hj0, hj1⟩
  simp only at hi hM1 hj0 hj1
  (conv => whnf)
  refine CondK.mk (fun h1 => ?_) (fun h1 => ?_)
  · have hlt : i < l.length := by simpa using h1
    obtain ⟨ad, rfl, bnx, x0, x1, x2, x3⟩ := at_Last h (List.getElem?_eq_getElem hlt)
    repeat' ((conv => whnf); first | with_reducible refine CondK.tt ?_ | with_reducible refine CondK.ff ?_ | with_reducible refine CondK.not ?_ | refine CallK.mk _ (markText_a _ _ (by (try simp (disch := omega) only [i64_in]); omega)) ?_ | refine CallQ.mk _ (markText_a _ _ (by (try simp (disch := omega) only [i64_in]); omega)) ?_ | refine LdK.sh (by assumption) (by assumption) rfl ?_ | refine IdxK.mk _ rfl (by omega) (by omega) ?_ | refine DrawN.q (by kernel_rfl) ?_ | (refine WrK.sh (by assumption) rfl rfl (by assumption) rfl rfl (fun M1 hM1 => ?_)) | exact rfl)
    exact ⟨⟨(i + 1, _, _), hlt, by assumption, (by simp only; (try simp (disch := omega) only [i64_in]); omega), (by simp only; (try simp (disch := omega) only [i64_in]); omega)⟩, ⟨⟨rfl, rfl, look_int (i64_succ (by omega)), trivial⟩, trivial, rfl, rfl⟩, rfl, by simp only; omega⟩
  · (conv => whnf)
    refine AndK.mk (fun ad u hu => sh_dom (hM1.trans hM.symm) hu) ?_
    have hii : i = l.length := by simp at h1; omega
    subst hii
    exact ⟨⟨j, rfl, hj0, hj1⟩, hM1.trans hM.symm⟩
theorem markEntryS_a (M0 M : Mem) (hM : sh M = sh M0) (l : List GEntry) (A : Option Addr) (c : Nat) (h : SlR M0 REntry 10 88 A c l) (hlen : l.length ≤ 1048576) (hsm : ∀ y ∈ l, True) (k : Int) (hk : 0 ≤ k) (hb : k + (l.length : Int) * 10 ≤ 4611686018427387904) : AnsW Tryz.prog M 42 #[.slice A l.length c, .int .i64 k] (fun v M' => (∃ j : Int, v = .int .i64 j ∧ k ≤ j ∧ j ≤ k + (l.length : Int) * 10) ∧ sh M' = sh M) := by
  refine ansW_of T (l := [.slice A l.length c, .int .i64 k]) mixed Tryz.func42 rfl (by kernel_rfl) (Nat.le_of_ble_eq_true rfl) ?_
  (conv => whnf)
  refine LoopK.mk {p : Nat × Int × Mem // p.1 ≤ l.length ∧ sh p.2.2 = sh M0 ∧ k ≤ p.2.1 ∧ p.2.1 ≤ k + (p.1 : Int) * 10} (fun ⟨(i, j, _), _⟩ => [(0, .v (.slice A l.length c)), (1, .v (.int .i64 j)), (5, .v (.int .i64 (i : Int)))]) (fun _ => []) (fun p => p.1.2.2) (fun p => l.length - p.1.1) ⟨(0, k, M), Nat.zero_le _, hM, by simp only; omega, by simp only; omega⟩ ⟨⟨⟨rfl, rfl, rfl, trivial⟩, trivial, rfl, rfl⟩, rfl⟩ ?_
  rintro ⟨⟨i, j, M1⟩, hi, hM1, hj0, hj1⟩
  simp only at hi hM1 hj0 hj1
  (conv => whnf)
  refine CondK.mk (fun h1 => ?_) (fun h1 => ?_)
  · have hlt : i < l.length := by simpa using h1
    obtain ⟨ad, rfl, bnx, x0, x1, x2, x3, x4, x5, x6, x7, x8, x9⟩ := at_Entry h (List.getElem?_eq_getElem hlt)
    repeat' ((conv => whnf); first | with_reducible refine CondK.tt ?_ | with_reducible refine CondK.ff ?_ | with_reducible refine CondK.not ?_ | refine CallK.mk _ (markText_a _ _ (by (try simp (disch := omega) only [i64_in]); omega)) ?_ | refine CallQ.mk _ (markText_a _ _ (by (try simp (disch := omega) only [i64_in]); omega)) ?_ | refine LdK.sh (by assumption) (by assumption) rfl ?_ | refine IdxK.mk _ rfl (by omega) (by omega) ?_ | refine DrawN.q (by kernel_rfl) ?_ | (refine WrK.sh (by assumption) rfl rfl (by assumption) rfl rfl (fun M1 hM1 => ?_)) | exact rfl)
    exact ⟨⟨(i + 1, _, _), hlt, by assumption, (by simp only; (try simp (disch := omega) only [i64_in]); omega), (by simp only; (try simp (disch := omega) only [i64_in]); omega)⟩, ⟨⟨rfl, rfl, look_int (i64_succ (by omega)), trivial⟩, trivial, rfl, rfl⟩, rfl, by simp only; omega⟩
  · (conv => whnf)
    refine AndK.mk (fun ad u hu => sh_dom (hM1.trans hM.symm) hu) ?_
    have hii : i = l.length := by simp at h1; omega
    subst hii
    exact ⟨⟨j, rfl, hj0, hj1⟩, hM1.trans hM.symm⟩
theorem markChunkS_a (M0 M : Mem) (hM : sh M = sh M0) (l : List GChunk) (A : Option Addr) (c : Nat) (h : SlR M0 RChunk 6 64 A c l) (hlen : l.length ≤ 1048576) (hsm : ∀ y ∈ l, True) (k : Int) (hk : 0 ≤ k) (hb : k + (l.length : Int) * 6 ≤ 4611686018427387904) : AnsW Tryz.prog M 43 #[.slice A l.length c, .int .i64 k] (fun v M' => (∃ j : Int, v = .int .i64 j ∧ k ≤ j ∧ j ≤ k + (l.length : Int) * 6) ∧ sh M' = sh M) := by
  refine ansW_of T (l := [.slice A l.length c, .int .i64 k]) mixed Tryz.func43 rfl (by kernel_rfl) (Nat.le_of_ble_eq_true rfl) ?_
  (conv => whnf)
  refine LoopK.mk {p : Nat × Int × Mem // p.1 ≤ l.length ∧ sh p.2.2 = sh M0 ∧ k ≤ p.2.1 ∧ p.2.1 ≤ k + (p.1 : Int) * 6} (fun ⟨(i, j, _), _⟩ => [(0, .v (.slice A l.length c)), (1, .v (.int .i64 j)), (5, .v (.int .i64 (i : Int)))]) (fun _ => []) (fun p => p.1.2.2) (fun p => l.length - p.1.1) ⟨(0, k, M), Nat.zero_le _, hM, by simp only; omega, by simp only; omega⟩ ⟨⟨⟨rfl, rfl, rfl, trivial⟩, trivial, rfl, rfl⟩, rfl⟩ ?_
  rintro ⟨⟨i, j, M1⟩, hi, hM1, hj0, hj1⟩
  simp only at hi hM1 hj0 hj1
  (conv => whnf)
  refine CondK.mk (fun h1 => ?_) (fun h1 => ?_)
  · have hlt : i < l.length := by simpa using h1
    obtain ⟨ad, rfl, bnx, x0, x1, x2, x3, x4, x5⟩ := at_Chunk h (List.getElem?_eq_getElem hlt)
    repeat' ((conv => whnf); first | with_reducible refine CondK.tt ?_ | with_reducible refine CondK.ff ?_ | with_reducible refine CondK.not ?_ | refine CallK.mk _ (markText_a _ _ (by (try simp (disch := omega) only [i64_in]); omega)) ?_ | refine CallQ.mk _ (markText_a _ _ (by (try simp (disch := omega) only [i64_in]); omega)) ?_ | refine LdK.sh (by assumption) (by assumption) rfl ?_ | refine IdxK.mk _ rfl (by omega) (by omega) ?_ | refine DrawN.q (by kernel_rfl) ?_ | (refine WrK.sh (by assumption) rfl rfl (by assumption) rfl rfl (fun M1 hM1 => ?_)) | exact rfl)
    exact ⟨⟨(i + 1, _, _), hlt, by assumption, (by simp only; (try simp (disch := omega) only [i64_in]); omega), (by simp only; (try simp (disch := omega) only [i64_in]); omega)⟩, ⟨⟨rfl, rfl, look_int (i64_succ (by omega)), trivial⟩, trivial, rfl, rfl⟩, rfl, by simp only; omega⟩
  · (conv => whnf)
    refine AndK.mk (fun ad u hu => sh_dom (hM1.trans hM.symm) hu) ?_
    have hii : i = l.length := by simp at h1; omega
    subst hii
    exact ⟨⟨j, rfl, hj0, hj1⟩, hM1.trans hM.symm⟩
theorem markNoticeS_a (M0 M : Mem) (hM : sh M = sh M0) (l : List GNotice) (A : Option Addr) (c : Nat) (h : SlR M0 RNotice 13 168 A c l) (hlen : l.length ≤ 1048576) (hsm : ∀ y ∈ l, SmallNotice y) (k : Int) (hk : 0 ≤ k) (hb : k + (l.length : Int) * 26214409 ≤ 4611686018427387904) : AnsW Tryz.prog M 19 #[.slice A l.length c, .int .i64 k] (fun v M' => (∃ j : Int, v = .int .i64 j ∧ k ≤ j ∧ j ≤ k + (l.length : Int) * 26214409) ∧ sh M' = sh M) := by
  refine ansW_of T (l := [.slice A l.length c, .int .i64 k]) mixed Tryz.func19 rfl (by kernel_rfl) (Nat.le_of_ble_eq_true rfl) ?_
  (conv => whnf)
  refine LoopK.mk {p : Nat × Int × Mem // p.1 ≤ l.length ∧ sh p.2.2 = sh M0 ∧ k ≤ p.2.1 ∧ p.2.1 ≤ k + (p.1 : Int) * 26214409} (fun ⟨(i, j, _), _⟩ => [(0, .v (.slice A l.length c)), (1, .v (.int .i64 j)), (5, .v (.int .i64 (i : Int)))]) (fun _ => []) (fun p => p.1.2.2) (fun p => l.length - p.1.1) ⟨(0, k, M), Nat.zero_le _, hM, by simp only; omega, by simp only; omega⟩ ⟨⟨⟨rfl, rfl, rfl, trivial⟩, trivial, rfl, rfl⟩, rfl⟩ ?_
  rintro ⟨⟨i, j, M1⟩, hi, hM1, hj0, hj1⟩
  simp only at hi hM1 hj0 hj1
  (conv => whnf)
  refine CondK.mk (fun h1 => ?_) (fun h1 => ?_)
  · have hlt : i < l.length := by simpa using h1
    obtain ⟨ad, rfl, A0, c0, A1, c1, A2, c2, A3, c3, bnx, ⟨s0, s1, s2, s3⟩, x0, x1, x2, x3, x4, x5, x6, x7, x8, x9, x10, x11, x12⟩ := at_Notice h (List.getElem?_eq_getElem hlt)
    have y0 := hsm _ (List.getElem_mem hlt)
    have y1 := y0
    obtain ⟨y2, y3, y4, y5⟩ := y1
    have z0 := y2
    have z1 := y3
    have z2 := y4
    have z3 := y5
    repeat' ((conv => whnf); first | with_reducible refine CondK.tt ?_ | with_reducible refine CondK.ff ?_ | with_reducible refine CondK.not ?_ | refine CallK.mk _ (markText_a _ _ (by (try simp (disch := omega) only [i64_in]); omega)) ?_ | refine CallQ.mk _ (markText_a _ _ (by (try simp (disch := omega) only [i64_in]); omega)) ?_ | refine LdK.sh (by assumption) (by assumption) rfl ?_ | refine IdxK.mk _ rfl (by omega) (by omega) ?_ | refine DrawN.q (by kernel_rfl) ?_ | (refine WrK.sh (by assumption) rfl rfl (by assumption) rfl rfl (fun M1 hM1 => ?_)) | ((refine CallK.ms rfl (by assumption) (markHeadS_a _ _ (by assumption) _ _ _ s0 (by omega) (z0.2) _ (by (try simp (disch := omega) only [i64_in]); omega) (by (try simp (disch := omega) only [i64_in]); omega)) (fun _ _ _ => rfl) (fun v M2 hv hM2 => ?_)); obtain ⟨j2, rfl, g1, g2⟩ := hv; (try simp (disch := omega) only [i64_in] at g1 g2)) | ((refine CallK.ms rfl (by assumption) (markLastS_a _ _ (by assumption) _ _ _ s1 (by omega) (z1.2) _ (by (try simp (disch := omega) only [i64_in]); omega) (by (try simp (disch := omega) only [i64_in]); omega)) (fun _ _ _ => rfl) (fun v M2 hv hM2 => ?_)); obtain ⟨j2, rfl, g1, g2⟩ := hv; (try simp (disch := omega) only [i64_in] at g1 g2)) | ((refine CallK.ms rfl (by assumption) (markEntryS_a _ _ (by assumption) _ _ _ s2 (by omega) (z2.2) _ (by (try simp (disch := omega) only [i64_in]); omega) (by (try simp (disch := omega) only [i64_in]); omega)) (fun _ _ _ => rfl) (fun v M2 hv hM2 => ?_)); obtain ⟨j2, rfl, g1, g2⟩ := hv; (try simp (disch := omega) only [i64_in] at g1 g2)) | ((refine CallK.ms rfl (by assumption) (markChunkS_a _ _ (by assumption) _ _ _ s3 (by omega) (z3.2) _ (by (try simp (disch := omega) only [i64_in]); omega) (by (try simp (disch := omega) only [i64_in]); omega)) (fun _ _ _ => rfl) (fun v M2 hv hM2 => ?_)); obtain ⟨j2, rfl, g1, g2⟩ := hv; (try simp (disch := omega) only [i64_in] at g1 g2)) | exact rfl)
    exact ⟨⟨(i + 1, _, _), hlt, by assumption, (by simp only; (try simp (disch := omega) only [i64_in]); omega), (by simp only; (try simp (disch := omega) only [i64_in]); omega)⟩, ⟨⟨rfl, rfl, look_int (i64_succ (by omega)), trivial⟩, trivial, rfl, rfl⟩, rfl, by simp only; omega⟩
  · (conv => whnf)
    refine AndK.mk (fun ad u hu => sh_dom (hM1.trans hM.symm) hu) ?_
    have hii : i = l.length := by simp at h1; omega
    subst hii
    exact ⟨⟨j, rfl, hj0, hj1⟩, hM1.trans hM.symm⟩
end Go.Proofs.YtoedjkeahjmpiaaGreat.Hlp
