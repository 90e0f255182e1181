/- The laws' marks by the light walk. -/
import Derived.Test.YtmmgknhefobloaaHlpC
namespace Go.Proofs.Ytmmgknhefobloaa.Hlp
open Go Go.RowKit Go.Proofs Go.Proofs.Ytmmgknhefobloaa.Lw
set_option linter.unusedVariables false
set_option linter.unusedSimpArgs false
set_option maxRecDepth 100000
set_option maxHeartbeats 4000000
theorem sub_at {A B : Mem} {ad : Addr} {u : Value} (h : sub B A ad = some u) : A ad = none ∧ B ad = some u := by
  unfold sub at h
  cases ha : A ad with
  | none => rw [ha] at h; exact ⟨rfl, h⟩
  | some v => rw [ha] at h; cases h
theorem sub_none {A B : Mem} {ad : Addr} {u : Value} (h : A ad = some u) : sub B A ad = none := by unfold sub; rw [h]
theorem fr_trans {A B C : Mem} (h0 : Le A B) (h : Fr A B) (hl : Le B C) (k : Fr B C) : Fr A C := fun ad u hn hu ad' u' hu' => by
  cases hb : B ad with
  | some u2 => exact h ad u2 hn hb ad' u' hu'
  | none => exact k ad u hb hu ad' u' (h0 _ _ hu')
theorem fr_refl (A : Mem) : Fr A A := fun ad u hn hu => by rw [hn] at hu; cases hu
/-- What was new between two moments lies apart from all else. -/
theorem apart {A B C D : Mem} (h1 : Fr A B) (h2 : Fr B C) (hD : ∀ ad u, D ad = some u → ∃ v, C ad = some v) : ∀ ad u ad' u', sub B A ad = some u → D ad' = some u' → sub B A ad' = none → ad.block ≠ ad'.block := by
  intro ad u ad' u' h hu' hn
  obtain ⟨g1, g2⟩ := sub_at h
  obtain ⟨v, hv⟩ := hD ad' u' hu'
  cases ha : A ad' with
  | some w => exact (h1 ad u g1 g2 ad' w ha).symm
  | none =>
    have hb : B ad' = none := by unfold sub at hn; rw [ha] at hn; exact hn
    exact h2 ad' v hb hv ad u g2
theorem dom_w {Mx M M' : Mem} (hs : Le Mx M) (hn : ∀ ad, Mx ad = none → M' ad = M ad) : ∀ ad u, M' ad = some u → ∃ v, M ad = some v := fun ad u hu => by
  cases hx : Mx ad with
  | some v => exact ⟨v, hs ad v hx⟩
  | none => exact ⟨u, by rw [← hn ad hx]; exact hu⟩
theorem markIncS_a (M0 M : Mem) (hM : sh M = sh M0) (l : List GInc) (A : Option Addr) (c : Nat) (h : SlR M0 RInc 4 32 A c l) (hlen : l.length ≤ 1048576) (hsm : ∀ y ∈ l, True) (k : Int) (hk : 0 ≤ k) (hb : k + (l.length : Int) * 4 ≤ 4611686018427387904) : AnsW Try.prog M 11 #[.slice A l.length c, .int .i64 k] (fun v M' => (∃ j : Int, v = .int .i64 j ∧ k ≤ j ∧ j ≤ k + (l.length : Int) * 4) ∧ sh M' = sh M) := by
  refine ansW_of T (l := [.slice A l.length c, .int .i64 k]) mixed Try.func11 rfl (by kernel_rfl) (Nat.le_of_ble_eq_true rfl) ?_
  (conv => whnf)
  refine LoopK.mk {p : Nat × Int × Mem // p.1 ≤ l.length ∧ sh p.2.2 = sh M0 ∧ k ≤ p.2.1 ∧ p.2.1 ≤ k + (p.1 : Int) * 4} (fun ⟨(i, j, _), _⟩ => [(0, .v (.slice A l.length c)), (1, .v (.int .i64 j)), (5, .v (.int .i64 (i : Int)))]) (fun _ => []) (fun p => p.1.2.2) (fun p => l.length - p.1.1) ⟨(0, k, M), Nat.zero_le _, hM, by simp only; omega, by simp only; omega⟩ ⟨⟨⟨rfl, rfl, rfl, trivial⟩, trivial, rfl, rfl⟩, rfl⟩ ?_
  rintro ⟨⟨i, j, M1⟩, hi, hM1, hj0, hj1⟩
  simp only at hi hM1 hj0 hj1
  (conv => whnf)
  refine CondK.mk (fun h1 => ?_) (fun h1 => ?_)
  · have hlt : i < l.length := by simpa using h1
    obtain ⟨ad, rfl, bnx, x0, x1, x2, x3⟩ := at_Inc h (List.getElem?_eq_getElem hlt)
    repeat' ((conv => whnf); first | with_reducible refine CondK.tt ?_ | with_reducible refine CondK.ff ?_ | with_reducible refine CondK.not ?_ | refine CallK.mk _ (markText_a _ _ (by (try simp (disch := omega) only [i64_in]); omega)) ?_ | refine CallQ.mk _ (markText_a _ _ (by (try simp (disch := omega) only [i64_in]); omega)) ?_ | refine LdK.sh (by assumption) (by assumption) rfl ?_ | refine IdxK.mk _ rfl (by omega) (by omega) ?_ | refine DrawN.q (by kernel_rfl) ?_ | (refine WrK.sh (by assumption) rfl rfl (by assumption) rfl rfl (fun M1 hM1 => ?_)) | refine DivK.mk (by decide) ?_ | exact rfl)
    exact ⟨⟨(i + 1, _, _), hlt, by assumption, (by simp only; (try simp (disch := omega) only [i64_in]); omega), (by simp only; (try simp (disch := omega) only [i64_in]); omega)⟩, ⟨⟨rfl, rfl, look_int (i64_succ (by omega)), trivial⟩, trivial, rfl, rfl⟩, rfl, by simp only; omega⟩
  · (conv => whnf)
    refine AndK.mk (fun ad u hu => sh_dom (hM1.trans hM.symm) hu) ?_
    have hii : i = l.length := by simp at h1; omega
    subst hii
    exact ⟨⟨j, rfl, hj0, hj1⟩, hM1.trans hM.symm⟩
def MkInc (M : Mem) (A : Option Addr) (n : Nat) (k : Int) : Prop := ∀ i : Nat, i < n → ∃ ad, A = some ad ∧ M ((ad.add (i * 4)).add 0) = some (.int .i64 (k + (i : Int) * 4)) ∧ M ((ad.add (i * 4)).add 1) = some (.int .i64 (k + (i : Int) * 4 + 1)) ∧ M ((ad.add (i * 4)).add 2) = some (.int .i64 (k + (i : Int) * 4 + 1 + 1)) ∧ M ((ad.add (i * 4)).add 3) = some (.int .i64 (k + (i : Int) * 4 + 1 + 1 + 1))
theorem MkInc.mono {M M' : Mem} (hl : Le M M') {A : Option Addr} {n : Nat} {k : Int} (h : MkInc M A n k) : MkInc M' A n k := fun i hi => by
  obtain ⟨ad, h0, x0, x1, x2, x3⟩ := h i hi
  exact ⟨ad, h0, hl _ _ x0, hl _ _ x1, hl _ _ x2, hl _ _ x3⟩
theorem markIncS_x (M0 M : Mem) (hM : sh M = sh M0) (l : List GInc) (A : Option Addr) (c : Nat) (h : SlR M0 RInc 4 32 A c l) (hlen : l.length ≤ 1048576) (k : Int) (hk : 0 ≤ k) (hb : k + (l.length : Int) * 4 ≤ 4611686018427387904) : AnsW Try.prog M 11 #[.slice A l.length c, .int .i64 k] (fun v M' => (v = .int .i64 (k + (l.length : Int) * 4) ∧ MkInc M' A l.length k) ∧ sh M' = sh M) := by
  refine ansW_of T (l := [.slice A l.length c, .int .i64 k]) mixed Try.func11 rfl (by kernel_rfl) (Nat.le_of_ble_eq_true rfl) ?_
  (conv => whnf)
  refine LoopK.mk {p : Nat × Mem // p.1 ≤ l.length ∧ sh p.2 = sh M0 ∧ MkInc p.2 A p.1 k} (fun ⟨(i, _), _⟩ => [(0, .v (.slice A l.length c)), (1, .v (.int .i64 (k + (i : Int) * 4))), (5, .v (.int .i64 (i : Int)))]) (fun _ => []) (fun p => p.1.2) (fun p => l.length - p.1.1) ⟨(0, M), Nat.zero_le _, hM, fun i hi => absurd hi (Nat.not_lt_zero i)⟩ ⟨⟨⟨rfl, look_int (by simp), rfl, trivial⟩, trivial, rfl, rfl⟩, rfl⟩ ?_
  rintro ⟨⟨i, M1⟩, hi, hM1, hmk⟩
  simp only at hi hM1 hmk
  (conv => whnf)
  refine CondK.mk (fun h1 => ?_) (fun h1 => ?_)
  · have hlt : i < l.length := by simpa using h1
    obtain ⟨ad, rfl, bnx, x0, x1, x2, x3⟩ := at_Inc h (List.getElem?_eq_getElem hlt)
    repeat' ((conv => whnf); first | with_reducible refine CondK.tt ?_ | with_reducible refine CondK.ff ?_ | with_reducible refine CondK.not ?_ | refine IdxK.mk _ rfl (by omega) (by omega) ?_ | refine DrawN.q (by kernel_rfl) ?_ | (refine WrK.us (ad := (ad.add (i * 4)).add 0) (by assumption) rfl rfl x0 rfl rfl (fun hM1 => ?_)) | (refine WrK.us (ad := (ad.add (i * 4)).add 1) (by assumption) rfl rfl x1 rfl rfl (fun hM1 => ?_)) | (refine WrK.us (ad := (ad.add (i * 4)).add 2) (by assumption) rfl rfl x2 rfl rfl (fun hM1 => ?_)) | (refine WrK.us (ad := (ad.add (i * 4)).add 3) (by assumption) rfl rfl x3 rfl rfl (fun hM1 => ?_)))
    refine ⟨⟨(i + 1, upd (upd (upd (upd (M1) ((ad.add (i * 4)).add 0) (.int .i64 (k + (i : Int) * 4))) ((ad.add (i * 4)).add 1) (.int .i64 (IntKind.i64.wrap (k + (i : Int) * 4 + 1)))) ((ad.add (i * 4)).add 2) (.int .i64 (IntKind.i64.wrap (IntKind.i64.wrap (k + (i : Int) * 4 + 1) + 1)))) ((ad.add (i * 4)).add 3) (.int .i64 (IntKind.i64.wrap (IntKind.i64.wrap (IntKind.i64.wrap (k + (i : Int) * 4 + 1) + 1) + 1)))), hlt, by assumption, fun i' hi' => ?_⟩, ⟨⟨rfl, look_int (by (try simp (disch := omega) only [i64_in]); omega), look_int (i64_succ (by omega)), trivial⟩, trivial, rfl, rfl⟩, rfl, by simp only; omega⟩
    simp only at hi'
    by_cases he : i' = i
    · subst he
      refine ⟨ad, rfl, ?_, ?_, ?_, ?_⟩
      · simp (disch := omega) only [upd_ne, upd_eq, i64_in]
      · simp (disch := omega) only [upd_ne, upd_eq, i64_in]
      · simp (disch := omega) only [upd_ne, upd_eq, i64_in]
      · simp (disch := omega) only [upd_ne, upd_eq, i64_in]
    · obtain ⟨ad', h9, w0, w1, w2, w3⟩ := hmk i' (by omega)
      simp only [Option.some.injEq] at h9
      subst h9
      refine ⟨ad, rfl, ?_, ?_, ?_, ?_⟩
      · simp (disch := omega) only [upd_ne]; exact w0
      · simp (disch := omega) only [upd_ne]; exact w1
      · simp (disch := omega) only [upd_ne]; exact w2
      · simp (disch := omega) only [upd_ne]; exact w3
  · (conv => whnf)
    refine AndK.mk (fun ad u hu => sh_dom (hM1.trans hM.symm) hu) ?_
    have hii : i = l.length := by simp at h1; omega
    subst hii
    exact ⟨⟨rfl, hmk⟩, hM1.trans hM.symm⟩
theorem heldIncS_a (M : Mem) (n : Nat) (A : Option Addr) (c : Nat) (k : Int) (h : MkInc M A n k) (hlen : n ≤ 1048576) (hk : 0 ≤ k) (hb : k + (n : Int) * 4 ≤ 4611686018427387904) : Ans Try.prog M 12 #[.slice A n c, .int .i64 k] (.int .i64 (k + (n : Int) * 4)) := by
  refine ans_of T (l := [.slice A n c, .int .i64 k]) mixed Try.func12 rfl (by kernel_rfl) (Nat.le_of_ble_eq_true rfl) ?_
  (conv => whnf)
  refine LoopK.mk {i : Nat // i ≤ n} (fun ⟨i, _⟩ => [(0, .v (.slice A n c)), (1, .v (.int .i64 (k + (i : Int) * 4))), (5, .v (.int .i64 (i : Int)))]) (fun _ => []) (fun _ => M) (fun p => n - p.1) ⟨0, Nat.zero_le _⟩ ⟨⟨⟨rfl, look_int (by simp), rfl, trivial⟩, trivial, rfl, rfl⟩, rfl⟩ ?_
  rintro ⟨i, hi⟩
  (conv => whnf)
  refine CondK.mk (fun h1 => ?_) (fun h1 => ?_)
  · have hlt : i < n := by simpa using h1
    obtain ⟨ad, rfl, w0, w1, w2, w3⟩ := h i hlt
    repeat' ((conv => whnf); first | with_reducible refine CondK.tt ?_ | with_reducible refine CondK.ff ?_ | with_reducible refine CondK.not ?_ | refine LdK.mk _ (by assumption) ?_ | refine IdxK.mk _ rfl (by omega) (by omega) ?_ | refine DrawN.q (by kernel_rfl) ?_ | (refine CondK.no' ?_ ?_; focus (simp (disch := omega) [i64_in]; done)) | (refine CondK.yes' ?_ ?_; focus (simp (disch := omega) [i64_in]; done)))
    exact ⟨⟨i + 1, hlt⟩, ⟨⟨rfl, look_int (by (try simp (disch := omega) only [i64_in]); omega), look_int (i64_succ (by omega)), trivial⟩, trivial, rfl, rfl⟩, rfl, by simp only; omega⟩
  · have hii : i = n := by simp at h1; omega
    subst hii
    rfl
theorem markSlotS_a (M0 M : Mem) (hM : sh M = sh M0) (l : List GSlot) (A : Option Addr) (c : Nat) (h : SlR M0 RSlot 9 72 A c l) (hlen : l.length ≤ 1048576) (hsm : ∀ y ∈ l, True) (k : Int) (hk : 0 ≤ k) (hb : k + (l.length : Int) * 9 ≤ 4611686018427387904) : AnsW Try.prog M 24 #[.slice A l.length c, .int .i64 k] (fun v M' => (∃ j : Int, v = .int .i64 j ∧ k ≤ j ∧ j ≤ k + (l.length : Int) * 9) ∧ sh M' = sh M) := by
  refine ansW_of T (l := [.slice A l.length c, .int .i64 k]) mixed Try.func24 rfl (by kernel_rfl) (Nat.le_of_ble_eq_true rfl) ?_
  (conv => whnf)
  refine LoopK.mk {p : Nat × Int × Mem // p.1 ≤ l.length ∧ sh p.2.2 = sh M0 ∧ k ≤ p.2.1 ∧ p.2.1 ≤ k + (p.1 : Int) * 9} (fun ⟨(i, j, _), _⟩ => [(0, .v (.slice A l.length c)), (1, .v (.int .i64 j)), (5, .v (.int .i64 (i : Int)))]) (fun _ => []) (fun p => p.1.2.2) (fun p => l.length - p.1.1) ⟨(0, k, M), Nat.zero_le _, hM, by simp only; omega, by simp only; omega⟩ ⟨⟨⟨rfl, rfl, rfl, trivial⟩, trivial, rfl, rfl⟩, rfl⟩ ?_
  rintro ⟨⟨i, j, M1⟩, hi, hM1, hj0, hj1⟩
  simp only at hi hM1 hj0 hj1
  (conv => whnf)
  refine CondK.mk (fun h1 => ?_) (fun h1 => ?_)
  · have hlt : i < l.length := by simpa using h1
    obtain ⟨ad, rfl, bnx, x0, x1, x2, x3, x4, x5, x6, x7, x8⟩ := at_Slot h (List.getElem?_eq_getElem hlt)
    repeat' ((conv => whnf); first | with_reducible refine CondK.tt ?_ | with_reducible refine CondK.ff ?_ | with_reducible refine CondK.not ?_ | refine CallK.mk _ (markText_a _ _ (by (try simp (disch := omega) only [i64_in]); omega)) ?_ | refine CallQ.mk _ (markText_a _ _ (by (try simp (disch := omega) only [i64_in]); omega)) ?_ | refine LdK.sh (by assumption) (by assumption) rfl ?_ | refine IdxK.mk _ rfl (by omega) (by omega) ?_ | refine DrawN.q (by kernel_rfl) ?_ | (refine WrK.sh (by assumption) rfl rfl (by assumption) rfl rfl (fun M1 hM1 => ?_)) | refine DivK.mk (by decide) ?_ | exact rfl)
    exact ⟨⟨(i + 1, _, _), hlt, by assumption, (by simp only; (try simp (disch := omega) only [i64_in]); omega), (by simp only; (try simp (disch := omega) only [i64_in]); omega)⟩, ⟨⟨rfl, rfl, look_int (i64_succ (by omega)), trivial⟩, trivial, rfl, rfl⟩, rfl, by simp only; omega⟩
  · (conv => whnf)
    refine AndK.mk (fun ad u hu => sh_dom (hM1.trans hM.symm) hu) ?_
    have hii : i = l.length := by simp at h1; omega
    subst hii
    exact ⟨⟨j, rfl, hj0, hj1⟩, hM1.trans hM.symm⟩
theorem markInt64S_a (M0 M : Mem) (hM : sh M = sh M0) (l : List Int) (A : Option Addr) (c : Nat) (h : SlR M0 RInt 1 8 A c l) (hlen : l.length ≤ 1048576) (hsm : ∀ y ∈ l, True) (k : Int) (hk : 0 ≤ k) (hb : k + (l.length : Int) * 1 ≤ 4611686018427387904) : AnsW Try.prog M 25 #[.slice A l.length c, .int .i64 k] (fun v M' => (∃ j : Int, v = .int .i64 j ∧ k ≤ j ∧ j ≤ k + (l.length : Int) * 1) ∧ sh M' = sh M) := by
  refine ansW_of T (l := [.slice A l.length c, .int .i64 k]) mixed Try.func25 rfl (by kernel_rfl) (Nat.le_of_ble_eq_true rfl) ?_
  (conv => whnf)
  refine LoopK.mk {p : Nat × Int × Mem // p.1 ≤ l.length ∧ sh p.2.2 = sh M0 ∧ k ≤ p.2.1 ∧ p.2.1 ≤ k + (p.1 : Int) * 1} (fun ⟨(i, j, _), _⟩ => [(0, .v (.slice A l.length c)), (1, .v (.int .i64 j)), (5, .v (.int .i64 (i : Int)))]) (fun _ => []) (fun p => p.1.2.2) (fun p => l.length - p.1.1) ⟨(0, k, M), Nat.zero_le _, hM, by simp only; omega, by simp only; omega⟩ ⟨⟨⟨rfl, rfl, rfl, trivial⟩, trivial, rfl, rfl⟩, rfl⟩ ?_
  rintro ⟨⟨i, j, M1⟩, hi, hM1, hj0, hj1⟩
  simp only at hi hM1 hj0 hj1
  (conv => whnf)
  refine CondK.mk (fun h1 => ?_) (fun h1 => ?_)
  · have hlt : i < l.length := by simpa using h1
    obtain ⟨ad, rfl, bnx, x0⟩ := at_Int h (List.getElem?_eq_getElem hlt)
    repeat' ((conv => whnf); first | with_reducible refine CondK.tt ?_ | with_reducible refine CondK.ff ?_ | with_reducible refine CondK.not ?_ | refine CallK.mk _ (markText_a _ _ (by (try simp (disch := omega) only [i64_in]); omega)) ?_ | refine CallQ.mk _ (markText_a _ _ (by (try simp (disch := omega) only [i64_in]); omega)) ?_ | refine LdK.sh (by assumption) (by assumption) rfl ?_ | refine IdxK.mk _ rfl (by omega) (by omega) ?_ | refine DrawN.q (by kernel_rfl) ?_ | (refine WrK.sh (by assumption) rfl rfl (by assumption) rfl rfl (fun M1 hM1 => ?_)) | refine DivK.mk (by decide) ?_ | exact rfl)
    exact ⟨⟨(i + 1, _, _), hlt, by assumption, (by simp only; (try simp (disch := omega) only [i64_in]); omega), (by simp only; (try simp (disch := omega) only [i64_in]); omega)⟩, ⟨⟨rfl, rfl, look_int (i64_succ (by omega)), trivial⟩, trivial, rfl, rfl⟩, rfl, by simp only; omega⟩
  · (conv => whnf)
    refine AndK.mk (fun ad u hu => sh_dom (hM1.trans hM.symm) hu) ?_
    have hii : i = l.length := by simp at h1; omega
    subst hii
    exact ⟨⟨j, rfl, hj0, hj1⟩, hM1.trans hM.symm⟩
theorem markMonS_a (M0 M : Mem) (hM : sh M = sh M0) (l : List GMon) (A : Option Addr) (c : Nat) (h : SlR M0 RMon 15 168 A c l) (hlen : l.length ≤ 1048576) (hsm : ∀ y ∈ l, SmallMon y) (k : Int) (hk : 0 ≤ k) (hb : k + (l.length : Int) * 11534348 ≤ 4611686018427387904) : AnsW Try.prog M 10 #[.slice A l.length c, .int .i64 k] (fun v M' => (∃ j : Int, v = .int .i64 j ∧ k ≤ j ∧ j ≤ k + (l.length : Int) * 11534348) ∧ sh M' = sh M) := by
  refine ansW_of T (l := [.slice A l.length c, .int .i64 k]) mixed Try.func10 rfl (by kernel_rfl) (Nat.le_of_ble_eq_true rfl) ?_
  (conv => whnf)
  refine LoopK.mk {p : Nat × Int × Mem // p.1 ≤ l.length ∧ sh p.2.2 = sh M0 ∧ k ≤ p.2.1 ∧ p.2.1 ≤ k + (p.1 : Int) * 11534348} (fun ⟨(i, j, _), _⟩ => [(0, .v (.slice A l.length c)), (1, .v (.int .i64 j)), (5, .v (.int .i64 (i : Int)))]) (fun _ => []) (fun p => p.1.2.2) (fun p => l.length - p.1.1) ⟨(0, k, M), Nat.zero_le _, hM, by simp only; omega, by simp only; omega⟩ ⟨⟨⟨rfl, rfl, rfl, trivial⟩, trivial, rfl, rfl⟩, rfl⟩ ?_
  rintro ⟨⟨i, j, M1⟩, hi, hM1, hj0, hj1⟩
  simp only at hi hM1 hj0 hj1
  (conv => whnf)
  refine CondK.mk (fun h1 => ?_) (fun h1 => ?_)
  · have hlt : i < l.length := by simpa using h1
    obtain ⟨ad, rfl, A0, c0, A1, c1, A2, c2, bnx, ⟨s0, s1, s2⟩, x0, x1, x2, x3, x4, x5, x6, x7, x8, x9, x10, x11, x12, x13, x14⟩ := at_Mon h (List.getElem?_eq_getElem hlt)
    have y0 := hsm _ (List.getElem_mem hlt)
    obtain ⟨y1, y2⟩ := y0
    obtain ⟨y3, y4⟩ := y2
    have z0 := y1
    have z1 := y3
    have z2 := y4
    repeat' ((conv => whnf); first | with_reducible refine CondK.tt ?_ | with_reducible refine CondK.ff ?_ | with_reducible refine CondK.not ?_ | refine CallK.mk _ (markText_a _ _ (by (try simp (disch := omega) only [i64_in]); omega)) ?_ | refine CallQ.mk _ (markText_a _ _ (by (try simp (disch := omega) only [i64_in]); omega)) ?_ | refine LdK.sh (by assumption) (by assumption) rfl ?_ | refine IdxK.mk _ rfl (by omega) (by omega) ?_ | refine DrawN.q (by kernel_rfl) ?_ | (refine WrK.sh (by assumption) rfl rfl (by assumption) rfl rfl (fun M1 hM1 => ?_)) | refine DivK.mk (by decide) ?_ | ((refine CallK.ms rfl (by assumption) (markSlotS_a _ _ (by assumption) _ _ _ s0 (by omega) (z0.2) _ (by (try simp (disch := omega) only [i64_in]); omega) (by (try simp (disch := omega) only [i64_in]); omega)) (fun _ _ _ => rfl) (fun v M2 hv hM2 => ?_)); obtain ⟨j2, rfl, g1, g2⟩ := hv; (try simp (disch := omega) only [i64_in] at g1 g2)) | ((refine CallK.ms rfl (by assumption) (markInt64S_a _ _ (by assumption) _ _ _ s1 (by omega) (z1.2) _ (by (try simp (disch := omega) only [i64_in]); omega) (by (try simp (disch := omega) only [i64_in]); omega)) (fun _ _ _ => rfl) (fun v M2 hv hM2 => ?_)); obtain ⟨j2, rfl, g1, g2⟩ := hv; (try simp (disch := omega) only [i64_in] at g1 g2)) | ((refine CallK.ms rfl (by assumption) (markInt64S_a _ _ (by assumption) _ _ _ s2 (by omega) (z2.2) _ (by (try simp (disch := omega) only [i64_in]); omega) (by (try simp (disch := omega) only [i64_in]); omega)) (fun _ _ _ => rfl) (fun v M2 hv hM2 => ?_)); obtain ⟨j2, rfl, g1, g2⟩ := hv; (try simp (disch := omega) only [i64_in] at g1 g2)) | exact rfl)
    exact ⟨⟨(i + 1, _, _), hlt, by assumption, (by simp only; (try simp (disch := omega) only [i64_in]); omega), (by simp only; (try simp (disch := omega) only [i64_in]); omega)⟩, ⟨⟨rfl, rfl, look_int (i64_succ (by omega)), trivial⟩, trivial, rfl, rfl⟩, rfl, by simp only; omega⟩
  · (conv => whnf)
    refine AndK.mk (fun ad u hu => sh_dom (hM1.trans hM.symm) hu) ?_
    have hii : i = l.length := by simp at h1; omega
    subst hii
    exact ⟨⟨j, rfl, hj0, hj1⟩, hM1.trans hM.symm⟩
end Go.Proofs.Ytmmgknhefobloaa.Hlp
