/- Worlds of nodes, drawn: small parts. -/
import Derived.Test.YtefhbbmklpnpoaaGreatFunFC
import Derived.Test.YtefhbbmklpnpoaaGreatFunSA
namespace Go.Proofs.YtefhbbmklpnpoaaGreat.Hlp
open Go Go.RowKit Go.Proofs Go.Proofs.YtefhbbmklpnpoaaGreat.Lw
set_option linter.unusedVariables false
set_option linter.unusedSimpArgs false
set_option maxRecDepth 100000
set_option maxHeartbeats 4000000
theorem l23Chunk_r (M : Mem) (nm : ByteArray) (v : GVer) (z1 z2 pos : Int) (s : ByteArray) (hs : s.size ≤ 1000) : AnsR Tryz.prog M 132 #[.agg #[.string nm, .int .i64 v.Epoch, .int .i64 v.Seq, .int .i64 z1, .int .i64 z2], .int .i64 pos, .string s] (fun _ u => ∃ x : Int, u = .agg #[.string nm, .int .i64 v.Epoch, .int .i64 v.Seq, .int .i64 pos, .int .i64 x, .string s] ∧ True) := by
  refine ansR_of T (l := [.agg #[.string nm, .int .i64 v.Epoch, .int .i64 v.Seq, .int .i64 z1, .int .i64 z2], .int .i64 pos, .string s]) mixed Tryz.func132 rfl (by kernel_rfl) (Nat.le_of_ble_eq_true rfl) ?_
  (conv => whnf)
  refine DrawN.w [1] {q : Int × Mem // True} (fun _ => [(6, .p 1 0)]) (fun ⟨⟨x, N⟩, _⟩ => [(1, [.string nm, .int .i64 v.Epoch, .int .i64 v.Seq, .int .i64 pos, .int .i64 x, .string s])]) 9 (fun ⟨⟨x, N⟩, _⟩ => N) (by kernel_rfl) ?_ ?_
  · repeat' ((conv => whnf); first | refine AndK.mk ?_ ?_ | refine HeldK.mk (by kernel_rfl) ?_ | refine CallK.mr _ (l01Crc_r _ s (by omega)) (fun v M1 hl1 hv => ?_) | fail)
    all_goals (obtain ⟨x, rfl⟩ := hv)
    all_goals repeat' ((conv => whnf); first | refine AndK.mk ?_ ?_ | refine HeldK.mk (by kernel_rfl) ?_ | exact ⟨⟨(_, _), trivial⟩, ⟨⟨rfl, trivial⟩, ⟨rfl, trivial⟩, rfl, rfl⟩, rfl⟩ | fail)
  · rintro ⟨⟨x, N⟩, _⟩
    (conv => whnf)
    exact RetK.mk fun g M' hl _ => ⟨x, rfl, trivial⟩
theorem l22FromW_a (M : Mem) (l : List GNotice) (A : Option Addr) (c : Nat) (h : SlR M RNotice 13 168 A c l) (n : Int) : AnsR Tryz.prog M 130 #[.slice A l.length c, .int .i64 n] (fun _ v => ∃ k : Int, v = .int .i64 k ∧ (k < 0 ∨ (0 ≤ k ∧ k < l.length))) := by
  have hl := h.len
  refine ansR_of T (l := [.slice A l.length c, .int .i64 n]) mixed Tryz.func130 rfl (by kernel_rfl) (Nat.le_of_ble_eq_true rfl) ?_
  (conv => whnf)
  refine LoopK.mk {k : Nat // k ≤ l.length} (fun ⟨k, _⟩ => [(0, .v (.slice A l.length c)), (1, .v (.int .i64 n)), (5, .v (.int .i64 (k : Int)))]) (fun _ => []) (fun _ => M) (fun k => l.length - k.1) ⟨0, Nat.zero_le _⟩ ⟨⟨⟨rfl, rfl, rfl, trivial⟩, trivial, rfl, rfl⟩, rfl⟩ ?_
  rintro ⟨k, hk⟩
  by_cases hlt : k < l.length
  · obtain ⟨ad, rfl, A0, c0, A1, c1, A2, c2, A3, c3, bnx, ⟨s0, s1, s2, s3⟩, x0, x1, x2, x3, x4, x5, x6, x7, x8, x9, x10, x11, x12⟩ := at_Notice h (List.getElem?_eq_getElem hlt)
    repeat' ((conv => whnf); first | refine CondK.yes' (decide_eq_true (by omega)) ?_ | refine IdxK.mk _ rfl (by omega) (by omega) ?_ | refine LdK.mk _ (by assumption) ?_ | refine DrawN.q (by kernel_rfl) ?_ | refine CondK.mk (fun hc => ?_) (fun hc => ?_) | fail)
    · exact RetK.mk fun g M' hl _ => ⟨_, rfl, .inr ⟨by omega, by omega⟩⟩
    · exact ⟨⟨k + 1, hlt⟩, ⟨⟨rfl, rfl, look_int (i64_succ (by omega)), trivial⟩, trivial, rfl, rfl⟩, rfl, by show l.length - (k + 1) < l.length - k; omega⟩
  · repeat' ((conv => whnf); first | refine CondK.no' (decide_eq_false (by omega)) ?_ | exact RetK.mk fun g M' hl _ => ⟨_, rfl, .inl (by decide)⟩ | fail)
theorem l22Own_r (M : Mem) (s : GPgState) (cs : List Value) (h : RPgState M s cs) (hsm : SmallS s) : AnsR Tryz.prog M 90 #[.agg cs.toArray] (fun M' v => ∃ cs' : List Value, v = .agg cs'.toArray ∧ cs'.length = 12 ∧ allOne cs' = true) := by
  obtain ⟨A0, c0, A1, c1, A2, c2, A3, c3, rfl, hb, s0, s1, s2, s3⟩ := h
  obtain ⟨h0, h1, h2, h3⟩ := hsm
  obtain ⟨ds0, r0, n0, m0⟩ := s0.row (fun x cs hx => (RHead.one x cs hx).1)
  obtain ⟨ds1, r1, n1, m1⟩ := s1.row (fun x cs hx => (RLast.one x cs hx).1)
  obtain ⟨ds2, r2, n2, m2⟩ := s2.row (fun x cs hx => (REntry.one x cs hx).1)
  obtain ⟨ds3, r3, n3, m3⟩ := s3.row (fun x cs hx => (RChunk.one x cs hx).1)
  refine ansR_of T (l := [.agg (List.toArray _)]) mixed Tryz.func90 rfl (by kernel_rfl) (Nat.le_of_ble_eq_true rfl) ?_
  (conv => whnf)
  refine SrcK.mk ds0 n0 m0 ?_
  (conv => whnf)
  refine AppK.mk (by show (2 * (0 + s.Base.length) + 512) * 48 ≤ 281474976710656; omega) (by omega) (.inr rfl) r0.all (fun k0 hk0 => ?_)
  (conv => whnf)
  refine PubK.mk (fun a0 M0 l0 p0 => ?_)
  (conv => whnf)
  refine SrcK.mk ds1 n1 (src_up m1 l0) ?_
  (conv => whnf)
  refine AppK.mk (by show (2 * (0 + s.Clients.length) + 512) * 32 ≤ 281474976710656; omega) (by omega) (.inr rfl) r1.all (fun k1 hk1 => ?_)
  (conv => whnf)
  refine PubK.mk (fun a1 M1 l1 p1 => ?_)
  (conv => whnf)
  refine SrcK.mk ds2 n2 (src_up m2 (l0.trans l1)) ?_
  (conv => whnf)
  refine AppK.mk (by show (2 * (0 + s.Log.length) + 512) * 88 ≤ 281474976710656; omega) (by omega) (.inr rfl) r2.all (fun k2 hk2 => ?_)
  (conv => whnf)
  refine PubK.mk (fun a2 M2 l2 p2 => ?_)
  (conv => whnf)
  refine SrcK.mk ds3 n3 (src_up m3 (l0.trans (l1.trans l2))) ?_
  (conv => whnf)
  refine AppK.mk (by show (2 * (0 + s.Chunks.length) + 512) * 64 ≤ 281474976710656; omega) (by omega) (.inr rfl) r3.all (fun k3 hk3 => ?_)
  (conv => whnf)
  refine PubK.mk (fun a3 M3 l3 p3 => ?_)
  (conv => whnf)
  exact RetK.mk fun g M' hl hg => ⟨_, rfl, rfl, rfl⟩
theorem l22OwnAll_r (M : Mem) (l : List GNotice) (A : Option Addr) (c : Nat) (h : SlR M RNotice 13 168 A c l) (hl : l.length ≤ 1000) (hsm : ∀ x ∈ l, SmallS x.State) : AnsR Tryz.prog M 38 #[.slice A l.length c] (fun _ v => ∃ A' n c', v = .slice A' n c') := by
  refine ansR_of T (l := [.slice A l.length c]) mixed Tryz.func38 rfl (by kernel_rfl) (Nat.le_of_ble_eq_true rfl) ?_
  (conv => whnf)
  refine LoopK.sw 0 1 {q : Nat × List Value × Nat × Mem // q.1 ≤ l.length ∧ q.1 ≤ q.2.2.1 ∧ Le M q.2.2.2} (fun ⟨⟨k, ds, cap, N⟩, _⟩ => [(0, .v (.slice A l.length c)), (3, .s 0 k cap 13), (4, .v (.int .i64 (k : Int)))]) (fun ⟨⟨k, ds, cap, N⟩, _⟩ => [(0, ds)]) (fun ⟨⟨k, ds, cap, N⟩, _⟩ => N) (fun q => l.length - q.1.1) ⟨(0, [], 0, M), Nat.zero_le _, Nat.le_refl _, fun _ _ h => h⟩ 0 ⟨⟨⟨rfl, rfl, rfl, trivial⟩, ⟨rfl, trivial⟩, rfl, rfl⟩, rfl⟩ ?_
  rintro ⟨⟨k, ds, cap, N⟩, hk, hcap, hlN⟩
  replace hk : k ≤ l.length := hk
  replace hcap : k ≤ cap := hcap
  replace hlN : Le M N := hlN
  by_cases hlt : k < l.length
  · obtain ⟨y, hy⟩ : ∃ y, l[k]? = some y := ⟨_, List.getElem?_eq_getElem hlt⟩
    have hsy := hsm y (List.mem_of_getElem? hy)
    obtain ⟨ad, rfl, A0, c0, A1, c1, A2, c2, A3, c3, bnx, ⟨s0, s1, s2, s3⟩, x0, x1, x2, x3, x4, x5, x6, x7, x8, x9, x10, x11, x12⟩ := at_Notice (h.mono hlN (RNotice.mono hlN)) hy
    (conv => whnf)
    refine CondK.yes' (decide_eq_true (by omega)) ?_
    (conv => whnf)
    refine DrawN.w [0] {q : List Value × Nat × Mem // k + 1 ≤ q.2.1 ∧ Le M q.2.2} (fun ⟨⟨ds, cap, N⟩, _⟩ => [(0, .v (.slice (some ad) l.length c)), (3, .s 2 (k + 1) cap 13), (4, .v (.int .i64 (k : Int)))]) (fun ⟨⟨ds, cap, N⟩, _⟩ => [(2, ds)]) 3 (fun ⟨⟨ds, cap, N⟩, _⟩ => N) (by kernel_rfl) ?_ ?_
    · repeat' ((conv => whnf); first | refine AndK.mk ?_ ?_ | refine HeldK.mk (by kernel_rfl) ?_ | refine IdxK.mk _ rfl (by omega) (by omega) ?_ | refine LdK.mk _ (by assumption) ?_ | refine CallK.mr _ (l22Own_r _ y.State _ ⟨A0, c0, A1, c1, A2, c2, A3, c3, rfl, trivial, s0, s1, s2, s3⟩ hsy) (fun v M1 hl1 hv => ?_) | fail)
      all_goals (obtain ⟨cs', rfl, hcl, hone⟩ := hv; match cs', hcl with | [b0, b1, b2, b3, b4, b5, b6, b7, b8, b9, b10, b11], _ => ?_)
      all_goals repeat' ((conv => whnf); first | refine AndK.mk ?_ ?_ | refine HeldK.mk (by kernel_rfl) ?_ | refine AppK.mk (by show (2 * (k + 1) + 512) * 168 ≤ 281474976710656; omega) (by omega) (.inr rfl) hone (fun cap3 hcap3 => ?_) | fail)
      all_goals exact ⟨⟨(_, cap3, M1), hcap3, hlN.trans hl1⟩, ⟨⟨rfl, rfl, rfl, trivial⟩, ⟨rfl, trivial⟩, rfl, rfl⟩, rfl⟩
    · rintro ⟨⟨ds1, cap1, N1⟩, hcap1, hl1⟩
      (conv => whnf)
      exact ⟨⟨(k + 1, ds1, cap1, N1), hlt, hcap1, hl1⟩, 2, ⟨⟨rfl, rfl, look_int (i64_succ (by omega)), trivial⟩, ⟨rfl, trivial⟩, rfl, rfl⟩, rfl, by show l.length - (k + 1) < l.length - k; omega⟩
  · (conv => whnf)
    refine CondK.no' (decide_eq_false (by omega)) ?_
    (conv => whnf)
    exact RetK.mk fun g M' hl _ => ⟨_, _, _, rfl⟩
end Go.Proofs.YtefhbbmklpnpoaaGreat.Hlp
