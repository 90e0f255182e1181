/- A state's clients at a version: the doors of both. -/
import Derived.Test.YtcppfjdhppoenaaGreatFunHF
namespace Go.Proofs.YtcppfjdhppoenaaGreat.Hlp
open Go Go.RowKit Go.Proofs Go.Proofs.YtcppfjdhppoenaaGreat.Lw
set_option linter.unusedVariables false
set_option linter.unusedSimpArgs false
set_option maxRecDepth 100000
set_option maxHeartbeats 4000000
theorem clientsTo_f (M : Mem) (s : GPgState) (cs : List Value) (h : RPgState M s cs) (hok : stateOkF s = true) (n : Nat) (hn : n ≤ s.Log.length) : AnsR Tryz.prog M 46 #[.agg cs.toArray, .int .i64 (n : Int)] (fun M' v => ∃ A' cap', v = .slice A' (clsTo s n).length cap' ∧ SlR (sub M' M) RLast 4 32 A' cap' (clsTo s n)) :=
  (clientsTo_n M s cs h hok n hn).imp fun M' v _ ⟨A', cap', ds', h1, h2, h3⟩ => ⟨A', cap', h1, h3.slS h2 (fun _ _ h => h) (by have := cls_len hok n hn; have := (state_base hok).2.2.2; omega)⟩
theorem l17ClientsAt_a (M : Mem) (s : GPgState) (cs : List Value) (h : RPgState M s cs) (hok : stateOkF s = true) (n : Nat) (hn : n ≤ s.Log.length) : AnsR Tryz.prog M 45 #[.agg cs.toArray, .int .i64 (n : Int)] (fun M' v => ∃ A' cap', v = .slice A' (clsTo s n).length cap' ∧ SlR M' RLast 4 32 A' cap' (clsTo s n)) := by
  obtain ⟨A0, c0, A1, c1, A2, c2, A3, c3, rfl, hb, s0, s1, s2, s3⟩ := h
  have hb0 := (state_cls hok).2
  have hb1 := (state_base hok).2.2.2
  have l2 := s2.len
  obtain ⟨ds0, r0, n0, m0⟩ := s1.row (fun x cs hx => (RLast.one x cs hx).1)
  refine ansR_of T (l := [.agg (List.toArray _), .int .i64 (n : Int)]) mixed Tryz.func45 rfl (by kernel_rfl) (Nat.le_of_ble_eq_true rfl) ?_
  (conv => whnf)
  refine SrcK.mk ds0 n0 m0 ?_
  (conv => whnf)
  refine AppK.mk (by show (2 * _ + 512) * 32 ≤ 281474976710656; omega) (by omega) (.inr rfl) r0.all (fun cap0 hcap0 => ?_)
  (conv => whnf)
  have z0 : (0 + s.Clients.length) = (clsTo s 0).length := by unfold clsTo; simp
  refine LoopK.mk {q : (Nat × Option (Option Addr × Nat)) × Mem // q.1.1 ≤ n ∧ Le M q.2 ∧ (match q.1.2 with | none => q.1.1 = 0 | some (A, c) => SlR q.2 RLast 4 32 A c (clsTo s q.1.1))} (fun ⟨⟨⟨k, o⟩, _⟩, _⟩ => [(1, .v (.int .i64 (n : Int))), (2, .p 0 0), (5, match o with | none => .s 2 (0 + s.Clients.length) cap0 4 | some (A, c) => .v (.slice A (clsTo s k).length c)), (6, .v (.int .i64 (k : Int)))]) (fun ⟨⟨⟨k, o⟩, _⟩, _⟩ => match o with | none => [(2, [] ++ ds0), (0, [.int .i64 s.Pg.Pool, .int .i64 s.Pg.No, .int .i64 s.Seen, .int .i64 s.Started, .int .i64 s.Tail.Epoch, .int .i64 s.Tail.Seq, .slice A0 s.Base.length c0, .slice A1 s.Clients.length c1, .slice A2 s.Log.length c2, .int .i64 s.Firm.Epoch, .int .i64 s.Firm.Seq, .slice A3 s.Chunks.length c3])] | some _ => [(0, [.int .i64 s.Pg.Pool, .int .i64 s.Pg.No, .int .i64 s.Seen, .int .i64 s.Started, .int .i64 s.Tail.Epoch, .int .i64 s.Tail.Seq, .slice A0 s.Base.length c0, .slice A1 s.Clients.length c1, .slice A2 s.Log.length c2, .int .i64 s.Firm.Epoch, .int .i64 s.Firm.Seq, .slice A3 s.Chunks.length c3])]) (fun q => q.1.2) (fun q => n - q.1.1.1) ⟨((0, none), M), Nat.zero_le _, Le.refl _, rfl⟩ ⟨⟨⟨rfl, rfl, rfl, rfl, trivial⟩, ⟨rfl, rfl, trivial⟩, rfl, rfl⟩, rfl⟩ ?_
  rintro ⟨⟨⟨k, o⟩, N1⟩, hk, hle, hr⟩
  simp only at hk hle hr
  have hlen := cls_len hok k (by omega)
  cases o with
  | none =>
    replace hr : k = 0 := hr
    subst hr
    (conv => whnf)
    refine CondK.mk (fun h1 => ?_) (fun h1 => ?_)
    · have hlt : 0 < n := by simpa using h1
      have hltL : 0 < s.Log.length := by omega
      obtain ⟨y, hyk⟩ : ∃ y, s.Log[0] = y := ⟨_, rfl⟩
      have hy : s.Log[0]? = some y := by rw [List.getElem?_eq_getElem hltL, hyk]
      obtain ⟨ad, rfl, bnx, x0, x1, x2, x3, x4, x5, x6, x7, x8, x9⟩ := at_Entry (s2.mono hle (REntry.mono hle)) hy
      have hst : clsTo s (0 + 1) = putL y s.Clients := by rw [clsTo_step hltL, hyk]; unfold clsTo; simp
      repeat' ((conv => whnf); first | refine IdxK.mk _ rfl (by omega) (by omega) ?_ | refine LdK.mk _ (by assumption) ?_ | refine DrawN.q (by kernel_rfl) ?_ | fail)
      refine PubK.mk fun a2 N2 hl2 hc2 => ?_
      have hrc : RowC N2 a2 4 s.Clients.length s.Clients.length ds0 := ⟨n0, Nat.le_refl _, fun o u hu => hc2 o u hu, fun o ho => ⟨_, hc2 o _ (List.getElem?_eq_getElem (by show o < ([] ++ ds0).length; rw [List.nil_append, n0]; exact ho))⟩⟩
      have h9 : SlR N2 RLast 4 32 (some a2) s.Clients.length s.Clients := RowC.sl (M' := M) hrc r0 (fun _ _ h => h) (by omega)
      have hsl : SlR N2 RLast 4 32 (some a2) cap0 s.Clients := ⟨by omega, h9.len, h9.el⟩
      (conv => whnf)
      refine CallK.mr _ (Nat.zero_add s.Clients.length ▸ l17PutLast_a N2 s.Clients (some a2) cap0 hsl (by omega) y bnx) (fun v N3 hl3 hv => ?_)
      obtain ⟨A', c', rfl, hr'⟩ := hv
      (conv => whnf)
      rw [← hst] at hr'
      exact ⟨⟨((0 + 1, some (A', c')), N3), hlt, hle.trans (hl2.trans hl3), hr'⟩, ⟨⟨rfl, rfl, congrArg (fun t : List GLast => some (PV.v (Value.slice A' t.length c'))) hst.symm, look_int (i64_succ (by omega)), trivial⟩, ⟨rfl, trivial⟩, rfl, rfl⟩, rfl, by simp only; omega⟩
    · have he : n = 0 := by have : ¬ 0 < n := by simpa using h1
                            omega
      subst he
      (conv => whnf)
      refine RetK.mk fun g M' hl hg => ⟨_, _, slice_eq z0, row_out r0 (by unfold clsTo; simp) (fun _ _ h => h) (fun o u hu => hg 2 _ rfl o u hu) (by omega) (by omega)⟩
  | some q =>
    obtain ⟨A, c⟩ := q
    replace hr : SlR N1 RLast 4 32 A c (clsTo s k) := hr
    (conv => whnf)
    refine CondK.mk (fun h1 => ?_) (fun h1 => ?_)
    · have hlt : k < n := by simpa using h1
      have hltL : k < s.Log.length := by omega
      obtain ⟨y, hyk⟩ : ∃ y, s.Log[k] = y := ⟨_, rfl⟩
      have hy : s.Log[k]? = some y := by rw [List.getElem?_eq_getElem hltL, hyk]
      obtain ⟨ad, rfl, bnx, x0, x1, x2, x3, x4, x5, x6, x7, x8, x9⟩ := at_Entry (s2.mono hle (REntry.mono hle)) hy
      have hst : clsTo s (k + 1) = putL y (clsTo s k) := by rw [clsTo_step hltL, hyk]
      repeat' ((conv => whnf); first | refine IdxK.mk _ rfl (by omega) (by omega) ?_ | refine LdK.mk _ (by assumption) ?_ | refine DrawN.q (by kernel_rfl) ?_ | fail)
      (conv => whnf)
      refine CallK.mr _ (l17PutLast_a N1 (clsTo s k) A c hr (by omega) y bnx) (fun v N3 hl3 hv => ?_)
      obtain ⟨A', c', rfl, hr'⟩ := hv
      (conv => whnf)
      rw [← hst] at hr'
      exact ⟨⟨((k + 1, some (A', c')), N3), hlt, hle.trans hl3, hr'⟩, ⟨⟨rfl, rfl, congrArg (fun t : List GLast => some (PV.v (Value.slice A' t.length c'))) hst.symm, look_int (i64_succ (by omega)), trivial⟩, ⟨rfl, trivial⟩, rfl, rfl⟩, rfl, by simp only; omega⟩
    · have he : k = n := by have : ¬ k < n := by simpa using h1
                            omega
      subst he
      (conv => whnf)
      exact RetK.mk fun g M' hl hg => ⟨A, c, rfl, hr.mono hl (fun _ _ h => h)⟩
def caF (s : GPgState) (v : GVer) : List GLast := if vcF s v = 0 then clsTo s (cntF s v).toNat else []
theorem caF_len (s : GPgState) (v : GVer) : (caF s v).length ≤ 30 := by
  unfold caF
  split
  · rename_i h
    have h1 := cntF_le s v
    have h2 : stateOkF s = true := by
      unfold vcF at h
      split at h
      · assumption
      · cases h
    have h3 := cls_len h2 (cntF s v).toNat (by omega)
    have h4 := (state_base h2).2.2.2
    omega
  · simp
theorem iClientsAt_f (M : Mem) (s : GPgState) (cs : List Value) (h : RPgState M s cs) (v : GVer) : AnsR Tryz.prog M 17 #[.agg cs.toArray, .agg #[.int .i64 v.Epoch, .int .i64 v.Seq]] (fun M' u => ∃ A' cap', u = .tuple #[.slice A' (caF s v).length cap', .int .i64 (vcF s v)] ∧ SlR (sub M' M) RLast 4 32 A' cap' (caF s v)) := by
  have hvc := versionCode_a M s cs h v
  have hh := clientsTo_f M s cs h
  obtain ⟨A0, c0, A1, c1, A2, c2, A3, c3, rfl, hb, s0, s1, s2, s3⟩ := h
  refine ansR_of T (l := [.agg (List.toArray _), .agg #[.int .i64 v.Epoch, .int .i64 v.Seq]]) mixed Tryz.func17 rfl (by kernel_rfl) (Nat.le_of_ble_eq_true rfl) ?_
  by_cases h0 : vcF s v = 0
  · have e : caF s v = clsTo s (cntF s v).toNat := by unfold caF; rw [if_pos h0]
    rw [if_pos h0, h0] at hvc
    rw [h0, e]
    have hs : stateOkF s = true ∧ 0 ≤ cntF s v := by rcases vc_cases s v with h1 | h1 | h1 <;> first | (exfalso; omega) | exact ⟨h1.1, h1.2.1⟩
    have hle := cntF_le s v
    have hh := hh hs.1 (cntF s v).toNat (by omega)
    rw [show (((cntF s v).toNat : Nat) : Int) = cntF s v by omega] at hh
    repeat' ((conv => whnf); first | with_reducible refine CondK.tt ?_ | with_reducible refine CondK.ff ?_ | refine CallK.mk _ hvc ?_ | (refine CallK.mr _ hh (fun u M1 hl1 hv => ?_); obtain ⟨Ag, cg, rfl, hr⟩ := hv) | refine DrawN.q (by kernel_rfl) ?_ | fail)
    exact RetK.mk fun g M' hl hg => ⟨Ag, cg, rfl, hr.mono (sub_mono _ hl) (fun _ _ h => h)⟩
  · have e : caF s v = [] := by unfold caF; rw [if_neg h0]
    rw [if_neg h0] at hvc
    rw [e]
    have hne : (vcF s v != 0) = true := by simpa using h0
    repeat' ((conv => whnf); first | refine CallK.mk _ hvc ?_ | refine CondK.yes' hne ?_ | refine DrawN.q (by kernel_rfl) ?_ | fail)
    exact RetK.mk fun g M' hl hg => ⟨none, 0, rfl, SlR.nil⟩
theorem sClientsAt_a (M : Mem) (s : GPgState) (cs : List Value) (h : RPgState M s cs) (v : GVer) : AnsR Tryz.prog M 16 #[.agg cs.toArray, .agg #[.int .i64 v.Epoch, .int .i64 v.Seq]] (fun M' u => ∃ A' cap', u = .tuple #[.slice A' (caF s v).length cap', .int .i64 (vcF s v)] ∧ SlR M' RLast 4 32 A' cap' (caF s v)) := by
  have hso := sStateOk_a M s cs h
  have hup := l17Upto_a M s cs h v
  have hh := l17ClientsAt_a M s cs h
  obtain ⟨A0, c0, A1, c1, A2, c2, A3, c3, rfl, hb, s0, s1, s2, s3⟩ := h
  refine ansR_of T (l := [.agg (List.toArray _), .agg #[.int .i64 v.Epoch, .int .i64 v.Seq]]) mixed Tryz.func16 rfl (by kernel_rfl) (Nat.le_of_ble_eq_true rfl) ?_
  rcases vc_cases s v with ⟨h2, h0⟩ | ⟨h2, hc, h0⟩ | ⟨h2, hc, h0⟩
  · have e : caF s v = [] := by unfold caF; rw [if_neg (by rw [h0]; decide)]
    rw [h0, e]
    repeat' ((conv => whnf); first | with_reducible refine CondK.tt ?_ | with_reducible refine CondK.ff ?_ | refine CallK.mk (.bool false) (h2 ▸ hso) ?_ | refine DrawN.q (by kernel_rfl) ?_ | fail)
    exact RetK.mk fun g M' hl hg => ⟨none, 0, rfl, SlR.nil⟩
  · have hup := hup (state_base h2).2.2.2
    have e : caF s v = [] := by unfold caF; rw [if_neg (by rw [h0]; decide)]
    rw [h0, e]
    repeat' ((conv => whnf); first | with_reducible refine CondK.tt ?_ | with_reducible refine CondK.ff ?_ | refine CallK.mk (.bool true) (h2 ▸ hso) ?_ | refine CallK.mk _ hup ?_ | refine CondK.yes' (decide_eq_true hc) ?_ | refine DrawN.q (by kernel_rfl) ?_ | fail)
    exact RetK.mk fun g M' hl hg => ⟨none, 0, rfl, SlR.nil⟩
  · have hup := hup (state_base h2).2.2.2
    have e : caF s v = clsTo s (cntF s v).toNat := by unfold caF; rw [if_pos h0]
    have hle := cntF_le s v
    have hh := hh h2 (cntF s v).toNat (by omega)
    rw [show (((cntF s v).toNat : Nat) : Int) = cntF s v by omega] at hh
    rw [h0, e]
    repeat' ((conv => whnf); first | with_reducible refine CondK.tt ?_ | with_reducible refine CondK.ff ?_ | refine CallK.mk (.bool true) (h2 ▸ hso) ?_ | refine CallK.mk _ hup ?_ | refine CondK.no' (decide_eq_false (show ¬ cntF s v < 0 by omega)) ?_ | (refine CallK.mr _ hh (fun u M1 hl1 hv => ?_); obtain ⟨Ag, cg, rfl, hr⟩ := hv) | refine DrawN.q (by kernel_rfl) ?_ | fail)
    exact RetK.mk fun g M' hl hg => ⟨Ag, cg, rfl, hr.mono hl (fun _ _ h => h)⟩
end Go.Proofs.YtcppfjdhppoenaaGreat.Hlp
