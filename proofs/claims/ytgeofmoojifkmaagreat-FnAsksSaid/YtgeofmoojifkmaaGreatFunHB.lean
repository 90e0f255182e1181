/- A state's heads at a version: the doors of both. -/
import Derived.Test.YtgeofmoojifkmaaGreatFunHA
namespace Go.Proofs.YtgeofmoojifkmaaGreat.Hlp
open Go Go.RowKit Go.Proofs Go.Proofs.YtgeofmoojifkmaaGreat.Lw
set_option linter.unusedVariables false
set_option linter.unusedSimpArgs false
set_option maxRecDepth 100000
set_option maxHeartbeats 4000000
def ixE (l : List GEntry) (v : GVer) : Int := match l.findIdx? (fun e => decide (e.Ver = v)) with | some i => (i : Int) | none => -1
theorem ixE_at {v : GVer} {l : List GEntry} {k : Nat} (hk : k < l.length) (h : decide (l[k].Ver = v) = true) (ha : ∀ (j : Nat) (hj : j < l.length), j < k → decide ((l[j]'hj).Ver = v) = false) : ixE l v = (k : Int) := by
  unfold ixE
  rw [List.findIdx?_eq_some_iff_getElem.2 ⟨hk, h, fun j hj => by rw [ha j (by omega) hj]; decide⟩]
theorem ixE_none {v : GVer} {l : List GEntry} (ha : ∀ (j : Nat) (hj : j < l.length), decide ((l[j]'hj).Ver = v) = false) : ixE l v = -1 := by
  unfold ixE
  rw [List.findIdx?_eq_none_iff.2 fun x hx => by obtain ⟨j, hj, rfl⟩ := List.getElem_of_mem hx; exact ha j hj]
theorem ixE_lt (l : List GEntry) (v : GVer) : -1 ≤ ixE l v ∧ ixE l v < l.length := by
  unfold ixE
  cases h : l.findIdx? (fun e => decide (e.Ver = v)) with
  | none => simp only; omega
  | some i => obtain ⟨hi, _⟩ := List.findIdx?_eq_some_iff_getElem.1 h; simp only; omega
def cntF (s : GPgState) (v : GVer) : Int := if v = s.Tail then 0 else if ixE s.Log v < 0 then -1 else ixE s.Log v + 1
theorem cntF_le (s : GPgState) (v : GVer) : -1 ≤ cntF s v ∧ cntF s v ≤ s.Log.length := by
  have := ixE_lt s.Log v
  unfold cntF
  split
  · omega
  · split <;> omega
theorem l17Upto_a (M : Mem) (s : GPgState) (cs : List Value) (h : RPgState M s cs) (v : GVer) (hb24 : s.Log.length ≤ 24) : Ans Tryz.prog M 111 #[.agg cs.toArray, .agg #[.int .i64 v.Epoch, .int .i64 v.Seq]] (.int .i64 (cntF s v)) := by
  obtain ⟨A0, c0, A1, c1, A2, c2, A3, c3, rfl, hb, s0, s1, s2, s3⟩ := h
  have l2 := s2.len
  refine ans_of T (l := [.agg (List.toArray _), .agg #[.int .i64 v.Epoch, .int .i64 v.Seq]]) mixed Tryz.func111 rfl (by kernel_rfl) (Nat.le_of_ble_eq_true rfl) ?_
  by_cases hv : v = s.Tail
  · have e : cntF s v = 0 := by unfold cntF; rw [if_pos hv]
    rw [e]
    (conv => whnf)
    refine CondK.yes' (by rw [eqv_Ver]; exact decide_eq_true hv) ?_
    (conv => whnf)
    exact rfl
  (conv => whnf)
  refine CondK.no' (by rw [eqv_Ver]; exact decide_eq_false hv) ?_
  (conv => whnf)
  refine LoopK.mk {k : Nat // k ≤ s.Log.length ∧ ∀ (j : Nat) (hj : j < s.Log.length), j < k → decide ((s.Log[j]'hj).Ver = v) = false} (fun ⟨k, _⟩ => [(2, .p 0 0), (3, .p 1 0), (5, .v (.int .i64 (k : Int)))]) (fun _ => [(1, [.int .i64 v.Epoch, .int .i64 v.Seq]), (0, [.int .i64 s.Pg.Pool, .int .i64 s.Pg.No, .int .i64 s.Seen, .int .i64 s.Started, .int .i64 s.Tail.Epoch, .int .i64 s.Tail.Seq, .slice A0 s.Base.length c0, .slice A1 s.Clients.length c1, .slice A2 s.Log.length c2, .int .i64 s.Firm.Epoch, .int .i64 s.Firm.Seq, .slice A3 s.Chunks.length c3])]) (fun _ => M) (fun k => s.Log.length - k.1) ⟨0, Nat.zero_le _, fun j _ hj => absurd hj (by omega)⟩ ⟨⟨⟨rfl, rfl, rfl, trivial⟩, ⟨rfl, rfl, trivial⟩, rfl, rfl⟩, rfl⟩ ?_
  rintro ⟨k, hk, hp⟩
  (conv => whnf)
  refine CondK.mk (fun h1 => ?_) (fun h1 => ?_)
  · have hlt : k < s.Log.length := by simpa using h1
    obtain ⟨ad, rfl, bnx, x0, x1, x2, x3, x4, x5, x6, x7, x8, x9⟩ := at_Entry s2 (List.getElem?_eq_getElem hlt)
    repeat' ((conv => whnf); first | refine IdxK.mk _ rfl (by omega) (by omega) ?_ | refine LdK.mk _ (by assumption) ?_ | refine DrawN.q (by kernel_rfl) ?_ | fail)
    cases hc : decide (s.Log[k].Ver = v) with
    | true =>
      refine CondK.yes' (by rw [eqv_Ver]; exact hc) ?_
      (conv => whnf)
      have e : cntF s v = ((k + 1 : Nat) : Int) := by
        unfold cntF
        rw [if_neg hv, ixE_at hlt hc hp, if_neg (by omega)]
        push_cast; rfl
      rw [e]
      exact ret_int (i64_succ (by omega))
    | false =>
      refine CondK.no' (by rw [eqv_Ver]; exact hc) ?_
      (conv => whnf)
      exact ⟨⟨k + 1, hlt, fun j hj hj' => by rcases Nat.lt_succ_iff_lt_or_eq.mp hj' with hj' | rfl; exact hp j hj hj'; exact hc⟩, ⟨⟨rfl, rfl, look_int (i64_succ (by omega)), trivial⟩, ⟨rfl, rfl, trivial⟩, rfl, rfl⟩, rfl, by simp; omega⟩
  · have he : k = s.Log.length := by have : ¬ k < s.Log.length := by simpa using h1
                                     omega
    subst he
    have e : cntF s v = -1 := by
      unfold cntF
      rw [if_neg hv, ixE_none fun j hj => hp j hj hj]
      rfl
    rw [e]
    exact rfl
def vcF (s : GPgState) (v : GVer) : Int := if stateOkF s = true then (if cntF s v < 0 then 3 else 0) else 1
theorem l17HeadsAt_a (M : Mem) (s : GPgState) (cs : List Value) (h : RPgState M s cs) (hok : stateOkF s = true) (n : Nat) (hn : n ≤ s.Log.length) : AnsR Tryz.prog M 138 #[.agg cs.toArray, .int .i64 (n : Int)] (fun M' v => ∃ A' cap', v = .slice A' (hdsTo s n).length cap' ∧ SlR M' RHead 5 48 A' cap' (hdsTo s n)) := by
  obtain ⟨A0, c0, A1, c1, A2, c2, A3, c3, rfl, hb, s0, s1, s2, s3⟩ := h
  have hb0 := (state_base hok).2
  have l2 := s2.len
  obtain ⟨ds0, r0, n0, m0⟩ := s0.row (fun x cs hx => (RHead.one x cs hx).1)
  refine ansR_of T (l := [.agg (List.toArray _), .int .i64 (n : Int)]) mixed Tryz.func138 rfl (by kernel_rfl) (Nat.le_of_ble_eq_true rfl) ?_
  (conv => whnf)
  refine SrcK.mk ds0 n0 m0 ?_
  (conv => whnf)
  refine AppK.mk (by show (2 * _ + 512) * 48 ≤ 281474976710656; omega) (by omega) (.inr rfl) r0.all (fun cap0 hcap0 => ?_)
  (conv => whnf)
  have z0 : (0 + s.Base.length) = (hdsTo s 0).length := by unfold hdsTo; simp
  refine LoopK.mk {q : (Nat × Option (Option Addr × Nat)) × Mem // q.1.1 ≤ n ∧ Le M q.2 ∧ (match q.1.2 with | none => q.1.1 = 0 | some (A, c) => SlR q.2 RHead 5 48 A c (hdsTo s q.1.1))} (fun ⟨⟨⟨k, o⟩, _⟩, _⟩ => [(1, .v (.int .i64 (n : Int))), (2, .p 0 0), (5, match o with | none => .s 2 (0 + s.Base.length) cap0 5 | some (A, c) => .v (.slice A (hdsTo s k).length c)), (6, .v (.int .i64 (k : Int)))]) (fun ⟨⟨⟨k, o⟩, _⟩, _⟩ => match o with | none => [(2, [] ++ ds0), (0, [.int .i64 s.Pg.Pool, .int .i64 s.Pg.No, .int .i64 s.Seen, .int .i64 s.Started, .int .i64 s.Tail.Epoch, .int .i64 s.Tail.Seq, .slice A0 s.Base.length c0, .slice A1 s.Clients.length c1, .slice A2 s.Log.length c2, .int .i64 s.Firm.Epoch, .int .i64 s.Firm.Seq, .slice A3 s.Chunks.length c3])] | some _ => [(0, [.int .i64 s.Pg.Pool, .int .i64 s.Pg.No, .int .i64 s.Seen, .int .i64 s.Started, .int .i64 s.Tail.Epoch, .int .i64 s.Tail.Seq, .slice A0 s.Base.length c0, .slice A1 s.Clients.length c1, .slice A2 s.Log.length c2, .int .i64 s.Firm.Epoch, .int .i64 s.Firm.Seq, .slice A3 s.Chunks.length c3])]) (fun q => q.1.2) (fun q => n - q.1.1.1) ⟨((0, none), M), Nat.zero_le _, Le.refl _, rfl⟩ ⟨⟨⟨rfl, rfl, rfl, rfl, trivial⟩, ⟨rfl, rfl, trivial⟩, rfl, rfl⟩, rfl⟩ ?_
  rintro ⟨⟨⟨k, o⟩, N1⟩, hk, hle, hr⟩
  simp only at hk hle hr
  have hlen := hds_len hok (k := k) (by omega)
  cases o with
  | none =>
    replace hr : k = 0 := hr
    subst hr
    (conv => whnf)
    refine CondK.mk (fun h1 => ?_) (fun h1 => ?_)
    · have hlt : 0 < n := by simpa using h1
      have hltL : 0 < s.Log.length := by omega
      obtain ⟨y, hyk⟩ : ∃ y, s.Log[0] = y := ⟨_, rfl⟩
      have hy : s.Log[0]? = some y := by rw [List.getElem?_eq_getElem hltL, hyk]
      obtain ⟨ad, rfl, bnx, x0, x1, x2, x3, x4, x5, x6, x7, x8, x9⟩ := at_Entry (s2.mono hle (REntry.mono hle)) hy
      have hst : hdsTo s (0 + 1) = putF y s.Base := by rw [hdsTo_step hltL, hyk]; unfold hdsTo; simp
      repeat' ((conv => whnf); first | refine IdxK.mk _ rfl (by omega) (by omega) ?_ | refine LdK.mk _ (by assumption) ?_ | refine DrawN.q (by kernel_rfl) ?_ | fail)
      refine PubK.mk fun a2 N2 hl2 hc2 => ?_
      have hrc : RowC N2 a2 5 s.Base.length s.Base.length ds0 := ⟨n0, Nat.le_refl _, fun o u hu => hc2 o u hu, fun o ho => ⟨_, hc2 o _ (List.getElem?_eq_getElem (by show o < ([] ++ ds0).length; rw [List.nil_append, n0]; exact ho))⟩⟩
      have h9 : SlR N2 RHead 5 48 (some a2) s.Base.length s.Base := RowC.sl (M' := M) hrc r0 (fun _ _ h => h) (by omega)
      have hsl : SlR N2 RHead 5 48 (some a2) cap0 s.Base := ⟨by omega, h9.len, h9.el⟩
      (conv => whnf)
      refine CallK.mr _ (Nat.zero_add s.Base.length ▸ l17Put_a N2 s.Base (some a2) cap0 hsl (by omega) y bnx) (fun v N3 hl3 hv => ?_)
      obtain ⟨A', c', rfl, hr'⟩ := hv
      (conv => whnf)
      rw [← hst] at hr'
      exact ⟨⟨((0 + 1, some (A', c')), N3), hlt, hle.trans (hl2.trans hl3), hr'⟩, ⟨⟨rfl, rfl, congrArg (fun t : List GHead => some (PV.v (Value.slice A' t.length c'))) hst.symm, look_int (i64_succ (by omega)), trivial⟩, ⟨rfl, trivial⟩, rfl, rfl⟩, rfl, by simp only; omega⟩
    · have he : n = 0 := by have : ¬ 0 < n := by simpa using h1
                            omega
      subst he
      (conv => whnf)
      refine RetK.mk fun g M' hl hg => ⟨_, _, slice_eq z0, row_out r0 (by unfold hdsTo; simp) (fun _ _ h => h) (fun o u hu => hg 2 _ rfl o u hu) (by omega) (by omega)⟩
  | some q =>
    obtain ⟨A, c⟩ := q
    replace hr : SlR N1 RHead 5 48 A c (hdsTo s k) := hr
    (conv => whnf)
    refine CondK.mk (fun h1 => ?_) (fun h1 => ?_)
    · have hlt : k < n := by simpa using h1
      have hltL : k < s.Log.length := by omega
      obtain ⟨y, hyk⟩ : ∃ y, s.Log[k] = y := ⟨_, rfl⟩
      have hy : s.Log[k]? = some y := by rw [List.getElem?_eq_getElem hltL, hyk]
      obtain ⟨ad, rfl, bnx, x0, x1, x2, x3, x4, x5, x6, x7, x8, x9⟩ := at_Entry (s2.mono hle (REntry.mono hle)) hy
      have hst : hdsTo s (k + 1) = putF y (hdsTo s k) := by rw [hdsTo_step hltL, hyk]
      repeat' ((conv => whnf); first | refine IdxK.mk _ rfl (by omega) (by omega) ?_ | refine LdK.mk _ (by assumption) ?_ | refine DrawN.q (by kernel_rfl) ?_ | fail)
      (conv => whnf)
      refine CallK.mr _ (l17Put_a N1 (hdsTo s k) A c hr (by omega) y bnx) (fun v N3 hl3 hv => ?_)
      obtain ⟨A', c', rfl, hr'⟩ := hv
      (conv => whnf)
      rw [← hst] at hr'
      exact ⟨⟨((k + 1, some (A', c')), N3), hlt, hle.trans hl3, hr'⟩, ⟨⟨rfl, rfl, congrArg (fun t : List GHead => some (PV.v (Value.slice A' t.length c'))) hst.symm, look_int (i64_succ (by omega)), trivial⟩, ⟨rfl, trivial⟩, rfl, rfl⟩, rfl, by simp only; omega⟩
    · have he : k = n := by have : ¬ k < n := by simpa using h1
                            omega
      subst he
      (conv => whnf)
      exact RetK.mk fun g M' hl hg => ⟨A, c, rfl, hr.mono hl (fun _ _ h => h)⟩
def haF (s : GPgState) (v : GVer) : List GHead := if vcF s v = 0 then hdsTo s (cntF s v).toNat else []
theorem haF_len (s : GPgState) (v : GVer) : (haF s v).length ≤ 16 := by
  unfold haF
  split
  · rename_i h
    have h1 := cntF_le s v
    refine hds_len ?_ (by omega)
    unfold vcF at h
    split at h
    · assumption
    · cases h
  · simp
theorem vc_cases (s : GPgState) (v : GVer) : (stateOkF s = false ∧ vcF s v = 1) ∨ (stateOkF s = true ∧ cntF s v < 0 ∧ vcF s v = 3) ∨ (stateOkF s = true ∧ 0 ≤ cntF s v ∧ vcF s v = 0) := by
  unfold vcF
  cases h : stateOkF s with
  | false => exact .inl ⟨rfl, by simp⟩
  | true =>
    by_cases hc : cntF s v < 0
    · exact .inr (.inl ⟨rfl, hc, by simp [hc]⟩)
    · exact .inr (.inr ⟨rfl, by omega, by simp [hc]⟩)
end Go.Proofs.YtgeofmoojifkmaaGreat.Hlp
