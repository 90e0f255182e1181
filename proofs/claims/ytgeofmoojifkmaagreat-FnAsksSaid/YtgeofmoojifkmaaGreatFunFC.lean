/- Entries added, chunks put: whatever is given, a state comes out; of an added entry a right one. -/
import Derived.Test.YtgeofmoojifkmaaGreatFunFB
import Derived.Test.YtgeofmoojifkmaaGreatFunHA
import Derived.Test.YtgeofmoojifkmaaGreatFunHB
namespace Go.Proofs.YtgeofmoojifkmaaGreat.Hlp
open Go Go.RowKit Go.Proofs Go.Proofs.YtgeofmoojifkmaaGreat.Lw
set_option linter.unusedVariables false
set_option linter.unusedSimpArgs false
set_option maxRecDepth 100000
set_option maxHeartbeats 4000000
def lastV : GVer → List GEntry → GVer
  | a, [] => a
  | _, x :: r => lastV x.Ver r
theorem lastV_eq : ∀ (r : List GEntry) (a : GVer), lastV a r = match r[r.length - 1]? with | some e => e.Ver | none => a
  | [], a => rfl
  | [x], a => rfl
  | x :: y :: r, a => by
    rw [lastV, lastV_eq (y :: r) x.Ver]
    simp
theorem logS_add : ∀ (r : List GEntry) (a : GVer) (l : List GHead) (e : GEntry), logS a l r = true → entryOkF e = true → e.Prior = lastV a r → (putF e (r.foldl (fun l e => putF e l) l)).length ≤ 16 → logS a l (r ++ [e]) = true
  | [], a, l, e, h, he, hp, hn => by
    have hp : e.Prior = a := hp
    have hn : (putF e l).length ≤ 16 := hn
    simp only [List.nil_append, logS, he, hp, decide_true, Bool.true_and, Bool.and_true, decide_eq_true_eq]
    omega
  | x :: r, a, l, e, h, he, hp, hn => by
    simp only [List.cons_append, logS, Bool.and_eq_true] at h ⊢
    exact ⟨h.1, h.2.1, logS_add r x.Ver (putF x l) e h.2.2 he hp hn⟩
theorem state_add {s : GPgState} {e : GEntry} (h : stateOkF s = true) (he : entryOkF e = true) (hp : e.Prior = lastVerF s) (hl : s.Log.length < 24) (hn : (putF e (hdsTo s s.Log.length)).length ≤ 16) : stateOkF { s with Log := s.Log ++ [e] } = true := by
  obtain ⟨hb, hb2, hlg, hll⟩ := state_base h
  have hlv : lastVerF s = lastV s.Tail s.Log := (lastV_eq s.Log s.Tail).symm
  have hlv2 : lastVerF { s with Log := s.Log ++ [e] } = e.Ver := by unfold lastVerF; simp
  have hlog : logOkF { s with Log := s.Log ++ [e] } = true := by
    rw [log_same (s := { s with Log := s.Log ++ [e] }) hb]
    simp only [Bool.and_eq_true, decide_eq_true_eq]
    refine ⟨logS_add s.Log s.Tail s.Base e hlg he (by rw [hp, hlv]) ?_, by simp; omega⟩
    have : hdsTo s s.Log.length = s.Log.foldl (fun l e => putF e l) s.Base := by unfold hdsTo; rw [List.take_length]
    rw [← this]
    exact hn
  have hve : verLessF e.Prior e.Ver = true := by unfold entryOkF at he; simp only [Bool.and_eq_true] at he; exact he.1.1.1.1.2
  unfold stateOkF at h ⊢
  simp only [Bool.and_eq_true] at h ⊢
  obtain ⟨⟨⟨⟨h1, h2⟩, h3⟩, h4⟩, h5⟩ := h
  refine ⟨⟨⟨⟨h1, hlog⟩, h3⟩, ?_⟩, h5⟩
  rw [hlv2]
  cases hc : verLessF e.Ver s.Firm with
  | false => rfl
  | true =>
    exfalso
    have h6 : verLessF (lastVerF s) s.Firm = true := by
      rw [← hp]
      rw [verLess_iff] at hc hve ⊢
      omega
    rw [h6] at h4
    cases h4
theorem state_clients {s : GPgState} (h : stateOkF s = true) : s.Clients.length ≤ 6 := by
  unfold stateOkF baseOkF at h
  simp only [Bool.and_eq_true, decide_eq_true_eq] at h
  have := h.1.1.1.1.2.2.2
  omega
def RCopy (M M' : Mem) (s : GPgState) (v : Value) : Prop := ∃ (A0 : Option Addr) (c0 : Nat) (A1 : Option Addr) (c1 : Nat) (a2 : Addr) (c2 : Nat) (A3 : Option Addr) (c3 : Nat) (ds2 : List Value), v = .agg #[.int .i64 s.Pg.Pool, .int .i64 s.Pg.No, .int .i64 s.Seen, .int .i64 s.Started, .int .i64 s.Tail.Epoch, .int .i64 s.Tail.Seq, .slice A0 s.Base.length c0, .slice A1 s.Clients.length c1, .slice (some a2) s.Log.length c2, .int .i64 s.Firm.Epoch, .int .i64 s.Firm.Seq, .slice A3 s.Chunks.length c3] ∧ SlR (sub M' M) RHead 5 48 A0 c0 s.Base ∧ SlR (sub M' M) RLast 4 32 A1 c1 s.Clients ∧ RowN M M' 10 (some a2) s.Log.length c2 ds2 ∧ RowR M REntry 10 s.Log ds2 ∧ SlR (sub M' M) RChunk 6 64 A3 c3 s.Chunks ∧ (0 < c2 → SlR (off (sub M' M) a2.block) RHead 5 48 A0 c0 s.Base ∧ SlR (off (sub M' M) a2.block) RLast 4 32 A1 c1 s.Clients ∧ SlR (off (sub M' M) a2.block) RChunk 6 64 A3 c3 s.Chunks)
theorem src_up {M N : Mem} {A : Option Addr} {ds : List Value} (h : ∀ (o : Nat) (u : Value), ds[o]? = some u → ∃ ad, A = some ad ∧ M (ad.add o) = some u) (hl : Le M N) : ∀ (o : Nat) (u : Value), ds[o]? = some u → ∃ ad, A = some ad ∧ N (ad.add o) = some u := fun o u hu => let ⟨ad, h1, h2⟩ := h o u hu; ⟨ad, h1, hl _ _ h2⟩
theorem slPub {α : Type} {M N : Mem} {R : Mem → α → List Value → Prop} {z by_ cap : Nat} {ad : Addr} {l : List α} {ds : List Value} (r : RowR M R z l ds) (hc : ∀ o u, ([] ++ ds)[o]? = some u → N (ad.add o) = some u) (hcap : 0 + l.length ≤ cap) (hn : l.length ≤ 100000) (hR : ∀ x cs, R M x cs → R N x cs) : SlR N R z by_ (some ad) cap l := by
  obtain ⟨css, rfl, h1, h2, h3⟩ := r.ex
  refine ⟨by omega, by omega, fun i x hx => ?_⟩
  obtain ⟨cs, g1, g2⟩ := h3 i x hx
  refine ⟨ad, cs, rfl, hR x cs g2, (h2 cs (List.mem_of_getElem? g1)).1, fun j u hu => ?_⟩
  rw [add_add]
  exact hc _ u (by rw [List.nil_append]; exact flat_get (fun c hc => (h2 c hc).1) g1 hu)
theorem l17Copy_r (M : Mem) (s : GPgState) (cs : List Value) (h : RPgState M s cs) (h0 : s.Base.length ≤ 1000) (h1 : s.Clients.length ≤ 1000) (h2 : s.Log.length ≤ 1000) (h3 : s.Chunks.length ≤ 1000) : AnsR Tryz.prog M 112 #[.agg cs.toArray] (fun M' v => RCopy M M' s v) := by
  obtain ⟨A0, c0, A1, c1, A2, c2, A3, c3, rfl, hb, s0, s1, s2, s3⟩ := h
  obtain ⟨ds0, r0, n0, m0⟩ := s0.row (fun x cs hx => (RHead.one x cs hx).1)
  obtain ⟨ds1, r1, n1, m1⟩ := s1.row (fun x cs hx => (RLast.one x cs hx).1)
  obtain ⟨ds2, r2, n2, m2⟩ := s2.row (fun x cs hx => (REntry.one x cs hx).1)
  obtain ⟨ds3, r3, n3, m3⟩ := s3.row (fun x cs hx => (RChunk.one x cs hx).1)
  refine ansR_of T (l := [.agg (List.toArray _)]) mixed Tryz.func112 rfl (by kernel_rfl) (Nat.le_of_ble_eq_true rfl) ?_
  (conv => whnf)
  refine SrcK.mk ds0 n0 m0 ?_
  (conv => whnf)
  refine AppK.mk (by show (2 * (0 + s.Base.length) + 512) * 48 ≤ 281474976710656; omega) (by omega) (.inr rfl) r0.all (fun k0 hk0 => ?_)
  (conv => whnf)
  refine PubK.fr (fun a0 M0 l0 p0 q0 f0 _ => ?_)
  (conv => whnf)
  refine SrcK.mk ds1 n1 (src_up m1 l0) ?_
  (conv => whnf)
  refine AppK.mk (by show (2 * (0 + s.Clients.length) + 512) * 32 ≤ 281474976710656; omega) (by omega) (.inr rfl) r1.all (fun k1 hk1 => ?_)
  (conv => whnf)
  refine PubK.fr (fun a1 M1 l1 p1 q1 f1 _ => ?_)
  (conv => whnf)
  refine SrcK.mk ds2 n2 (src_up m2 (l0.trans l1)) ?_
  (conv => whnf)
  refine AppK.mk (by show (2 * (0 + s.Log.length) + 512) * 88 ≤ 281474976710656; omega) (by omega) (.inr rfl) r2.all (fun k2 hk2 => ?_)
  (conv => whnf)
  refine PubK.fr (fun a2 M2 l2 p2 q2 f2 _ => ?_)
  (conv => whnf)
  refine SrcK.mk ds3 n3 (src_up m3 (l0.trans (l1.trans l2))) ?_
  (conv => whnf)
  refine AppK.mk (by show (2 * (0 + s.Chunks.length) + 512) * 64 ≤ 281474976710656; omega) (by omega) (.inr rfl) r3.all (fun k3 hk3 => ?_)
  (conv => whnf)
  refine PubK.fr (fun a3 M3 l3 p3 q3 f3 _ => ?_)
  (conv => whnf)
  refine RetK.mk fun g M' hl hg => ?_
  have e1 : Le M1 M' := l2.trans (l3.trans hl)
  have g0 : ∀ o, M (a0.add o) = none := fun o => by
    cases hm : M (a0.add o) with
    | none => rfl
    | some u => exact absurd (add_blk _ _) (f0 _ _ hm)
  have g1 : ∀ o, M (a1.add o) = none := fun o => by
    cases hm : M (a1.add o) with
    | none => rfl
    | some u => exact absurd (add_blk _ _) (f1 _ _ (l0 _ _ hm))
  have g3 : ∀ o, M (a3.add o) = none := fun o => by
    cases hm : M (a3.add o) with
    | none => rfl
    | some u => exact absurd (add_blk _ _) (f3 _ _ (l2 _ _ (l1 _ _ (l0 _ _ hm))))
  refine ⟨some a0, k0, some a1, k1, a2, k2, some a3, k3, ds2, ?_, slPub r0 (fun o u hu => sub_of (e1 _ _ (l1 _ _ (p0 o u hu))) (g0 o)) hk0 (by omega) (fun _ _ h => h), slPub r1 (fun o u hu => sub_of (e1 _ _ (p1 o u hu)) (g1 o)) hk1 (by omega) (fun _ _ h => h), ?_, r2, slPub r3 (fun o u hu => sub_of (hl _ _ (p3 o u hu)) (g3 o)) hk3 (by omega) (fun _ _ h => h), fun hpos => ?_⟩
  · show Value.agg _ = Value.agg _
    simp only [Nat.zero_add]
  · have := RowN.pub (M := M) (N := M1) (N1 := M2) (z := 10) (len := 0 + s.Log.length) (cap := k2) (m := 0) (ad := a2) (ds := [] ++ ds2) (l0.trans l1) (by rw [List.nil_append, n2, Nat.zero_add]) hk2 p2 q2 f2
    rw [Nat.zero_add, List.nil_append] at this
    exact this.up (l3.trans hl)
  · obtain ⟨u2, hu2⟩ := q2 0 (by show 0 < k2 * 10; omega)
    have hne := f3 _ _ hu2
    rw [add_blk] at hne
    refine ⟨slPub r0 (fun o u hu => off_of (sub_of (e1 _ _ (l1 _ _ (p0 o u hu))) (g0 o)) (f2 _ _ (l1 _ _ (p0 o u hu)))) hk0 (by omega) (fun _ _ h => h), slPub r1 (fun o u hu => off_of (sub_of (e1 _ _ (p1 o u hu)) (g1 o)) (f2 _ _ (p1 o u hu))) hk1 (by omega) (fun _ _ h => h), slPub r3 (fun o u hu => off_of (sub_of (hl _ _ (p3 o u hu)) (g3 o)) (by rw [add_blk]; exact fun he => hne he.symm)) hk3 (by omega) (fun _ _ h => h)⟩
def zSt : GPgState := ⟨⟨0, 0⟩, 0, 0, ⟨0, 0⟩, [], [], [], ⟨0, 0⟩, []⟩
def zStC : List Value := [.int .i64 0, .int .i64 0, .int .i64 0, .int .i64 0, .int .i64 0, .int .i64 0, .slice none 0 0, .slice none 0 0, .slice none 0 0, .int .i64 0, .int .i64 0, .slice none 0 0]
theorem zSt_r (M : Mem) : RPgState M zSt zStC := ⟨none, 0, none, 0, none, 0, none, 0, rfl, trivial, SlR.nil, SlR.nil, SlR.nil, SlR.nil⟩
/-- A state and a code: a right state, if the code is naught. -/
def RAdd (M' : Mem) (v : Value) : Prop := ∃ (y : GPgState) (cs' : List Value) (c : Int), v = .tuple #[.agg cs'.toArray, .int .i64 c] ∧ RPgState M' y cs' ∧ (c = 0 → stateOkF y = true)
theorem radd_no (M : Mem) {c : Int} (h : c ≠ 0) : RAdd M (.tuple #[.agg #[.int .i64 0, .int .i64 0, .int .i64 0, .int .i64 0, .int .i64 0, .int .i64 0, .slice none 0 0, .slice none 0 0, .slice none 0 0, .int .i64 0, .int .i64 0, .slice none 0 0], .int .i64 c]) := ⟨zSt, zStC, c, rfl, zSt_r M, fun h' => absurd h' h⟩
theorem sub_out {M N N1 : Mem} (hl : Le M N) {a : Addr} {u : Value} (h : sub N1 N a = some u) : M a = none ∧ N1 a = some u := by
  unfold sub at h
  cases hn : N a with
  | some v => rw [hn] at h; cases h
  | none =>
    rw [hn] at h
    refine ⟨?_, h⟩
    cases hm : M a with
    | none => rfl
    | some v => rw [hl a v hm] at hn; cases hn
theorem RowN.base2 {M0 M1 N : Mem} {z n cap : Nat} {A : Option Addr} {ds : List Value} (h : RowN M0 N z A n cap ds) (hl : Le M1 M0) : RowN M1 N z A n cap ds := by
  rcases h with h | ⟨ad, h1, h2, h3⟩
  · exact .inl h
  · exact .inr ⟨ad, h1, h2, fun a u hu => h3 a u (hl a u hu)⟩
theorem callHds {P : Program} {wr : Bool} {base M : Mem} {f : FuncId} {args : Array Value} {K : Value → Mem → Prop} {l : List GHead} (hc : AnsR P M f args (fun M' v => ∃ A' cap', v = .slice A' l.length cap' ∧ SlR M' RHead 5 48 A' cap' l)) (k : ∀ A cap M', SlR M' RHead 5 48 A cap l → Le M M' → K (.slice A l.length cap) M') : CallK P wr base M f args K :=
  CallK.mr _ hc fun v M' hl hv => by obtain ⟨A, cap, rfl, h1⟩ := hv; exact k A cap M' h1 hl
theorem addEntry_r (M : Mem) (s : GPgState) (cs : List Value) (h : RPgState M s cs) (e : GEntry) (hb : e.Name.size ≤ 1000) : AnsR Tryz.prog M 110 #[.agg cs.toArray, .agg (List.toArray [.int .i64 e.Ver.Epoch, .int .i64 e.Ver.Seq, .int .i64 e.Prior.Epoch, .int .i64 e.Prior.Seq, .string e.Name, .bool e.Gone, .int .i64 e.Size, .int .i64 e.Sum, .int .i64 e.Req.Client, .int .i64 e.Req.No])] (fun M' v => RAdd (sub M' M) v) := by
  have h' := h
  have hb' : e.Name.size ≤ 9223372036854775807 := by omega
  obtain ⟨A0, c0, A1, c1, A2, c2, A3, c3, rfl, _, s0, s1, s2, s3⟩ := h'
  refine ansR_of (T.at M) (l := [.agg (List.toArray _), .agg (List.toArray [.int .i64 e.Ver.Epoch, .int .i64 e.Ver.Seq, .int .i64 e.Prior.Epoch, .int .i64 e.Prior.Seq, .string e.Name, .bool e.Gone, .int .i64 e.Size, .int .i64 e.Sum, .int .i64 e.Req.Client, .int .i64 e.Req.No])]) mixed Tryz.func110 rfl (by kernel_rfl) (Nat.le_of_ble_eq_true rfl) ?_ (fun _ a u h1 h2 => by rw [show M a = none from h1] at h2; cases h2)
  by_cases hs : stateOkF s = true
  · by_cases he : entryOkF e = true
    · have hsA : ∀ N, Le M N → Ans Tryz.prog N 105 #[.agg #[.int .i64 s.Pg.Pool, .int .i64 s.Pg.No, .int .i64 s.Seen, .int .i64 s.Started, .int .i64 s.Tail.Epoch, .int .i64 s.Tail.Seq, .slice A0 s.Base.length c0, .slice A1 s.Clients.length c1, .slice A2 s.Log.length c2, .int .i64 s.Firm.Epoch, .int .i64 s.Firm.Seq, .slice A3 s.Chunks.length c3]] (.bool true) := fun N hl => by
        have := sStateOk_a N s _ (RPgState.mono hl _ _ h)
        rw [hs] at this
        exact this
      have heA : ∀ N, Ans Tryz.prog N 136 #[.agg (List.toArray [.int .i64 e.Ver.Epoch, .int .i64 e.Ver.Seq, .int .i64 e.Prior.Epoch, .int .i64 e.Prior.Seq, .string e.Name, .bool e.Gone, .int .i64 e.Size, .int .i64 e.Sum, .int .i64 e.Req.Client, .int .i64 e.Req.No])] (.bool true) := fun N => by
        have := sEntryOk_a N e hb'
        rw [he] at this
        exact this
      by_cases hp : e.Prior = lastVerF s
      · have hp1 : (e.Prior.Epoch == (lastVerF s).Epoch && (e.Prior.Seq == (lastVerF s).Seq)) = true := by rw [hp]; simp
        have hb24 := (state_base hs).2.2.2
        by_cases hlog : s.Log.length < 24
        · repeat' ((conv => whnf); first | refine CallK.mk _ (hsA _ (fun _ _ h => h)) ?_ | refine CallK.mk _ (heA _) ?_ | fail)
          refine DrawN.q (by kernel_rfl) ?_
          (conv => whnf)
          refine CallQ.mk _ (l17LastOf_a M s _ h) ?_
          repeat' ((conv => whnf); first | refine CondK.no' (by simp [hp]; done) ?_ | fail)
          refine DrawN.h {q : Bool × Mem // Le M q.2 ∧ (q.1 = false → (putF e (hdsTo s s.Log.length)).length ≤ 16)} (fun ⟨⟨t, N⟩, _⟩ => [(2, .p 0 0), (3, .p 1 0), (4, .p 2 0), (24, .v (.bool t))]) (fun _ => [(0, [.int .i64 s.Pg.Pool, .int .i64 s.Pg.No, .int .i64 s.Seen, .int .i64 s.Started, .int .i64 s.Tail.Epoch, .int .i64 s.Tail.Seq, .slice A0 s.Base.length c0, .slice A1 s.Clients.length c1, .slice A2 s.Log.length c2, .int .i64 s.Firm.Epoch, .int .i64 s.Firm.Seq, .slice A3 s.Chunks.length c3]), (1, [.int .i64 e.Ver.Epoch, .int .i64 e.Ver.Seq, .int .i64 e.Prior.Epoch, .int .i64 e.Prior.Seq, .string e.Name, .bool e.Gone, .int .i64 e.Size, .int .i64 e.Sum, .int .i64 e.Req.Client, .int .i64 e.Req.No]), (2, zStC)]) 20 (fun ⟨⟨t, N⟩, _⟩ => N) (by kernel_rfl) ?_ ?_
          · repeat' ((conv => whnf); first | refine AndK.mk ?_ ?_ | refine HeldK.mk (by kernel_rfl) ?_ | refine CondK.no' (decide_eq_false (by omega)) ?_ | refine callHds (l17HeadsAt_a _ s _ h hs s.Log.length (Nat.le_refl _)) (fun A4 c4 N1 hs1 hl1 => ?_) | refine callHds (l17Put_a _ (hdsTo s s.Log.length) A4 c4 hs1 (by have := hds_len hs (Nat.le_refl _); omega) e hb') (fun A5 c5 N2 hs2 hl2 => ?_) | fail)
            all_goals exact ⟨⟨(_, N2), hl1.trans hl2, fun hq => by have := of_decide_eq_false hq; omega⟩, ⟨⟨rfl, rfl, rfl, rfl, trivial⟩, ⟨rfl, rfl, rfl, trivial⟩, rfl, rfl⟩, rfl⟩
          · rintro ⟨⟨t, N⟩, hlN, hput⟩
            replace hlN : Le M N := hlN
            cases t with
            | true =>
              repeat' ((conv => whnf); first | exact RetK.mk fun _ M' _ _ => radd_no (sub M' M) (by decide) | fail)
            | false =>
              replace hput := hput rfl
              have hok := state_add hs he hp hlog hput
              repeat' ((conv => whnf); first | refine CallK.mr _ (l17Copy_r N s _ (RPgState.mono hlN _ _ h) (by have := (state_base hs).2.1; omega) (by have := state_clients hs; omega) (by omega) (by have := (chunkIx_ok hs).1; omega)) (fun v N1 hl1 hv => ?_) | fail)
              obtain ⟨a0, k0, a1, k1, ad, k2, a3, k3, ds2, rfl, t0, t1, t2, r2, t3, t4⟩ := hv
              · obtain ⟨hrc, hfr⟩ := t2.get
                have hlen := hrc.len
                have hyr : ∀ (N' : Mem) (A' : Option Addr) (c' : Nat), SlR (sub N' M) RHead 5 48 a0 k0 s.Base → SlR (sub N' M) RLast 4 32 a1 k1 s.Clients → SlR (sub N' M) RChunk 6 64 a3 k3 s.Chunks → RowN N N' 10 A' (s.Log.length + 1) c' (ds2 ++ [.int .i64 e.Ver.Epoch, .int .i64 e.Ver.Seq, .int .i64 e.Prior.Epoch, .int .i64 e.Prior.Seq, .string e.Name, .bool e.Gone, .int .i64 e.Size, .int .i64 e.Sum, .int .i64 e.Req.Client, .int .i64 e.Req.No]) → RAdd (sub N' M) (.tuple #[.agg (List.toArray [.int .i64 s.Pg.Pool, .int .i64 s.Pg.No, .int .i64 s.Seen, .int .i64 s.Started, .int .i64 s.Tail.Epoch, .int .i64 s.Tail.Seq, .slice a0 s.Base.length k0, .slice a1 s.Clients.length k1, .slice A' (s.Log.length + 1) c', .int .i64 s.Firm.Epoch, .int .i64 s.Firm.Seq, .slice a3 s.Chunks.length k3]), .int .i64 0]) := fun N' A' c' u0 u1 u3 hrn => by
                  refine ⟨{ s with Log := s.Log ++ [e] }, _, 0, rfl, ⟨a0, k0, a1, k1, A', c', a3, k3, by show _ = [_, _, _, _, _, _, _, _, Value.slice A' (s.Log ++ [e]).length c', _, _, _]; rw [List.length_append]; rfl, trivial, u0, u1, ?_, u3⟩, fun _ => hok⟩
                  have hrow : RowR M REntry 10 (s.Log ++ [e]) (ds2 ++ [.int .i64 e.Ver.Epoch, .int .i64 e.Ver.Seq, .int .i64 e.Prior.Epoch, .int .i64 e.Prior.Seq, .string e.Name, .bool e.Gone, .int .i64 e.Size, .int .i64 e.Sum, .int .i64 e.Req.Client, .int .i64 e.Req.No]) := RowR.app (r2.mono (fun _ _ h => h)) (RowR.one (⟨rfl, hb'⟩ : REntry M e _) rfl rfl)
                  have : RowN N N' 10 A' (s.Log ++ [e]).length c' (ds2 ++ [.int .i64 e.Ver.Epoch, .int .i64 e.Ver.Seq, .int .i64 e.Prior.Epoch, .int .i64 e.Prior.Seq, .string e.Name, .bool e.Gone, .int .i64 e.Size, .int .i64 e.Sum, .int .i64 e.Req.Client, .int .i64 e.Req.No]) := by rw [List.length_append]; exact hrn
                  exact (this.base2 hlN).slS hrow (fun _ _ h => h) (by simp; omega)
                by_cases hle : s.Log.length + 1 ≤ k2
                · have hsome : ∀ o, o < 10 → (N1 ((ad.add (s.Log.length * 10)).add o)).isSome = true := fun o ho => by
                    obtain ⟨u, hu⟩ := hrc.room (s.Log.length * 10 + o) (by omega)
                    rw [add_add, hu]; rfl
                  repeat' ((conv => whnf); first | refine AppX.w hle (WrL.mk rfl hsome (fun o _ => freshA M (fun a u hu => hfr a u (hlN _ _ hu)) _ o) rfl (fun N2 j1 j2 => ?_)) | fail)
                  (conv => whnf)
                  refine RetK.mk fun g M' hl' _ => ?_
                  obtain ⟨v0, v1, v3⟩ := t4 (by omega)
                  have hup : Le (off (sub N1 N) ad.block) (sub M' M) := fun a u hu => by
                    have h1 := off_le _ _ a u hu
                    refine sub_of (hl' a u ?_) (sub_out hlN h1).1
                    rw [j2 a fun o _ he => off_ne hu (by rw [he, add_blk, add_blk])]
                    exact (sub_out hlN h1).2
                  exact hyr M' (some ad) k2 (v0.mono hup (RHead.mono hup)) (v1.mono hup (RLast.mono hup)) (v3.mono hup (RChunk.mono hup)) ((t2.w rfl hle j1 j2).up hl')
                · repeat' ((conv => whnf); first | refine AppX.g hle ds2 hlen hrc.el (allOne_append r2.all rfl) (by omega) (by show (2 * (s.Log.length + 1) + 512) * 88 ≤ 281474976710656; omega) (fun cap' hcap' => ?_) | refine PubK.fr (fun ad1 N2 hl2 hc hroom hf _ => ?_) | fail)
                  refine RetK.mk fun g M' hl' _ => ?_
                  have hup : Le (sub N1 N) (sub M' M) := fun a u hu => sub_of ((hl2.trans hl') _ _ (sub_out hlN hu).2) (sub_out hlN hu).1
                  exact hyr M' (some ad1) cap' (t0.mono hup (RHead.mono hup)) (t1.mono hup (RLast.mono hup)) (t3.mono hup (RChunk.mono hup)) ((RowN.pub (m := 0) hl1 (by rw [List.length_append, hlen, Nat.add_mul]; rfl) hcap' hc hroom hf).up hl')
        · repeat' ((conv => whnf); first | refine CallK.mk _ (hsA _ (fun _ _ h => h)) ?_ | refine CallK.mk _ (heA _) ?_ | fail)
          refine DrawN.q (by kernel_rfl) ?_
          (conv => whnf)
          refine CallQ.mk _ (l17LastOf_a M s _ h) ?_
          repeat' ((conv => whnf); first | refine CondK.no' (by simp [hp]; done) ?_ | fail)
          refine DrawN.h {q : Bool × Mem // q.1 = true} (fun ⟨⟨t, N⟩, _⟩ => [(2, .p 0 0), (3, .p 1 0), (4, .p 2 0), (24, .v (.bool t))]) (fun _ => [(0, [.int .i64 s.Pg.Pool, .int .i64 s.Pg.No, .int .i64 s.Seen, .int .i64 s.Started, .int .i64 s.Tail.Epoch, .int .i64 s.Tail.Seq, .slice A0 s.Base.length c0, .slice A1 s.Clients.length c1, .slice A2 s.Log.length c2, .int .i64 s.Firm.Epoch, .int .i64 s.Firm.Seq, .slice A3 s.Chunks.length c3]), (1, [.int .i64 e.Ver.Epoch, .int .i64 e.Ver.Seq, .int .i64 e.Prior.Epoch, .int .i64 e.Prior.Seq, .string e.Name, .bool e.Gone, .int .i64 e.Size, .int .i64 e.Sum, .int .i64 e.Req.Client, .int .i64 e.Req.No]), (2, zStC)]) 20 (fun ⟨⟨t, N⟩, _⟩ => N) (by kernel_rfl) ?_ ?_
          · repeat' ((conv => whnf); first | refine AndK.mk ?_ ?_ | refine HeldK.mk (by kernel_rfl) ?_ | refine CondK.yes' (decide_eq_true (by omega)) ?_ | fail)
            all_goals exact ⟨⟨(true, _), rfl⟩, ⟨⟨rfl, rfl, rfl, rfl, trivial⟩, ⟨rfl, rfl, rfl, trivial⟩, rfl, rfl⟩, rfl⟩
          · rintro ⟨⟨t, N⟩, ht⟩
            replace ht : t = true := ht
            subst ht
            repeat' ((conv => whnf); first | exact RetK.mk fun _ M' _ _ => radd_no (sub M' M) (by decide) | fail)
      · repeat' ((conv => whnf); first | refine CallK.mk _ (hsA _ (fun _ _ h => h)) ?_ | refine CallK.mk _ (heA _) ?_ | fail)
        refine DrawN.q (by kernel_rfl) ?_
        (conv => whnf)
        refine CallQ.mk _ (l17LastOf_a M s _ h) ?_
        have hne : (e.Prior.Epoch == (lastVerF s).Epoch && (e.Prior.Seq == (lastVerF s).Seq)) = false := by
          cases hq : (e.Prior.Epoch == (lastVerF s).Epoch && (e.Prior.Seq == (lastVerF s).Seq)) with
          | false => rfl
          | true =>
            exfalso
            apply hp
            simp only [Bool.and_eq_true, beq_iff_eq] at hq
            obtain ⟨q1, q2⟩ := hq
            generalize lastVerF s = z at q1 q2 ⊢
            cases hz : e.Prior; cases z; rw [hz] at q1 q2; cases q1; cases q2; rfl
        repeat' ((conv => whnf); first | refine CondK.yes' (by first | (rw [hne]; rfl) | (simp only [Bool.and_true] at hne ⊢; rw [hne]; rfl)) ?_ | exact RetK.mk fun _ M' _ _ => radd_no (sub M' M) (by decide) | fail)
    · have hsA := sStateOk_a M s _ h
      rw [hs] at hsA
      have heA := sEntryOk_a M e hb'
      rw [show entryOkF e = false by simpa using he] at heA
      repeat' ((conv => whnf); first | refine CallK.mk _ hsA ?_ | refine CallK.mk _ heA ?_ | exact RetK.mk fun _ M' _ _ => radd_no (sub M' M) (by decide) | fail)
  · have hsA := sStateOk_a M s _ h
    rw [show stateOkF s = false by simpa using hs] at hsA
    repeat' ((conv => whnf); first | refine CallK.mk _ hsA ?_ | exact RetK.mk fun _ M' _ _ => radd_no (sub M' M) (by decide) | fail)
end Go.Proofs.YtgeofmoojifkmaaGreat.Hlp
