/- The reference's heads, last requests, chunks and log by the light walk; a pg's state, of both. -/
import Derived.Test.YthpnmempecelaaaGreatFunI
namespace Go.Proofs.YthpnmempecelaaaGreat.Hlp
open Go Go.RowKit Go.Proofs Go.Proofs.YthpnmempecelaaaGreat.Lw
set_option linter.unusedVariables false
set_option linter.unusedSimpArgs false
set_option maxRecDepth 100000
set_option maxHeartbeats 4000000
theorem leB_eq (a b : ByteArray) : leB a b = !Op.bytesLess b.toList a.toList := by
  cases h : leB a b with
  | false => have := leB_no h; unfold bl at this; rw [this]; rfl
  | true =>
    cases h2 : Op.bytesLess b.toList a.toList with
    | false => rfl
    | true =>
      unfold leB at h
      simp only [Bool.or_eq_true, beq_iff_eq] at h
      rcases h with h | h
      · have := bLess_trans h h2
        rw [bLess_irrefl] at this
        cases this
      · rw [h, bLess_irrefl] at h2
        cases h2
theorem Ans.of {P : Program} {M : Mem} {f : FuncId} {args : Array Value} {c : Value} (h : AnsR P M f args (fun _ v => v = c)) : Ans P M f args c :=
  ⟨h.go, fun w hw => (h.run w hw).mono fun e w' ⟨v, M', he, _, _, _, hv, hb⟩ => ⟨by rw [he, hv], hb⟩⟩
def headsF (most : GVer) (l : List GHead) : Bool := allR l.length (headF most l) && decide ((l.length : Int) ≤ 16)
theorem headF_at' {most : GVer} {l : List GHead} {k : Nat} {x y : GHead} (hx : l[k]? = some x) (hy : l[k - 1]? = some y) : headF most l k = (nameOkF x.Name && (fullF x.Ver && !verLessF most x.Ver) && (inR x.Size 0 64 && inR x.Sum 0 4294967295) && !(decide (0 < k) && !Op.bytesLess y.Name.toList x.Name.toList)) := by
  rw [headF_at hx hy, leB_eq]
  rfl
theorem l17Heads_a (M : Mem) (l : List GHead) (A : Option Addr) (c : Nat) (h : SlR M RHead 5 48 A c l) (most : GVer) : Ans Tryz.prog M 35 #[.slice A l.length c, .agg #[.int .i64 most.Epoch, .int .i64 most.Seq]] (.bool (headsF most l)) := by
  have hl := h.len
  refine ans_of T (l := [.slice A l.length c, .agg #[.int .i64 most.Epoch, .int .i64 most.Seq]]) mixed Tryz.func35 rfl (by kernel_rfl) (Nat.le_of_ble_eq_true rfl) ?_
  (conv => whnf)
  refine LoopK.mk {k : Nat // k ≤ l.length ∧ k ≤ 17 ∧ ∀ j, j < k → headF most l j = true} (fun ⟨k, _⟩ => [(0, .v (.slice A l.length c)), (3, .p 0 0), (5, .v (.int .i64 (k : Int)))]) (fun _ => [(0, _)]) (fun _ => M) (fun k => l.length - k.1) ⟨0, Nat.zero_le _, by omega, fun j hj => absurd hj (by omega)⟩ ⟨⟨⟨rfl, rfl, rfl, trivial⟩, ⟨rfl, trivial⟩, rfl, rfl⟩, rfl⟩ ?_
  rintro ⟨k, hk, hk', ha⟩
  by_cases hlt : k < l.length
  · have hx := List.getElem?_eq_getElem hlt
    obtain ⟨ad, rfl, bnx, x0, x1, x2, x3, x4⟩ := at_Head h hx
    obtain ⟨p, hp⟩ : ∃ p, p = k - 1 := ⟨_, rfl⟩
    have hpl : p < l.length := by omega
    have hy := List.getElem?_eq_getElem hpl
    obtain ⟨_, hae, bny, y0, y1, y2, y3, y4⟩ := at_Head h hy
    cases hae
    have hf := headF_at' (most := most) hx (by rw [← hp]; exact hy)
    repeat' ((conv => whnf); first | with_reducible refine CondK.tt ?_ | with_reducible refine CondK.ff ?_ | with_reducible refine CondK.not ?_ | refine LdK.mk _ (by assumption) ?_ | refine IdxK.mk _ rfl (by omega) (by omega) ?_ | refine IdxK.at p _ (i64_pred hp (by simpa using h) (by omega)) rfl hpl ?_ | refine DrawN.q (by kernel_rfl) ?_ | refine CallQ.mk _ (sNameOk_a _ _ bnx) ?_ | refine CallQ.mk _ (l17Full_a _ (l[k]).Ver) ?_ | refine CallQ.mk _ (sVerLess_a _ most (l[k]).Ver) ?_ | refine CallQ.mk _ (l00In_a _ _ _ _) ?_ | refine CallQ.mk _ (l17Sum_a _ _) ?_ | refine CondK.yes' (show decide ((k : Int) < (l.length : Int)) = true by simpa using hlt) ?_ | refine CondK.mk (fun h => ?_) (fun h => ?_) | fail)
    all_goals first
      | (have hf : headF most l k = true := by rw [hf]; clear hf ha; (simp_all <;> (try intro h2 h3) <;> (try simp_all) <;> omega)
         exact ⟨⟨k + 1, hlt, by have h16 : decide ((k : Int) ≤ 16) = true := (by assumption); simp at h16; omega, allR_step ha hf⟩, ⟨⟨rfl, rfl, look_int (i64_succ (by omega)), trivial⟩, ⟨rfl, trivial⟩, rfl, rfl⟩, rfl, by simp; omega⟩)
      | (have hf : headF most l k = false := by rw [hf]; clear hf ha; (simp_all <;> (try intro h2) <;> (try simp_all) <;> omega)
         refine ret_bool ?_
         rw [headsF, allR_no hlt hf]; rfl)
      | (refine ret_bool ?_
         have h16 : decide ((k : Int) ≤ 16) = false := (by assumption)
         have : decide ((l.length : Int) ≤ 16) = false := by simp at h16 ⊢; omega
         rw [headsF, this]; simp)
      | fail
  · have e0 : allR l.length (headF most l) = true := allR_yes fun j hj => ha j (by omega)
    repeat' ((conv => whnf); first | with_reducible refine CondK.tt ?_ | with_reducible refine CondK.ff ?_ | with_reducible refine CondK.not ?_ | refine LdK.mk _ (by assumption) ?_ | refine DrawN.q (by kernel_rfl) ?_ | refine CondK.no' (show decide ((k : Int) < (l.length : Int)) = false by simpa using hlt) ?_ | fail)
    refine ret_bool ?_
    rw [headsF, e0]; rfl
def lastsF (most : GVer) (l : List GLast) : Bool := allR l.length (lastF most l) && decide ((l.length : Int) ≤ 6)
theorem lastF_at' {most : GVer} {l : List GLast} {k : Nat} {x y : GLast} (hx : l[k]? = some x) (hy : l[k - 1]? = some y) : lastF most l k = (isClientF x.Client && inR x.No 1 1000 && (fullF x.Ver && !verLessF most x.Ver) && !(decide (0 < k) && decide (x.Client ≤ y.Client))) := by
  rw [lastF_at hx hy, eqv_Req']
  have h0 : (reqOkF ⟨x.Client, x.No⟩ && !(decide (x.Client = 0) && decide (x.No = 0))) = (isClientF x.Client && inR x.No 1 1000) := by
    unfold reqOkF
    rw [eqv_Req']
    cases h1 : (decide (x.Client = 0) && decide (x.No = 0)) with
    | false => simp
    | true =>
      simp only [Bool.and_eq_true, decide_eq_true_eq] at h1
      unfold isClientF
      rw [h1.1]
      rfl
  rw [h0]
  rfl
theorem l17Lasts_a (M : Mem) (l : List GLast) (A : Option Addr) (c : Nat) (h : SlR M RLast 4 32 A c l) (most : GVer) : Ans Tryz.prog M 36 #[.slice A l.length c, .agg #[.int .i64 most.Epoch, .int .i64 most.Seq]] (.bool (lastsF most l)) := by
  have hl := h.len
  refine ans_of T (l := [.slice A l.length c, .agg #[.int .i64 most.Epoch, .int .i64 most.Seq]]) mixed Tryz.func36 rfl (by kernel_rfl) (Nat.le_of_ble_eq_true rfl) ?_
  (conv => whnf)
  refine LoopK.mk {k : Nat // k ≤ l.length ∧ k ≤ 7 ∧ ∀ j, j < k → lastF most l j = true} (fun ⟨k, _⟩ => [(0, .v (.slice A l.length c)), (3, .p 0 0), (5, .v (.int .i64 (k : Int)))]) (fun _ => [(0, _)]) (fun _ => M) (fun k => l.length - k.1) ⟨0, Nat.zero_le _, by omega, fun j hj => absurd hj (by omega)⟩ ⟨⟨⟨rfl, rfl, rfl, trivial⟩, ⟨rfl, trivial⟩, rfl, rfl⟩, rfl⟩ ?_
  rintro ⟨k, hk, hk', ha⟩
  by_cases hlt : k < l.length
  · have hx := List.getElem?_eq_getElem hlt
    obtain ⟨ad, rfl, bnx, x0, x1, x2, x3⟩ := at_Last h hx
    obtain ⟨p, hp⟩ : ∃ p, p = k - 1 := ⟨_, rfl⟩
    have hpl : p < l.length := by omega
    have hy := List.getElem?_eq_getElem hpl
    obtain ⟨_, hae, bny, y0, y1, y2, y3⟩ := at_Last h hy
    cases hae
    have hf := lastF_at' (most := most) hx (by rw [← hp]; exact hy)
    repeat' ((conv => whnf); first | with_reducible refine CondK.tt ?_ | with_reducible refine CondK.ff ?_ | with_reducible refine CondK.not ?_ | refine LdK.mk _ (by assumption) ?_ | refine IdxK.mk _ rfl (by omega) (by omega) ?_ | refine IdxK.at p _ (i64_pred hp (by simpa using h) (by omega)) rfl hpl ?_ | refine DrawN.q (by kernel_rfl) ?_ | refine CallQ.mk _ (l17Client_a _ _) ?_ | refine CallQ.mk _ (l17Full_a _ (l[k]).Ver) ?_ | refine CallQ.mk _ (sVerLess_a _ most (l[k]).Ver) ?_ | refine CallQ.mk _ (l00In_a _ _ _ _) ?_ | refine CondK.yes' (show decide ((k : Int) < (l.length : Int)) = true by simpa using hlt) ?_ | refine CondK.mk (fun h => ?_) (fun h => ?_) | fail)
    all_goals first
      | (have hf : lastF most l k = true := by rw [hf]; clear hf ha; (simp_all <;> (try intro h2 h3) <;> (try simp_all) <;> omega)
         exact ⟨⟨k + 1, hlt, by have h16 : decide ((k : Int) ≤ 6) = true := (by assumption); simp at h16; omega, allR_step ha hf⟩, ⟨⟨rfl, rfl, look_int (i64_succ (by omega)), trivial⟩, ⟨rfl, trivial⟩, rfl, rfl⟩, rfl, by simp; omega⟩)
      | (have hf : lastF most l k = false := by rw [hf]; clear hf ha; (simp_all <;> (try intro h2) <;> (try simp_all) <;> omega)
         refine ret_bool ?_
         rw [lastsF, allR_no hlt hf]; rfl)
      | (refine ret_bool ?_
         have h16 : decide ((k : Int) ≤ 6) = false := (by assumption)
         have : decide ((l.length : Int) ≤ 6) = false := by simp at h16 ⊢; omega
         rw [lastsF, this]; simp)
      | fail
  · have e0 : allR l.length (lastF most l) = true := allR_yes fun j hj => ha j (by omega)
    repeat' ((conv => whnf); first | with_reducible refine CondK.tt ?_ | with_reducible refine CondK.ff ?_ | with_reducible refine CondK.not ?_ | refine LdK.mk _ (by assumption) ?_ | refine DrawN.q (by kernel_rfl) ?_ | refine CondK.no' (show decide ((k : Int) < (l.length : Int)) = false by simpa using hlt) ?_ | fail)
    refine ret_bool ?_
    rw [lastsF, e0]; rfl
theorem l17ChunkLess_a (M : Mem) (a b : GChunk) : Ans Tryz.prog M 79 #[.agg #[.string a.Name, .int .i64 a.Ver.Epoch, .int .i64 a.Ver.Seq, .int .i64 a.Pos, .int .i64 a.Sum, .string a.Bytes], .agg #[.string b.Name, .int .i64 b.Ver.Epoch, .int .i64 b.Ver.Seq, .int .i64 b.Pos, .int .i64 b.Sum, .string b.Bytes]] (.bool (chunkLessF a b)) := by
  refine ans_of T (l := [.agg #[.string a.Name, .int .i64 a.Ver.Epoch, .int .i64 a.Ver.Seq, .int .i64 a.Pos, .int .i64 a.Sum, .string a.Bytes], .agg #[.string b.Name, .int .i64 b.Ver.Epoch, .int .i64 b.Ver.Seq, .int .i64 b.Pos, .int .i64 b.Sum, .string b.Bytes]]) mixed Tryz.func79 rfl (by kernel_rfl) (Nat.le_of_ble_eq_true rfl) ?_
  repeat' ((conv => whnf); first | with_reducible refine CondK.tt ?_ | with_reducible refine CondK.ff ?_ | with_reducible refine CondK.not ?_ | refine LdK.mk _ (by assumption) ?_ | refine DrawN.q (by kernel_rfl) ?_ | refine CallK.mk _ (sVerLess_a _ a.Ver b.Ver) ?_ | refine CondK.mk (fun h => ?_) (fun h => ?_) | fail)
  all_goals refine ret_bool ?_
  all_goals (unfold chunkLessF; have e1 := ba_eq a.Name b.Name; have e2 := eqv_Ver a.Ver b.Ver; simp only [Bool.and_true] at e2; simp_all)
theorem l17Chunks_a (M : Mem) (l : List GChunk) (A : Option Addr) (c : Nat) (h : SlR M RChunk 6 64 A c l) : Ans Tryz.prog M 40 #[.slice A l.length c] (.bool (allR l.length (chunkF l) && decide ((l.length : Int) ≤ 160))) := by
  have hl := h.len
  refine ans_of T (l := [.slice A l.length c]) mixed Tryz.func40 rfl (by kernel_rfl) (Nat.le_of_ble_eq_true rfl) ?_
  (conv => whnf)
  refine LoopK.mk {k : Nat // k ≤ l.length ∧ k ≤ 161 ∧ ∀ j, j < k → chunkF l j = true} (fun ⟨k, _⟩ => [(0, .v (.slice A l.length c)), (3, .v (.int .i64 (k : Int)))]) (fun _ => []) (fun _ => M) (fun k => l.length - k.1) ⟨0, Nat.zero_le _, by omega, fun j hj => absurd hj (by omega)⟩ ⟨⟨⟨rfl, rfl, trivial⟩, trivial, rfl, rfl⟩, rfl⟩ ?_
  rintro ⟨k, hk, hk', ha⟩
  by_cases hlt : k < l.length
  · have hx := List.getElem?_eq_getElem hlt
    obtain ⟨ad, rfl, bnx, x0, x1, x2, x3, x4, x5⟩ := at_Chunk h hx
    obtain ⟨p, hp⟩ : ∃ p, p = k - 1 := ⟨_, rfl⟩
    have hpl : p < l.length := by omega
    have hy := List.getElem?_eq_getElem hpl
    obtain ⟨_, hae, bny, y0, y1, y2, y3, y4, y5⟩ := at_Chunk h hy
    cases hae
    have hf := chunkF_at hx (by rw [← hp]; exact hy)
    repeat' ((conv => whnf); first | with_reducible refine CondK.tt ?_ | with_reducible refine CondK.ff ?_ | with_reducible refine CondK.not ?_ | refine LdK.mk _ (by assumption) ?_ | refine IdxK.mk _ rfl (by omega) (by omega) ?_ | refine IdxK.at p _ (i64_pred hp (by simpa using h) (by omega)) rfl hpl ?_ | refine DrawN.q (by kernel_rfl) ?_ | refine CallQ.mk _ (sChunkOk_a _ l[k] bnx.1 bnx.2) ?_ | refine CallQ.mk _ (l17ChunkLess_a _ l[p] l[k]) ?_ | refine CondK.yes' (show decide ((k : Int) < (l.length : Int)) = true by simpa using hlt) ?_ | refine CondK.mk (fun h => ?_) (fun h => ?_) | fail)
    all_goals first
      | (have hf : chunkF l k = true := by rw [hf]; clear hf ha; (simp_all <;> (try intro h2 h3) <;> (try simp_all) <;> omega)
         exact ⟨⟨k + 1, hlt, by have h16 : decide ((k : Int) ≤ 160) = true := (by assumption); simp at h16; omega, allR_step ha hf⟩, ⟨⟨rfl, look_int (i64_succ (by omega)), trivial⟩, trivial, rfl, rfl⟩, rfl, by simp; omega⟩)
      | (have hf : chunkF l k = false := by rw [hf]; clear hf ha; (simp_all <;> (try intro h2) <;> (try simp_all) <;> omega)
         refine ret_bool ?_
         rw [allR_no hlt hf]; rfl)
      | (refine ret_bool ?_
         have h16 : decide ((k : Int) ≤ 160) = false := (by assumption)
         have : decide ((l.length : Int) ≤ 160) = false := by simp at h16 ⊢; omega
         rw [this]; simp)
      | fail
  · have e0 : allR l.length (chunkF l) = true := allR_yes fun j hj => ha j (by omega)
    repeat' ((conv => whnf); first | with_reducible refine CondK.tt ?_ | with_reducible refine CondK.ff ?_ | with_reducible refine CondK.not ?_ | refine LdK.mk _ (by assumption) ?_ | refine DrawN.q (by kernel_rfl) ?_ | refine CondK.no' (show decide ((k : Int) < (l.length : Int)) = false by simpa using hlt) ?_ | fail)
    refine ret_bool ?_
    rw [e0]; rfl
theorem l17LastOf_a (M : Mem) (s : GPgState) (cs : List Value) (h : RPgState M s cs) : Ans Tryz.prog M 39 #[.agg cs.toArray] (.agg #[.int .i64 (lastVerF s).Epoch, .int .i64 (lastVerF s).Seq]) := by
  obtain ⟨A0, c0, A1, c1, A2, c2, A3, c3, rfl, hb, s0, s1, s2, s3⟩ := h
  have l2 := s2.len
  refine ans_of T (l := [.agg (List.toArray _)]) mixed Tryz.func39 rfl (by kernel_rfl) (Nat.le_of_ble_eq_true rfl) ?_
  by_cases h0 : s.Log.length = 0
  · have he : lastVerF s = s.Tail := by unfold lastVerF; rw [List.getElem?_eq_none (by omega)]
    rw [he]
    repeat' ((conv => whnf); first | with_reducible refine CondK.tt ?_ | with_reducible refine CondK.ff ?_ | refine CondK.no' (show decide ((s.Log.length : Int) > 0) = false from decide_eq_false (by omega)) ?_ | refine LdK.mk _ (by assumption) ?_ | refine DrawN.q (by kernel_rfl) ?_ | fail)
    exact rfl
  · obtain ⟨p, hp⟩ : ∃ p, p = s.Log.length - 1 := ⟨_, rfl⟩
    have hpl : p < s.Log.length := by omega
    have hx := List.getElem?_eq_getElem hpl
    have he : lastVerF s = (s.Log[p]).Ver := by unfold lastVerF; rw [← hp, hx]
    obtain ⟨ad, rfl, bnx, x0, x1, x2, x3, x4, x5, x6, x7, x8, x9⟩ := at_Entry s2 hx
    rw [he]
    repeat' ((conv => whnf); first | with_reducible refine CondK.tt ?_ | with_reducible refine CondK.ff ?_ | refine CondK.yes' (show decide ((s.Log.length : Int) > 0) = true from decide_eq_true (by omega)) ?_ | refine LdK.mk _ (by assumption) ?_ | refine IdxK.at p _ (i64_pred hp (by omega) (by omega)) rfl hpl ?_ | refine DrawN.q (by kernel_rfl) ?_ | fail)
    exact rfl
theorem logS_step {at_ : GVer} {m : List GHead} {l : List GEntry} {k : Nat} (h : k < l.length) : logS at_ m (l.drop k) = ((entryOkF l[k] && decide (l[k].Prior = at_)) && (decide (((putF l[k] m).length : Int) ≤ 16) && logS l[k].Ver (putF l[k] m) (l.drop (k + 1)))) := by
  rw [List.drop_eq_getElem_cons h]
  rfl
/-- Where the reference's walk over a log stands. -/
structure LogI (M : Mem) (s : GPgState) where
  k : Nat
  at_ : GVer
  l : List GHead
  M' : Mem
  A : Option Addr
  c : Nat
  hk : k ≤ s.Log.length
  hk' : k ≤ 25
  le : Le M M'
  sl : SlR M' RHead 5 48 A c l
  hl : l.length ≤ 16
  he : logS s.Tail s.Base s.Log = logS at_ l (s.Log.drop k)
theorem l17Log_a (M : Mem) (s : GPgState) (cs : List Value) (h : RPgState M s cs) (hb : s.Base.length ≤ 16) : Ans Tryz.prog M 37 #[.agg cs.toArray] (.bool (logS s.Tail s.Base s.Log && decide ((s.Log.length : Int) ≤ 24))) := by
  obtain ⟨A0, c0, A1, c1, A2, c2, A3, c3, rfl, _, s0, s1, s2, s3⟩ := h
  have l2 := s2.len
  refine Ans.of ?_
  refine ansR_of T (l := [.agg (List.toArray _)]) mixed Tryz.func37 rfl (by kernel_rfl) (Nat.le_of_ble_eq_true rfl) ?_
  (conv => whnf)
  refine LoopK.mk (LogI M s) (fun q => [(1, .p 0 0), (3, .p 1 0), (4, .v (.slice q.A q.l.length q.c)), (5, .v (.int .i64 (q.k : Int)))]) (fun q => [(0, [.int .i64 s.Pg.Pool, .int .i64 s.Pg.No, .int .i64 s.Seen, .int .i64 s.Started, .int .i64 s.Tail.Epoch, .int .i64 s.Tail.Seq, .slice A0 s.Base.length c0, .slice A1 s.Clients.length c1, .slice A2 s.Log.length c2, .int .i64 s.Firm.Epoch, .int .i64 s.Firm.Seq, .slice A3 s.Chunks.length c3]), (1, [.int .i64 q.at_.Epoch, .int .i64 q.at_.Seq])]) (fun q => q.M') (fun q => s.Log.length - q.k) ⟨0, s.Tail, s.Base, M, A0, c0, Nat.zero_le _, by omega, Le.refl M, s0, hb, rfl⟩ ⟨⟨⟨rfl, rfl, rfl, rfl, trivial⟩, ⟨rfl, rfl, trivial⟩, rfl, rfl⟩, rfl⟩ ?_
  intro q
  by_cases hlt : q.k < s.Log.length
  · have hx := List.getElem?_eq_getElem hlt
    obtain ⟨ad, rfl, bnx, x0, x1, x2, x3, x4, x5, x6, x7, x8, x9⟩ := at_Entry (s2.mono q.le (REntry.mono q.le)) hx
    have ha := q.he
    rw [logS_step hlt, ← eqv_Ver] at ha
    have hql := q.hl
    have hqk := q.hk'
    repeat' ((conv => whnf); first | with_reducible refine CondK.tt ?_ | with_reducible refine CondK.ff ?_ | with_reducible refine CondK.not ?_ | refine LdK.mk _ (by assumption) ?_ | refine IdxK.mk _ rfl (by omega) (by omega) ?_ | refine DrawN.q (by kernel_rfl) ?_ | refine CallK.mk _ (sEntryOk_a _ s.Log[q.k] bnx) ?_ | (refine CallK.mr _ (l17Put_a _ q.l _ _ q.sl (by omega) s.Log[q.k] bnx) (fun v M1 hl1 hv => ?_); obtain ⟨A', c', rfl, hs'⟩ := hv) | refine CondK.yes' (show decide ((q.k : Int) < (s.Log.length : Int)) = true from decide_eq_true (by omega)) ?_ | refine CondK.mk (fun h => ?_) (fun h => ?_) | fail)
    all_goals first
      | (have h16 : decide ((q.k : Int) ≤ 24) = true := (by assumption)
         have h17 : decide (((putF s.Log[q.k] q.l).length : Int) > 16) = false := (by assumption)
         have h18 : (putF s.Log[q.k] q.l).length ≤ 16 := by simp at h17; omega
         refine ⟨⟨q.k + 1, s.Log[q.k].Ver, putF s.Log[q.k] q.l, _, _, _, hlt, by simp at h16; omega, q.le.trans (by assumption), by assumption, h18, ?_⟩, ⟨⟨rfl, rfl, rfl, look_int (i64_succ (by omega)), trivial⟩, ⟨rfl, rfl, trivial⟩, rfl, rfl⟩, rfl, by simp; omega⟩
         rw [ha]; clear ha; (simp_all <;> omega))
      | (refine RetK.mk fun g M' hl hg => ret_bool ?_
         rw [ha]; clear ha; (simp_all <;> omega))
      | (refine RetK.mk fun g M' hl hg => ret_bool ?_
         have h16 : decide ((q.k : Int) ≤ 24) = false := (by assumption)
         have : decide ((s.Log.length : Int) ≤ 24) = false := by simp at h16 ⊢; omega
         rw [this]; simp)
      | fail
  · have e0 : s.Log.drop q.k = [] := List.drop_eq_nil_of_le (by omega)
    have ha := q.he
    rw [e0] at ha
    repeat' ((conv => whnf); first | with_reducible refine CondK.tt ?_ | with_reducible refine CondK.ff ?_ | refine LdK.mk _ (by assumption) ?_ | refine DrawN.q (by kernel_rfl) ?_ | refine CondK.no' (show decide ((q.k : Int) < (s.Log.length : Int)) = false from decide_eq_false (by omega)) ?_ | fail)
    refine RetK.mk fun g M' hl hg => ret_bool ?_
    rw [ha]; simp [logS]
def stateOkF (s : GPgState) : Bool := pgOkF s.Pg && inR s.Seen 0 60 && inR s.Started 0 s.Seen && verOkF s.Tail && baseOkF s && logOkF s && verOkF s.Firm && !verLessF (lastVerF s) s.Firm && chunksOkF s
theorem stateOk_a (M : Mem) (s : GPgState) (cs : List Value) (h : RPgState M s cs) : Ans Tryz.prog M 21 #[.agg cs.toArray] (.bool (stateOkF s)) := by
  have h0 := h
  obtain ⟨A0, c0, A1, c1, A2, c2, A3, c3, rfl, _, s0, s1, s2, s3⟩ := h
  refine ans_of T (l := [.agg (List.toArray _)]) mixed Tryz.func21 rfl (by kernel_rfl) (Nat.le_of_ble_eq_true rfl) ?_
  repeat' ((conv => whnf); first | with_reducible refine CondK.tt ?_ | with_reducible refine CondK.ff ?_ | with_reducible refine CondK.not ?_ | refine LdK.mk _ (by assumption) ?_ | refine DrawN.q (by kernel_rfl) ?_ | refine CallQ.mk _ (pgOk_a _ s.Pg) ?_ | refine CallQ.mk _ (between_a _ _ _ _) ?_ | refine CallQ.mk _ (verOk_a _ s.Tail) ?_ | refine CallQ.mk _ (baseOk_a _ _ _ h0) ?_ | refine CallQ.mk _ (logOk_a _ _ _ h0) ?_ | refine CallQ.mk _ (verOk_a _ s.Firm) ?_ | refine CallQ.mk _ (lastVer_a _ _ _ h0) ?_ | refine CallQ.mk _ (verLess_a _ (lastVerF s) s.Firm) ?_ | refine CallQ.mk _ (chunksOk_a _ _ _ h0) ?_ | refine CondK.mk (fun h => ?_) (fun h => ?_) | fail)
  all_goals refine ret_bool ?_
  all_goals (unfold stateOkF; simp_all)
theorem stateOkF_eq (s : GPgState) : stateOkF s = (pgOkF s.Pg && inR s.Seen 0 60 && inR s.Started 0 s.Seen && verOkF s.Tail && verOkF s.Firm && (headsF s.Tail s.Base && lastsF s.Tail s.Clients && (logS s.Tail s.Base s.Log && decide ((s.Log.length : Int) ≤ 24)) && !verLessF (lastVerF s) s.Firm && (allR s.Chunks.length (chunkF s.Chunks) && decide ((s.Chunks.length : Int) ≤ 160)))) := by
  unfold stateOkF baseOkF chunksOkF headsF lastsF
  cases hh : allR s.Base.length (headF s.Tail s.Base) with
  | false => simp
  | true =>
    rw [log_same hh]
    ac_rfl
theorem sStateOk_a (M : Mem) (s : GPgState) (cs : List Value) (h : RPgState M s cs) : Ans Tryz.prog M 13 #[.agg cs.toArray] (.bool (stateOkF s)) := by
  have h0 := h
  obtain ⟨A0, c0, A1, c1, A2, c2, A3, c3, rfl, _, s0, s1, s2, s3⟩ := h
  rw [stateOkF_eq]
  refine ans_of T (l := [.agg (List.toArray _)]) mixed Tryz.func13 rfl (by kernel_rfl) (Nat.le_of_ble_eq_true rfl) ?_
  have hb : headsF s.Tail s.Base = true → s.Base.length ≤ 16 := fun h => by
    unfold headsF at h
    simp only [Bool.and_eq_true, decide_eq_true_eq] at h
    omega
  repeat' ((conv => whnf); first | with_reducible refine CondK.tt ?_ | with_reducible refine CondK.ff ?_ | with_reducible refine CondK.not ?_ | refine LdK.mk _ (by assumption) ?_ | refine DrawN.q (by kernel_rfl) ?_ | refine CallQ.mk _ (l17Pg_a _ s.Pg) ?_ | refine CallK.mk _ (l17Pg_a _ s.Pg) ?_ | refine CallK.mk _ (l00In_a _ _ _ _) ?_ | refine CallK.mk _ (l17Ver_a _ s.Tail) ?_ | refine CallK.mk _ (l17Ver_a _ s.Firm) ?_ | refine CallQ.mk _ (l17Heads_a _ _ _ _ s0 s.Tail) ?_ | refine CallQ.mk _ (l17Lasts_a _ _ _ _ s1 s.Tail) ?_ | refine CallQ.mk _ (l17Log_a _ _ _ h0 (hb (by assumption))) ?_ | refine CallQ.mk _ (l17LastOf_a _ _ _ h0) ?_ | refine CallQ.mk _ (sVerLess_a _ (lastVerF s) s.Firm) ?_ | refine CallQ.mk _ (l17Chunks_a _ _ _ _ s3) ?_ | refine CondK.mk (fun h => ?_) (fun h => ?_) | fail)
  all_goals refine ret_bool ?_
  all_goals (simp_all <;> (intros; first | (simp_all; done) | (simp_all; omega)))
end Go.Proofs.YthpnmempecelaaaGreat.Hlp
