/- The reference's heads, last requests, chunks and log by the light walk; a pg's state, of both. -/
import Derived.Test.YtphnjgeejifcfaaFunI
namespace Go.Proofs.Ytphnjgeejifcfaa.Hlp
open Go Go.RowKit Go.Proofs Go.Proofs.Ytphnjgeejifcfaa.Lw
set_option linter.unusedVariables false
set_option linter.unusedSimpArgs false
set_option maxRecDepth 100000
set_option maxHeartbeats 4000000
theorem leB_eq (a b : ByteArray) : leB a b = !Op.bytesLess b.toList a.toList := by
  cases h : leB a b with
  | false => have := leB_no h; unfold bl at this; rw [this]; rfl
  | true =>
    cases h2 : Op.bytesLess b.toList a.toList with
    | false => rfl
    | true =>
      unfold leB at h
      simp only [Bool.or_eq_true, beq_iff_eq] at h
      rcases h with h | h
      · have := bLess_trans h h2
        rw [bLess_irrefl] at this
        cases this
      · rw [h, bLess_irrefl] at h2
        cases h2
theorem Ans.of {P : Program} {M : Mem} {f : FuncId} {args : Array Value} {c : Value} (h : AnsR P M f args (fun _ v => v = c)) : Ans P M f args c :=
  ⟨h.go, fun w hw => (h.run w hw).mono fun e w' ⟨v, M', he, _, _, _, hv, hb⟩ => ⟨by rw [he, hv], hb⟩⟩
def headsF (most : GVer) (l : List GHead) : Bool := allR l.length (headF most l) && decide ((l.length : Int) ≤ 16)
theorem headF_at' {most : GVer} {l : List GHead} {k : Nat} {x y : GHead} (hx : l[k]? = some x) (hy : l[k - 1]? = some y) : headF most l k = (nameOkF x.Name && (fullF x.Ver && !verLessF most x.Ver) && (inR x.Size 0 64 && inR x.Sum 0 4294967295) && !(decide (0 < k) && !Op.bytesLess y.Name.toList x.Name.toList)) := by
  rw [headF_at hx hy, leB_eq]
  rfl
def lastsF (most : GVer) (l : List GLast) : Bool := allR l.length (lastF most l) && decide ((l.length : Int) ≤ 6)
theorem lastF_at' {most : GVer} {l : List GLast} {k : Nat} {x y : GLast} (hx : l[k]? = some x) (hy : l[k - 1]? = some y) : lastF most l k = (isClientF x.Client && inR x.No 1 1000 && (fullF x.Ver && !verLessF most x.Ver) && !(decide (0 < k) && decide (x.Client ≤ y.Client))) := by
  rw [lastF_at hx hy, eqv_Req']
  have h0 : (reqOkF ⟨x.Client, x.No⟩ && !(decide (x.Client = 0) && decide (x.No = 0))) = (isClientF x.Client && inR x.No 1 1000) := by
    unfold reqOkF
    rw [eqv_Req']
    cases h1 : (decide (x.Client = 0) && decide (x.No = 0)) with
    | false => simp
    | true =>
      simp only [Bool.and_eq_true, decide_eq_true_eq] at h1
      unfold isClientF
      rw [h1.1]
      rfl
  rw [h0]
  rfl
theorem logS_step {at_ : GVer} {m : List GHead} {l : List GEntry} {k : Nat} (h : k < l.length) : logS at_ m (l.drop k) = ((entryOkF l[k] && decide (l[k].Prior = at_)) && (decide (((putF l[k] m).length : Int) ≤ 16) && logS l[k].Ver (putF l[k] m) (l.drop (k + 1)))) := by
  rw [List.drop_eq_getElem_cons h]
  rfl
/-- Where the reference's walk over a log stands. -/
structure LogI (M : Mem) (s : GPgState) where
  k : Nat
  at_ : GVer
  l : List GHead
  M' : Mem
  A : Option Addr
  c : Nat
  hk : k ≤ s.Log.length
  hk' : k ≤ 25
  le : Le M M'
  sl : SlR M' RHead 5 48 A c l
  hl : l.length ≤ 16
  he : logS s.Tail s.Base s.Log = logS at_ l (s.Log.drop k)
def stateOkF (s : GPgState) : Bool := pgOkF s.Pg && inR s.Seen 0 60 && inR s.Started 0 s.Seen && verOkF s.Tail && baseOkF s && logOkF s && verOkF s.Firm && !verLessF (lastVerF s) s.Firm && chunksOkF s
theorem stateOk_a (M : Mem) (s : GPgState) (cs : List Value) (h : RPgState M s cs) : Ans Try.prog M 57 #[.agg cs.toArray] (.bool (stateOkF s)) := by
  have h0 := h
  obtain ⟨A0, c0, A1, c1, A2, c2, A3, c3, rfl, _, s0, s1, s2, s3⟩ := h
  refine ans_of T (l := [.agg (List.toArray _)]) mixed Try.func57 rfl (by kernel_rfl) (Nat.le_of_ble_eq_true rfl) ?_
  repeat' ((conv => whnf); first | with_reducible refine CondK.tt ?_ | with_reducible refine CondK.ff ?_ | with_reducible refine CondK.not ?_ | refine LdK.mk _ (by assumption) ?_ | refine DrawN.q (by kernel_rfl) ?_ | refine CallQ.mk _ (pgOk_a _ s.Pg) ?_ | refine CallQ.mk _ (between_a _ _ _ _) ?_ | refine CallQ.mk _ (verOk_a _ s.Tail) ?_ | refine CallQ.mk _ (baseOk_a _ _ _ h0) ?_ | refine CallQ.mk _ (logOk_a _ _ _ h0) ?_ | refine CallQ.mk _ (verOk_a _ s.Firm) ?_ | refine CallQ.mk _ (lastVer_a _ _ _ h0) ?_ | refine CallQ.mk _ (verLess_a _ (lastVerF s) s.Firm) ?_ | refine CallQ.mk _ (chunksOk_a _ _ _ h0) ?_ | refine CondK.mk (fun h => ?_) (fun h => ?_) | fail)
  all_goals refine ret_bool ?_
  all_goals (unfold stateOkF; simp_all)
theorem stateOkF_eq (s : GPgState) : stateOkF s = (pgOkF s.Pg && inR s.Seen 0 60 && inR s.Started 0 s.Seen && verOkF s.Tail && verOkF s.Firm && (headsF s.Tail s.Base && lastsF s.Tail s.Clients && (logS s.Tail s.Base s.Log && decide ((s.Log.length : Int) ≤ 24)) && !verLessF (lastVerF s) s.Firm && (allR s.Chunks.length (chunkF s.Chunks) && decide ((s.Chunks.length : Int) ≤ 160)))) := by
  unfold stateOkF baseOkF chunksOkF headsF lastsF
  cases hh : allR s.Base.length (headF s.Tail s.Base) with
  | false => simp
  | true =>
    rw [log_same hh]
    ac_rfl
end Go.Proofs.Ytphnjgeejifcfaa.Hlp
