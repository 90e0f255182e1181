/- What a client sends and hears; the law's own small functions. -/
import Derived.Test.YtphnjgeejifcfaaFunGC
namespace Go.Proofs.Ytphnjgeejifcfaa.Hlp
open Go Go.RowKit Go.Proofs Go.Proofs.Ytphnjgeejifcfaa.Lw
set_option linter.unusedVariables false
set_option linter.unusedSimpArgs false
set_option maxRecDepth 100000
set_option maxHeartbeats 4000000
theorem callEq {P : Program} {wr : Bool} {base M : Mem} {f : FuncId} {args : Array Value} {u : Value} {K : Value → Mem → Prop} (h : AnsR P M f args (fun _ v => v = u)) (k : ∀ M', Le M M' → K u M') : CallK P wr base M f args K :=
  CallK.mr _ h fun v M' hl hv => by rw [hv]; exact k M' hl
def zM : GMsg := ⟨0, 0, 0, ⟨0, 0⟩, 0, eB, ⟨0, 0⟩, ⟨0, 0⟩, zS, zE, zC, zO, ⟨0, 0⟩, 0, eB⟩
def opM (x : GClient) (k : Int) : GMsg := ⟨13, x.Id, k, x.Pg, 0, x.Name, ⟨0, 0⟩, ⟨0, 0⟩, zS, zE, zC, x.Op, ⟨x.Id, x.No⟩, 0, eB⟩
def vSend (m : GMsg) : Value := .agg (List.toArray [.int .i64 m.Kind, .int .i64 m.From, .int .i64 m.To, .int .i64 m.Pg.Pool, .int .i64 m.Pg.No, .int .i64 m.Epoch, .string m.Name, .int .i64 0, .int .i64 0, .int .i64 0, .int .i64 0, .int .i64 0, .int .i64 0, .int .i64 0, .int .i64 0, .int .i64 0, .int .i64 0, .slice none 0 0, .slice none 0 0, .slice none 0 0, .int .i64 0, .int .i64 0, .slice none 0 0, .int .i64 0, .int .i64 0, .int .i64 0, .int .i64 0, .string ⟨#[]⟩, .bool false, .int .i64 0, .int .i64 0, .int .i64 0, .int .i64 0, .string ⟨#[]⟩, .int .i64 0, .int .i64 0, .int .i64 0, .int .i64 0, .string ⟨#[]⟩, .int .i64 m.Op.Kind, .int .i64 m.Op.At, .string m.Op.Bytes, .int .i64 m.Req.Client, .int .i64 m.Req.No, .int .i64 0, .string ⟨#[]⟩])
theorem small_big {n : Nat} (h : n ≤ 1000) : n ≤ 9223372036854775807 := by omega
theorem rmsg_op (M : Mem) (x : GClient) (k : Int) (hx : smallC x) (m : GMsg) (hm : m = opM x k) : RMsg M m [.int .i64 m.Kind, .int .i64 m.From, .int .i64 m.To, .int .i64 m.Pg.Pool, .int .i64 m.Pg.No, .int .i64 m.Epoch, .string m.Name, .int .i64 0, .int .i64 0, .int .i64 0, .int .i64 0, .int .i64 0, .int .i64 0, .int .i64 0, .int .i64 0, .int .i64 0, .int .i64 0, .slice none 0 0, .slice none 0 0, .slice none 0 0, .int .i64 0, .int .i64 0, .slice none 0 0, .int .i64 0, .int .i64 0, .int .i64 0, .int .i64 0, .string ⟨#[]⟩, .bool false, .int .i64 0, .int .i64 0, .int .i64 0, .int .i64 0, .string ⟨#[]⟩, .int .i64 0, .int .i64 0, .int .i64 0, .int .i64 0, .string ⟨#[]⟩, .int .i64 m.Op.Kind, .int .i64 m.Op.At, .string m.Op.Bytes, .int .i64 m.Req.Client, .int .i64 m.Req.No, .int .i64 0, .string ⟨#[]⟩] := by
  subst hm
  refine ⟨none, 0, none, 0, none, 0, none, 0, rfl, ?_, SlR.nil, SlR.nil, SlR.nil, SlR.nil⟩
  exact ⟨small_big hx.1, small_big z1000, small_big z1000, small_big z1000, small_big hx.2, small_big z1000⟩
def repM (m : GMsg) : GMsg := ⟨m.Kind, m.From, m.To, m.Pg, m.Epoch, eB, m.Ver, ⟨0, 0⟩, zS, zE, zC, zO, m.Req, m.Code, m.Body⟩
theorem rmsg_rep (M : Mem) (m : GMsg) (hm : m.Body.size ≤ 1000) : RMsg M (repM m) [.int .i64 m.Kind, .int .i64 m.From, .int .i64 m.To, .int .i64 m.Pg.Pool, .int .i64 m.Pg.No, .int .i64 m.Epoch, .string ⟨#[]⟩, .int .i64 m.Ver.Epoch, .int .i64 m.Ver.Seq, .int .i64 0, .int .i64 0, .int .i64 0, .int .i64 0, .int .i64 0, .int .i64 0, .int .i64 0, .int .i64 0, .slice none 0 0, .slice none 0 0, .slice none 0 0, .int .i64 0, .int .i64 0, .slice none 0 0, .int .i64 0, .int .i64 0, .int .i64 0, .int .i64 0, .string ⟨#[]⟩, .bool false, .int .i64 0, .int .i64 0, .int .i64 0, .int .i64 0, .string ⟨#[]⟩, .int .i64 0, .int .i64 0, .int .i64 0, .int .i64 0, .string ⟨#[]⟩, .int .i64 0, .int .i64 0, .string ⟨#[]⟩, .int .i64 m.Req.Client, .int .i64 m.Req.No, .int .i64 m.Code, .string m.Body] := by
  refine ⟨none, 0, none, 0, none, 0, none, 0, rfl, ?_, SlR.nil, SlR.nil, SlR.nil, SlR.nil⟩
  exact ⟨small_big z1000, small_big z1000, small_big z1000, small_big z1000, small_big z1000, small_big hm⟩
def sendC (x : GClient) (k : Int) : Bool := x.Busy && inR k 0 15 && !decide (x.Tries = 1000)
def sendF (x : GClient) (k : Int) : GClient × GMsg × Bool :=
  if callerF x = true then (if sendC x k = true then ({ x with Tries := IntKind.i64.wrap (x.Tries + 1) }, opM x k, true) else (x, zM, false)) else (zCli, zM, false)
theorem req_a (M : Mem) (x : GClient) : Ans Try.prog M 30 #[.agg (List.toArray [.int .i64 x.Id, .int .i64 x.No, .bool x.Busy, .int .i64 x.Pg.Pool, .int .i64 x.Pg.No, .string x.Name, .int .i64 x.Op.Kind, .int .i64 x.Op.At, .string x.Op.Bytes, .int .i64 x.Tries])] (.agg #[.int .i64 x.Id, .int .i64 x.No]) := by
  refine ans_of T (l := [.agg (List.toArray [.int .i64 x.Id, .int .i64 x.No, .bool x.Busy, .int .i64 x.Pg.Pool, .int .i64 x.Pg.No, .string x.Name, .int .i64 x.Op.Kind, .int .i64 x.Op.At, .string x.Op.Bytes, .int .i64 x.Tries])]) mixed Try.func30 rfl (by kernel_rfl) (Nat.le_of_ble_eq_true rfl) ?_
  (conv => whnf)
  rfl
theorem isNode_a' (M : Mem) (n : Int) : Ans Try.prog M 55 #[.int .i64 n] (.bool (inR n 0 15)) := by
  refine ans_of T (l := [.int .i64 n]) mixed Try.func55 rfl (by kernel_rfl) (Nat.le_of_ble_eq_true rfl) ?_
  repeat' ((conv => whnf); first | refine CallK.mk _ (between_a _ _ _ _) ?_ | fail)
  exact ret_bool rfl
def hearC (x : GClient) (m : GMsg) : Bool := x.Busy && (endsF m && hasMsgF m) && decide (m.Kind = 14) && decide (m.To = x.Id) && decide (m.Pg = x.Pg) && decide (m.Req = ⟨x.Id, x.No⟩)
def hearF (x : GClient) (m : GMsg) : GClient × Bool :=
  if callerF x = true then (if hearC x m = true then (⟨x.Id, x.No, false, ⟨0, 0⟩, eB, zO, 0⟩, true) else (x, false)) else (zCli, false)
theorem iHearReply_r (M : Mem) (x : GClient) (hx : smallC x) (m : GMsg) (cs : List Value) (h : RMsg M m cs) : AnsR Try.prog M 11 #[.agg (List.toArray [.int .i64 x.Id, .int .i64 x.No, .bool x.Busy, .int .i64 x.Pg.Pool, .int .i64 x.Pg.No, .string x.Name, .int .i64 x.Op.Kind, .int .i64 x.Op.At, .string x.Op.Bytes, .int .i64 x.Tries]), .agg cs.toArray] (fun _ v => v = .tuple #[vClient (hearF x m).1, .bool (hearF x m).2]) := by
  have h0 := h
  obtain ⟨A0, c0, A1, c1, A2, c2, A3, c3, rfl, ⟨b0, b1, b2, b3, b4, b5⟩, s0, s1, s2, s3⟩ := h
  have hx1 := small_big hx.1
  have hmo : AnsR Try.prog M 29 #[.agg (List.toArray _)] (fun _ v => v = .bool (endsF m && hasMsgF m)) := (msgOk_a M m _ h0).imp fun M' v _ hv => by rw [hv, Bool.and_assoc, msg_plain]
  cases hc : callerF x with
  | false =>
    rw [show hearF x m = (zCli, false) from if_neg (by rw [hc]; exact Bool.false_ne_true)]
    refine ansR_of T (l := [.agg (List.toArray [.int .i64 x.Id, .int .i64 x.No, .bool x.Busy, .int .i64 x.Pg.Pool, .int .i64 x.Pg.No, .string x.Name, .int .i64 x.Op.Kind, .int .i64 x.Op.At, .string x.Op.Bytes, .int .i64 x.Tries]), .agg (List.toArray _)]) mixed Try.func11 rfl (by kernel_rfl) (Nat.le_of_ble_eq_true rfl) ?_
    repeat' ((conv => whnf); first | refine CallK.mk _ (callerOk_a _ x hx1) ?_ | refine CondK.yes' (by rw [hc]; rfl) ?_ | exact RetK.mk fun g M' hl hg => rfl | fail)
  | true =>
    have e1 := eqv_Pg m.Pg x.Pg
    have e2 := eqv_Req m.Req ⟨x.Id, x.No⟩
    rw [show hearF x m = (if hearC x m = true then (⟨x.Id, x.No, false, ⟨0, 0⟩, eB, zO, 0⟩, true) else (x, false)) from if_pos hc]
    refine ansR_of T (l := [.agg (List.toArray [.int .i64 x.Id, .int .i64 x.No, .bool x.Busy, .int .i64 x.Pg.Pool, .int .i64 x.Pg.No, .string x.Name, .int .i64 x.Op.Kind, .int .i64 x.Op.At, .string x.Op.Bytes, .int .i64 x.Tries]), .agg (List.toArray _)]) mixed Try.func11 rfl (by kernel_rfl) (Nat.le_of_ble_eq_true rfl) ?_
    repeat' ((conv => whnf); first | refine CallK.mk _ (callerOk_a _ x hx1) ?_ | refine CondK.no' (t := !callerF x) (by rw [hc]; rfl) ?_ | fail)
    refine DrawN.h {q : Mem // True} (fun q => [(2, .p 0 0), (4, .p 2 0), (11, .v (.bool (!hearC x m)))]) (fun q => [(0, [.int .i64 x.Id, .int .i64 x.No, .bool x.Busy, .int .i64 x.Pg.Pool, .int .i64 x.Pg.No, .string x.Name, .int .i64 x.Op.Kind, .int .i64 x.Op.At, .string x.Op.Bytes, .int .i64 x.Tries]), (2, [.int .i64 zCli.Id, .int .i64 zCli.No, .bool zCli.Busy, .int .i64 zCli.Pg.Pool, .int .i64 zCli.Pg.No, .string zCli.Name, .int .i64 zCli.Op.Kind, .int .i64 zCli.Op.At, .string zCli.Op.Bytes, .int .i64 zCli.Tries])]) 9 (fun q => q.1) (by kernel_rfl) ?_ ?_
    · repeat' ((conv => whnf); first | refine AndK.mk ?_ ?_ | refine HeldK.mk (by kernel_rfl) ?_ | refine callEq hmo (fun M1 hl => ?_) | refine CallK.mk _ (req_a _ x) ?_ | refine GuardK.mk (fun h => ?_) (fun h => ?_) | refine CondK.mk (fun h => ?_) (fun h => ?_) | fail)
      all_goals exact ⟨⟨_, trivial⟩, ⟨⟨rfl, rfl, congrArg (fun t => some (PV.v (Value.bool t))) (by unfold hearC; rw [← e1, ← e2]; simp_all), trivial⟩, ⟨rfl, rfl, trivial⟩, rfl, rfl⟩, rfl⟩
    · rintro ⟨N, _⟩
      cases hh : hearC x m with
      | true =>
        repeat' ((conv => whnf); first | refine CondK.no' (by rw [hh]; rfl) ?_ | exact RetK.mk fun g M' hl hg => rfl | fail)
      | false =>
        repeat' ((conv => whnf); first | refine CondK.yes' (by rw [hh]; rfl) ?_ | exact RetK.mk fun g M' hl hg => rfl | fail)
end Go.Proofs.Ytphnjgeejifcfaa.Hlp
