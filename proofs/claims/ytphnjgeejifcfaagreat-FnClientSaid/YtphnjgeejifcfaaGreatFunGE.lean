/- What a client sends and hears; the law's own small functions. -/
import Derived.Test.YtphnjgeejifcfaaGreatFunGC
namespace Go.Proofs.YtphnjgeejifcfaaGreat.Hlp
open Go Go.RowKit Go.Proofs Go.Proofs.YtphnjgeejifcfaaGreat.Lw
set_option linter.unusedVariables false
set_option linter.unusedSimpArgs false
set_option maxRecDepth 100000
set_option maxHeartbeats 4000000
theorem callEq {P : Program} {wr : Bool} {base M : Mem} {f : FuncId} {args : Array Value} {u : Value} {K : Value → Mem → Prop} (h : AnsR P M f args (fun _ v => v = u)) (k : ∀ M', Le M M' → K u M') : CallK P wr base M f args K :=
  CallK.mr _ h fun v M' hl hv => by rw [hv]; exact k M' hl
def zM : GMsg := ⟨0, 0, 0, ⟨0, 0⟩, 0, eB, ⟨0, 0⟩, ⟨0, 0⟩, zS, zE, zC, zO, ⟨0, 0⟩, 0, eB⟩
def opM (x : GClient) (k : Int) : GMsg := ⟨13, x.Id, k, x.Pg, 0, x.Name, ⟨0, 0⟩, ⟨0, 0⟩, zS, zE, zC, x.Op, ⟨x.Id, x.No⟩, 0, eB⟩
def vSend (m : GMsg) : Value := .agg (List.toArray [.int .i64 m.Kind, .int .i64 m.From, .int .i64 m.To, .int .i64 m.Pg.Pool, .int .i64 m.Pg.No, .int .i64 m.Epoch, .string m.Name, .int .i64 0, .int .i64 0, .int .i64 0, .int .i64 0, .int .i64 0, .int .i64 0, .int .i64 0, .int .i64 0, .int .i64 0, .int .i64 0, .slice none 0 0, .slice none 0 0, .slice none 0 0, .int .i64 0, .int .i64 0, .slice none 0 0, .int .i64 0, .int .i64 0, .int .i64 0, .int .i64 0, .string ⟨#[]⟩, .bool false, .int .i64 0, .int .i64 0, .int .i64 0, .int .i64 0, .string ⟨#[]⟩, .int .i64 0, .int .i64 0, .int .i64 0, .int .i64 0, .string ⟨#[]⟩, .int .i64 m.Op.Kind, .int .i64 m.Op.At, .string m.Op.Bytes, .int .i64 m.Req.Client, .int .i64 m.Req.No, .int .i64 0, .string ⟨#[]⟩])
theorem small_big {n : Nat} (h : n ≤ 1000) : n ≤ 9223372036854775807 := by omega
theorem rmsg_op (M : Mem) (x : GClient) (k : Int) (hx : smallC x) (m : GMsg) (hm : m = opM x k) : RMsg M m [.int .i64 m.Kind, .int .i64 m.From, .int .i64 m.To, .int .i64 m.Pg.Pool, .int .i64 m.Pg.No, .int .i64 m.Epoch, .string m.Name, .int .i64 0, .int .i64 0, .int .i64 0, .int .i64 0, .int .i64 0, .int .i64 0, .int .i64 0, .int .i64 0, .int .i64 0, .int .i64 0, .slice none 0 0, .slice none 0 0, .slice none 0 0, .int .i64 0, .int .i64 0, .slice none 0 0, .int .i64 0, .int .i64 0, .int .i64 0, .int .i64 0, .string ⟨#[]⟩, .bool false, .int .i64 0, .int .i64 0, .int .i64 0, .int .i64 0, .string ⟨#[]⟩, .int .i64 0, .int .i64 0, .int .i64 0, .int .i64 0, .string ⟨#[]⟩, .int .i64 m.Op.Kind, .int .i64 m.Op.At, .string m.Op.Bytes, .int .i64 m.Req.Client, .int .i64 m.Req.No, .int .i64 0, .string ⟨#[]⟩] := by
  subst hm
  refine ⟨none, 0, none, 0, none, 0, none, 0, rfl, ?_, SlR.nil, SlR.nil, SlR.nil, SlR.nil⟩
  exact ⟨small_big hx.1, small_big z1000, small_big z1000, small_big z1000, small_big hx.2, small_big z1000⟩
def repM (m : GMsg) : GMsg := ⟨m.Kind, m.From, m.To, m.Pg, m.Epoch, eB, m.Ver, ⟨0, 0⟩, zS, zE, zC, zO, m.Req, m.Code, m.Body⟩
theorem rmsg_rep (M : Mem) (m : GMsg) (hm : m.Body.size ≤ 1000) : RMsg M (repM m) [.int .i64 m.Kind, .int .i64 m.From, .int .i64 m.To, .int .i64 m.Pg.Pool, .int .i64 m.Pg.No, .int .i64 m.Epoch, .string ⟨#[]⟩, .int .i64 m.Ver.Epoch, .int .i64 m.Ver.Seq, .int .i64 0, .int .i64 0, .int .i64 0, .int .i64 0, .int .i64 0, .int .i64 0, .int .i64 0, .int .i64 0, .slice none 0 0, .slice none 0 0, .slice none 0 0, .int .i64 0, .int .i64 0, .slice none 0 0, .int .i64 0, .int .i64 0, .int .i64 0, .int .i64 0, .string ⟨#[]⟩, .bool false, .int .i64 0, .int .i64 0, .int .i64 0, .int .i64 0, .string ⟨#[]⟩, .int .i64 0, .int .i64 0, .int .i64 0, .int .i64 0, .string ⟨#[]⟩, .int .i64 0, .int .i64 0, .string ⟨#[]⟩, .int .i64 m.Req.Client, .int .i64 m.Req.No, .int .i64 m.Code, .string m.Body] := by
  refine ⟨none, 0, none, 0, none, 0, none, 0, rfl, ?_, SlR.nil, SlR.nil, SlR.nil, SlR.nil⟩
  exact ⟨small_big z1000, small_big z1000, small_big z1000, small_big z1000, small_big z1000, small_big hm⟩
def sendC (x : GClient) (k : Int) : Bool := x.Busy && inR k 0 15 && !decide (x.Tries = 1000)
def sendF (x : GClient) (k : Int) : GClient × GMsg × Bool :=
  if callerF x = true then (if sendC x k = true then ({ x with Tries := IntKind.i64.wrap (x.Tries + 1) }, opM x k, true) else (x, zM, false)) else (zCli, zM, false)
theorem req_a (M : Mem) (x : GClient) : Ans Tryz.prog M 17 #[.agg (List.toArray [.int .i64 x.Id, .int .i64 x.No, .bool x.Busy, .int .i64 x.Pg.Pool, .int .i64 x.Pg.No, .string x.Name, .int .i64 x.Op.Kind, .int .i64 x.Op.At, .string x.Op.Bytes, .int .i64 x.Tries])] (.agg #[.int .i64 x.Id, .int .i64 x.No]) := by
  refine ans_of T (l := [.agg (List.toArray [.int .i64 x.Id, .int .i64 x.No, .bool x.Busy, .int .i64 x.Pg.Pool, .int .i64 x.Pg.No, .string x.Name, .int .i64 x.Op.Kind, .int .i64 x.Op.At, .string x.Op.Bytes, .int .i64 x.Tries])]) mixed Tryz.func17 rfl (by kernel_rfl) (Nat.le_of_ble_eq_true rfl) ?_
  (conv => whnf)
  rfl
theorem isNode_a' (M : Mem) (n : Int) : Ans Tryz.prog M 16 #[.int .i64 n] (.bool (inR n 0 15)) := by
  refine ans_of T (l := [.int .i64 n]) mixed Tryz.func16 rfl (by kernel_rfl) (Nat.le_of_ble_eq_true rfl) ?_
  repeat' ((conv => whnf); first | refine CallK.mk _ (between_a _ _ _ _) ?_ | fail)
  exact ret_bool rfl
theorem iSendTo_a (M : Mem) (x : GClient) (hx : smallC x) (k : Int) : Ans Tryz.prog M 6 #[.agg (List.toArray [.int .i64 x.Id, .int .i64 x.No, .bool x.Busy, .int .i64 x.Pg.Pool, .int .i64 x.Pg.No, .string x.Name, .int .i64 x.Op.Kind, .int .i64 x.Op.At, .string x.Op.Bytes, .int .i64 x.Tries]), .int .i64 k] (.tuple #[vClient (sendF x k).1, vSend (sendF x k).2.1, .bool (sendF x k).2.2]) := by
  have hx1 := small_big hx.1
  cases hc : callerF x with
  | false =>
    rw [show sendF x k = (zCli, zM, false) from if_neg (by rw [hc]; exact Bool.false_ne_true)]
    refine ans_of T (l := [.agg (List.toArray [.int .i64 x.Id, .int .i64 x.No, .bool x.Busy, .int .i64 x.Pg.Pool, .int .i64 x.Pg.No, .string x.Name, .int .i64 x.Op.Kind, .int .i64 x.Op.At, .string x.Op.Bytes, .int .i64 x.Tries]), .int .i64 k]) mixed Tryz.func6 rfl (by kernel_rfl) (Nat.le_of_ble_eq_true rfl) ?_
    repeat' ((conv => whnf); first | refine CallK.mk _ (callerOk_a _ x hx1) ?_ | refine CondK.yes' (by rw [hc]; rfl) ?_ | fail)
    exact rfl
  | true =>
    cases hs : sendC x k with
    | false =>
      rw [show sendF x k = (x, zM, false) from (if_pos hc).trans (if_neg (by rw [hs]; exact Bool.false_ne_true))]
      refine ans_of T (l := [.agg (List.toArray [.int .i64 x.Id, .int .i64 x.No, .bool x.Busy, .int .i64 x.Pg.Pool, .int .i64 x.Pg.No, .string x.Name, .int .i64 x.Op.Kind, .int .i64 x.Op.At, .string x.Op.Bytes, .int .i64 x.Tries]), .int .i64 k]) mixed Tryz.func6 rfl (by kernel_rfl) (Nat.le_of_ble_eq_true rfl) ?_
      repeat' ((conv => whnf); first | refine CallK.mk _ (callerOk_a _ x hx1) ?_ | refine CallK.mk _ (isNode_a' _ k) ?_ | refine CondK.no' (t := !callerF x) (by rw [hc]; rfl) ?_ | refine GuardK.mk (fun h => ?_) (fun h => ?_) | refine CondK.mk (fun h => ?_) (fun h => ?_) | fail)
      all_goals first
        | exact rfl
        | (exfalso; unfold sendC at hs; simp_all; done)
    | true =>
      rw [show sendF x k = ({ x with Tries := IntKind.i64.wrap (x.Tries + 1) }, opM x k, true) from (if_pos hc).trans (if_pos hs)]
      refine ans_of T (l := [.agg (List.toArray [.int .i64 x.Id, .int .i64 x.No, .bool x.Busy, .int .i64 x.Pg.Pool, .int .i64 x.Pg.No, .string x.Name, .int .i64 x.Op.Kind, .int .i64 x.Op.At, .string x.Op.Bytes, .int .i64 x.Tries]), .int .i64 k]) mixed Tryz.func6 rfl (by kernel_rfl) (Nat.le_of_ble_eq_true rfl) ?_
      repeat' ((conv => whnf); first | refine CallK.mk _ (callerOk_a _ x hx1) ?_ | refine CallK.mk _ (isNode_a' _ k) ?_ | refine CondK.no' (t := !callerF x) (by rw [hc]; rfl) ?_ | refine GuardK.mk (fun h => ?_) (fun h => ?_) | refine CondK.mk (fun h => ?_) (fun h => ?_) | fail)
      all_goals first
        | (exfalso; unfold sendC at hs; simp_all; done)
        | skip
      (conv => whnf)
      obtain ⟨m, hm⟩ : ∃ m, opM x k = m := ⟨_, rfl⟩
      rw [hm]
      refine DrawN.w [1, 2] Unit (fun _ => [(4, .p 1 0), (5, .p 2 0), (6, .v (.bool true))]) (fun _ => [(1, [.int .i64 ({ x with Tries := IntKind.i64.wrap (x.Tries + 1) } : GClient).Id, .int .i64 ({ x with Tries := IntKind.i64.wrap (x.Tries + 1) } : GClient).No, .bool ({ x with Tries := IntKind.i64.wrap (x.Tries + 1) } : GClient).Busy, .int .i64 ({ x with Tries := IntKind.i64.wrap (x.Tries + 1) } : GClient).Pg.Pool, .int .i64 ({ x with Tries := IntKind.i64.wrap (x.Tries + 1) } : GClient).Pg.No, .string ({ x with Tries := IntKind.i64.wrap (x.Tries + 1) } : GClient).Name, .int .i64 ({ x with Tries := IntKind.i64.wrap (x.Tries + 1) } : GClient).Op.Kind, .int .i64 ({ x with Tries := IntKind.i64.wrap (x.Tries + 1) } : GClient).Op.At, .string ({ x with Tries := IntKind.i64.wrap (x.Tries + 1) } : GClient).Op.Bytes, .int .i64 ({ x with Tries := IntKind.i64.wrap (x.Tries + 1) } : GClient).Tries]), (2, [.int .i64 m.Kind, .int .i64 m.From, .int .i64 m.To, .int .i64 m.Pg.Pool, .int .i64 m.Pg.No, .int .i64 m.Epoch, .string m.Name, .int .i64 0, .int .i64 0, .int .i64 0, .int .i64 0, .int .i64 0, .int .i64 0, .int .i64 0, .int .i64 0, .int .i64 0, .int .i64 0, .slice none 0 0, .slice none 0 0, .slice none 0 0, .int .i64 0, .int .i64 0, .slice none 0 0, .int .i64 0, .int .i64 0, .int .i64 0, .int .i64 0, .string ⟨#[]⟩, .bool false, .int .i64 0, .int .i64 0, .int .i64 0, .int .i64 0, .string ⟨#[]⟩, .int .i64 0, .int .i64 0, .int .i64 0, .int .i64 0, .string ⟨#[]⟩, .int .i64 m.Op.Kind, .int .i64 m.Op.At, .string m.Op.Bytes, .int .i64 m.Req.Client, .int .i64 m.Req.No, .int .i64 0, .string ⟨#[]⟩])]) 9 (fun _ => M) (by kernel_rfl) ?_ ?_
      · repeat' ((conv => whnf); first | refine AndK.mk ?_ ?_ | refine HeldK.mk (by kernel_rfl) ?_ | refine CallK.mk _ (req_a _ ({ x with Tries := IntKind.i64.wrap (x.Tries + 1) } : GClient)) ?_ | (subst hm; exact ⟨(), ⟨⟨rfl, rfl, rfl, trivial⟩, ⟨rfl, rfl, trivial⟩, rfl, rfl⟩, rfl⟩) | fail)
      · rintro ⟨⟩
        (conv => whnf)
        rfl
theorem sSendTo_a (M : Mem) (x : GClient) (hx : smallC x) (k : Int) : Ans Tryz.prog M 7 #[.agg (List.toArray [.int .i64 x.Id, .int .i64 x.No, .bool x.Busy, .int .i64 x.Pg.Pool, .int .i64 x.Pg.No, .string x.Name, .int .i64 x.Op.Kind, .int .i64 x.Op.At, .string x.Op.Bytes, .int .i64 x.Tries]), .int .i64 k] (.tuple #[vClient (sendF x k).1, vSend (sendF x k).2.1, .bool (sendF x k).2.2]) := by
  have hx1 := small_big hx.1
  cases hc : callerF x with
  | false =>
    rw [show sendF x k = (zCli, zM, false) from if_neg (by rw [hc]; exact Bool.false_ne_true)]
    refine ans_of T (l := [.agg (List.toArray [.int .i64 x.Id, .int .i64 x.No, .bool x.Busy, .int .i64 x.Pg.Pool, .int .i64 x.Pg.No, .string x.Name, .int .i64 x.Op.Kind, .int .i64 x.Op.At, .string x.Op.Bytes, .int .i64 x.Tries]), .int .i64 k]) mixed Tryz.func7 rfl (by kernel_rfl) (Nat.le_of_ble_eq_true rfl) ?_
    repeat' ((conv => whnf); first | refine CallK.mk _ (sCallerOk_a _ x hx1) ?_ | refine CondK.yes' (by rw [hc]; rfl) ?_ | fail)
    exact rfl
  | true =>
    have htr : x.Tries ≤ 1000 := by
      unfold callerF inR at hc
      simp only [Bool.and_eq_true, decide_eq_true_eq] at hc
      omega
    cases hs : sendC x k with
    | false =>
      rw [show sendF x k = (x, zM, false) from (if_pos hc).trans (if_neg (by rw [hs]; exact Bool.false_ne_true))]
      refine ans_of T (l := [.agg (List.toArray [.int .i64 x.Id, .int .i64 x.No, .bool x.Busy, .int .i64 x.Pg.Pool, .int .i64 x.Pg.No, .string x.Name, .int .i64 x.Op.Kind, .int .i64 x.Op.At, .string x.Op.Bytes, .int .i64 x.Tries]), .int .i64 k]) mixed Tryz.func7 rfl (by kernel_rfl) (Nat.le_of_ble_eq_true rfl) ?_
      repeat' ((conv => whnf); first | refine CallK.mk _ (sCallerOk_a _ x hx1) ?_ | refine CallK.mk _ (nodeOk_a _ k) ?_ | refine CondK.no' (t := !callerF x) (by rw [hc]; rfl) ?_ | refine GuardK.mk (fun h => ?_) (fun h => ?_) | refine CondK.mk (fun h => ?_) (fun h => ?_) | fail)
      all_goals first
        | exact rfl
        | (exfalso; unfold sendC at hs; simp_all; done)
        | (exfalso; unfold sendC at hs; simp_all; omega)
    | true =>
      rw [show sendF x k = ({ x with Tries := IntKind.i64.wrap (x.Tries + 1) }, opM x k, true) from (if_pos hc).trans (if_pos hs)]
      refine ans_of T (l := [.agg (List.toArray [.int .i64 x.Id, .int .i64 x.No, .bool x.Busy, .int .i64 x.Pg.Pool, .int .i64 x.Pg.No, .string x.Name, .int .i64 x.Op.Kind, .int .i64 x.Op.At, .string x.Op.Bytes, .int .i64 x.Tries]), .int .i64 k]) mixed Tryz.func7 rfl (by kernel_rfl) (Nat.le_of_ble_eq_true rfl) ?_
      repeat' ((conv => whnf); first | refine CallK.mk _ (sCallerOk_a _ x hx1) ?_ | refine CallK.mk _ (nodeOk_a _ k) ?_ | refine CondK.no' (t := !callerF x) (by rw [hc]; rfl) ?_ | refine GuardK.mk (fun h => ?_) (fun h => ?_) | refine CondK.mk (fun h => ?_) (fun h => ?_) | fail)
      all_goals first
        | (exfalso; unfold sendC at hs; simp_all; done)
        | (exfalso; unfold sendC at hs; simp_all; omega)
        | skip
      (conv => whnf)
      obtain ⟨m, hm⟩ : ∃ m, opM x k = m := ⟨_, rfl⟩
      rw [hm]
      refine DrawN.w [1, 2] Unit (fun _ => [(4, .p 1 0), (5, .p 2 0), (6, .v (.bool true))]) (fun _ => [(1, [.int .i64 ({ x with Tries := IntKind.i64.wrap (x.Tries + 1) } : GClient).Id, .int .i64 ({ x with Tries := IntKind.i64.wrap (x.Tries + 1) } : GClient).No, .bool ({ x with Tries := IntKind.i64.wrap (x.Tries + 1) } : GClient).Busy, .int .i64 ({ x with Tries := IntKind.i64.wrap (x.Tries + 1) } : GClient).Pg.Pool, .int .i64 ({ x with Tries := IntKind.i64.wrap (x.Tries + 1) } : GClient).Pg.No, .string ({ x with Tries := IntKind.i64.wrap (x.Tries + 1) } : GClient).Name, .int .i64 ({ x with Tries := IntKind.i64.wrap (x.Tries + 1) } : GClient).Op.Kind, .int .i64 ({ x with Tries := IntKind.i64.wrap (x.Tries + 1) } : GClient).Op.At, .string ({ x with Tries := IntKind.i64.wrap (x.Tries + 1) } : GClient).Op.Bytes, .int .i64 ({ x with Tries := IntKind.i64.wrap (x.Tries + 1) } : GClient).Tries]), (2, [.int .i64 m.Kind, .int .i64 m.From, .int .i64 m.To, .int .i64 m.Pg.Pool, .int .i64 m.Pg.No, .int .i64 m.Epoch, .string m.Name, .int .i64 0, .int .i64 0, .int .i64 0, .int .i64 0, .int .i64 0, .int .i64 0, .int .i64 0, .int .i64 0, .int .i64 0, .int .i64 0, .slice none 0 0, .slice none 0 0, .slice none 0 0, .int .i64 0, .int .i64 0, .slice none 0 0, .int .i64 0, .int .i64 0, .int .i64 0, .int .i64 0, .string ⟨#[]⟩, .bool false, .int .i64 0, .int .i64 0, .int .i64 0, .int .i64 0, .string ⟨#[]⟩, .int .i64 0, .int .i64 0, .int .i64 0, .int .i64 0, .string ⟨#[]⟩, .int .i64 m.Op.Kind, .int .i64 m.Op.At, .string m.Op.Bytes, .int .i64 m.Req.Client, .int .i64 m.Req.No, .int .i64 0, .string ⟨#[]⟩])]) 9 (fun _ => M) (by kernel_rfl) ?_ ?_
      · repeat' ((conv => whnf); first | refine AndK.mk ?_ ?_ | refine HeldK.mk (by kernel_rfl) ?_ | (subst hm; exact ⟨(), ⟨⟨rfl, rfl, rfl, trivial⟩, ⟨rfl, rfl, trivial⟩, rfl, rfl⟩, rfl⟩) | fail)
      · rintro ⟨⟩
        (conv => whnf)
        rfl
def hearC (x : GClient) (m : GMsg) : Bool := x.Busy && (endsF m && hasMsgF m) && decide (m.Kind = 14) && decide (m.To = x.Id) && decide (m.Pg = x.Pg) && decide (m.Req = ⟨x.Id, x.No⟩)
def hearF (x : GClient) (m : GMsg) : GClient × Bool :=
  if callerF x = true then (if hearC x m = true then (⟨x.Id, x.No, false, ⟨0, 0⟩, eB, zO, 0⟩, true) else (x, false)) else (zCli, false)
theorem iHearReply_r (M : Mem) (x : GClient) (hx : smallC x) (m : GMsg) (cs : List Value) (h : RMsg M m cs) : AnsR Tryz.prog M 11 #[.agg (List.toArray [.int .i64 x.Id, .int .i64 x.No, .bool x.Busy, .int .i64 x.Pg.Pool, .int .i64 x.Pg.No, .string x.Name, .int .i64 x.Op.Kind, .int .i64 x.Op.At, .string x.Op.Bytes, .int .i64 x.Tries]), .agg cs.toArray] (fun _ v => v = .tuple #[vClient (hearF x m).1, .bool (hearF x m).2]) := by
  have h0 := h
  obtain ⟨A0, c0, A1, c1, A2, c2, A3, c3, rfl, ⟨b0, b1, b2, b3, b4, b5⟩, s0, s1, s2, s3⟩ := h
  have hx1 := small_big hx.1
  have hmo : AnsR Tryz.prog M 25 #[.agg (List.toArray _)] (fun _ v => v = .bool (endsF m && hasMsgF m)) := (msgOk_a M m _ h0).imp fun M' v _ hv => by rw [hv, Bool.and_assoc, msg_plain]
  cases hc : callerF x with
  | false =>
    rw [show hearF x m = (zCli, false) from if_neg (by rw [hc]; exact Bool.false_ne_true)]
    refine ansR_of T (l := [.agg (List.toArray [.int .i64 x.Id, .int .i64 x.No, .bool x.Busy, .int .i64 x.Pg.Pool, .int .i64 x.Pg.No, .string x.Name, .int .i64 x.Op.Kind, .int .i64 x.Op.At, .string x.Op.Bytes, .int .i64 x.Tries]), .agg (List.toArray _)]) mixed Tryz.func11 rfl (by kernel_rfl) (Nat.le_of_ble_eq_true rfl) ?_
    repeat' ((conv => whnf); first | refine CallK.mk _ (callerOk_a _ x hx1) ?_ | refine CondK.yes' (by rw [hc]; rfl) ?_ | exact RetK.mk fun g M' hl hg => rfl | fail)
  | true =>
    have e1 := eqv_Pg m.Pg x.Pg
    have e2 := eqv_Req m.Req ⟨x.Id, x.No⟩
    rw [show hearF x m = (if hearC x m = true then (⟨x.Id, x.No, false, ⟨0, 0⟩, eB, zO, 0⟩, true) else (x, false)) from if_pos hc]
    refine ansR_of T (l := [.agg (List.toArray [.int .i64 x.Id, .int .i64 x.No, .bool x.Busy, .int .i64 x.Pg.Pool, .int .i64 x.Pg.No, .string x.Name, .int .i64 x.Op.Kind, .int .i64 x.Op.At, .string x.Op.Bytes, .int .i64 x.Tries]), .agg (List.toArray _)]) mixed Tryz.func11 rfl (by kernel_rfl) (Nat.le_of_ble_eq_true rfl) ?_
    repeat' ((conv => whnf); first | refine CallK.mk _ (callerOk_a _ x hx1) ?_ | refine CondK.no' (t := !callerF x) (by rw [hc]; rfl) ?_ | fail)
    refine DrawN.h {q : Mem // True} (fun q => [(2, .p 0 0), (4, .p 2 0), (11, .v (.bool (!hearC x m)))]) (fun q => [(0, [.int .i64 x.Id, .int .i64 x.No, .bool x.Busy, .int .i64 x.Pg.Pool, .int .i64 x.Pg.No, .string x.Name, .int .i64 x.Op.Kind, .int .i64 x.Op.At, .string x.Op.Bytes, .int .i64 x.Tries]), (2, [.int .i64 zCli.Id, .int .i64 zCli.No, .bool zCli.Busy, .int .i64 zCli.Pg.Pool, .int .i64 zCli.Pg.No, .string zCli.Name, .int .i64 zCli.Op.Kind, .int .i64 zCli.Op.At, .string zCli.Op.Bytes, .int .i64 zCli.Tries])]) 9 (fun q => q.1) (by kernel_rfl) ?_ ?_
    · repeat' ((conv => whnf); first | refine AndK.mk ?_ ?_ | refine HeldK.mk (by kernel_rfl) ?_ | refine callEq hmo (fun M1 hl => ?_) | refine CallK.mk _ (req_a _ x) ?_ | refine GuardK.mk (fun h => ?_) (fun h => ?_) | refine CondK.mk (fun h => ?_) (fun h => ?_) | fail)
      all_goals exact ⟨⟨_, trivial⟩, ⟨⟨rfl, rfl, congrArg (fun t => some (PV.v (Value.bool t))) (by unfold hearC; rw [← e1, ← e2]; simp_all), trivial⟩, ⟨rfl, rfl, trivial⟩, rfl, rfl⟩, rfl⟩
    · rintro ⟨N, _⟩
      cases hh : hearC x m with
      | true =>
        repeat' ((conv => whnf); first | refine CondK.no' (by rw [hh]; rfl) ?_ | exact RetK.mk fun g M' hl hg => rfl | fail)
      | false =>
        repeat' ((conv => whnf); first | refine CondK.yes' (by rw [hh]; rfl) ?_ | exact RetK.mk fun g M' hl hg => rfl | fail)
end Go.Proofs.YtphnjgeejifcfaaGreat.Hlp
