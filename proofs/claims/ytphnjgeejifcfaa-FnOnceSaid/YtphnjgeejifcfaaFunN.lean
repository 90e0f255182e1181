/- Messages by the light walk. -/
import Derived.Test.YtphnjgeejifcfaaFunM
import Derived.Test.YtphnjgeejifcfaaSame
namespace Go.Proofs.Ytphnjgeejifcfaa.Hlp
open Go Go.RowKit Go.Proofs Go.Proofs.Ytphnjgeejifcfaa.Lw
set_option linter.unusedVariables false
set_option linter.unusedSimpArgs false
set_option maxRecDepth 100000
set_option maxHeartbeats 4000000
abbrev eB : ByteArray := ⟨#[]⟩
def zE : GEntry := ⟨⟨0, 0⟩, ⟨0, 0⟩, eB, false, 0, 0, ⟨0, 0⟩⟩
def zC : GChunk := ⟨eB, ⟨0, 0⟩, 0, 0, eB⟩
def zO : GOp := ⟨0, 0, eB⟩
def zS : GPgState := ⟨⟨0, 0⟩, 0, 0, ⟨0, 0⟩, [], [], [], ⟨0, 0⟩, []⟩
def codeOkF (c : GCode) : Bool := inR c.K 1 4 && inR c.M 0 3
theorem codeOk_a (M : Mem) (c : GCode) : Ans Try.prog M 41 #[.agg #[.int .i64 c.K, .int .i64 c.M]] (.bool (codeOkF c)) := by
  refine ans_of T (l := [.agg #[.int .i64 c.K, .int .i64 c.M]]) mixed Try.func41 rfl (by kernel_rfl) (Nat.le_of_ble_eq_true rfl) ?_
  repeat' ((conv => whnf); first | with_reducible refine CondK.tt ?_ | with_reducible refine CondK.ff ?_ | refine CallK.mk _ (between_a _ _ _ _) ?_ | refine CallQ.mk _ (between_a _ _ _ _) ?_ | refine DrawN.q (by kernel_rfl) ?_ | refine CondK.mk (fun h => ?_) (fun h => ?_) | fail)
  all_goals refine ret_bool ?_
  all_goals (unfold codeOkF; simp_all)
theorem l04Code_a (M : Mem) (c : GCode) : Ans Try.prog M 45 #[.agg #[.int .i64 c.K, .int .i64 c.M]] (.bool (codeOkF c)) := by
  refine ans_of T (l := [.agg #[.int .i64 c.K, .int .i64 c.M]]) mixed Try.func45 rfl (by kernel_rfl) (Nat.le_of_ble_eq_true rfl) ?_
  repeat' ((conv => whnf); first | with_reducible refine CondK.tt ?_ | with_reducible refine CondK.ff ?_ | refine CallK.mk _ (l00In_a _ _ _ _) ?_ | refine CallQ.mk _ (l00In_a _ _ _ _) ?_ | refine DrawN.q (by kernel_rfl) ?_ | refine CondK.mk (fun h => ?_) (fun h => ?_) | fail)
  all_goals refine ret_bool ?_
  all_goals (unfold codeOkF; simp_all)
theorem sCodeOk_a (M : Mem) (c : GCode) : Ans Try.prog M 68 #[.agg #[.int .i64 c.K, .int .i64 c.M]] (.bool (codeOkF c)) := by
  refine ans_of T (l := [.agg #[.int .i64 c.K, .int .i64 c.M]]) mixed Try.func68 rfl (by kernel_rfl) (Nat.le_of_ble_eq_true rfl) ?_
  repeat' ((conv => whnf); first | refine CallK.mk _ (l04Code_a _ _) ?_ | fail)
  exact ret_bool rfl
def opOkF (c : GCode) (o : GOp) : Bool :=
  codeOkF c &&
  (if o.Kind = 1 ∨ o.Kind = 6 then decide (o.At = 0) && decide (o.Bytes = eB)
   else if o.Kind = 2 then decide (o.At = 0) && decide ((o.Bytes.size : Int) ≤ 64)
   else if o.Kind = 3 then decide (c.K = 1) && inR o.At 0 64 && decide ((o.Bytes.size : Int) ≤ 64)
   else if o.Kind = 4 then decide (c.K = 1) && decide (o.At = 0) && decide ((o.Bytes.size : Int) ≤ 64)
   else if o.Kind = 5 then decide (c.K = 1) && inR o.At 0 64 && decide (o.Bytes = eB)
   else false)
theorem opOk_a (M : Mem) (c : GCode) (o : GOp) : Ans Try.prog M 26 #[.agg #[.int .i64 c.K, .int .i64 c.M], .agg #[.int .i64 o.Kind, .int .i64 o.At, .string o.Bytes]] (.bool (opOkF c o)) := by
  refine ans_of T (l := [.agg #[.int .i64 c.K, .int .i64 c.M], .agg #[.int .i64 o.Kind, .int .i64 o.At, .string o.Bytes]]) mixed Try.func26 rfl (by kernel_rfl) (Nat.le_of_ble_eq_true rfl) ?_
  repeat' ((conv => whnf); first | with_reducible refine CondK.tt ?_ | with_reducible refine CondK.ff ?_ | refine CallK.mk _ (codeOk_a _ c) ?_ | refine CallK.mk _ (between_a _ _ _ _) ?_ | refine CallQ.mk _ (between_a _ _ _ _) ?_ | refine DrawN.q (by kernel_rfl) ?_ | refine CondK.mk (fun h => ?_) (fun h => ?_) | fail)
  all_goals refine ret_bool ?_
  all_goals (have eb := ba_eq o.Bytes eB; unfold opOkF; simp_all)
theorem sOpOk_a (M : Mem) (c : GCode) (o : GOp) : Ans Try.prog M 53 #[.agg #[.int .i64 c.K, .int .i64 c.M], .agg #[.int .i64 o.Kind, .int .i64 o.At, .string o.Bytes]] (.bool (opOkF c o)) := by
  refine ans_of T (l := [.agg #[.int .i64 c.K, .int .i64 c.M], .agg #[.int .i64 o.Kind, .int .i64 o.At, .string o.Bytes]]) mixed Try.func53 rfl (by kernel_rfl) (Nat.le_of_ble_eq_true rfl) ?_
  repeat' ((conv => whnf); first | with_reducible refine CondK.tt ?_ | with_reducible refine CondK.ff ?_ | refine CallK.mk _ (sCodeOk_a _ c) ?_ | refine CallK.mk _ (l00In_a _ _ _ _) ?_ | refine CallQ.mk _ (l00In_a _ _ _ _) ?_ | refine DrawN.q (by kernel_rfl) ?_ | refine CondK.mk (fun h => ?_) (fun h => ?_) | fail)
  all_goals refine ret_bool ?_
  all_goals (have eb := ba_eq o.Bytes eB; unfold opOkF; simp_all)
theorem isPlace_a (M : Mem) (n : Int) : Ans Try.prog M 58 #[.int .i64 n] (.bool (inR n 0 6)) := by
  refine ans_of T (l := [.int .i64 n]) mixed Try.func58 rfl (by kernel_rfl) (Nat.le_of_ble_eq_true rfl) ?_
  repeat' ((conv => whnf); first | refine CallK.mk _ (between_a _ _ _ _) ?_ | fail)
  exact ret_bool rfl
theorem realVer_a (M : Mem) (v : GVer) : Ans Try.prog M 59 #[.agg #[.int .i64 v.Epoch, .int .i64 v.Seq]] (.bool (fullF v)) := by
  refine ans_of T (l := [.agg #[.int .i64 v.Epoch, .int .i64 v.Seq]]) mixed Try.func59 rfl (by kernel_rfl) (Nat.le_of_ble_eq_true rfl) ?_
  repeat' ((conv => whnf); first | with_reducible refine CondK.tt ?_ | with_reducible refine CondK.ff ?_ | refine CallK.mk _ (verOk_a _ v) ?_ | refine CallQ.mk _ (verOk_a _ v) ?_ | refine DrawN.q (by kernel_rfl) ?_ | refine CondK.mk (fun hc => ?_) (fun hc => ?_) | fail)
  all_goals refine ret_bool ?_
  all_goals (unfold fullF; rw [← eqv_Ver]; simp_all)
def realReqF (r : GReq) : Bool := reqOkF r && !decide (r = ⟨0, 0⟩)
theorem realReq_a (M : Mem) (r : GReq) : Ans Try.prog M 64 #[.agg #[.int .i64 r.Client, .int .i64 r.No]] (.bool (realReqF r)) := by
  refine ans_of T (l := [.agg #[.int .i64 r.Client, .int .i64 r.No]]) mixed Try.func64 rfl (by kernel_rfl) (Nat.le_of_ble_eq_true rfl) ?_
  repeat' ((conv => whnf); first | with_reducible refine CondK.tt ?_ | with_reducible refine CondK.ff ?_ | refine CallK.mk _ (reqOk_a _ r) ?_ | refine CallQ.mk _ (reqOk_a _ r) ?_ | refine DrawN.q (by kernel_rfl) ?_ | refine CondK.mk (fun hc => ?_) (fun hc => ?_) | fail)
  all_goals refine ret_bool ?_
  all_goals (unfold realReqF; rw [← eqv_Req]; simp_all)
def fitsF (c : GChunk) (e : GEntry) : Bool := chunkOkF c && decide (c.Name = e.Name) && decide (c.Ver = e.Ver)
theorem chunkFits_a (M : Mem) (c : GChunk) (e : GEntry) (hb : c.Name.size ≤ 9223372036854775807) (hb' : c.Bytes.size ≤ 9223372036854775807) : Ans Try.prog M 76 #[.agg #[.string c.Name, .int .i64 c.Ver.Epoch, .int .i64 c.Ver.Seq, .int .i64 c.Pos, .int .i64 c.Sum, .string c.Bytes], .agg #[.int .i64 e.Ver.Epoch, .int .i64 e.Ver.Seq, .int .i64 e.Prior.Epoch, .int .i64 e.Prior.Seq, .string e.Name, .bool e.Gone, .int .i64 e.Size, .int .i64 e.Sum, .int .i64 e.Req.Client, .int .i64 e.Req.No]] (.bool (fitsF c e)) := by
  refine ans_of T (l := [.agg #[.string c.Name, .int .i64 c.Ver.Epoch, .int .i64 c.Ver.Seq, .int .i64 c.Pos, .int .i64 c.Sum, .string c.Bytes], .agg #[.int .i64 e.Ver.Epoch, .int .i64 e.Ver.Seq, .int .i64 e.Prior.Epoch, .int .i64 e.Prior.Seq, .string e.Name, .bool e.Gone, .int .i64 e.Size, .int .i64 e.Sum, .int .i64 e.Req.Client, .int .i64 e.Req.No]]) mixed Try.func76 rfl (by kernel_rfl) (Nat.le_of_ble_eq_true rfl) ?_
  repeat' ((conv => whnf); first | with_reducible refine CondK.tt ?_ | with_reducible refine CondK.ff ?_ | refine CallK.mk _ (chunkOk_a _ c hb hb') ?_ | refine CallQ.mk _ (chunkOk_a _ c hb hb') ?_ | refine DrawN.q (by kernel_rfl) ?_ | refine CondK.mk (fun hc => ?_) (fun hc => ?_) | fail)
  all_goals refine ret_bool ?_
  all_goals (unfold fitsF; rw [← eqv_Ver, ← ba_eq]; simp_all)
def endsF (m : GMsg) : Bool := (if m.Kind = 13 then isClientF m.From else inR m.From 0 15) && (if m.Kind = 14 then isClientF m.To else inR m.To 0 15) && pgOkF m.Pg && inR m.Epoch (if m.Kind = 13 ∨ m.Kind = 14 then 0 else 1) 60
theorem ends_a (M : Mem) (m : GMsg) (cs : List Value) (h : RMsg M m cs) : Ans Try.prog M 46 #[.agg cs.toArray] (.bool (endsF m)) := by
  obtain ⟨A0, c0, A1, c1, A2, c2, A3, c3, rfl, ⟨b0, b1, b2, b3, b4, b5⟩, s0, s1, s2, s3⟩ := h
  refine ans_of T (l := [.agg (List.toArray _)]) mixed Try.func46 rfl (by kernel_rfl) (Nat.le_of_ble_eq_true rfl) ?_
  repeat' ((conv => whnf); first | with_reducible refine CondK.tt ?_ | with_reducible refine CondK.ff ?_ | refine CallK.mk _ (isNode_a _ _) ?_ | refine CallQ.mk _ (isNode_a _ _) ?_ | refine CallK.mk _ (isClient_a _ _) ?_ | refine CallQ.mk _ (isClient_a _ _) ?_ | refine CallK.mk _ (pgOk_a _ m.Pg) ?_ | refine CallQ.mk _ (pgOk_a _ m.Pg) ?_ | refine CallK.mk _ (between_a _ _ _ _) ?_ | refine CallQ.mk _ (between_a _ _ _ _) ?_ | refine DrawN.q (by kernel_rfl) ?_ | refine CondK.mk (fun hc => ?_) (fun hc => ?_) | fail)
  all_goals refine ret_bool ?_
  all_goals (unfold endsF; simp_all)
def writeF (m : GMsg) : Bool := entryOkF m.Entry && verOkF m.Firm && verLessF m.Firm m.Entry.Ver && inR m.Code 0 6 && (if m.Entry.Gone = true then decide (m.Chunk = zC) else fitsF m.Chunk m.Entry)
theorem zC_eq (x : GChunk) : decide (x = zC) = (x.Name.toList == eB.toList && (x.Ver.Epoch == 0 && (x.Ver.Seq == 0) && (x.Pos == 0 && (x.Sum == 0 && x.Bytes.toList == eB.toList)))) := by
  rw [← eqv_Chunk]
  simp [zC]
theorem zE_eq (x : GEntry) : decide (x = zE) = ((x.Ver.Epoch == 0 && x.Ver.Seq == 0) && ((x.Prior.Epoch == 0 && x.Prior.Seq == 0) && (x.Name.toList == eB.toList && (x.Gone == false && (x.Size == 0 && (x.Sum == 0 && (x.Req.Client == 0 && x.Req.No == 0))))))) := by
  rw [← eqv_Entry]
  simp [zE]
theorem zO_eq (x : GOp) : decide (x = zO) = (x.Kind == 0 && (x.At == 0 && x.Bytes.toList == eB.toList)) := by
  rw [← eqv_Op]
  simp [zO]
theorem writeOk_a (M : Mem) (m : GMsg) (cs : List Value) (h : RMsg M m cs) : Ans Try.prog M 61 #[.agg cs.toArray] (.bool (writeF m)) := by
  obtain ⟨A0, c0, A1, c1, A2, c2, A3, c3, rfl, ⟨b0, b1, b2, b3, b4, b5⟩, s0, s1, s2, s3⟩ := h
  refine ans_of T (l := [.agg (List.toArray _)]) mixed Try.func61 rfl (by kernel_rfl) (Nat.le_of_ble_eq_true rfl) ?_
  repeat' ((conv => whnf); first | with_reducible refine CondK.tt ?_ | with_reducible refine CondK.ff ?_ | refine CallK.mk _ (entryOk_a _ m.Entry b1) ?_ | refine CallQ.mk _ (entryOk_a _ m.Entry b1) ?_ | refine CallK.mk _ (verOk_a _ m.Firm) ?_ | refine CallQ.mk _ (verOk_a _ m.Firm) ?_ | refine CallK.mk _ (verLess_a _ m.Firm m.Entry.Ver) ?_ | refine CallQ.mk _ (verLess_a _ m.Firm m.Entry.Ver) ?_ | refine CallK.mk _ (isPlace_a _ _) ?_ | refine CallQ.mk _ (isPlace_a _ _) ?_ | refine CallK.mk _ (chunkFits_a _ m.Chunk m.Entry b2 b3) ?_ | refine CallQ.mk _ (chunkFits_a _ m.Chunk m.Entry b2 b3) ?_ | refine DrawN.q (by kernel_rfl) ?_ | refine CondK.mk (fun hc => ?_) (fun hc => ?_) | fail)
  all_goals refine ret_bool ?_
  all_goals (unfold writeF; rw [zC_eq]; simp_all)
def checkF (m : GMsg) : Bool := nameOkF m.Name && verOkF m.Ver && realReqF m.Req && verOkF m.Firm
theorem checkOk_a (M : Mem) (m : GMsg) (cs : List Value) (h : RMsg M m cs) : Ans Try.prog M 62 #[.agg cs.toArray] (.bool (checkF m)) := by
  obtain ⟨A0, c0, A1, c1, A2, c2, A3, c3, rfl, ⟨b0, b1, b2, b3, b4, b5⟩, s0, s1, s2, s3⟩ := h
  refine ans_of T (l := [.agg (List.toArray _)]) mixed Try.func62 rfl (by kernel_rfl) (Nat.le_of_ble_eq_true rfl) ?_
  repeat' ((conv => whnf); first | with_reducible refine CondK.tt ?_ | with_reducible refine CondK.ff ?_ | refine CallK.mk _ (nameOk_a _ _ b0) ?_ | refine CallQ.mk _ (nameOk_a _ _ b0) ?_ | refine CallK.mk _ (verOk_a _ m.Ver) ?_ | refine CallQ.mk _ (verOk_a _ m.Ver) ?_ | refine CallK.mk _ (verOk_a _ m.Firm) ?_ | refine CallQ.mk _ (verOk_a _ m.Firm) ?_ | refine CallK.mk _ (realReq_a _ m.Req) ?_ | refine CallQ.mk _ (realReq_a _ m.Req) ?_ | refine DrawN.q (by kernel_rfl) ?_ | refine CondK.mk (fun hc => ?_) (fun hc => ?_) | fail)
  all_goals refine ret_bool ?_
  all_goals (unfold checkF; simp_all)
def checkedF (m : GMsg) : Bool := (decide (m.Entry = zE) || entryOkF m.Entry && decide (m.Entry.Name = m.Name) && !m.Entry.Gone && !verLessF m.Ver m.Entry.Ver) && (decide (m.Chunk = zC) || fitsF m.Chunk m.Entry)
theorem checkedOk_a (M : Mem) (m : GMsg) (cs : List Value) (h : RMsg M m cs) : Ans Try.prog M 63 #[.agg cs.toArray] (.bool (checkedF m)) := by
  obtain ⟨A0, c0, A1, c1, A2, c2, A3, c3, rfl, ⟨b0, b1, b2, b3, b4, b5⟩, s0, s1, s2, s3⟩ := h
  refine ans_of T (l := [.agg (List.toArray _)]) mixed Try.func63 rfl (by kernel_rfl) (Nat.le_of_ble_eq_true rfl) ?_
  repeat' ((conv => whnf); first | with_reducible refine CondK.tt ?_ | with_reducible refine CondK.ff ?_ | refine CallK.mk _ (entryOk_a _ m.Entry b1) ?_ | refine CallQ.mk _ (entryOk_a _ m.Entry b1) ?_ | refine CallK.mk _ (verLess_a _ m.Ver m.Entry.Ver) ?_ | refine CallQ.mk _ (verLess_a _ m.Ver m.Entry.Ver) ?_ | refine CallK.mk _ (chunkFits_a _ m.Chunk m.Entry b2 b3) ?_ | refine CallQ.mk _ (chunkFits_a _ m.Chunk m.Entry b2 b3) ?_ | refine DrawN.q (by kernel_rfl) ?_ | refine CondK.mk (fun hc => ?_) (fun hc => ?_) | fail)
  all_goals refine ret_bool ?_
  all_goals (unfold checkedF; rw [zC_eq, zE_eq, ← ba_eq m.Entry.Name m.Name]; simp_all)
end Go.Proofs.Ytphnjgeejifcfaa.Hlp
