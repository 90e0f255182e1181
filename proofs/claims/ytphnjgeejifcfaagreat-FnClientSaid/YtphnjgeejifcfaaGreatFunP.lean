/- Messages by the light walk: the spec. -/
import Derived.Test.YtphnjgeejifcfaaGreatFunO
namespace Go.Proofs.YtphnjgeejifcfaaGreat.Hlp
open Go Go.RowKit Go.Proofs Go.Proofs.YtphnjgeejifcfaaGreat.Lw
set_option linter.unusedVariables false
set_option linter.unusedSimpArgs false
set_option maxRecDepth 100000
set_option maxHeartbeats 4000000
theorem msgOk_a (M : Mem) (m : GMsg) (cs : List Value) (h : RMsg M m cs) : AnsR Tryz.prog M 25 #[.agg cs.toArray] (fun _ v => v = .bool (endsF m && (fieldsF m).2 && decide (m = (fieldsF m).1))) := by
  have h0 := h
  obtain ⟨A0, c0, A1, c1, A2, c2, A3, c3, rfl, ⟨b0, b1, b2, b3, b4, b5⟩, s0, s1, s2, s3⟩ := h
  refine ansR_of T (l := [.agg (List.toArray _)]) mixed Tryz.func25 rfl (by kernel_rfl) (Nat.le_of_ble_eq_true rfl) ?_
  (conv => whnf)
  refine CallK.mk _ (ends_a _ m _ h0) ?_
  (conv => whnf)
  refine CondK.mk (fun hc => ?_) (fun hc => ?_)
  · exact RetK.mk fun g M' hl hg => ret_bool (by simp_all)
  (conv => whnf)
  refine CallK.mr _ (fields_a _ m _ h0) (fun v M1 hl1 hv => ?_)
  obtain ⟨cs1, rfl, r1⟩ := hv
  replace h0 := RMsg.mono hl1 _ _ h0
  have r1' := r1
  obtain ⟨B0, d0, B1, d1, B2, d2, B3, d3, rfl, _⟩ := r1'
  repeat' ((conv => whnf); first | with_reducible refine CondK.tt ?_ | with_reducible refine CondK.ff ?_ | refine CallK.mk _ (MsgSame_a _ m _ _ _ h0 r1) ?_ | refine CondK.mk (fun hc => ?_) (fun hc => ?_) | fail)
  all_goals refine RetK.mk fun g M' hl hg => ret_bool ?_
  all_goals simp_all
theorem rPgState_zS {M : Mem} : RPgState M zS [.int .i64 0, .int .i64 0, .int .i64 0, .int .i64 0, .int .i64 0, .int .i64 0, .slice none 0 0, .slice none 0 0, .slice none 0 0, .int .i64 0, .int .i64 0, .slice none 0 0] :=
  ⟨none, 0, none, 0, none, 0, none, 0, rfl, trivial, SlR.nil, SlR.nil, SlR.nil, SlR.nil⟩
theorem l19ZeroState_a (M : Mem) (s : GPgState) (cs : List Value) (h : RPgState M s cs) : Ans Tryz.prog M 66 #[.agg cs.toArray] (.bool (decide (s = zS))) := by
  have h0 := h
  obtain ⟨A0, c0, A1, c1, A2, c2, A3, c3, rfl, _⟩ := h
  refine ans_of T (l := [.agg (List.toArray _)]) mixed Tryz.func66 rfl (by kernel_rfl) (Nat.le_of_ble_eq_true rfl) ?_
  (conv => whnf)
  refine CallK.mk _ (l17Same_a _ s zS _ _ h0 rPgState_zS) ?_
  (conv => whnf)
  rfl
theorem l19State_a (M : Mem) (m : GMsg) (cs : List Value) (h : RMsg M m cs) : Ans Tryz.prog M 44 #[.agg cs.toArray] (.bool (stateOkF m.State && decide (m.State.Pg = m.Pg))) := by
  obtain ⟨A0, c0, A1, c1, A2, c2, A3, c3, rfl, ⟨b0, b1, b2, b3, b4, b5⟩, s0, s1, s2, s3⟩ := h
  refine ans_of T (l := [.agg (List.toArray _)]) mixed Tryz.func44 rfl (by kernel_rfl) (Nat.le_of_ble_eq_true rfl) ?_
  repeat' ((conv => whnf); first | with_reducible refine CondK.tt ?_ | with_reducible refine CondK.ff ?_ | refine CallK.mk _ (sStateOk_a _ m.State _ ⟨_, _, _, _, _, _, _, _, rfl, trivial, s0, s1, s2, s3⟩) ?_ | refine CondK.mk (fun hc => ?_) (fun hc => ?_) | fail)
  all_goals refine ret_bool ?_
  all_goals (rw [← eqv_Pg m.State.Pg m.Pg]; simp_all)
def pieceF (c : GChunk) (n : ByteArray) (v : GVer) : Bool := decide (c = zC) || (chunkOkF c && decide (c.Name = n) && decide (c.Ver = v))
theorem l19Piece_a (M : Mem) (c : GChunk) (n : ByteArray) (v : GVer) (hb : c.Name.size ≤ 9223372036854775807) (hb' : c.Bytes.size ≤ 9223372036854775807) : Ans Tryz.prog M 70 #[.agg #[.string c.Name, .int .i64 c.Ver.Epoch, .int .i64 c.Ver.Seq, .int .i64 c.Pos, .int .i64 c.Sum, .string c.Bytes], .string n, .agg #[.int .i64 v.Epoch, .int .i64 v.Seq]] (.bool (pieceF c n v)) := by
  refine ans_of T (l := [.agg #[.string c.Name, .int .i64 c.Ver.Epoch, .int .i64 c.Ver.Seq, .int .i64 c.Pos, .int .i64 c.Sum, .string c.Bytes], .string n, .agg #[.int .i64 v.Epoch, .int .i64 v.Seq]]) mixed Tryz.func70 rfl (by kernel_rfl) (Nat.le_of_ble_eq_true rfl) ?_
  repeat' ((conv => whnf); first | with_reducible refine CondK.tt ?_ | with_reducible refine CondK.ff ?_ | refine CallK.mk _ (sChunkOk_a _ c hb hb') ?_ | refine CallQ.mk _ (sChunkOk_a _ c hb hb') ?_ | refine DrawN.q (by kernel_rfl) ?_ | refine CondK.mk (fun hc => ?_) (fun hc => ?_) | fail)
  all_goals refine ret_bool ?_
  all_goals (unfold pieceF; rw [zC_eq, ← ba_eq c.Name n, ← eqv_Ver c.Ver v]; simp_all)
def sCheckedF (m : GMsg) : Bool := if decide (m.Entry = zE) = true then decide (m.Chunk = zC) else entryOkF m.Entry && decide (m.Entry.Name = m.Name) && !m.Entry.Gone && !verLessF m.Ver m.Entry.Ver && pieceF m.Chunk m.Entry.Name m.Entry.Ver
theorem l19Checked_a (M : Mem) (m : GMsg) (cs : List Value) (h : RMsg M m cs) : Ans Tryz.prog M 52 #[.agg cs.toArray] (.bool (sCheckedF m)) := by
  obtain ⟨A0, c0, A1, c1, A2, c2, A3, c3, rfl, ⟨b0, b1, b2, b3, b4, b5⟩, s0, s1, s2, s3⟩ := h
  refine ans_of T (l := [.agg (List.toArray _)]) mixed Tryz.func52 rfl (by kernel_rfl) (Nat.le_of_ble_eq_true rfl) ?_
  repeat' ((conv => whnf); first | with_reducible refine CondK.tt ?_ | with_reducible refine CondK.ff ?_ | refine CallK.mk _ (sEntryOk_a _ m.Entry b1) ?_ | refine CallK.mk _ (sVerLess_a _ m.Ver m.Entry.Ver) ?_ | refine CallK.mk _ (l19Piece_a _ m.Chunk m.Entry.Name m.Entry.Ver b2 b3) ?_ | refine CondK.mk (fun hc => ?_) (fun hc => ?_) | fail)
  all_goals refine ret_bool ?_
  all_goals (unfold sCheckedF; rw [zC_eq, zE_eq, ← ba_eq m.Entry.Name m.Name]; simp_all)
theorem l16Plain_a (M : Mem) : Ans Tryz.prog M 33 #[] (.agg #[.int .i64 1, .int .i64 0]) := by
  refine ans_of T (l := []) mixed Tryz.func33 rfl (by kernel_rfl) (Nat.le_of_ble_eq_true rfl) ?_
  (conv => whnf)
  rfl
abbrev eL : ByteArray := ⟨#[110, 118, 102, 115, 101, 99, 111, 114, 107, 98]⟩
def anyB (s : ByteArray) (c : Int) : Nat → Bool
  | 0 => false
  | i + 1 => anyB s c i || decide (((s.data.getD i 0).toNat : Int) = c)
def restR (s : ByteArray) (z : List Bool) : Nat → Bool
  | 0 => true
  | k + 1 => restR s z k && (anyB s ((eL.data.getD k 0).toNat : Int) s.size || z.getD k false)
theorem restR_no {s : ByteArray} {z : List Bool} {k : Nat} (h : restR s z (k + 1) = false) : ∀ {n : Nat}, k + 1 ≤ n → restR s z n = false
  | 0, hn => absurd hn (by omega)
  | n + 1, hn => by
    rcases Nat.lt_or_ge k n with h1 | h1
    · have := restR_no h (n := n) h1
      unfold restR
      rw [this]
      rfl
    · have : n = k := by omega
      rw [this]; exact h
def zsOf (m : GMsg) : List Bool := [decide (m.Name = eB), decide (m.Ver = ⟨0, 0⟩), decide (m.Firm = ⟨0, 0⟩), decide (m.State = zS), decide (m.Entry = zE), decide (m.Chunk = zC), decide (m.Op = zO), decide (m.Req = ⟨0, 0⟩), decide (m.Code = 0), decide (m.Body = eB)]
theorem l19Rest_a (M : Mem) (m : GMsg) (cs : List Value) (h : RMsg M m cs) (s : ByteArray) (hb : s.size ≤ 64) : Ans Tryz.prog M 43 #[.agg cs.toArray, .string s] (.bool (restR s (zsOf m) 10)) := by
  obtain ⟨A0, c0, A1, c1, A2, c2, A3, c3, rfl, ⟨b0, b1, b2, b3, b4, b5⟩, s0, s1, s2, s3⟩ := h
  refine ans_of T (l := [.agg (List.toArray _), .string s]) mixed Tryz.func43 rfl (by kernel_rfl) (Nat.le_of_ble_eq_true rfl) ?_
  (conv => whnf)
  refine DrawN.t 34 (by kernel_rfl) ?_
  repeat' ((conv => whnf); first | refine CallQ.mk _ (l17Zero_a _ m.Ver) ?_ | refine CallQ.mk _ (l17Zero_a _ m.Firm) ?_ | refine CallQ.mk _ (l19ZeroState_a _ m.State _ ⟨_, _, _, _, _, _, _, _, rfl, trivial, s0, s1, s2, s3⟩) ?_ | fail)
  refine LoopK.mk {k : Nat // k ≤ 10 ∧ restR s (zsOf m) k = true} (fun ⟨k, _⟩ => [(1, .v (.string s)), (5, .s 1 10 10 1), (6, .v (.string eL)), (7, .v (.int .i64 (k : Int)))]) (fun _ => [(1, (zsOf m).map Value.bool)]) (fun _ => M) (fun k => 10 - k.1) ⟨0, by omega, rfl⟩ ⟨⟨⟨rfl, rfl, rfl, rfl, trivial⟩, ⟨congrArg some ?_, trivial⟩, rfl, rfl⟩, rfl⟩ ?_
  · unfold zsOf
    rw [zC_eq, zE_eq, zO_eq, ← eqv_Req m.Req ⟨0, 0⟩, ← ba_eq m.Name eB, ← ba_eq m.Body eB]
    simp
    rfl
  rintro ⟨k, hk, hr⟩
  (conv => whnf)
  refine CondK.mk (fun h1 => ?_) (fun h1 => ?_)
  · have hlt : k < 10 := (Int.ofNat_lt.1 (of_decide_eq_true h1) : k < eL.size)
    obtain ⟨z, hz⟩ : ∃ z, (zsOf m)[k]? = some z := ⟨_, List.getElem?_eq_getElem (show k < (zsOf m).length from hlt)⟩
    have hz' : (zsOf m).getD k false = z := by simp [hz]
    (conv => whnf)
    refine LoopK.mk {i : Nat // i ≤ s.size} (fun ⟨i, _⟩ => [(1, .v (.string s)), (5, .s 1 10 10 1), (6, .v (.string eL)), (7, .v (.int .i64 (k : Int))), (8, .v (.bool (anyB s ((eL.data.getD k 0).toNat : Int) i))), (9, .v (.int .i64 (i : Int)))]) (fun _ => [(1, (zsOf m).map Value.bool)]) (fun _ => M) (fun i => s.size - i.1) ⟨0, Nat.zero_le _⟩ ⟨⟨⟨rfl, rfl, rfl, rfl, rfl, rfl, trivial⟩, ⟨rfl, trivial⟩, rfl, rfl⟩, rfl⟩ ?_
    rintro ⟨i, hi⟩
    (conv => whnf)
    refine CondK.mk (fun h2 => ?_) (fun h2 => ?_)
    · have hlt2 : i < s.size := by simpa using h2
      repeat' ((conv => whnf); first | refine DrawN.q (by kernel_rfl) ?_ | refine IdxS.mk (by omega) (by first | omega | (show (k : Int) < 10; omega)) ?_ | with_reducible refine CondK.tt ?_ | with_reducible refine CondK.ff ?_ | refine CondK.mk (fun hc => ?_) (fun hc => ?_) | fail)
      all_goals refine ⟨⟨i + 1, hlt2⟩, ⟨⟨rfl, rfl, rfl, rfl, congrArg (fun t => some (PV.v (Value.bool t))) ?_, look_int (i64_succ (by omega)), trivial⟩, ⟨rfl, trivial⟩, rfl, rfl⟩, rfl, by simp; omega⟩
      all_goals (simp_all [anyB])
      all_goals (try rfl)
    · have he : i = s.size := by have : ¬ i < s.size := by simpa using h2
                                 omega
      subst he
      repeat' ((conv => whnf); first | refine IdxA.mk k (Nat.mul_one k) (by omega) (by omega) ?_ | refine LdA.mk (.bool z) (by rw [List.getElem?_map, hz]; rfl) ?_ | with_reducible refine CondK.tt ?_ | with_reducible refine CondK.ff ?_ | with_reducible refine CondK.not ?_ | refine CondK.mk (fun hc => ?_) (fun hc => ?_) | fail)
      all_goals first
        | (refine ⟨⟨k + 1, hlt, ?_⟩, ⟨⟨rfl, rfl, rfl, look_int (i64_succ (by omega)), trivial⟩, ⟨rfl, trivial⟩, rfl, rfl⟩, rfl, by simp; omega⟩
           unfold restR
           rw [hz', hr]
           simp_all; done)
        | (refine ret_bool (Eq.symm (restR_no (k := k) ?_ (by omega)))
           unfold restR
           rw [hz', hr]
           simp_all; done)
        | fail
  · have he : k = 10 := by have h2 : ¬ k < 10 := fun q => of_decide_eq_false h1 (Int.ofNat_lt.2 q)
                           omega
    subst he
    exact ret_bool hr.symm
def hasMsgF (m : GMsg) : Bool :=
  if m.Kind = 1 ∨ m.Kind = 8 then restR ⟨#[]⟩ (zsOf m) 10
  else if m.Kind = 2 then restR ⟨#[115]⟩ (zsOf m) 10 && (stateOkF m.State && decide (m.State.Pg = m.Pg)) && decide (m.State.Seen = m.Epoch)
  else if m.Kind = 7 then restR ⟨#[115, 107]⟩ (zsOf m) 10 && inR m.Code 0 6 && (stateOkF m.State && decide (m.State.Pg = m.Pg)) && decide ((m.State.Chunks.length : Int) = 0)
  else if m.Kind = 3 ∨ m.Kind = 6 then restR ⟨#[110, 118]⟩ (zsOf m) 10 && nameOkF m.Name && fullF m.Ver
  else if m.Kind = 4 ∨ m.Kind = 5 then restR ⟨#[99]⟩ (zsOf m) 10 && chunkOkF m.Chunk
  else if m.Kind = 9 then restR ⟨#[101, 99, 102, 107]⟩ (zsOf m) 10 && inR m.Code 0 6 && entryOkF m.Entry && verOkF m.Firm && verLessF m.Firm m.Entry.Ver && (if m.Entry.Gone = true then decide (m.Chunk = zC) else chunkOkF m.Chunk && decide (m.Chunk.Name = m.Entry.Name) && decide (m.Chunk.Ver = m.Entry.Ver))
  else if m.Kind = 10 then restR ⟨#[118]⟩ (zsOf m) 10 && verOkF m.Ver
  else if m.Kind = 11 then restR ⟨#[110, 118, 114, 102]⟩ (zsOf m) 10 && nameOkF m.Name && verOkF m.Ver && realReqF m.Req && verOkF m.Firm
  else if m.Kind = 12 then restR ⟨#[110, 118, 114, 102, 101, 99]⟩ (zsOf m) 10 && nameOkF m.Name && verOkF m.Ver && realReqF m.Req && verOkF m.Firm && sCheckedF m
  else if m.Kind = 13 then restR ⟨#[110, 111, 114]⟩ (zsOf m) 10 && nameOkF m.Name && opOkF ⟨1, 0⟩ m.Op && realReqF m.Req
  else if m.Kind = 14 then restR ⟨#[114, 107, 118, 98]⟩ (zsOf m) 10 && realReqF m.Req && inR m.Code 0 99 && verOkF m.Ver && decide ((m.Body.size : Int) ≤ 64) && (decide (m.Code = 0) || decide (m.Body = eB))
  else false
set_option maxHeartbeats 40000000 in
theorem l19Has_a (M : Mem) (m : GMsg) (cs : List Value) (h : RMsg M m cs) : Ans Tryz.prog M 23 #[.agg cs.toArray] (.bool (hasMsgF m)) := by
  have h0 := h
  obtain ⟨A0, c0, A1, c1, A2, c2, A3, c3, rfl, ⟨b0, b1, b2, b3, b4, b5⟩, s0, s1, s2, s3⟩ := h
  refine ans_of T (l := [.agg (List.toArray _)]) mixed Tryz.func23 rfl (by kernel_rfl) (Nat.le_of_ble_eq_true rfl) ?_
  have eb := body_nil m.Body
  repeat' ((conv => whnf); first | with_reducible refine CondK.tt ?_ | with_reducible refine CondK.ff ?_ | refine CallK.mk _ (l19Rest_a _ m _ h0 _ (by decide)) ?_ | refine CallQ.mk _ (l19Rest_a _ m _ h0 _ (by decide)) ?_ | refine CallK.mk _ (l19State_a _ m _ h0) ?_ | refine CallK.mk _ (l19Place_a _ _) ?_ | refine CallK.mk _ (sNameOk_a _ _ b0) ?_ | refine CallQ.mk _ (sNameOk_a _ _ b0) ?_ | refine CallK.mk _ (l17Full_a _ m.Ver) ?_ | refine CallK.mk _ (sChunkOk_a _ m.Chunk b2 b3) ?_ | refine CallK.mk _ (sEntryOk_a _ m.Entry b1) ?_ | refine CallK.mk _ (l17Ver_a _ m.Ver) ?_ | refine CallK.mk _ (l17Ver_a _ m.Firm) ?_ | refine CallK.mk _ (sVerLess_a _ m.Firm m.Entry.Ver) ?_ | refine CallK.mk _ (l19Request_a _ m.Req) ?_ | refine CallQ.mk _ (l19Request_a _ m.Req) ?_ | refine CallK.mk _ (l19Checked_a _ m _ h0) ?_ | refine CallK.mk _ (l16Plain_a _) ?_ | refine CallQ.mk _ (l16Plain_a _) ?_ | refine CallK.mk _ (sOpOk_a _ ⟨1, 0⟩ m.Op) ?_ | refine CallQ.mk _ (sOpOk_a _ ⟨1, 0⟩ m.Op) ?_ | refine CallK.mk _ (l00In_a _ _ _ _) ?_ | refine DrawN.q (by kernel_rfl) ?_ | refine CondK.yes' (by assumption) ?_ | refine CondK.no' (by assumption) ?_ | refine CondK.mk (fun hc => ?_) (fun hc => ?_) | fail)
  all_goals refine ret_bool ?_
  all_goals (unfold hasMsgF; rw [zC_eq, ← ba_eq m.Chunk.Name m.Entry.Name, ← eqv_Ver m.Chunk.Ver m.Entry.Ver]; simp_all)
  all_goals first | rfl | (rw [Bool.eq_iff_iff]; simp; done) | (intro hq; omega)
theorem sMsgOk_a (M : Mem) (m : GMsg) (cs : List Value) (h : RMsg M m cs) : Ans Tryz.prog M 9 #[.agg cs.toArray] (.bool (endsF m && hasMsgF m)) := by
  have h0 := h
  obtain ⟨A0, c0, A1, c1, A2, c2, A3, c3, rfl, ⟨b0, b1, b2, b3, b4, b5⟩, s0, s1, s2, s3⟩ := h
  refine ans_of T (l := [.agg (List.toArray _)]) mixed Tryz.func9 rfl (by kernel_rfl) (Nat.le_of_ble_eq_true rfl) ?_
  repeat' ((conv => whnf); first | with_reducible refine CondK.tt ?_ | with_reducible refine CondK.ff ?_ | refine CallK.mk _ (nodeOk_a _ _) ?_ | refine CallQ.mk _ (nodeOk_a _ _) ?_ | refine CallK.mk _ (clientOk_a _ _) ?_ | refine CallK.mk _ (l17Pg_a _ m.Pg) ?_ | refine CallK.mk _ (l00In_a _ _ _ _) ?_ | refine CallK.mk _ (l19Has_a _ m _ h0) ?_ | refine DrawN.q (by kernel_rfl) ?_ | refine CondK.mk (fun hc => ?_) (fun hc => ?_) | fail)
  all_goals refine ret_bool ?_
  all_goals (unfold endsF; simp_all)
end Go.Proofs.YtphnjgeejifcfaaGreat.Hlp
