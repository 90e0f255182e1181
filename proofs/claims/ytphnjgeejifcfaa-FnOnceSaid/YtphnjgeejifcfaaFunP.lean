/- Messages by the light walk: the spec. -/
import Derived.Test.YtphnjgeejifcfaaFunO
namespace Go.Proofs.Ytphnjgeejifcfaa.Hlp
open Go Go.RowKit Go.Proofs Go.Proofs.Ytphnjgeejifcfaa.Lw
set_option linter.unusedVariables false
set_option linter.unusedSimpArgs false
set_option maxRecDepth 100000
set_option maxHeartbeats 4000000
theorem msgOk_a (M : Mem) (m : GMsg) (cs : List Value) (h : RMsg M m cs) : AnsR Try.prog M 29 #[.agg cs.toArray] (fun _ v => v = .bool (endsF m && (fieldsF m).2 && decide (m = (fieldsF m).1))) := by
  have h0 := h
  obtain ⟨A0, c0, A1, c1, A2, c2, A3, c3, rfl, ⟨b0, b1, b2, b3, b4, b5⟩, s0, s1, s2, s3⟩ := h
  refine ansR_of T (l := [.agg (List.toArray _)]) mixed Try.func29 rfl (by kernel_rfl) (Nat.le_of_ble_eq_true rfl) ?_
  (conv => whnf)
  refine CallK.mk _ (ends_a _ m _ h0) ?_
  (conv => whnf)
  refine CondK.mk (fun hc => ?_) (fun hc => ?_)
  · exact RetK.mk fun g M' hl hg => ret_bool (by simp_all)
  (conv => whnf)
  refine CallK.mr _ (fields_a _ m _ h0) (fun v M1 hl1 hv => ?_)
  obtain ⟨cs1, rfl, r1⟩ := hv
  replace h0 := RMsg.mono hl1 _ _ h0
  have r1' := r1
  obtain ⟨B0, d0, B1, d1, B2, d2, B3, d3, rfl, _⟩ := r1'
  repeat' ((conv => whnf); first | with_reducible refine CondK.tt ?_ | with_reducible refine CondK.ff ?_ | refine CallK.mk _ (MsgSame_a _ m _ _ _ h0 r1) ?_ | refine CondK.mk (fun hc => ?_) (fun hc => ?_) | fail)
  all_goals refine RetK.mk fun g M' hl hg => ret_bool ?_
  all_goals simp_all
def pieceF (c : GChunk) (n : ByteArray) (v : GVer) : Bool := decide (c = zC) || (chunkOkF c && decide (c.Name = n) && decide (c.Ver = v))
def sCheckedF (m : GMsg) : Bool := if decide (m.Entry = zE) = true then decide (m.Chunk = zC) else entryOkF m.Entry && decide (m.Entry.Name = m.Name) && !m.Entry.Gone && !verLessF m.Ver m.Entry.Ver && pieceF m.Chunk m.Entry.Name m.Entry.Ver
theorem l16Plain_a (M : Mem) : Ans Try.prog M 36 #[] (.agg #[.int .i64 1, .int .i64 0]) := by
  refine ans_of T (l := []) mixed Try.func36 rfl (by kernel_rfl) (Nat.le_of_ble_eq_true rfl) ?_
  (conv => whnf)
  rfl
abbrev eL : ByteArray := ⟨#[110, 118, 102, 115, 101, 99, 111, 114, 107, 98]⟩
def anyB (s : ByteArray) (c : Int) : Nat → Bool
  | 0 => false
  | i + 1 => anyB s c i || decide (((s.data.getD i 0).toNat : Int) = c)
def restR (s : ByteArray) (z : List Bool) : Nat → Bool
  | 0 => true
  | k + 1 => restR s z k && (anyB s ((eL.data.getD k 0).toNat : Int) s.size || z.getD k false)
theorem restR_no {s : ByteArray} {z : List Bool} {k : Nat} (h : restR s z (k + 1) = false) : ∀ {n : Nat}, k + 1 ≤ n → restR s z n = false
  | 0, hn => absurd hn (by omega)
  | n + 1, hn => by
    rcases Nat.lt_or_ge k n with h1 | h1
    · have := restR_no h (n := n) h1
      unfold restR
      rw [this]
      rfl
    · have : n = k := by omega
      rw [this]; exact h
def zsOf (m : GMsg) : List Bool := [decide (m.Name = eB), decide (m.Ver = ⟨0, 0⟩), decide (m.Firm = ⟨0, 0⟩), decide (m.State = zS), decide (m.Entry = zE), decide (m.Chunk = zC), decide (m.Op = zO), decide (m.Req = ⟨0, 0⟩), decide (m.Code = 0), decide (m.Body = eB)]
def hasMsgF (m : GMsg) : Bool :=
  if m.Kind = 1 ∨ m.Kind = 8 then restR ⟨#[]⟩ (zsOf m) 10
  else if m.Kind = 2 then restR ⟨#[115]⟩ (zsOf m) 10 && (stateOkF m.State && decide (m.State.Pg = m.Pg)) && decide (m.State.Seen = m.Epoch)
  else if m.Kind = 7 then restR ⟨#[115, 107]⟩ (zsOf m) 10 && inR m.Code 0 6 && (stateOkF m.State && decide (m.State.Pg = m.Pg)) && decide ((m.State.Chunks.length : Int) = 0)
  else if m.Kind = 3 ∨ m.Kind = 6 then restR ⟨#[110, 118]⟩ (zsOf m) 10 && nameOkF m.Name && fullF m.Ver
  else if m.Kind = 4 ∨ m.Kind = 5 then restR ⟨#[99]⟩ (zsOf m) 10 && chunkOkF m.Chunk
  else if m.Kind = 9 then restR ⟨#[101, 99, 102, 107]⟩ (zsOf m) 10 && inR m.Code 0 6 && entryOkF m.Entry && verOkF m.Firm && verLessF m.Firm m.Entry.Ver && (if m.Entry.Gone = true then decide (m.Chunk = zC) else chunkOkF m.Chunk && decide (m.Chunk.Name = m.Entry.Name) && decide (m.Chunk.Ver = m.Entry.Ver))
  else if m.Kind = 10 then restR ⟨#[118]⟩ (zsOf m) 10 && verOkF m.Ver
  else if m.Kind = 11 then restR ⟨#[110, 118, 114, 102]⟩ (zsOf m) 10 && nameOkF m.Name && verOkF m.Ver && realReqF m.Req && verOkF m.Firm
  else if m.Kind = 12 then restR ⟨#[110, 118, 114, 102, 101, 99]⟩ (zsOf m) 10 && nameOkF m.Name && verOkF m.Ver && realReqF m.Req && verOkF m.Firm && sCheckedF m
  else if m.Kind = 13 then restR ⟨#[110, 111, 114]⟩ (zsOf m) 10 && nameOkF m.Name && opOkF ⟨1, 0⟩ m.Op && realReqF m.Req
  else if m.Kind = 14 then restR ⟨#[114, 107, 118, 98]⟩ (zsOf m) 10 && realReqF m.Req && inR m.Code 0 99 && verOkF m.Ver && decide ((m.Body.size : Int) ≤ 64) && (decide (m.Code = 0) || decide (m.Body = eB))
  else false
end Go.Proofs.Ytphnjgeejifcfaa.Hlp
