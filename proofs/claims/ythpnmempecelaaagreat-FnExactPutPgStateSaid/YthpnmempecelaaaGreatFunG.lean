/- A pg's last ver by the light walk. -/
import Derived.Test.YthpnmempecelaaaGreatFunF
namespace Go.Proofs.YthpnmempecelaaaGreat.Hlp
open Go Go.RowKit Go.Proofs Go.Proofs.YthpnmempecelaaaGreat.Lw
set_option linter.unusedVariables false
set_option linter.unusedSimpArgs false
set_option maxRecDepth 100000
set_option maxHeartbeats 4000000
def lastVerF (s : GPgState) : GVer :=
  match s.Log[s.Log.length - 1]? with
  | some e => e.Ver
  | none => s.Tail
theorem lastEntry_a (M : Mem) (l : List GEntry) (A : Option Addr) (c : Nat) (h : SlR M REntry 10 88 A c l) (x : GEntry) (hx : l[l.length - 1]? = some x) : Ans Tryz.prog M 89 #[.slice A l.length c] (.agg #[.int .i64 x.Ver.Epoch, .int .i64 x.Ver.Seq, .int .i64 x.Prior.Epoch, .int .i64 x.Prior.Seq, .string x.Name, .bool x.Gone, .int .i64 x.Size, .int .i64 x.Sum, .int .i64 x.Req.Client, .int .i64 x.Req.No]) := by
  have hl := h.len
  obtain ⟨p, hp⟩ : ∃ p, p = l.length - 1 := ⟨_, rfl⟩
  rw [← hp] at hx
  have hpl : p < l.length := by
    rcases Nat.lt_or_ge p l.length with h | h
    · exact h
    · rw [List.getElem?_eq_none h] at hx; cases hx
  obtain ⟨ad, rfl, bnx, x0, x1, x2, x3, x4, x5, x6, x7, x8, x9⟩ := at_Entry h hx
  refine ans_of T (l := [.slice (some ad) l.length c]) mixed Tryz.func89 rfl (by kernel_rfl) (Nat.le_of_ble_eq_true rfl) ?_
  repeat' ((conv => whnf); first | with_reducible refine CondK.tt ?_ | with_reducible refine CondK.ff ?_ | refine LdK.mk _ (by assumption) ?_ | refine IdxK.at p _ (i64_pred hp (by omega) (by omega)) rfl hpl ?_ | refine DrawN.q (by kernel_rfl) ?_ | fail)
  exact rfl
theorem lastVer_a (M : Mem) (s : GPgState) (cs : List Value) (h : RPgState M s cs) : Ans Tryz.prog M 56 #[.agg cs.toArray] (.agg #[.int .i64 (lastVerF s).Epoch, .int .i64 (lastVerF s).Seq]) := by
  obtain ⟨A0, c0, A1, c1, A2, c2, A3, c3, rfl, hb, s0, s1, s2, s3⟩ := h
  have l2 := s2.len
  refine ans_of T (l := [.agg (List.toArray _)]) mixed Tryz.func56 rfl (by kernel_rfl) (Nat.le_of_ble_eq_true rfl) ?_
  (conv => whnf)
  refine CondK.mk (fun h1 => ?_) (fun h1 => ?_)
  · have h0 : s.Log.length = 0 := by simpa using h1
    have he : lastVerF s = s.Tail := by unfold lastVerF; rw [List.getElem?_eq_none (by omega)]
    rw [he]
    (conv => whnf)
    exact rfl
  · have h0 : 0 < s.Log.length := by have : ¬ s.Log.length = 0 := by simpa using h1
                                     omega
    have hx := List.getElem?_eq_getElem (l := s.Log) (i := s.Log.length - 1) (by omega)
    have he : lastVerF s = (s.Log[s.Log.length - 1]).Ver := by unfold lastVerF; rw [hx]
    rw [he]
    repeat' ((conv => whnf); first | refine LdK.mk _ (by assumption) ?_ | refine CallK.mk _ (lastEntry_a _ _ _ _ s2 _ hx) ?_ | refine CallQ.mk _ (lastEntry_a _ _ _ _ s2 _ hx) ?_ | refine DrawN.q (by kernel_rfl) ?_ | fail)
    exact rfl
end Go.Proofs.YthpnmempecelaaaGreat.Hlp
