/- Whether two are the same, by the light walk. -/
import Derived.Test.YtphnjgeejifcfaaHlpG
namespace Go.Proofs.Ytphnjgeejifcfaa.Hlp
open Go Go.RowKit Go.Proofs Go.Proofs.Ytphnjgeejifcfaa.Lw
set_option linter.unusedVariables false
set_option linter.unusedSimpArgs false
set_option maxRecDepth 100000
set_option maxHeartbeats 4000000
theorem sEq_Head (M : Mem) (l l' : List GHead) (A A' : Option Addr) (c c' : Nat) (h : SlR M RHead 5 48 A c l) (h' : SlR M RHead 5 48 A' c' l') : Ans Try.prog M 78 #[.slice A l.length c, .slice A' l'.length c'] (.bool (decide (l = l'))) := by
  have hl := h.len
  refine ans_of T (l := [.slice A l.length c, .slice A' l'.length c']) mixed Try.func78 rfl (by kernel_rfl) (Nat.le_of_ble_eq_true rfl) ?_
  (conv => whnf)
  refine CondK.mk (fun h1 => ?_) (fun h1 => ?_)
  · refine ret_bool ((decide_eq_false fun he => ?_).symm)
    subst he
    simp at h1
  have hll : l.length = l'.length := by simp at h1; omega
  (conv => whnf)
  refine LoopK.mk {k : Nat // k ≤ l.length ∧ ∀ j : Nat, j < k → l[j]? = l'[j]?} (fun ⟨k, _⟩ => [(0, .v (.slice A l.length c)), (1, .v (.slice A' l'.length c')), (12, .v (.int .i64 (l.length : Int))), (13, .v (.int .i64 (k : Int)))]) (fun _ => []) (fun _ => M) (fun k => l.length - k.1) ⟨0, Nat.zero_le _, fun j hj => absurd hj (by omega)⟩ ⟨⟨⟨rfl, rfl, rfl, rfl, trivial⟩, trivial, rfl, rfl⟩, rfl⟩ ?_
  rintro ⟨k, hk, ha⟩
  (conv => whnf)
  refine CondK.mk (fun h1 => ?_) (fun h1 => ?_)
  · have hlt : k < l.length := by simpa using h1
    have hlt' : k < l'.length := by omega
    have hx := List.getElem?_eq_getElem hlt
    have hy := List.getElem?_eq_getElem hlt'
    obtain ⟨ad, rfl, bnx, x0, x1, x2, x3, x4⟩ := at_Head h hx
    obtain ⟨ad', rfl, bny, y0, y1, y2, y3, y4⟩ := at_Head h' hy
    repeat' ((conv => whnf); first | with_reducible refine CondK.tt ?_ | with_reducible refine CondK.ff ?_ | with_reducible refine CondK.not ?_ | refine LdK.mk _ (by assumption) ?_ | refine IdxK.mk _ rfl (by omega) (by omega) ?_ | refine DrawN.q (by kernel_rfl) ?_ | refine CondK.mk (fun h => ?_) (fun h => ?_))
    all_goals first
      | (have he : l[k] = l'[k] := by first | exact of_decide_eq_true (by first | (rw [← eqv_Head]; exact not_f h) | (rw [← eqv_Head]; exact h) | exact not_f h | exact h) | (simpa using h)
         exact ⟨⟨k + 1, hlt, agree_step ha (by rw [hx, hy, he])⟩, ⟨⟨rfl, rfl, rfl, look_int (i64_succ (by omega)), trivial⟩, trivial, rfl, rfl⟩, rfl, by simp; omega⟩)
      | (refine ret_bool ?_
         refine (decide_eq_false fun he => ?_).symm
         have he : l[k] = l'[k] := by subst he; rfl
         first | exact of_decide_eq_false (show decide (l[k] = l'[k]) = false by first | (rw [← eqv_Head]; exact not_t h) | (rw [← eqv_Head]; exact h) | exact not_t h | exact h) he | (simp [he] at h))
  · exact ret_bool (decide_eq_true (agree_all ha hll (by simpa using h1))).symm
theorem sEq_Last (M : Mem) (l l' : List GLast) (A A' : Option Addr) (c c' : Nat) (h : SlR M RLast 4 32 A c l) (h' : SlR M RLast 4 32 A' c' l') : Ans Try.prog M 79 #[.slice A l.length c, .slice A' l'.length c'] (.bool (decide (l = l'))) := by
  have hl := h.len
  refine ans_of T (l := [.slice A l.length c, .slice A' l'.length c']) mixed Try.func79 rfl (by kernel_rfl) (Nat.le_of_ble_eq_true rfl) ?_
  (conv => whnf)
  refine CondK.mk (fun h1 => ?_) (fun h1 => ?_)
  · refine ret_bool ((decide_eq_false fun he => ?_).symm)
    subst he
    simp at h1
  have hll : l.length = l'.length := by simp at h1; omega
  (conv => whnf)
  refine LoopK.mk {k : Nat // k ≤ l.length ∧ ∀ j : Nat, j < k → l[j]? = l'[j]?} (fun ⟨k, _⟩ => [(0, .v (.slice A l.length c)), (1, .v (.slice A' l'.length c')), (12, .v (.int .i64 (l.length : Int))), (13, .v (.int .i64 (k : Int)))]) (fun _ => []) (fun _ => M) (fun k => l.length - k.1) ⟨0, Nat.zero_le _, fun j hj => absurd hj (by omega)⟩ ⟨⟨⟨rfl, rfl, rfl, rfl, trivial⟩, trivial, rfl, rfl⟩, rfl⟩ ?_
  rintro ⟨k, hk, ha⟩
  (conv => whnf)
  refine CondK.mk (fun h1 => ?_) (fun h1 => ?_)
  · have hlt : k < l.length := by simpa using h1
    have hlt' : k < l'.length := by omega
    have hx := List.getElem?_eq_getElem hlt
    have hy := List.getElem?_eq_getElem hlt'
    obtain ⟨ad, rfl, bnx, x0, x1, x2, x3⟩ := at_Last h hx
    obtain ⟨ad', rfl, bny, y0, y1, y2, y3⟩ := at_Last h' hy
    repeat' ((conv => whnf); first | with_reducible refine CondK.tt ?_ | with_reducible refine CondK.ff ?_ | with_reducible refine CondK.not ?_ | refine LdK.mk _ (by assumption) ?_ | refine IdxK.mk _ rfl (by omega) (by omega) ?_ | refine DrawN.q (by kernel_rfl) ?_ | refine CondK.mk (fun h => ?_) (fun h => ?_))
    all_goals first
      | (have he : l[k] = l'[k] := by first | exact of_decide_eq_true (by first | (rw [← eqv_Last]; exact not_f h) | (rw [← eqv_Last]; exact h) | exact not_f h | exact h) | (simpa using h)
         exact ⟨⟨k + 1, hlt, agree_step ha (by rw [hx, hy, he])⟩, ⟨⟨rfl, rfl, rfl, look_int (i64_succ (by omega)), trivial⟩, trivial, rfl, rfl⟩, rfl, by simp; omega⟩)
      | (refine ret_bool ?_
         refine (decide_eq_false fun he => ?_).symm
         have he : l[k] = l'[k] := by subst he; rfl
         first | exact of_decide_eq_false (show decide (l[k] = l'[k]) = false by first | (rw [← eqv_Last]; exact not_t h) | (rw [← eqv_Last]; exact h) | exact not_t h | exact h) he | (simp [he] at h))
  · exact ret_bool (decide_eq_true (agree_all ha hll (by simpa using h1))).symm
theorem sEq_Entry (M : Mem) (l l' : List GEntry) (A A' : Option Addr) (c c' : Nat) (h : SlR M REntry 10 88 A c l) (h' : SlR M REntry 10 88 A' c' l') : Ans Try.prog M 80 #[.slice A l.length c, .slice A' l'.length c'] (.bool (decide (l = l'))) := by
  have hl := h.len
  refine ans_of T (l := [.slice A l.length c, .slice A' l'.length c']) mixed Try.func80 rfl (by kernel_rfl) (Nat.le_of_ble_eq_true rfl) ?_
  (conv => whnf)
  refine CondK.mk (fun h1 => ?_) (fun h1 => ?_)
  · refine ret_bool ((decide_eq_false fun he => ?_).symm)
    subst he
    simp at h1
  have hll : l.length = l'.length := by simp at h1; omega
  (conv => whnf)
  refine LoopK.mk {k : Nat // k ≤ l.length ∧ ∀ j : Nat, j < k → l[j]? = l'[j]?} (fun ⟨k, _⟩ => [(0, .v (.slice A l.length c)), (1, .v (.slice A' l'.length c')), (12, .v (.int .i64 (l.length : Int))), (13, .v (.int .i64 (k : Int)))]) (fun _ => []) (fun _ => M) (fun k => l.length - k.1) ⟨0, Nat.zero_le _, fun j hj => absurd hj (by omega)⟩ ⟨⟨⟨rfl, rfl, rfl, rfl, trivial⟩, trivial, rfl, rfl⟩, rfl⟩ ?_
  rintro ⟨k, hk, ha⟩
  (conv => whnf)
  refine CondK.mk (fun h1 => ?_) (fun h1 => ?_)
  · have hlt : k < l.length := by simpa using h1
    have hlt' : k < l'.length := by omega
    have hx := List.getElem?_eq_getElem hlt
    have hy := List.getElem?_eq_getElem hlt'
    obtain ⟨ad, rfl, bnx, x0, x1, x2, x3, x4, x5, x6, x7, x8, x9⟩ := at_Entry h hx
    obtain ⟨ad', rfl, bny, y0, y1, y2, y3, y4, y5, y6, y7, y8, y9⟩ := at_Entry h' hy
    repeat' ((conv => whnf); first | with_reducible refine CondK.tt ?_ | with_reducible refine CondK.ff ?_ | with_reducible refine CondK.not ?_ | refine LdK.mk _ (by assumption) ?_ | refine IdxK.mk _ rfl (by omega) (by omega) ?_ | refine DrawN.q (by kernel_rfl) ?_ | refine CondK.mk (fun h => ?_) (fun h => ?_))
    all_goals first
      | (have he : l[k] = l'[k] := by first | exact of_decide_eq_true (by first | (rw [← eqv_Entry]; exact not_f h) | (rw [← eqv_Entry]; exact h) | exact not_f h | exact h) | (simpa using h)
         exact ⟨⟨k + 1, hlt, agree_step ha (by rw [hx, hy, he])⟩, ⟨⟨rfl, rfl, rfl, look_int (i64_succ (by omega)), trivial⟩, trivial, rfl, rfl⟩, rfl, by simp; omega⟩)
      | (refine ret_bool ?_
         refine (decide_eq_false fun he => ?_).symm
         have he : l[k] = l'[k] := by subst he; rfl
         first | exact of_decide_eq_false (show decide (l[k] = l'[k]) = false by first | (rw [← eqv_Entry]; exact not_t h) | (rw [← eqv_Entry]; exact h) | exact not_t h | exact h) he | (simp [he] at h))
  · exact ret_bool (decide_eq_true (agree_all ha hll (by simpa using h1))).symm
theorem sEq_Chunk (M : Mem) (l l' : List GChunk) (A A' : Option Addr) (c c' : Nat) (h : SlR M RChunk 6 64 A c l) (h' : SlR M RChunk 6 64 A' c' l') : Ans Try.prog M 81 #[.slice A l.length c, .slice A' l'.length c'] (.bool (decide (l = l'))) := by
  have hl := h.len
  refine ans_of T (l := [.slice A l.length c, .slice A' l'.length c']) mixed Try.func81 rfl (by kernel_rfl) (Nat.le_of_ble_eq_true rfl) ?_
  (conv => whnf)
  refine CondK.mk (fun h1 => ?_) (fun h1 => ?_)
  · refine ret_bool ((decide_eq_false fun he => ?_).symm)
    subst he
    simp at h1
  have hll : l.length = l'.length := by simp at h1; omega
  (conv => whnf)
  refine LoopK.mk {k : Nat // k ≤ l.length ∧ ∀ j : Nat, j < k → l[j]? = l'[j]?} (fun ⟨k, _⟩ => [(0, .v (.slice A l.length c)), (1, .v (.slice A' l'.length c')), (12, .v (.int .i64 (l.length : Int))), (13, .v (.int .i64 (k : Int)))]) (fun _ => []) (fun _ => M) (fun k => l.length - k.1) ⟨0, Nat.zero_le _, fun j hj => absurd hj (by omega)⟩ ⟨⟨⟨rfl, rfl, rfl, rfl, trivial⟩, trivial, rfl, rfl⟩, rfl⟩ ?_
  rintro ⟨k, hk, ha⟩
  (conv => whnf)
  refine CondK.mk (fun h1 => ?_) (fun h1 => ?_)
  · have hlt : k < l.length := by simpa using h1
    have hlt' : k < l'.length := by omega
    have hx := List.getElem?_eq_getElem hlt
    have hy := List.getElem?_eq_getElem hlt'
    obtain ⟨ad, rfl, bnx, x0, x1, x2, x3, x4, x5⟩ := at_Chunk h hx
    obtain ⟨ad', rfl, bny, y0, y1, y2, y3, y4, y5⟩ := at_Chunk h' hy
    repeat' ((conv => whnf); first | with_reducible refine CondK.tt ?_ | with_reducible refine CondK.ff ?_ | with_reducible refine CondK.not ?_ | refine LdK.mk _ (by assumption) ?_ | refine IdxK.mk _ rfl (by omega) (by omega) ?_ | refine DrawN.q (by kernel_rfl) ?_ | refine CondK.mk (fun h => ?_) (fun h => ?_))
    all_goals first
      | (have he : l[k] = l'[k] := by first | exact of_decide_eq_true (by first | (rw [← eqv_Chunk]; exact not_f h) | (rw [← eqv_Chunk]; exact h) | exact not_f h | exact h) | (simpa using h)
         exact ⟨⟨k + 1, hlt, agree_step ha (by rw [hx, hy, he])⟩, ⟨⟨rfl, rfl, rfl, look_int (i64_succ (by omega)), trivial⟩, trivial, rfl, rfl⟩, rfl, by simp; omega⟩)
      | (refine ret_bool ?_
         refine (decide_eq_false fun he => ?_).symm
         have he : l[k] = l'[k] := by subst he; rfl
         first | exact of_decide_eq_false (show decide (l[k] = l'[k]) = false by first | (rw [← eqv_Chunk]; exact not_t h) | (rw [← eqv_Chunk]; exact h) | exact not_t h | exact h) he | (simp [he] at h))
  · exact ret_bool (decide_eq_true (agree_all ha hll (by simpa using h1))).symm
theorem sameState_a (M : Mem) (x y : GPgState) (cs ds : List Value) (h0 : RPgState M x cs) (h0' : RPgState M y ds) : Ans Try.prog M 65 #[.agg cs.toArray, .agg ds.toArray] (.bool (decide (x = y))) := by
  obtain ⟨A0, c0, A1, c1, A2, c2, A3, c3, rfl, hb, s0, s1, s2, s3⟩ := h0
  obtain ⟨B0, d0, B1, d1, B2, d2, B3, d3, rfl, hb', t0, t1, t2, t3⟩ := h0'
  refine ans_of T (l := [.agg #[.int .i64 x.Pg.Pool, .int .i64 x.Pg.No, .int .i64 x.Seen, .int .i64 x.Started, .int .i64 x.Tail.Epoch, .int .i64 x.Tail.Seq, .slice A0 x.Base.length c0, .slice A1 x.Clients.length c1, .slice A2 x.Log.length c2, .int .i64 x.Firm.Epoch, .int .i64 x.Firm.Seq, .slice A3 x.Chunks.length c3], .agg #[.int .i64 y.Pg.Pool, .int .i64 y.Pg.No, .int .i64 y.Seen, .int .i64 y.Started, .int .i64 y.Tail.Epoch, .int .i64 y.Tail.Seq, .slice B0 y.Base.length d0, .slice B1 y.Clients.length d1, .slice B2 y.Log.length d2, .int .i64 y.Firm.Epoch, .int .i64 y.Firm.Seq, .slice B3 y.Chunks.length d3]]) mixed Try.func65 rfl (by kernel_rfl) (Nat.le_of_ble_eq_true rfl) ?_
  repeat' ((conv => whnf); first | with_reducible refine CondK.tt ?_ | with_reducible refine CondK.ff ?_ | with_reducible refine CondK.not ?_ | refine CallK.mk _ (sEq_Head M _ _ _ _ _ _ s0 t0) ?_ | refine CallQ.mk _ (sEq_Head M _ _ _ _ _ _ s0 t0) ?_ | refine CallK.mk _ (sEq_Last M _ _ _ _ _ _ s1 t1) ?_ | refine CallQ.mk _ (sEq_Last M _ _ _ _ _ _ s1 t1) ?_ | refine CallK.mk _ (sEq_Entry M _ _ _ _ _ _ s2 t2) ?_ | refine CallQ.mk _ (sEq_Entry M _ _ _ _ _ _ s2 t2) ?_ | refine CallK.mk _ (sEq_Chunk M _ _ _ _ _ _ s3 t3) ?_ | refine CallQ.mk _ (sEq_Chunk M _ _ _ _ _ _ s3 t3) ?_ | refine GuardK.mk (fun h => ?_) (fun h => ?_) | refine CondK.mk (fun h => ?_) (fun h => ?_))
  all_goals refine ret_bool ?_
  all_goals (first | (refine (decide_eq_false fun he => ?_).symm; subst he; simp at *; done) | (rw [Bool.eq_iff_iff]; (try simp only [eqv_Pg, eqv_Op, eqv_Client, eqv_Code, eqv_Pool, eqv_Ver, eqv_Call, eqv_Req, eqv_Head, eqv_Last, eqv_Entry, eqv_Chunk] at *); (try simp only [ba_eq] at *); obtain ⟨_, _, _, _, _, _, _, _, _⟩ := x; obtain ⟨_, _, _, _, _, _, _, _, _⟩ := y; simp_all))
theorem MsgSame_a (M : Mem) (x y : GMsg) (cs ds : List Value) (h0 : RMsg M x cs) (h0' : RMsg M y ds) : Ans Try.prog M 48 #[.agg cs.toArray, .agg ds.toArray] (.bool (decide (x = y))) := by
  obtain ⟨A0, c0, A1, c1, A2, c2, A3, c3, rfl, hb, s0, s1, s2, s3⟩ := h0
  obtain ⟨B0, d0, B1, d1, B2, d2, B3, d3, rfl, hb', t0, t1, t2, t3⟩ := h0'
  refine ans_of T (l := [.agg #[.int .i64 x.Kind, .int .i64 x.From, .int .i64 x.To, .int .i64 x.Pg.Pool, .int .i64 x.Pg.No, .int .i64 x.Epoch, .string x.Name, .int .i64 x.Ver.Epoch, .int .i64 x.Ver.Seq, .int .i64 x.Firm.Epoch, .int .i64 x.Firm.Seq, .int .i64 x.State.Pg.Pool, .int .i64 x.State.Pg.No, .int .i64 x.State.Seen, .int .i64 x.State.Started, .int .i64 x.State.Tail.Epoch, .int .i64 x.State.Tail.Seq, .slice A0 x.State.Base.length c0, .slice A1 x.State.Clients.length c1, .slice A2 x.State.Log.length c2, .int .i64 x.State.Firm.Epoch, .int .i64 x.State.Firm.Seq, .slice A3 x.State.Chunks.length c3, .int .i64 x.Entry.Ver.Epoch, .int .i64 x.Entry.Ver.Seq, .int .i64 x.Entry.Prior.Epoch, .int .i64 x.Entry.Prior.Seq, .string x.Entry.Name, .bool x.Entry.Gone, .int .i64 x.Entry.Size, .int .i64 x.Entry.Sum, .int .i64 x.Entry.Req.Client, .int .i64 x.Entry.Req.No, .string x.Chunk.Name, .int .i64 x.Chunk.Ver.Epoch, .int .i64 x.Chunk.Ver.Seq, .int .i64 x.Chunk.Pos, .int .i64 x.Chunk.Sum, .string x.Chunk.Bytes, .int .i64 x.Op.Kind, .int .i64 x.Op.At, .string x.Op.Bytes, .int .i64 x.Req.Client, .int .i64 x.Req.No, .int .i64 x.Code, .string x.Body], .agg #[.int .i64 y.Kind, .int .i64 y.From, .int .i64 y.To, .int .i64 y.Pg.Pool, .int .i64 y.Pg.No, .int .i64 y.Epoch, .string y.Name, .int .i64 y.Ver.Epoch, .int .i64 y.Ver.Seq, .int .i64 y.Firm.Epoch, .int .i64 y.Firm.Seq, .int .i64 y.State.Pg.Pool, .int .i64 y.State.Pg.No, .int .i64 y.State.Seen, .int .i64 y.State.Started, .int .i64 y.State.Tail.Epoch, .int .i64 y.State.Tail.Seq, .slice B0 y.State.Base.length d0, .slice B1 y.State.Clients.length d1, .slice B2 y.State.Log.length d2, .int .i64 y.State.Firm.Epoch, .int .i64 y.State.Firm.Seq, .slice B3 y.State.Chunks.length d3, .int .i64 y.Entry.Ver.Epoch, .int .i64 y.Entry.Ver.Seq, .int .i64 y.Entry.Prior.Epoch, .int .i64 y.Entry.Prior.Seq, .string y.Entry.Name, .bool y.Entry.Gone, .int .i64 y.Entry.Size, .int .i64 y.Entry.Sum, .int .i64 y.Entry.Req.Client, .int .i64 y.Entry.Req.No, .string y.Chunk.Name, .int .i64 y.Chunk.Ver.Epoch, .int .i64 y.Chunk.Ver.Seq, .int .i64 y.Chunk.Pos, .int .i64 y.Chunk.Sum, .string y.Chunk.Bytes, .int .i64 y.Op.Kind, .int .i64 y.Op.At, .string y.Op.Bytes, .int .i64 y.Req.Client, .int .i64 y.Req.No, .int .i64 y.Code, .string y.Body]]) mixed Try.func48 rfl (by kernel_rfl) (Nat.le_of_ble_eq_true rfl) ?_
  repeat' ((conv => whnf); first | with_reducible refine CondK.tt ?_ | with_reducible refine CondK.ff ?_ | with_reducible refine CondK.not ?_ | refine CallK.mk _ (sameState_a M x.State y.State _ _ ⟨_, _, _, _, _, _, _, _, rfl, trivial, s0, s1, s2, s3⟩ ⟨_, _, _, _, _, _, _, _, rfl, trivial, t0, t1, t2, t3⟩) ?_ | refine CallQ.mk _ (sameState_a M x.State y.State _ _ ⟨_, _, _, _, _, _, _, _, rfl, trivial, s0, s1, s2, s3⟩ ⟨_, _, _, _, _, _, _, _, rfl, trivial, t0, t1, t2, t3⟩) ?_ | refine GuardK.mk (fun h => ?_) (fun h => ?_) | refine CondK.mk (fun h => ?_) (fun h => ?_))
  all_goals refine ret_bool ?_
  all_goals (first | (refine (decide_eq_false fun he => ?_).symm; subst he; simp at *; done) | (rw [Bool.eq_iff_iff]; (try simp only [eqv_Pg, eqv_Op, eqv_Client, eqv_Code, eqv_Pool, eqv_Ver, eqv_Call, eqv_Req, eqv_Head, eqv_Last, eqv_Entry, eqv_Chunk] at *); (try simp only [ba_eq] at *); obtain ⟨_, _, _, _, _, _, _, _, _, ⟨_, _, _, _, _, _, _⟩, ⟨_, _, _, _, _⟩, ⟨_, _, _⟩, _, _, _⟩ := x; obtain ⟨_, _, _, _, _, _, _, _, _, ⟨_, _, _, _, _, _, _⟩, ⟨_, _, _, _, _⟩, ⟨_, _, _⟩, _, _, _⟩ := y; simp_all))
end Go.Proofs.Ytphnjgeejifcfaa.Hlp
