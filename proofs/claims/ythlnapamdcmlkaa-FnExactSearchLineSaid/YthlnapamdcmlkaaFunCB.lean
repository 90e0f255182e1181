/- SearchLine: one call. -/
import Derived.Test.YthlnapamdcmlkaaFunCA
namespace Go.Proofs.Ythlnapamdcmlkaa.Hlp
open Go Go.RowKit Go.Proofs Go.Proofs.Ythlnapamdcmlkaa.Lw
set_option linter.unusedVariables false
set_option linter.unusedSimpArgs false
set_option maxRecDepth 100000
set_option maxHeartbeats 4000000
def rdF (l : GCall) : Bool := decide (l.Op.Kind = 1)
def countsF (l : GCall) : Bool := decide (l.End ≠ 0) && (decide (l.Code = 0) || decide (l.Code = 3) && rdF l)
def befF (a b : GCall) : Bool := decide (a.End ≠ 0) && decide (a.End < b.Begin)
def kindOk (l : GCall) : Prop := l.Op.Kind = 1 ∨ l.Op.Kind = 2 ∨ l.Op.Kind = 6
def applyF (o : GOp) (body : ByteArray) (there : Bool) : ByteArray × Bool := if o.Kind = 1 then (if there then body else eB, there) else if o.Kind = 2 then (o.Bytes, true) else (eB, false)
def fitsV (l : GCall) (body : ByteArray) (there : Bool) : ByteArray × Bool × Bool :=
  if l.Op.Kind = 1 then (body, there, if there then decide (l.Code = 0) && decide (l.Body = body) else decide (l.Code = 3)) else if l.Op.Kind = 2 then (l.Op.Bytes, true, true) else (eB, false, true)
def stepC (l : GCall) (s : ByteArray × Bool) : Option (ByteArray × Bool) := if (fitsV l s.1 s.2).2.2 then some ((fitsV l s.1 s.2).1, (fitsV l s.1 s.2).2.1) else none
theorem callOk_op {l : GCall} (h : callOkF l = true) : opOkF ⟨1, 0⟩ l.Op = true ∧ 0 ≤ l.End ∧ (l.End ≠ 0 → l.Begin < l.End) ∧ (l.Code = 0 ∨ l.Body = eB) ∧ l.Body.size ≤ 64 := by
  unfold callOkF callHead callTail at h
  simp only [Bool.and_eq_true, Bool.not_eq_true', decide_eq_false_iff_not] at h
  obtain ⟨⟨⟨⟨⟨⟨h1, h2⟩, h3⟩, h4⟩, h5⟩, h6⟩, h7⟩ := h
  refine ⟨h5, ?_⟩
  split at h7
  · rename_i he
    simp only [Bool.and_eq_true, decide_eq_true_eq] at h7
    refine ⟨by omega, fun h => absurd he h, .inl h7.1.1, ?_⟩
    rw [h7.2]
    decide
  · rename_i he
    simp only [Bool.and_eq_true, Bool.or_eq_true, decide_eq_true_eq] at h7
    refine ⟨by omega, fun _ => by omega, h7.2, by omega⟩
theorem op_bytes {o : GOp} (h : opOkF ⟨1, 0⟩ o = true) : o.Bytes.size ≤ 64 := by
  unfold opOkF at h
  simp only [Bool.and_eq_true] at h
  obtain ⟨_, h⟩ := h
  repeat' split at h
  all_goals try simp only [Bool.and_eq_true, decide_eq_true_eq] at h
  · rw [h.2]; decide
  · omega
  · omega
  · omega
  · rw [h.2]; decide
  · cases h
theorem sCallOk_a (M : Mem) (l : GCall) (hn : l.Name.size ≤ 9223372036854775807) (hbd : l.Body.size ≤ 9223372036854775807) : Ans Try.prog M 17 #[.agg (List.toArray [.int .i64 l.Client, .int .i64 l.No, .int .i64 l.Pg.Pool, .int .i64 l.Pg.No, .string l.Name, .int .i64 l.Op.Kind, .int .i64 l.Op.At, .string l.Op.Bytes, .int .i64 l.Begin, .int .i64 l.End, .int .i64 l.Code, .int .i64 l.Ver.Epoch, .int .i64 l.Ver.Seq, .string l.Body])] (.bool (callOkF l)) := by
  refine ans_of T (l := [.agg (List.toArray [.int .i64 l.Client, .int .i64 l.No, .int .i64 l.Pg.Pool, .int .i64 l.Pg.No, .string l.Name, .int .i64 l.Op.Kind, .int .i64 l.Op.At, .string l.Op.Bytes, .int .i64 l.Begin, .int .i64 l.End, .int .i64 l.Code, .int .i64 l.Ver.Epoch, .int .i64 l.Ver.Seq, .string l.Body])]) mixed Try.func17 rfl (by kernel_rfl) (Nat.le_of_ble_eq_true rfl) ?_
  repeat' ((conv => whnf); first | refine CallK.mk _ (l28Call_a M l hn hbd) ?_ | fail)
  exact ret_bool rfl
theorem reads_a (M : Mem) (o : GOp) : Ans Try.prog M 31 #[.agg #[.int .i64 o.Kind, .int .i64 o.At, .string o.Bytes]] (.bool (decide (o.Kind = 1))) := by
  refine ans_of T (l := [.agg #[.int .i64 o.Kind, .int .i64 o.At, .string o.Bytes]]) mixed Try.func31 rfl (by kernel_rfl) (Nat.le_of_ble_eq_true rfl) ?_
  (conv => whnf)
  first | exact rfl | exact ret_bool rfl | exact ret_bool (by simp)
theorem sReads_a (M : Mem) (o : GOp) : Ans Try.prog M 20 #[.agg #[.int .i64 o.Kind, .int .i64 o.At, .string o.Bytes]] (.bool (decide (o.Kind = 1))) := by
  refine ans_of T (l := [.agg #[.int .i64 o.Kind, .int .i64 o.At, .string o.Bytes]]) mixed Try.func20 rfl (by kernel_rfl) (Nat.le_of_ble_eq_true rfl) ?_
  (conv => whnf)
  first | exact rfl | exact ret_bool rfl | exact ret_bool (by simp)
theorem counts_a (M : Mem) (l : GCall) : Ans Try.prog M 29 #[.agg (List.toArray [.int .i64 l.Client, .int .i64 l.No, .int .i64 l.Pg.Pool, .int .i64 l.Pg.No, .string l.Name, .int .i64 l.Op.Kind, .int .i64 l.Op.At, .string l.Op.Bytes, .int .i64 l.Begin, .int .i64 l.End, .int .i64 l.Code, .int .i64 l.Ver.Epoch, .int .i64 l.Ver.Seq, .string l.Body])] (.bool (countsF l)) := by
  refine ans_of T (l := [.agg (List.toArray [.int .i64 l.Client, .int .i64 l.No, .int .i64 l.Pg.Pool, .int .i64 l.Pg.No, .string l.Name, .int .i64 l.Op.Kind, .int .i64 l.Op.At, .string l.Op.Bytes, .int .i64 l.Begin, .int .i64 l.End, .int .i64 l.Code, .int .i64 l.Ver.Epoch, .int .i64 l.Ver.Seq, .string l.Body])]) mixed Try.func29 rfl (by kernel_rfl) (Nat.le_of_ble_eq_true rfl) ?_
  repeat' ((conv => whnf); first | with_reducible refine CondK.tt ?_ | with_reducible refine CondK.ff ?_ | refine CallK.mk _ (reads_a _ l.Op) ?_ | refine CallQ.mk _ (reads_a _ l.Op) ?_ | refine GuardK.mk (fun h => ?_) (fun h => ?_) | refine CondK.mk (fun h => ?_) (fun h => ?_) | fail)
  all_goals refine ret_bool ?_
  all_goals (unfold countsF rdF; simp_all)
theorem l29Counts_a (M : Mem) (l : GCall) (h0 : 0 ≤ l.End) : Ans Try.prog M 18 #[.agg (List.toArray [.int .i64 l.Client, .int .i64 l.No, .int .i64 l.Pg.Pool, .int .i64 l.Pg.No, .string l.Name, .int .i64 l.Op.Kind, .int .i64 l.Op.At, .string l.Op.Bytes, .int .i64 l.Begin, .int .i64 l.End, .int .i64 l.Code, .int .i64 l.Ver.Epoch, .int .i64 l.Ver.Seq, .string l.Body])] (.bool (countsF l)) := by
  have e1 : decide (l.End > 0) = decide (l.End ≠ 0) := decide_eq_decide.2 (by omega)
  refine ans_of T (l := [.agg (List.toArray [.int .i64 l.Client, .int .i64 l.No, .int .i64 l.Pg.Pool, .int .i64 l.Pg.No, .string l.Name, .int .i64 l.Op.Kind, .int .i64 l.Op.At, .string l.Op.Bytes, .int .i64 l.Begin, .int .i64 l.End, .int .i64 l.Code, .int .i64 l.Ver.Epoch, .int .i64 l.Ver.Seq, .string l.Body])]) mixed Try.func18 rfl (by kernel_rfl) (Nat.le_of_ble_eq_true rfl) ?_
  repeat' ((conv => whnf); first | with_reducible refine CondK.tt ?_ | with_reducible refine CondK.ff ?_ | refine CallK.mk _ (sReads_a _ l.Op) ?_ | refine CallQ.mk _ (sReads_a _ l.Op) ?_ | refine GuardK.mk (fun h => ?_) (fun h => ?_) | refine CondK.mk (fun h => ?_) (fun h => ?_) | fail)
  all_goals refine ret_bool ?_
  all_goals (unfold countsF rdF; rw [← e1]; clear e1; simp_all)
  · exact Bool.eq_iff_iff.2 (by simp)
  · exact fun h2 => absurd h2 (by omega)
theorem before_a (M : Mem) (l o : GCall) : Ans Try.prog M 44 #[.agg (List.toArray [.int .i64 l.Client, .int .i64 l.No, .int .i64 l.Pg.Pool, .int .i64 l.Pg.No, .string l.Name, .int .i64 l.Op.Kind, .int .i64 l.Op.At, .string l.Op.Bytes, .int .i64 l.Begin, .int .i64 l.End, .int .i64 l.Code, .int .i64 l.Ver.Epoch, .int .i64 l.Ver.Seq, .string l.Body]), .agg (List.toArray [.int .i64 o.Client, .int .i64 o.No, .int .i64 o.Pg.Pool, .int .i64 o.Pg.No, .string o.Name, .int .i64 o.Op.Kind, .int .i64 o.Op.At, .string o.Op.Bytes, .int .i64 o.Begin, .int .i64 o.End, .int .i64 o.Code, .int .i64 o.Ver.Epoch, .int .i64 o.Ver.Seq, .string o.Body])] (.bool (befF l o)) := by
  refine ans_of T (l := [.agg (List.toArray [.int .i64 l.Client, .int .i64 l.No, .int .i64 l.Pg.Pool, .int .i64 l.Pg.No, .string l.Name, .int .i64 l.Op.Kind, .int .i64 l.Op.At, .string l.Op.Bytes, .int .i64 l.Begin, .int .i64 l.End, .int .i64 l.Code, .int .i64 l.Ver.Epoch, .int .i64 l.Ver.Seq, .string l.Body]), .agg (List.toArray [.int .i64 o.Client, .int .i64 o.No, .int .i64 o.Pg.Pool, .int .i64 o.Pg.No, .string o.Name, .int .i64 o.Op.Kind, .int .i64 o.Op.At, .string o.Op.Bytes, .int .i64 o.Begin, .int .i64 o.End, .int .i64 o.Code, .int .i64 o.Ver.Epoch, .int .i64 o.Ver.Seq, .string o.Body])]) mixed Try.func44 rfl (by kernel_rfl) (Nat.le_of_ble_eq_true rfl) ?_
  repeat' ((conv => whnf); first | with_reducible refine CondK.tt ?_ | with_reducible refine CondK.ff ?_ | refine GuardK.mk (fun h => ?_) (fun h => ?_) | refine CondK.mk (fun h => ?_) (fun h => ?_) | fail)
  all_goals refine ret_bool ?_
  all_goals (unfold befF; simp_all)
theorem apply_a (M : Mem) (o : GOp) (body : ByteArray) (there : Bool) (hk : o.Kind = 2 ∨ o.Kind = 6) : Ans Try.prog M 61 #[.agg #[.int .i64 o.Kind, .int .i64 o.At, .string o.Bytes], .string body, .bool there] (.tuple #[.string (applyF o body there).1, .bool (applyF o body there).2]) := by
  refine ans_of T (l := [.agg #[.int .i64 o.Kind, .int .i64 o.At, .string o.Bytes], .string body, .bool there]) mixed Try.func61 rfl (by kernel_rfl) (Nat.le_of_ble_eq_true rfl) ?_
  rcases hk with hk | hk <;> cases there <;> (unfold applyF; rw [if_neg (by omega)])
  · rw [if_pos hk]; repeat' ((conv => whnf); first | with_reducible refine CondK.tt ?_ | with_reducible refine CondK.ff ?_ | refine CondK.yes' (show (o.Kind == _) = true by rw [hk]; rfl) ?_ | refine CondK.no' (show (o.Kind == _) = false by rw [hk]; rfl) ?_ | fail)
    exact rfl
  · rw [if_pos hk]; repeat' ((conv => whnf); first | with_reducible refine CondK.tt ?_ | with_reducible refine CondK.ff ?_ | refine CondK.yes' (show (o.Kind == _) = true by rw [hk]; rfl) ?_ | refine CondK.no' (show (o.Kind == _) = false by rw [hk]; rfl) ?_ | fail)
    exact rfl
  · rw [if_neg (by omega)]; repeat' ((conv => whnf); first | with_reducible refine CondK.tt ?_ | with_reducible refine CondK.ff ?_ | refine CondK.yes' (show (o.Kind == _) = true by rw [hk]; rfl) ?_ | refine CondK.no' (show (o.Kind == _) = false by rw [hk]; rfl) ?_ | fail)
    exact rfl
  · rw [if_neg (by omega)]; repeat' ((conv => whnf); first | with_reducible refine CondK.tt ?_ | with_reducible refine CondK.ff ?_ | refine CondK.yes' (show (o.Kind == _) = true by rw [hk]; rfl) ?_ | refine CondK.no' (show (o.Kind == _) = false by rw [hk]; rfl) ?_ | fail)
    exact rfl
theorem sApply_a (M : Mem) (o : GOp) (body : ByteArray) (there : Bool) (hk : o.Kind = 1 ∨ o.Kind = 2 ∨ o.Kind = 6) (ho : opOkF ⟨1, 0⟩ o = true) (hb : body.size ≤ 64) : Ans Try.prog M 21 #[.string body, .bool there, .agg #[.int .i64 o.Kind, .int .i64 o.At, .string o.Bytes]] (.tuple #[.string (applyF o body there).1, .bool (applyF o body there).2]) := by
  refine ans_of T (l := [.string body, .bool there, .agg #[.int .i64 o.Kind, .int .i64 o.At, .string o.Bytes]]) mixed Try.func21 rfl (by kernel_rfl) (Nat.le_of_ble_eq_true rfl) ?_
  have g1 := sOpOk_a M ⟨1, 0⟩ o
  rw [ho] at g1
  have hb' : ¬ (64 : Int) < (body.size : Int) := by omega
  obtain ⟨k, p, q⟩ := o
  rcases hk with hk | hk | hk <;> cases hk <;> cases there
  all_goals (repeat' ((conv => whnf); first | with_reducible refine CondK.tt ?_ | with_reducible refine CondK.ff ?_ | refine DrawN.q (by kernel_rfl) ?_ | refine CallK.mk _ (l16Plain_a _) ?_ | refine CallQ.mk _ (l16Plain_a _) ?_ | refine CallK.mk _ g1 ?_ | refine CallQ.mk _ g1 ?_ | refine CondK.no' (decide_eq_false hb') ?_ | refine CondK.yes' rfl ?_ | refine CondK.no' rfl ?_ | fail))
  all_goals exact rfl
theorem fits_a (M : Mem) (l : GCall) (body : ByteArray) (there : Bool) (hk : kindOk l) : Ans Try.prog M 45 #[.agg (List.toArray [.int .i64 l.Client, .int .i64 l.No, .int .i64 l.Pg.Pool, .int .i64 l.Pg.No, .string l.Name, .int .i64 l.Op.Kind, .int .i64 l.Op.At, .string l.Op.Bytes, .int .i64 l.Begin, .int .i64 l.End, .int .i64 l.Code, .int .i64 l.Ver.Epoch, .int .i64 l.Ver.Seq, .string l.Body]), .string body, .bool there] (.tuple #[.string (fitsV l body there).1, .bool (fitsV l body there).2.1, .bool (fitsV l body there).2.2]) := by
  refine ans_of T (l := [.agg (List.toArray [.int .i64 l.Client, .int .i64 l.No, .int .i64 l.Pg.Pool, .int .i64 l.Pg.No, .string l.Name, .int .i64 l.Op.Kind, .int .i64 l.Op.At, .string l.Op.Bytes, .int .i64 l.Begin, .int .i64 l.End, .int .i64 l.Code, .int .i64 l.Ver.Epoch, .int .i64 l.Ver.Seq, .string l.Body]), .string body, .bool there]) mixed Try.func45 rfl (by kernel_rfl) (Nat.le_of_ble_eq_true rfl) ?_
  have e := ba_eq l.Body body
  by_cases h1 : l.Op.Kind = 1
  · have e1 : decide (l.Op.Kind = 1) = true := decide_eq_true h1
    have g1 := reads_a M l.Op
    rw [e1] at g1
    unfold fitsV
    rw [if_pos h1]
    have e3 : (l.Code == 3) = decide (l.Code = 3) := Bool.eq_iff_iff.2 (by simp)
    have e0 : (l.Code == 0) = decide (l.Code = 0) := Bool.eq_iff_iff.2 (by simp)
    cases there
    · (repeat' ((conv => whnf); first | with_reducible refine CondK.tt ?_ | with_reducible refine CondK.ff ?_ | refine DrawN.q (by kernel_rfl) ?_ | refine CallK.mk _ g1 ?_ | fail))
      (conv => whnf)
      exact congrArg (fun b => Value.tuple #[.string body, .bool false, .bool b]) e3
    · rw [if_pos rfl, ← e0, ← e]
      cases q : (l.Code == 0)
      · (repeat' ((conv => whnf); first | with_reducible refine CondK.tt ?_ | with_reducible refine CondK.ff ?_ | refine DrawN.q (by kernel_rfl) ?_ | refine CallK.mk _ g1 ?_ | rw [q] | fail))
        (conv => whnf)
        exact rfl
      · (repeat' ((conv => whnf); first | with_reducible refine CondK.tt ?_ | with_reducible refine CondK.ff ?_ | refine DrawN.q (by kernel_rfl) ?_ | refine CallK.mk _ g1 ?_ | rw [q] | fail))
        (conv => whnf)
        exact rfl
  · have e1 : decide (l.Op.Kind = 1) = false := decide_eq_false h1
    have g1 := reads_a M l.Op
    rw [e1] at g1
    have g2 := apply_a M l.Op body there (by rcases hk with h | h | h; exact absurd h h1; exact .inl h; exact .inr h)
    have e3 : fitsV l body there = ((applyF l.Op body there).1, (applyF l.Op body there).2, true) := by
      unfold fitsV applyF
      rw [if_neg h1, if_neg h1]
      split <;> rfl
    rw [e3]
    (repeat' ((conv => whnf); first | with_reducible refine CondK.tt ?_ | with_reducible refine CondK.ff ?_ | refine CallK.mk _ g1 ?_ | refine CallK.mk _ g2 ?_ | fail))
    exact rfl
end Go.Proofs.Ythlnapamdcmlkaa.Hlp
