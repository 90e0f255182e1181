/- NewServer by the light walk: a server with nothing in it. -/
import Derived.Test.YtmfcnjbmmjbdfaaFunA
namespace Go.Proofs.Ytmfcnjbmmjbdfaa.Hlp
open Go Go.RowKit Go.Proofs Go.Proofs.Ytmfcnjbmmjbdfaa.Lw
set_option linter.unusedVariables false
set_option linter.unusedSimpArgs false
set_option maxRecDepth 100000
set_option maxHeartbeats 4000000
theorem eqPgStateS_n (M : Mem) : Ans Try.prog M 21 #[.slice none 0 0, .slice none 0 0] (.bool true) := by
  refine ans_of T (l := [.slice none 0 0, .slice none 0 0]) mixed Try.func21 rfl (by kernel_rfl) (Nat.le_of_ble_eq_true rfl) ?_
  (conv => whnf)
  refine LoopK.mk Unit (fun _ => [(0, .v (.slice none 0 0)), (1, .v (.slice none 0 0)), (5, .v (.int .i64 0))]) (fun _ => []) (fun _ => M) (fun _ => 0) () ⟨⟨⟨rfl, rfl, rfl, trivial⟩, trivial, rfl, rfl⟩, rfl⟩ ?_
  rintro ⟨⟩
  (conv => whnf)
  exact rfl
theorem markPgStateS_n (M : Mem) (k : Int) : Ans Try.prog M 24 #[.slice none 0 0, .int .i64 k] (.int .i64 k) := by
  refine ans_of T (l := [.slice none 0 0, .int .i64 k]) mixed Try.func24 rfl (by kernel_rfl) (Nat.le_of_ble_eq_true rfl) ?_
  (conv => whnf)
  refine LoopK.mk Unit (fun _ => [(0, .v (.slice none 0 0)), (1, .v (.int .i64 k)), (5, .v (.int .i64 0))]) (fun _ => []) (fun _ => M) (fun _ => 0) () ⟨⟨⟨rfl, rfl, rfl, trivial⟩, trivial, rfl, rfl⟩, rfl⟩ ?_
  rintro ⟨⟩
  (conv => whnf)
  exact rfl
theorem heldPgStateS_n (M : Mem) (k : Int) : Ans Try.prog M 37 #[.slice none 0 0, .int .i64 k] (.int .i64 k) := by
  refine ans_of T (l := [.slice none 0 0, .int .i64 k]) mixed Try.func37 rfl (by kernel_rfl) (Nat.le_of_ble_eq_true rfl) ?_
  (conv => whnf)
  refine LoopK.mk Unit (fun _ => [(0, .v (.slice none 0 0)), (1, .v (.int .i64 k)), (5, .v (.int .i64 0))]) (fun _ => []) (fun _ => M) (fun _ => 0) () ⟨⟨⟨rfl, rfl, rfl, trivial⟩, trivial, rfl, rfl⟩, rfl⟩ ?_
  rintro ⟨⟩
  (conv => whnf)
  exact rfl
theorem eqLeadS_n (M : Mem) : Ans Try.prog M 12 #[.slice none 0 0, .slice none 0 0] (.bool true) := by
  refine ans_of T (l := [.slice none 0 0, .slice none 0 0]) mixed Try.func12 rfl (by kernel_rfl) (Nat.le_of_ble_eq_true rfl) ?_
  (conv => whnf)
  refine LoopK.mk Unit (fun _ => [(0, .v (.slice none 0 0)), (1, .v (.slice none 0 0)), (5, .v (.int .i64 0))]) (fun _ => []) (fun _ => M) (fun _ => 0) () ⟨⟨⟨rfl, rfl, rfl, trivial⟩, trivial, rfl, rfl⟩, rfl⟩ ?_
  rintro ⟨⟩
  (conv => whnf)
  exact rfl
theorem markLeadS_n (M : Mem) (k : Int) : Ans Try.prog M 15 #[.slice none 0 0, .int .i64 k] (.int .i64 k) := by
  refine ans_of T (l := [.slice none 0 0, .int .i64 k]) mixed Try.func15 rfl (by kernel_rfl) (Nat.le_of_ble_eq_true rfl) ?_
  (conv => whnf)
  refine LoopK.mk Unit (fun _ => [(0, .v (.slice none 0 0)), (1, .v (.int .i64 k)), (5, .v (.int .i64 0))]) (fun _ => []) (fun _ => M) (fun _ => 0) () ⟨⟨⟨rfl, rfl, rfl, trivial⟩, trivial, rfl, rfl⟩, rfl⟩ ?_
  rintro ⟨⟩
  (conv => whnf)
  exact rfl
theorem heldLeadS_n (M : Mem) (k : Int) : Ans Try.prog M 18 #[.slice none 0 0, .int .i64 k] (.int .i64 k) := by
  refine ans_of T (l := [.slice none 0 0, .int .i64 k]) mixed Try.func18 rfl (by kernel_rfl) (Nat.le_of_ble_eq_true rfl) ?_
  (conv => whnf)
  refine LoopK.mk Unit (fun _ => [(0, .v (.slice none 0 0)), (1, .v (.int .i64 k)), (5, .v (.int .i64 0))]) (fun _ => []) (fun _ => M) (fun _ => 0) () ⟨⟨⟨rfl, rfl, rfl, trivial⟩, trivial, rfl, rfl⟩, rfl⟩ ?_
  rintro ⟨⟩
  (conv => whnf)
  exact rfl
theorem eqMsgS_n (M : Mem) : Ans Try.prog M 13 #[.slice none 0 0, .slice none 0 0] (.bool true) := by
  refine ans_of T (l := [.slice none 0 0, .slice none 0 0]) mixed Try.func13 rfl (by kernel_rfl) (Nat.le_of_ble_eq_true rfl) ?_
  (conv => whnf)
  refine LoopK.mk Unit (fun _ => [(0, .v (.slice none 0 0)), (1, .v (.slice none 0 0)), (5, .v (.int .i64 0))]) (fun _ => []) (fun _ => M) (fun _ => 0) () ⟨⟨⟨rfl, rfl, rfl, trivial⟩, trivial, rfl, rfl⟩, rfl⟩ ?_
  rintro ⟨⟩
  (conv => whnf)
  exact rfl
theorem markMsgS_n (M : Mem) (k : Int) : Ans Try.prog M 16 #[.slice none 0 0, .int .i64 k] (.int .i64 k) := by
  refine ans_of T (l := [.slice none 0 0, .int .i64 k]) mixed Try.func16 rfl (by kernel_rfl) (Nat.le_of_ble_eq_true rfl) ?_
  (conv => whnf)
  refine LoopK.mk Unit (fun _ => [(0, .v (.slice none 0 0)), (1, .v (.int .i64 k)), (5, .v (.int .i64 0))]) (fun _ => []) (fun _ => M) (fun _ => 0) () ⟨⟨⟨rfl, rfl, rfl, trivial⟩, trivial, rfl, rfl⟩, rfl⟩ ?_
  rintro ⟨⟩
  (conv => whnf)
  exact rfl
theorem heldMsgS_n (M : Mem) (k : Int) : Ans Try.prog M 19 #[.slice none 0 0, .int .i64 k] (.int .i64 k) := by
  refine ans_of T (l := [.slice none 0 0, .int .i64 k]) mixed Try.func19 rfl (by kernel_rfl) (Nat.le_of_ble_eq_true rfl) ?_
  (conv => whnf)
  refine LoopK.mk Unit (fun _ => [(0, .v (.slice none 0 0)), (1, .v (.int .i64 k)), (5, .v (.int .i64 0))]) (fun _ => []) (fun _ => M) (fun _ => 0) () ⟨⟨⟨rfl, rfl, rfl, trivial⟩, trivial, rfl, rfl⟩, rfl⟩ ?_
  rintro ⟨⟩
  (conv => whnf)
  exact rfl
theorem eqStore_n (M : Mem) : Ans Try.prog M 11 #[.agg #[.slice none 0 0, .slice none 0 0], .agg #[.slice none 0 0, .slice none 0 0]] (.bool true) := by
  refine ans_of T (l := [.agg #[.slice none 0 0, .slice none 0 0], .agg #[.slice none 0 0, .slice none 0 0]]) mixed Try.func11 rfl (by kernel_rfl) (Nat.le_of_ble_eq_true rfl) ?_
  repeat' ((conv => whnf); first | with_reducible refine CondK.tt ?_ | with_reducible refine CondK.ff ?_ | with_reducible refine CondK.not ?_ | refine DrawN.q (by kernel_rfl) ?_ | refine CallK.mk _ (eqPgStateS_n _) ?_ | refine CallQ.mk _ (eqPgStateS_n _) ?_ | refine CallK.mk _ (eqLeadS_n _) ?_ | refine CallQ.mk _ (eqLeadS_n _) ?_ | refine CallK.mk _ (eqMsgS_n _) ?_ | refine CallQ.mk _ (eqMsgS_n _) ?_ | refine CallK.mk _ (markPgStateS_n _ _) ?_ | refine CallQ.mk _ (markPgStateS_n _ _) ?_ | refine CallK.mk _ (heldPgStateS_n _ _) ?_ | refine CallQ.mk _ (heldPgStateS_n _ _) ?_ | refine CallK.mk _ (markLeadS_n _ _) ?_ | refine CallQ.mk _ (markLeadS_n _ _) ?_ | refine CallK.mk _ (heldLeadS_n _ _) ?_ | refine CallQ.mk _ (heldLeadS_n _ _) ?_ | refine CallK.mk _ (markMsgS_n _ _) ?_ | refine CallQ.mk _ (markMsgS_n _ _) ?_ | refine CallK.mk _ (heldMsgS_n _ _) ?_ | refine CallQ.mk _ (heldMsgS_n _ _) ?_ | (refine CondK.no' ?_ ?_; focus (simp; done)) | (refine CondK.yes' ?_ ?_; focus (simp; done)) | fail)
  all_goals exact rfl
theorem markStore_n (M : Mem) (k : Int) : Ans Try.prog M 14 #[.agg #[.slice none 0 0, .slice none 0 0], .int .i64 k] (.int .i64 k) := by
  refine ans_of T (l := [.agg #[.slice none 0 0, .slice none 0 0], .int .i64 k]) mixed Try.func14 rfl (by kernel_rfl) (Nat.le_of_ble_eq_true rfl) ?_
  repeat' ((conv => whnf); first | with_reducible refine CondK.tt ?_ | with_reducible refine CondK.ff ?_ | with_reducible refine CondK.not ?_ | refine DrawN.q (by kernel_rfl) ?_ | refine CallK.mk _ (eqPgStateS_n _) ?_ | refine CallQ.mk _ (eqPgStateS_n _) ?_ | refine CallK.mk _ (eqLeadS_n _) ?_ | refine CallQ.mk _ (eqLeadS_n _) ?_ | refine CallK.mk _ (eqMsgS_n _) ?_ | refine CallQ.mk _ (eqMsgS_n _) ?_ | refine CallK.mk _ (markPgStateS_n _ _) ?_ | refine CallQ.mk _ (markPgStateS_n _ _) ?_ | refine CallK.mk _ (heldPgStateS_n _ _) ?_ | refine CallQ.mk _ (heldPgStateS_n _ _) ?_ | refine CallK.mk _ (markLeadS_n _ _) ?_ | refine CallQ.mk _ (markLeadS_n _ _) ?_ | refine CallK.mk _ (heldLeadS_n _ _) ?_ | refine CallQ.mk _ (heldLeadS_n _ _) ?_ | refine CallK.mk _ (markMsgS_n _ _) ?_ | refine CallQ.mk _ (markMsgS_n _ _) ?_ | refine CallK.mk _ (heldMsgS_n _ _) ?_ | refine CallQ.mk _ (heldMsgS_n _ _) ?_ | (refine CondK.no' ?_ ?_; focus (simp; done)) | (refine CondK.yes' ?_ ?_; focus (simp; done)) | fail)
  all_goals exact rfl
theorem heldStore_n (M : Mem) : Ans Try.prog M 17 #[.agg #[.slice none 0 0, .slice none 0 0], .int .i64 1] (.int .i64 1) := by
  refine ans_of T (l := [.agg #[.slice none 0 0, .slice none 0 0], .int .i64 1]) mixed Try.func17 rfl (by kernel_rfl) (Nat.le_of_ble_eq_true rfl) ?_
  repeat' ((conv => whnf); first | with_reducible refine CondK.tt ?_ | with_reducible refine CondK.ff ?_ | with_reducible refine CondK.not ?_ | refine DrawN.q (by kernel_rfl) ?_ | refine CallK.mk _ (eqPgStateS_n _) ?_ | refine CallQ.mk _ (eqPgStateS_n _) ?_ | refine CallK.mk _ (eqLeadS_n _) ?_ | refine CallQ.mk _ (eqLeadS_n _) ?_ | refine CallK.mk _ (eqMsgS_n _) ?_ | refine CallQ.mk _ (eqMsgS_n _) ?_ | refine CallK.mk _ (markPgStateS_n _ _) ?_ | refine CallQ.mk _ (markPgStateS_n _ _) ?_ | refine CallK.mk _ (heldPgStateS_n _ _) ?_ | refine CallQ.mk _ (heldPgStateS_n _ _) ?_ | refine CallK.mk _ (markLeadS_n _ _) ?_ | refine CallQ.mk _ (markLeadS_n _ _) ?_ | refine CallK.mk _ (heldLeadS_n _ _) ?_ | refine CallQ.mk _ (heldLeadS_n _ _) ?_ | refine CallK.mk _ (markMsgS_n _ _) ?_ | refine CallQ.mk _ (markMsgS_n _ _) ?_ | refine CallK.mk _ (heldMsgS_n _ _) ?_ | refine CallQ.mk _ (heldMsgS_n _ _) ?_ | (refine CondK.no' ?_ ?_; focus (simp; done)) | (refine CondK.yes' ?_ ?_; focus (simp; done)) | fail)
  all_goals exact rfl
theorem eqServer_n (M : Mem) (i : Int) (b : Bool) : Ans Try.prog M 6 #[.agg #[.int .i64 i, .int .i64 0, .bool b, .slice none 0 0, .slice none 0 0, .slice none 0 0, .slice none 0 0], .agg #[.int .i64 i, .int .i64 0, .bool b, .slice none 0 0, .slice none 0 0, .slice none 0 0, .slice none 0 0]] (.bool true) := by
  refine ans_of T (l := [.agg #[.int .i64 i, .int .i64 0, .bool b, .slice none 0 0, .slice none 0 0, .slice none 0 0, .slice none 0 0], .agg #[.int .i64 i, .int .i64 0, .bool b, .slice none 0 0, .slice none 0 0, .slice none 0 0, .slice none 0 0]]) mixed Try.func6 rfl (by kernel_rfl) (Nat.le_of_ble_eq_true rfl) ?_
  repeat' ((conv => whnf); first | with_reducible refine CondK.tt ?_ | with_reducible refine CondK.ff ?_ | with_reducible refine CondK.not ?_ | refine DrawN.q (by kernel_rfl) ?_ | refine CallK.mk _ (eqPgStateS_n _) ?_ | refine CallQ.mk _ (eqPgStateS_n _) ?_ | refine CallK.mk _ (eqLeadS_n _) ?_ | refine CallQ.mk _ (eqLeadS_n _) ?_ | refine CallK.mk _ (eqMsgS_n _) ?_ | refine CallQ.mk _ (eqMsgS_n _) ?_ | refine CallK.mk _ (markPgStateS_n _ _) ?_ | refine CallQ.mk _ (markPgStateS_n _ _) ?_ | refine CallK.mk _ (heldPgStateS_n _ _) ?_ | refine CallQ.mk _ (heldPgStateS_n _ _) ?_ | refine CallK.mk _ (markLeadS_n _ _) ?_ | refine CallQ.mk _ (markLeadS_n _ _) ?_ | refine CallK.mk _ (heldLeadS_n _ _) ?_ | refine CallQ.mk _ (heldLeadS_n _ _) ?_ | refine CallK.mk _ (markMsgS_n _ _) ?_ | refine CallQ.mk _ (markMsgS_n _ _) ?_ | refine CallK.mk _ (heldMsgS_n _ _) ?_ | refine CallQ.mk _ (heldMsgS_n _ _) ?_ | refine CallK.mk _ (eqStore_n _) ?_ | refine CallQ.mk _ (eqStore_n _) ?_ | refine CallK.mk _ (markStore_n _ _) ?_ | refine CallQ.mk _ (markStore_n _ _) ?_ | refine CallK.mk _ (heldStore_n _) ?_ | refine CallQ.mk _ (heldStore_n _) ?_ | (refine CondK.no' ?_ ?_; focus (simp; done)) | (refine CondK.yes' ?_ ?_; focus (simp; done)) | fail)
  all_goals exact rfl
theorem markServer_n (M : Mem) (i : Int) (b : Bool) (k : Int) : Ans Try.prog M 7 #[.agg #[.int .i64 i, .int .i64 0, .bool b, .slice none 0 0, .slice none 0 0, .slice none 0 0, .slice none 0 0], .int .i64 k] (.int .i64 k) := by
  refine ans_of T (l := [.agg #[.int .i64 i, .int .i64 0, .bool b, .slice none 0 0, .slice none 0 0, .slice none 0 0, .slice none 0 0], .int .i64 k]) mixed Try.func7 rfl (by kernel_rfl) (Nat.le_of_ble_eq_true rfl) ?_
  repeat' ((conv => whnf); first | with_reducible refine CondK.tt ?_ | with_reducible refine CondK.ff ?_ | with_reducible refine CondK.not ?_ | refine DrawN.q (by kernel_rfl) ?_ | refine CallK.mk _ (eqPgStateS_n _) ?_ | refine CallQ.mk _ (eqPgStateS_n _) ?_ | refine CallK.mk _ (eqLeadS_n _) ?_ | refine CallQ.mk _ (eqLeadS_n _) ?_ | refine CallK.mk _ (eqMsgS_n _) ?_ | refine CallQ.mk _ (eqMsgS_n _) ?_ | refine CallK.mk _ (markPgStateS_n _ _) ?_ | refine CallQ.mk _ (markPgStateS_n _ _) ?_ | refine CallK.mk _ (heldPgStateS_n _ _) ?_ | refine CallQ.mk _ (heldPgStateS_n _ _) ?_ | refine CallK.mk _ (markLeadS_n _ _) ?_ | refine CallQ.mk _ (markLeadS_n _ _) ?_ | refine CallK.mk _ (heldLeadS_n _ _) ?_ | refine CallQ.mk _ (heldLeadS_n _ _) ?_ | refine CallK.mk _ (markMsgS_n _ _) ?_ | refine CallQ.mk _ (markMsgS_n _ _) ?_ | refine CallK.mk _ (heldMsgS_n _ _) ?_ | refine CallQ.mk _ (heldMsgS_n _ _) ?_ | refine CallK.mk _ (eqStore_n _) ?_ | refine CallQ.mk _ (eqStore_n _) ?_ | refine CallK.mk _ (markStore_n _ _) ?_ | refine CallQ.mk _ (markStore_n _ _) ?_ | refine CallK.mk _ (heldStore_n _) ?_ | refine CallQ.mk _ (heldStore_n _) ?_ | (refine CondK.no' ?_ ?_; focus (simp; done)) | (refine CondK.yes' ?_ ?_; focus (simp; done)) | fail)
  all_goals exact rfl
theorem heldServer_n (M : Mem) (i : Int) (b : Bool) : Ans Try.prog M 8 #[.agg #[.int .i64 i, .int .i64 0, .bool b, .slice none 0 0, .slice none 0 0, .slice none 0 0, .slice none 0 0], .int .i64 1] (.int .i64 1) := by
  refine ans_of T (l := [.agg #[.int .i64 i, .int .i64 0, .bool b, .slice none 0 0, .slice none 0 0, .slice none 0 0, .slice none 0 0], .int .i64 1]) mixed Try.func8 rfl (by kernel_rfl) (Nat.le_of_ble_eq_true rfl) ?_
  repeat' ((conv => whnf); first | with_reducible refine CondK.tt ?_ | with_reducible refine CondK.ff ?_ | with_reducible refine CondK.not ?_ | refine DrawN.q (by kernel_rfl) ?_ | refine CallK.mk _ (eqPgStateS_n _) ?_ | refine CallQ.mk _ (eqPgStateS_n _) ?_ | refine CallK.mk _ (eqLeadS_n _) ?_ | refine CallQ.mk _ (eqLeadS_n _) ?_ | refine CallK.mk _ (eqMsgS_n _) ?_ | refine CallQ.mk _ (eqMsgS_n _) ?_ | refine CallK.mk _ (markPgStateS_n _ _) ?_ | refine CallQ.mk _ (markPgStateS_n _ _) ?_ | refine CallK.mk _ (heldPgStateS_n _ _) ?_ | refine CallQ.mk _ (heldPgStateS_n _ _) ?_ | refine CallK.mk _ (markLeadS_n _ _) ?_ | refine CallQ.mk _ (markLeadS_n _ _) ?_ | refine CallK.mk _ (heldLeadS_n _ _) ?_ | refine CallQ.mk _ (heldLeadS_n _ _) ?_ | refine CallK.mk _ (markMsgS_n _ _) ?_ | refine CallQ.mk _ (markMsgS_n _ _) ?_ | refine CallK.mk _ (heldMsgS_n _ _) ?_ | refine CallQ.mk _ (heldMsgS_n _ _) ?_ | refine CallK.mk _ (eqStore_n _) ?_ | refine CallQ.mk _ (eqStore_n _) ?_ | refine CallK.mk _ (markStore_n _ _) ?_ | refine CallQ.mk _ (markStore_n _ _) ?_ | refine CallK.mk _ (heldStore_n _) ?_ | refine CallQ.mk _ (heldStore_n _) ?_ | (refine CondK.no' ?_ ?_; focus (simp; done)) | (refine CondK.yes' ?_ ?_; focus (simp; done)) | fail)
  all_goals exact rfl
theorem isNodeS_a (M : Mem) (n : Int) : Ans Try.prog M 10 #[.int .i64 n] (.bool (inR n 0 15)) := by
  refine ans_of T (l := [.int .i64 n]) mixed Try.func10 rfl (by kernel_rfl) (Nat.le_of_ble_eq_true rfl) ?_
  repeat' ((conv => whnf); first | refine CallK.mk _ (between_a _ _ _ _) ?_ | fail)
  exact ret_bool rfl
def srvI (n : Int) : Int := if inR n 0 15 = true then n else 0
theorem iNewServer_a (M : Mem) (n : Int) : Ans Try.prog M 5 #[.int .i64 n] (.tuple #[.agg #[.int .i64 (srvI n), .int .i64 0, .bool (inR n 0 15), .slice none 0 0, .slice none 0 0, .slice none 0 0, .slice none 0 0], .bool (inR n 0 15)]) := by
  refine ans_of T (l := [.int .i64 n]) mixed Try.func5 rfl (by kernel_rfl) (Nat.le_of_ble_eq_true rfl) ?_
  cases h : inR n 0 15 with
  | false =>
    have e : srvI n = 0 := by unfold srvI; rw [h]; rfl
    rw [e]
    repeat' ((conv => whnf); first | refine CallK.mk (.bool false) (h ▸ isNodeS_a M n) ?_ | with_reducible refine CondK.tt ?_ | with_reducible refine CondK.ff ?_ | with_reducible refine CondK.not ?_ | refine DrawN.q (by kernel_rfl) ?_ | fail)
    all_goals exact rfl
  | true =>
    have e : srvI n = n := by unfold srvI; rw [h]; rfl
    rw [e]
    repeat' ((conv => whnf); first | refine CallK.mk (.bool true) (h ▸ isNodeS_a M n) ?_ | with_reducible refine CondK.tt ?_ | with_reducible refine CondK.ff ?_ | with_reducible refine CondK.not ?_ | refine DrawN.q (by kernel_rfl) ?_ | fail)
    all_goals exact rfl
theorem sNewServer_a (M : Mem) (n : Int) : Ans Try.prog M 4 #[.int .i64 n] (.tuple #[.agg #[.int .i64 (srvI n), .int .i64 0, .bool (inR n 0 15), .slice none 0 0, .slice none 0 0, .slice none 0 0, .slice none 0 0], .bool (inR n 0 15)]) := by
  refine ans_of T (l := [.int .i64 n]) mixed Try.func4 rfl (by kernel_rfl) (Nat.le_of_ble_eq_true rfl) ?_
  cases h : inR n 0 15 with
  | false =>
    have e : srvI n = 0 := by unfold srvI; rw [h]; rfl
    rw [e]
    repeat' ((conv => whnf); first | refine CallK.mk (.bool false) (h ▸ l00In_a M n 0 15) ?_ | with_reducible refine CondK.tt ?_ | with_reducible refine CondK.ff ?_ | with_reducible refine CondK.not ?_ | refine DrawN.q (by kernel_rfl) ?_ | fail)
    all_goals exact rfl
  | true =>
    have e : srvI n = n := by unfold srvI; rw [h]; rfl
    rw [e]
    repeat' ((conv => whnf); first | refine CallK.mk (.bool true) (h ▸ l00In_a M n 0 15) ?_ | with_reducible refine CondK.tt ?_ | with_reducible refine CondK.ff ?_ | with_reducible refine CondK.not ?_ | refine DrawN.q (by kernel_rfl) ?_ | fail)
    all_goals exact rfl
theorem lawNewServer_a (M : Mem) (n : Int) : AnsR Try.prog M 3 #[.int .i64 n] (fun _ v => v = .bool true) := by
  refine ansR_of T (l := [.int .i64 n]) mixed Try.func3 rfl (by kernel_rfl) (Nat.le_of_ble_eq_true rfl) ?_
  repeat' ((conv => whnf); first | with_reducible refine CondK.tt ?_ | with_reducible refine CondK.ff ?_ | with_reducible refine CondK.not ?_ | refine DrawN.q (by kernel_rfl) ?_ | refine CallK.mk _ (iNewServer_a _ n) ?_ | refine CallQ.mk _ (iNewServer_a _ n) ?_ | refine CallK.mk _ (sNewServer_a _ n) ?_ | refine CallQ.mk _ (sNewServer_a _ n) ?_ | refine CallK.mk _ (eqServer_n _ _ _) ?_ | refine CallQ.mk _ (eqServer_n _ _ _) ?_ | refine CallK.mk _ (markServer_n _ _ _ _) ?_ | refine CallQ.mk _ (markServer_n _ _ _ _) ?_ | refine CallK.mk _ (heldServer_n _ _ _) ?_ | refine CallQ.mk _ (heldServer_n _ _ _) ?_ | (refine CondK.no' ?_ ?_; focus (simp; done)) | (refine CondK.yes' ?_ ?_; focus (simp; done)) | fail)
  all_goals exact RetK.mk fun _ _ _ _ => rfl
end Go.Proofs.Ytmfcnjbmmjbdfaa.Hlp
