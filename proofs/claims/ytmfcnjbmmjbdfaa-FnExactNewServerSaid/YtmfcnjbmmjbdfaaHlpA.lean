/- The laws' helpers by the light walk: equal data are called equal; what a list measures; what is turned is the same. -/
import Derived.Test.YtmfcnjbmmjbdfaaProg
import Derived.Test.YtmfcnjbmmjbdfaaLwTy
import Derived.KernelRfl
namespace Go.Proofs.Ytmfcnjbmmjbdfaa.Hlp
open Go Go.RowKit Go.Proofs Go.Proofs.Ytmfcnjbmmjbdfaa.Lw
set_option linter.unusedVariables false
set_option linter.unusedSimpArgs false
set_option maxRecDepth 100000
set_option maxHeartbeats 4000000
theorem mixed : Try.prog.follows .mixedOrders = true := by kernel_rfl
def T : Tab Try.prog := tabOf _ [44, 46, 51, 68, 70, 72, 74, 109, 111, 113, 115, 117, 133] (by kernel_rfl)
theorem eqInt64S_a (M : Mem) (l : List Int) (A A' : Option Addr) (c c' : Nat) (h : SlR M RInt 1 8 A c l) (h' : SlR M RInt 1 8 A' c' l) : Ans Try.prog M 52 #[.slice A l.length c, .slice A' l.length c'] (.bool true) := by
  have hl := h.len
  refine ans_of T (l := [.slice A l.length c, .slice A' l.length c']) mixed Try.func52 rfl (by kernel_rfl) (Nat.le_of_ble_eq_true rfl) ?_
  (conv => whnf)
  refine CondK.mk (fun h1 => absurd h1 (by simp)) (fun _ => ?_)
  (conv => whnf)
  refine LoopK.mk {k : Nat // k ≤ l.length} (fun ⟨k, _⟩ => [(0, .v (.slice A l.length c)), (1, .v (.slice A' l.length c')), (5, .v (.int .i64 (k : Int)))]) (fun _ => []) (fun _ => M) (fun k => l.length - k.1) ⟨0, Nat.zero_le _⟩ ⟨⟨⟨rfl, rfl, rfl, trivial⟩, trivial, rfl, rfl⟩, rfl⟩ ?_
  rintro ⟨k, hk⟩
  (conv => whnf)
  refine CondK.mk (fun h1 => ?_) (fun h1 => ?_)
  · have hlt : k < l.length := by simpa using h1
    obtain ⟨ad, rfl, bnx, x0⟩ := at_Int h (List.getElem?_eq_getElem hlt)
    obtain ⟨ad', rfl, bny, y0⟩ := at_Int h' (List.getElem?_eq_getElem hlt)
    repeat' ((conv => whnf); first | with_reducible refine CondK.tt ?_ | with_reducible refine CondK.ff ?_ | with_reducible refine CondK.not ?_ | refine LdK.mk _ (by assumption) ?_ | refine IdxK.mk _ rfl (by omega) (by omega) ?_ | refine DrawN.q (by kernel_rfl) ?_ | (refine CondK.no' ?_ ?_; focus (simp; done)) | (refine CondK.yes' ?_ ?_; focus (simp; done)) | exact rfl)
    exact ⟨⟨k + 1, hlt⟩, ⟨⟨rfl, rfl, look_int (i64_succ (by omega)), trivial⟩, trivial, rfl, rfl⟩, rfl, by simp; omega⟩
  · rfl
theorem eqPg_a (M : Mem) (x : GPg) : Ans Try.prog M 50 #[.agg #[.int .i64 x.Pool, .int .i64 x.No], .agg #[.int .i64 x.Pool, .int .i64 x.No]] (.bool true) := by
  refine ans_of T (l := [.agg #[.int .i64 x.Pool, .int .i64 x.No], .agg #[.int .i64 x.Pool, .int .i64 x.No]]) mixed Try.func50 rfl (by kernel_rfl) (Nat.le_of_ble_eq_true rfl) ?_
  repeat' ((conv => whnf); first | with_reducible refine CondK.tt ?_ | with_reducible refine CondK.ff ?_ | with_reducible refine CondK.not ?_ | (refine CondK.no' ?_ ?_; focus (simp; done)) | (refine CondK.yes' ?_ ?_; focus (simp; done)) | exact rfl)
theorem eqVer_a (M : Mem) (x : GVer) : Ans Try.prog M 58 #[.agg #[.int .i64 x.Epoch, .int .i64 x.Seq], .agg #[.int .i64 x.Epoch, .int .i64 x.Seq]] (.bool true) := by
  refine ans_of T (l := [.agg #[.int .i64 x.Epoch, .int .i64 x.Seq], .agg #[.int .i64 x.Epoch, .int .i64 x.Seq]]) mixed Try.func58 rfl (by kernel_rfl) (Nat.le_of_ble_eq_true rfl) ?_
  repeat' ((conv => whnf); first | with_reducible refine CondK.tt ?_ | with_reducible refine CondK.ff ?_ | with_reducible refine CondK.not ?_ | (refine CondK.no' ?_ ?_; focus (simp; done)) | (refine CondK.yes' ?_ ?_; focus (simp; done)) | exact rfl)
theorem eqReq_a (M : Mem) (x : GReq) : Ans Try.prog M 62 #[.agg #[.int .i64 x.Client, .int .i64 x.No], .agg #[.int .i64 x.Client, .int .i64 x.No]] (.bool true) := by
  refine ans_of T (l := [.agg #[.int .i64 x.Client, .int .i64 x.No], .agg #[.int .i64 x.Client, .int .i64 x.No]]) mixed Try.func62 rfl (by kernel_rfl) (Nat.le_of_ble_eq_true rfl) ?_
  repeat' ((conv => whnf); first | with_reducible refine CondK.tt ?_ | with_reducible refine CondK.ff ?_ | with_reducible refine CondK.not ?_ | (refine CondK.no' ?_ ?_; focus (simp; done)) | (refine CondK.yes' ?_ ?_; focus (simp; done)) | exact rfl)
end Go.Proofs.Ytmfcnjbmmjbdfaa.Hlp
