/- The laws' helpers by the light walk: equal data are called equal; what a list measures; what is turned is the same. -/
import Derived.Test.YtgfccanmpdehmaaGreatProg
import Derived.Test.YtgfccanmpdehmaaGreatLwTy
import Derived.KernelRfl
namespace Go.Proofs.YtgfccanmpdehmaaGreat.Hlp
open Go Go.RowKit Go.Proofs Go.Proofs.YtgfccanmpdehmaaGreat.Lw
set_option linter.unusedVariables false
set_option linter.unusedSimpArgs false
set_option maxRecDepth 100000
set_option maxHeartbeats 4000000
theorem mixed : Tryz.prog.follows .mixedOrders = true := by kernel_rfl
def T : Tab Tryz.prog := tabOf _ [53, 54, 61, 63, 65, 66, 132, 135, 138] (by kernel_rfl)
theorem eqInt64S_a (M : Mem) (l : List Int) (A A' : Option Addr) (c c' : Nat) (h : SlR M RInt 1 8 A c l) (h' : SlR M RInt 1 8 A' c' l) : Ans Tryz.prog M 34 #[.slice A l.length c, .slice A' l.length c'] (.bool true) := by
  have hl := h.len
  refine ans_of T (l := [.slice A l.length c, .slice A' l.length c']) mixed Tryz.func34 rfl (by kernel_rfl) (Nat.le_of_ble_eq_true rfl) ?_
  (conv => whnf)
  refine CondK.mk (fun h1 => absurd h1 (by simp)) (fun _ => ?_)
  (conv => whnf)
  refine LoopK.mk {k : Nat // k ≤ l.length} (fun ⟨k, _⟩ => [(0, .v (.slice A l.length c)), (1, .v (.slice A' l.length c')), (5, .v (.int .i64 (k : Int)))]) (fun _ => []) (fun _ => M) (fun k => l.length - k.1) ⟨0, Nat.zero_le _⟩ ⟨⟨⟨rfl, rfl, rfl, trivial⟩, trivial, rfl, rfl⟩, rfl⟩ ?_
  rintro ⟨k, hk⟩
  (conv => whnf)
  refine CondK.mk (fun h1 => ?_) (fun h1 => ?_)
  · have hlt : k < l.length := by simpa using h1
    obtain ⟨ad, rfl, bnx, x0⟩ := at_Int h (List.getElem?_eq_getElem hlt)
    obtain ⟨ad', rfl, bny, y0⟩ := at_Int h' (List.getElem?_eq_getElem hlt)
    repeat' ((conv => whnf); first | with_reducible refine CondK.tt ?_ | with_reducible refine CondK.ff ?_ | with_reducible refine CondK.not ?_ | refine LdK.mk _ (by assumption) ?_ | refine IdxK.mk _ rfl (by omega) (by omega) ?_ | refine DrawN.q (by kernel_rfl) ?_ | (refine CondK.no' ?_ ?_; focus (simp; done)) | (refine CondK.yes' ?_ ?_; focus (simp; done)) | exact rfl)
    exact ⟨⟨k + 1, hlt⟩, ⟨⟨rfl, rfl, look_int (i64_succ (by omega)), trivial⟩, trivial, rfl, rfl⟩, rfl, by simp; omega⟩
  · rfl
theorem szInt64S_a (M : Mem) (l : List Int) (left : Int) (A : Option Addr) (c : Nat) (h : SlR M RInt 1 8 A c l) : Ans Tryz.prog M 13 #[.slice A l.length c, .int .i64 left] (.int .i64 (szSub left l.length)) := by
  refine ans_of T (l := [.slice A l.length c, .int .i64 left]) mixed Tryz.func13 rfl (by kernel_rfl) (Nat.le_of_ble_eq_true rfl) ?_
  repeat' ((conv => whnf); first | with_reducible refine CondK.tt ?_ | with_reducible refine CondK.ff ?_ | with_reducible refine CondK.not ?_ | refine CondK.mk (fun h => ?_) (fun h => ?_) | exact rfl)
  all_goals refine ret_int ?_
  all_goals (unfold szSub; split <;> simp_all <;> omega)
theorem toInt64S_a (M : Mem) (l : List Int) (A : Option Addr) (c : Nat) (h : SlR M RInt 1 8 A c l) (hsm : l.length ≤ 1048576 ∧ ∀ y ∈ l, True) : AnsR Tryz.prog M 22 #[.slice A l.length c] (fun M' v => ∃ A' c', v = .slice A' l.length c' ∧ SlR M' RInt 1 8 A' c' l) := by
  have hl := hsm.1
  refine ansR_of T (l := [.slice A l.length c]) mixed Tryz.func22 rfl (by kernel_rfl) (Nat.le_of_ble_eq_true rfl) ?_
  (conv => whnf)
  refine MkK.mk rfl (by omega) (by omega) (by show ((8 : Nat) : Int) * (l.length : Int) ≤ _; omega) ?_
  (conv => whnf)
  refine LoopK.mk (Fill M RInt 1 l) (fun q => [(0, .v (.slice A l.length c)), (3, .s 0 l.length l.length 1), (4, .v (.int .i64 (q.css.length : Int)))]) (fun q => [(0, q.cells [.int .i64 0])]) (fun q => q.M) (fun q => l.length - q.css.length) (Fill.start M RInt 1 l) ⟨⟨⟨rfl, rfl, rfl, trivial⟩, ⟨rfl, trivial⟩, rfl, rfl⟩, rfl⟩ ?_
  intro q
  have h := h.mono q.le (RInt.mono q.le)
  (conv => whnf)
  refine CondK.mk (fun h1 => ?_) (fun h1 => ?_)
  · have hlt : q.css.length < l.length := by simpa using h1
    have hx := List.getElem?_eq_getElem hlt
    obtain ⟨ad, rfl, bnx, x0⟩ := at_Int h hx
    repeat' ((conv => whnf); first | with_reducible refine CondK.tt ?_ | with_reducible refine CondK.ff ?_ | with_reducible refine CondK.not ?_ | refine LdK.mk _ (by assumption) ?_ | refine IdxK.mk _ rfl (by omega) (by omega) ?_ | refine DrawN.q (by kernel_rfl) ?_ | refine IdxA.mk (q.css.length * 1) rfl (by omega) (by omega) ?_ | exact rfl)
    have hs := q.store (Le.refl _) (fun _ _ h => h) hx rfl rfl (Z := [.int .i64 0]) rfl
    have hroom := q.room1 (Z := [.int .i64 0]) rfl hlt
    refine Owe.mk hroom ?_
    (conv => whnf)
    exact ⟨q.step (Le.refl _) (fun _ _ h => h) hx rfl rfl, ⟨⟨rfl, rfl, look_int ((i64_succ (by omega)).trans (by simp [Fill.step])), trivial⟩, ⟨congrArg some hs, trivial⟩, rfl, rfl⟩, rfl, by simp [Fill.step]; omega⟩
  · refine RetK.mk fun g M' hl hg => ⟨_, _, rfl, ?_⟩
    exact q.done (Z := [.int .i64 0]) (by simpa using h1) (RInt.mono hl) (hg 0 _ rfl) h.len
theorem eqPg_a (M : Mem) (x : GPg) : Ans Tryz.prog M 35 #[.agg #[.int .i64 x.Pool, .int .i64 x.No], .agg #[.int .i64 x.Pool, .int .i64 x.No]] (.bool true) := by
  refine ans_of T (l := [.agg #[.int .i64 x.Pool, .int .i64 x.No], .agg #[.int .i64 x.Pool, .int .i64 x.No]]) mixed Tryz.func35 rfl (by kernel_rfl) (Nat.le_of_ble_eq_true rfl) ?_
  repeat' ((conv => whnf); first | with_reducible refine CondK.tt ?_ | with_reducible refine CondK.ff ?_ | with_reducible refine CondK.not ?_ | (refine CondK.no' ?_ ?_; focus (simp; done)) | (refine CondK.yes' ?_ ?_; focus (simp; done)) | exact rfl)
theorem toPg_a (M : Mem) (x : GPg) : Ans Tryz.prog M 23 #[.agg #[.int .i64 x.Pool, .int .i64 x.No]] (.agg #[.int .i64 x.Pool, .int .i64 x.No]) := by
  refine ans_of T (l := [.agg #[.int .i64 x.Pool, .int .i64 x.No]]) mixed Tryz.func23 rfl (by kernel_rfl) (Nat.le_of_ble_eq_true rfl) ?_
  repeat' ((conv => whnf); first | with_reducible refine CondK.tt ?_ | with_reducible refine CondK.ff ?_ | with_reducible refine CondK.not ?_ | exact rfl)
theorem eqVer_a (M : Mem) (x : GVer) : Ans Tryz.prog M 36 #[.agg #[.int .i64 x.Epoch, .int .i64 x.Seq], .agg #[.int .i64 x.Epoch, .int .i64 x.Seq]] (.bool true) := by
  refine ans_of T (l := [.agg #[.int .i64 x.Epoch, .int .i64 x.Seq], .agg #[.int .i64 x.Epoch, .int .i64 x.Seq]]) mixed Tryz.func36 rfl (by kernel_rfl) (Nat.le_of_ble_eq_true rfl) ?_
  repeat' ((conv => whnf); first | with_reducible refine CondK.tt ?_ | with_reducible refine CondK.ff ?_ | with_reducible refine CondK.not ?_ | (refine CondK.no' ?_ ?_; focus (simp; done)) | (refine CondK.yes' ?_ ?_; focus (simp; done)) | exact rfl)
theorem toVer_a (M : Mem) (x : GVer) : Ans Tryz.prog M 24 #[.agg #[.int .i64 x.Epoch, .int .i64 x.Seq]] (.agg #[.int .i64 x.Epoch, .int .i64 x.Seq]) := by
  refine ans_of T (l := [.agg #[.int .i64 x.Epoch, .int .i64 x.Seq]]) mixed Tryz.func24 rfl (by kernel_rfl) (Nat.le_of_ble_eq_true rfl) ?_
  repeat' ((conv => whnf); first | with_reducible refine CondK.tt ?_ | with_reducible refine CondK.ff ?_ | with_reducible refine CondK.not ?_ | exact rfl)
theorem eqReq_a (M : Mem) (x : GReq) : Ans Tryz.prog M 41 #[.agg #[.int .i64 x.Client, .int .i64 x.No], .agg #[.int .i64 x.Client, .int .i64 x.No]] (.bool true) := by
  refine ans_of T (l := [.agg #[.int .i64 x.Client, .int .i64 x.No], .agg #[.int .i64 x.Client, .int .i64 x.No]]) mixed Tryz.func41 rfl (by kernel_rfl) (Nat.le_of_ble_eq_true rfl) ?_
  repeat' ((conv => whnf); first | with_reducible refine CondK.tt ?_ | with_reducible refine CondK.ff ?_ | with_reducible refine CondK.not ?_ | (refine CondK.no' ?_ ?_; focus (simp; done)) | (refine CondK.yes' ?_ ?_; focus (simp; done)) | exact rfl)
theorem toReq_a (M : Mem) (x : GReq) : Ans Tryz.prog M 29 #[.agg #[.int .i64 x.Client, .int .i64 x.No]] (.agg #[.int .i64 x.Client, .int .i64 x.No]) := by
  refine ans_of T (l := [.agg #[.int .i64 x.Client, .int .i64 x.No]]) mixed Tryz.func29 rfl (by kernel_rfl) (Nat.le_of_ble_eq_true rfl) ?_
  repeat' ((conv => whnf); first | with_reducible refine CondK.tt ?_ | with_reducible refine CondK.ff ?_ | with_reducible refine CondK.not ?_ | exact rfl)
end Go.Proofs.YtgfccanmpdehmaaGreat.Hlp
