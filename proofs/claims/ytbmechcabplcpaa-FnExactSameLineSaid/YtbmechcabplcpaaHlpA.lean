/- The laws' helpers by the light walk: equal data are called equal; what a list measures; what is turned is the same. -/
import Derived.Test.YtbmechcabplcpaaProg
import Derived.Test.YtbmechcabplcpaaLwTy
import Derived.KernelRfl
namespace Go.Proofs.Ytbmechcabplcpaa.Hlp
open Go Go.RowKit Go.Proofs Go.Proofs.Ytbmechcabplcpaa.Lw
set_option linter.unusedVariables false
set_option linter.unusedSimpArgs false
set_option maxRecDepth 100000
set_option maxHeartbeats 4000000
theorem mixed : Try.prog.follows .mixedOrders = true := by kernel_rfl
def T : Tab Try.prog := tabOf _ [25, 27, 29, 31, 33, 66, 83, 85, 90, 94, 99, 137, 139, 202, 204, 206] (by kernel_rfl)
theorem eqInt64S_a (M : Mem) (l : List Int) (A A' : Option Addr) (c c' : Nat) (h : SlR M RInt 1 8 A l) (h' : SlR M RInt 1 8 A' l) : Ans Try.prog M 66 #[.slice A l.length c, .slice A' l.length c'] (.bool true) := by
  have hl := h.1
  refine ans_of T (l := [.slice A l.length c, .slice A' l.length c']) mixed Try.func66 rfl (by kernel_rfl) (Nat.le_of_ble_eq_true rfl) ?_
  (conv => whnf)
  refine CondK.mk (fun h1 => absurd h1 (by simp)) (fun _ => ?_)
  (conv => whnf)
  refine LoopK.mk {k : Nat // k ≤ l.length} (fun ⟨k, _⟩ => [(0, .v (.slice A l.length c)), (1, .v (.slice A' l.length c')), (5, .v (.int .i64 (k : Int)))]) (fun _ => []) (fun _ => M) (fun k => l.length - k.1) ⟨0, Nat.zero_le _⟩ ⟨⟨⟨rfl, rfl, rfl, trivial⟩, trivial, rfl, rfl⟩, rfl⟩ ?_
  rintro ⟨k, hk⟩
  (conv => whnf)
  refine CondK.mk (fun h1 => ?_) (fun h1 => ?_)
  · have hlt : k < l.length := by simpa using h1
    obtain ⟨ad, rfl, bnx, x0⟩ := at_Int h (List.getElem?_eq_getElem hlt)
    obtain ⟨ad', rfl, bny, y0⟩ := at_Int h' (List.getElem?_eq_getElem hlt)
    repeat' ((conv => whnf); first | with_reducible refine CondK.tt ?_ | with_reducible refine CondK.ff ?_ | with_reducible refine CondK.not ?_ | refine LdK.mk _ (by assumption) ?_ | refine IdxK.mk _ rfl (by omega) (by omega) ?_ | refine DrawN.q (by kernel_rfl) ?_ | (refine CondK.no' ?_ ?_; focus (simp; done)) | (refine CondK.yes' ?_ ?_; focus (simp; done)) | exact rfl)
    exact ⟨⟨k + 1, hlt⟩, ⟨⟨rfl, rfl, look_int (i64_succ (by omega)), trivial⟩, trivial, rfl, rfl⟩, rfl, by simp; omega⟩
  · rfl
theorem szInt64S_a (M : Mem) (l : List Int) (left : Int) (A : Option Addr) (c : Nat) (h : SlR M RInt 1 8 A l) : Ans Try.prog M 45 #[.slice A l.length c, .int .i64 left] (.int .i64 (szSub left l.length)) := by
  refine ans_of T (l := [.slice A l.length c, .int .i64 left]) mixed Try.func45 rfl (by kernel_rfl) (Nat.le_of_ble_eq_true rfl) ?_
  repeat' ((conv => whnf); first | with_reducible refine CondK.tt ?_ | with_reducible refine CondK.ff ?_ | with_reducible refine CondK.not ?_ | refine CondK.mk (fun h => ?_) (fun h => ?_) | exact rfl)
  all_goals refine ret_int ?_
  all_goals (unfold szSub; split <;> simp_all <;> omega)
theorem toInt64S_a (M : Mem) (l : List Int) (A : Option Addr) (c : Nat) (h : SlR M RInt 1 8 A l) (hsm : l.length ≤ 1048576 ∧ ∀ y ∈ l, True) : AnsR Try.prog M 54 #[.slice A l.length c] (fun M' v => ∃ A' c', v = .slice A' l.length c' ∧ SlR M' RInt 1 8 A' l) := by
  have hl := hsm.1
  refine ansR_of T (l := [.slice A l.length c]) mixed Try.func54 rfl (by kernel_rfl) (Nat.le_of_ble_eq_true rfl) ?_
  (conv => whnf)
  refine MkK.mk rfl (by omega) (by omega) (by show ((8 : Nat) : Int) * (l.length : Int) ≤ _; omega) ?_
  (conv => whnf)
  refine LoopK.mk (Fill M RInt 1 l) (fun q => [(0, .v (.slice A l.length c)), (3, .s 0 l.length l.length 1), (4, .v (.int .i64 (q.css.length : Int)))]) (fun q => [(0, q.cells [.int .i64 0])]) (fun q => q.M) (fun q => l.length - q.css.length) (Fill.start M RInt 1 l) ⟨⟨⟨rfl, rfl, rfl, trivial⟩, ⟨rfl, trivial⟩, rfl, rfl⟩, rfl⟩ ?_
  intro q
  have h := h.mono q.le (RInt.mono q.le)
  (conv => whnf)
  refine CondK.mk (fun h1 => ?_) (fun h1 => ?_)
  · have hlt : q.css.length < l.length := by simpa using h1
    have hx := List.getElem?_eq_getElem hlt
    obtain ⟨ad, rfl, bnx, x0⟩ := at_Int h hx
    repeat' ((conv => whnf); first | with_reducible refine CondK.tt ?_ | with_reducible refine CondK.ff ?_ | with_reducible refine CondK.not ?_ | refine LdK.mk _ (by assumption) ?_ | refine IdxK.mk _ rfl (by omega) (by omega) ?_ | refine DrawN.q (by kernel_rfl) ?_ | refine IdxA.mk (q.css.length * 1) rfl (by omega) (by omega) ?_ | exact rfl)
    have hs := q.store (Le.refl _) (fun _ _ h => h) hx rfl rfl (Z := [.int .i64 0]) rfl
    have hroom := q.room1 (Z := [.int .i64 0]) rfl hlt
    refine Owe.mk hroom ?_
    (conv => whnf)
    exact ⟨q.step (Le.refl _) (fun _ _ h => h) hx rfl rfl, ⟨⟨rfl, rfl, look_int ((i64_succ (by omega)).trans (by simp [Fill.step])), trivial⟩, ⟨congrArg some hs, trivial⟩, rfl, rfl⟩, rfl, by simp [Fill.step]; omega⟩
  · refine RetK.mk fun g M' hl hg => ⟨_, _, rfl, ?_⟩
    exact q.done (Z := [.int .i64 0]) (by simpa using h1) (RInt.mono hl) (hg 0 _ rfl) h.1
theorem eqPg_a (M : Mem) (x : GPg) : Ans Try.prog M 36 #[.agg #[.int .i64 x.Pool, .int .i64 x.No], .agg #[.int .i64 x.Pool, .int .i64 x.No]] (.bool true) := by
  refine ans_of T (l := [.agg #[.int .i64 x.Pool, .int .i64 x.No], .agg #[.int .i64 x.Pool, .int .i64 x.No]]) mixed Try.func36 rfl (by kernel_rfl) (Nat.le_of_ble_eq_true rfl) ?_
  repeat' ((conv => whnf); first | with_reducible refine CondK.tt ?_ | with_reducible refine CondK.ff ?_ | with_reducible refine CondK.not ?_ | (refine CondK.no' ?_ ?_; focus (simp; done)) | (refine CondK.yes' ?_ ?_; focus (simp; done)) | exact rfl)
theorem toPg_a (M : Mem) (x : GPg) : Ans Try.prog M 91 #[.agg #[.int .i64 x.Pool, .int .i64 x.No]] (.agg #[.int .i64 x.Pool, .int .i64 x.No]) := by
  refine ans_of T (l := [.agg #[.int .i64 x.Pool, .int .i64 x.No]]) mixed Try.func91 rfl (by kernel_rfl) (Nat.le_of_ble_eq_true rfl) ?_
  repeat' ((conv => whnf); first | with_reducible refine CondK.tt ?_ | with_reducible refine CondK.ff ?_ | with_reducible refine CondK.not ?_ | exact rfl)
theorem eqVer_a (M : Mem) (x : GVer) : Ans Try.prog M 94 #[.agg #[.int .i64 x.Epoch, .int .i64 x.Seq], .agg #[.int .i64 x.Epoch, .int .i64 x.Seq]] (.bool true) := by
  refine ans_of T (l := [.agg #[.int .i64 x.Epoch, .int .i64 x.Seq], .agg #[.int .i64 x.Epoch, .int .i64 x.Seq]]) mixed Try.func94 rfl (by kernel_rfl) (Nat.le_of_ble_eq_true rfl) ?_
  repeat' ((conv => whnf); first | with_reducible refine CondK.tt ?_ | with_reducible refine CondK.ff ?_ | with_reducible refine CondK.not ?_ | (refine CondK.no' ?_ ?_; focus (simp; done)) | (refine CondK.yes' ?_ ?_; focus (simp; done)) | exact rfl)
theorem toVer_a (M : Mem) (x : GVer) : Ans Try.prog M 103 #[.agg #[.int .i64 x.Epoch, .int .i64 x.Seq]] (.agg #[.int .i64 x.Epoch, .int .i64 x.Seq]) := by
  refine ans_of T (l := [.agg #[.int .i64 x.Epoch, .int .i64 x.Seq]]) mixed Try.func103 rfl (by kernel_rfl) (Nat.le_of_ble_eq_true rfl) ?_
  repeat' ((conv => whnf); first | with_reducible refine CondK.tt ?_ | with_reducible refine CondK.ff ?_ | with_reducible refine CondK.not ?_ | exact rfl)
theorem eqReq_a (M : Mem) (x : GReq) : Ans Try.prog M 95 #[.agg #[.int .i64 x.Client, .int .i64 x.No], .agg #[.int .i64 x.Client, .int .i64 x.No]] (.bool true) := by
  refine ans_of T (l := [.agg #[.int .i64 x.Client, .int .i64 x.No], .agg #[.int .i64 x.Client, .int .i64 x.No]]) mixed Try.func95 rfl (by kernel_rfl) (Nat.le_of_ble_eq_true rfl) ?_
  repeat' ((conv => whnf); first | with_reducible refine CondK.tt ?_ | with_reducible refine CondK.ff ?_ | with_reducible refine CondK.not ?_ | (refine CondK.no' ?_ ?_; focus (simp; done)) | (refine CondK.yes' ?_ ?_; focus (simp; done)) | exact rfl)
theorem toReq_a (M : Mem) (x : GReq) : Ans Try.prog M 155 #[.agg #[.int .i64 x.Client, .int .i64 x.No]] (.agg #[.int .i64 x.Client, .int .i64 x.No]) := by
  refine ans_of T (l := [.agg #[.int .i64 x.Client, .int .i64 x.No]]) mixed Try.func155 rfl (by kernel_rfl) (Nat.le_of_ble_eq_true rfl) ?_
  repeat' ((conv => whnf); first | with_reducible refine CondK.tt ?_ | with_reducible refine CondK.ff ?_ | with_reducible refine CondK.not ?_ | exact rfl)
theorem eqEntry_a (M : Mem) (x : GEntry) : Ans Try.prog M 37 #[.agg #[.int .i64 x.Ver.Epoch, .int .i64 x.Ver.Seq, .int .i64 x.Prior.Epoch, .int .i64 x.Prior.Seq, .string x.Name, .bool x.Gone, .int .i64 x.Size, .int .i64 x.Sum, .int .i64 x.Req.Client, .int .i64 x.Req.No], .agg #[.int .i64 x.Ver.Epoch, .int .i64 x.Ver.Seq, .int .i64 x.Prior.Epoch, .int .i64 x.Prior.Seq, .string x.Name, .bool x.Gone, .int .i64 x.Size, .int .i64 x.Sum, .int .i64 x.Req.Client, .int .i64 x.Req.No]] (.bool true) := by
  refine ans_of T (l := [.agg #[.int .i64 x.Ver.Epoch, .int .i64 x.Ver.Seq, .int .i64 x.Prior.Epoch, .int .i64 x.Prior.Seq, .string x.Name, .bool x.Gone, .int .i64 x.Size, .int .i64 x.Sum, .int .i64 x.Req.Client, .int .i64 x.Req.No], .agg #[.int .i64 x.Ver.Epoch, .int .i64 x.Ver.Seq, .int .i64 x.Prior.Epoch, .int .i64 x.Prior.Seq, .string x.Name, .bool x.Gone, .int .i64 x.Size, .int .i64 x.Sum, .int .i64 x.Req.Client, .int .i64 x.Req.No]]) mixed Try.func37 rfl (by kernel_rfl) (Nat.le_of_ble_eq_true rfl) ?_
  repeat' ((conv => whnf); first | with_reducible refine CondK.tt ?_ | with_reducible refine CondK.ff ?_ | with_reducible refine CondK.not ?_ | refine CallK.mk _ (eqVer_a M _) ?_ | refine CallQ.mk _ (eqVer_a M _) ?_ | refine CallK.mk _ (eqVer_a M _) ?_ | refine CallQ.mk _ (eqVer_a M _) ?_ | refine CallK.mk _ (eqReq_a M _) ?_ | refine CallQ.mk _ (eqReq_a M _) ?_ | (refine CondK.no' ?_ ?_; focus (simp; done)) | (refine CondK.yes' ?_ ?_; focus (simp; done)) | exact rfl)
def szEntry (x : GEntry) (left : Int) : Int := szT (szSub (left) x.Name.size) fun left => left
theorem szEntry_a (M : Mem) (x : GEntry) (left : Int) : Ans Try.prog M 90 #[.agg #[.int .i64 x.Ver.Epoch, .int .i64 x.Ver.Seq, .int .i64 x.Prior.Epoch, .int .i64 x.Prior.Seq, .string x.Name, .bool x.Gone, .int .i64 x.Size, .int .i64 x.Sum, .int .i64 x.Req.Client, .int .i64 x.Req.No], .int .i64 left] (.int .i64 (szEntry x left)) := by
  refine ans_of T (l := [.agg #[.int .i64 x.Ver.Epoch, .int .i64 x.Ver.Seq, .int .i64 x.Prior.Epoch, .int .i64 x.Prior.Seq, .string x.Name, .bool x.Gone, .int .i64 x.Size, .int .i64 x.Sum, .int .i64 x.Req.Client, .int .i64 x.Req.No], .int .i64 left]) mixed Try.func90 rfl (by kernel_rfl) (Nat.le_of_ble_eq_true rfl) ?_
  repeat' ((conv => whnf); first | with_reducible refine CondK.tt ?_ | with_reducible refine CondK.ff ?_ | with_reducible refine CondK.not ?_ | refine CondK.mk (fun h => ?_) (fun h => ?_) | exact rfl)
  all_goals refine ret_int ?_
  all_goals (simp only [decide_eq_true_eq, decide_eq_false_iff_not] at *)
  all_goals first | (simp [szEntry, szT, szSub, *]; done) | (unfold szEntry szT szSub; simp [*]; done) | grind [szEntry, szT, szSub]
theorem szEntry_ok {M : Mem} {x : GEntry} {cs : List Value} (hr : REntry M x cs) {left : Int} (h0 : 0 ≤ left) (h1 : left ≤ 1048576) (h : 0 ≤ szEntry x left) : True ∧ szEntry x left ≤ 1048576 := by
  obtain ⟨rfl, hb⟩ := hr
  unfold szEntry at h ⊢
  obtain ⟨p2, h', e2⟩ := szT_ok h
  replace h := h'
  rw [e2]
  have q2 := szSub_ok h0 h1 (by simp_all) p2
  exact ⟨trivial, q2.2⟩
theorem toEntry_a (M : Mem) (x : GEntry) : Ans Try.prog M 92 #[.agg #[.int .i64 x.Ver.Epoch, .int .i64 x.Ver.Seq, .int .i64 x.Prior.Epoch, .int .i64 x.Prior.Seq, .string x.Name, .bool x.Gone, .int .i64 x.Size, .int .i64 x.Sum, .int .i64 x.Req.Client, .int .i64 x.Req.No]] (.agg #[.int .i64 x.Ver.Epoch, .int .i64 x.Ver.Seq, .int .i64 x.Prior.Epoch, .int .i64 x.Prior.Seq, .string x.Name, .bool x.Gone, .int .i64 x.Size, .int .i64 x.Sum, .int .i64 x.Req.Client, .int .i64 x.Req.No]) := by
  refine ans_of T (l := [.agg #[.int .i64 x.Ver.Epoch, .int .i64 x.Ver.Seq, .int .i64 x.Prior.Epoch, .int .i64 x.Prior.Seq, .string x.Name, .bool x.Gone, .int .i64 x.Size, .int .i64 x.Sum, .int .i64 x.Req.Client, .int .i64 x.Req.No]]) mixed Try.func92 rfl (by kernel_rfl) (Nat.le_of_ble_eq_true rfl) ?_
  repeat' ((conv => whnf); first | with_reducible refine CondK.tt ?_ | with_reducible refine CondK.ff ?_ | with_reducible refine CondK.not ?_ | refine CallK.mk _ (toVer_a M _) ?_ | refine CallQ.mk _ (toVer_a M _) ?_ | refine CallK.mk _ (toVer_a M _) ?_ | refine CallQ.mk _ (toVer_a M _) ?_ | refine CallK.mk _ (toReq_a M _) ?_ | refine CallQ.mk _ (toReq_a M _) ?_ | exact rfl)
theorem eqEntryS_a (M : Mem) (l : List GEntry) (A A' : Option Addr) (c c' : Nat) (h : SlR M REntry 10 88 A l) (h' : SlR M REntry 10 88 A' l) : Ans Try.prog M 132 #[.slice A l.length c, .slice A' l.length c'] (.bool true) := by
  have hl := h.1
  refine ans_of T (l := [.slice A l.length c, .slice A' l.length c']) mixed Try.func132 rfl (by kernel_rfl) (Nat.le_of_ble_eq_true rfl) ?_
  (conv => whnf)
  refine CondK.mk (fun h1 => absurd h1 (by simp)) (fun _ => ?_)
  (conv => whnf)
  refine LoopK.mk {k : Nat // k ≤ l.length} (fun ⟨k, _⟩ => [(0, .v (.slice A l.length c)), (1, .v (.slice A' l.length c')), (5, .v (.int .i64 (k : Int)))]) (fun _ => []) (fun _ => M) (fun k => l.length - k.1) ⟨0, Nat.zero_le _⟩ ⟨⟨⟨rfl, rfl, rfl, trivial⟩, trivial, rfl, rfl⟩, rfl⟩ ?_
  rintro ⟨k, hk⟩
  (conv => whnf)
  refine CondK.mk (fun h1 => ?_) (fun h1 => ?_)
  · have hlt : k < l.length := by simpa using h1
    obtain ⟨ad, rfl, bnx, x0, x1, x2, x3, x4, x5, x6, x7, x8, x9⟩ := at_Entry h (List.getElem?_eq_getElem hlt)
    obtain ⟨ad', rfl, bny, y0, y1, y2, y3, y4, y5, y6, y7, y8, y9⟩ := at_Entry h' (List.getElem?_eq_getElem hlt)
    repeat' ((conv => whnf); first | with_reducible refine CondK.tt ?_ | with_reducible refine CondK.ff ?_ | with_reducible refine CondK.not ?_ | refine LdK.mk _ (by assumption) ?_ | refine IdxK.mk _ rfl (by omega) (by omega) ?_ | refine DrawN.q (by kernel_rfl) ?_ | refine CallK.mk _ (eqEntry_a M l[k]) ?_ | refine CallQ.mk _ (eqEntry_a M l[k]) ?_ | (refine CondK.no' ?_ ?_; focus (simp; done)) | (refine CondK.yes' ?_ ?_; focus (simp; done)) | exact rfl)
    exact ⟨⟨k + 1, hlt⟩, ⟨⟨rfl, rfl, look_int (i64_succ (by omega)), trivial⟩, trivial, rfl, rfl⟩, rfl, by simp; omega⟩
  · rfl
theorem szEntryS_a (M : Mem) (l : List GEntry) (left : Int) (A : Option Addr) (c : Nat) (h : SlR M REntry 10 88 A l) : Ans Try.prog M 114 #[.slice A l.length c, .int .i64 left] (.int .i64 (szL szEntry l left)) := by
  have hl := h.1
  refine ans_of T (l := [.slice A l.length c, .int .i64 left]) mixed Try.func114 rfl (by kernel_rfl) (Nat.le_of_ble_eq_true rfl) ?_
  (conv => whnf)
  refine CondK.mk (fun h1 => ?_) (fun h1 => ?_)
  · refine ret_int ?_
    rw [szL, if_pos (by simpa using h1)]
  have h2 : szL szEntry l left = szRun szEntry l (IntKind.i64.wrap (left - (l.length : Int))) := by rw [szL, if_neg (by simpa using h1)]
  rw [h2]
  clear h1 h2
  generalize IntKind.i64.wrap (left - (l.length : Int)) = n0
  (conv => whnf)
  refine LoopK.mk {p : Nat × Int // p.1 ≤ l.length ∧ szRun szEntry l n0 = szRun szEntry (l.drop p.1) p.2} (fun ⟨(k, n), _⟩ => [(0, .v (.slice A l.length c)), (1, .v (.int .i64 n)), (5, .v (.int .i64 (k : Int)))]) (fun _ => []) (fun _ => M) (fun p => l.length - p.1.1) ⟨(0, n0), Nat.zero_le _, rfl⟩ ⟨⟨⟨rfl, rfl, rfl, trivial⟩, trivial, rfl, rfl⟩, rfl⟩ ?_
  rintro ⟨⟨k, n⟩, hk, hn⟩
  (conv => whnf)
  refine CondK.mk (fun h1 => ?_) (fun h1 => ?_)
  · have hlt : k < l.length := by simpa using h1
    obtain ⟨ad, rfl, bnx, x0, x1, x2, x3, x4, x5, x6, x7, x8, x9⟩ := at_Entry h (List.getElem?_eq_getElem hlt)
    simp only [] at hn
    rw [szRun_step hlt] at hn
    repeat' ((conv => whnf); first | with_reducible refine CondK.tt ?_ | with_reducible refine CondK.ff ?_ | with_reducible refine CondK.not ?_ | refine LdK.mk _ (by assumption) ?_ | refine IdxK.mk _ rfl (by omega) (by omega) ?_ | refine DrawN.q (by kernel_rfl) ?_ | refine CallK.mk _ (szEntry_a M l[k] n) ?_ | refine CallQ.mk _ (szEntry_a M l[k] n) ?_ | refine CondK.mk (fun h => ?_) (fun h => ?_) | exact rfl)
    · refine ret_int ?_
      rw [hn, if_pos (by simpa using h)]
    · rw [if_neg (by simpa using h)] at hn
      exact ⟨⟨(k + 1, _), hlt, hn⟩, ⟨⟨rfl, rfl, look_int (i64_succ (by omega)), trivial⟩, trivial, rfl, rfl⟩, rfl, by simp; omega⟩
  · refine ret_int ?_
    simp only [] at hn
    rw [hn, List.drop_eq_nil_of_le (by simp at h1; omega)]
    rfl
theorem toEntryS_a (M : Mem) (l : List GEntry) (A : Option Addr) (c : Nat) (h : SlR M REntry 10 88 A l) (hsm : l.length ≤ 1048576 ∧ ∀ y ∈ l, True) : AnsR Try.prog M 120 #[.slice A l.length c] (fun M' v => ∃ A' c', v = .slice A' l.length c' ∧ SlR M' REntry 10 88 A' l) := by
  have hl := hsm.1
  refine ansR_of T (l := [.slice A l.length c]) mixed Try.func120 rfl (by kernel_rfl) (Nat.le_of_ble_eq_true rfl) ?_
  (conv => whnf)
  refine MkK.mk rfl (by omega) (by omega) (by show ((88 : Nat) : Int) * (l.length : Int) ≤ _; omega) ?_
  (conv => whnf)
  refine LoopK.mk (Fill M REntry 10 l) (fun q => [(0, .v (.slice A l.length c)), (3, .s 0 l.length l.length 10), (4, .v (.int .i64 (q.css.length : Int)))]) (fun q => [(0, q.cells [.int .i64 0, .int .i64 0, .int .i64 0, .int .i64 0, .string ⟨#[]⟩, .bool false, .int .i64 0, .int .i64 0, .int .i64 0, .int .i64 0])]) (fun q => q.M) (fun q => l.length - q.css.length) (Fill.start M REntry 10 l) ⟨⟨⟨rfl, rfl, rfl, trivial⟩, ⟨rfl, trivial⟩, rfl, rfl⟩, rfl⟩ ?_
  intro q
  have h := h.mono q.le (REntry.mono q.le)
  (conv => whnf)
  refine CondK.mk (fun h1 => ?_) (fun h1 => ?_)
  · have hlt : q.css.length < l.length := by simpa using h1
    have hx := List.getElem?_eq_getElem hlt
    obtain ⟨ad, rfl, bnx, x0, x1, x2, x3, x4, x5, x6, x7, x8, x9⟩ := at_Entry h hx
    repeat' ((conv => whnf); first | with_reducible refine CondK.tt ?_ | with_reducible refine CondK.ff ?_ | with_reducible refine CondK.not ?_ | refine LdK.mk _ (by assumption) ?_ | refine IdxK.mk _ rfl (by omega) (by omega) ?_ | refine DrawN.q (by kernel_rfl) ?_ | refine IdxA.mk (q.css.length * 10) rfl (by omega) (by omega) ?_ | refine CallK.mk _ (toEntry_a _ l[q.css.length]) ?_ | refine CallQ.mk _ (toEntry_a _ l[q.css.length]) ?_ | exact rfl)
    have hs := q.store (Le.refl _) (fun _ _ h => h) hx ⟨rfl, bnx⟩ rfl (Z := [.int .i64 0, .int .i64 0, .int .i64 0, .int .i64 0, .string ⟨#[]⟩, .bool false, .int .i64 0, .int .i64 0, .int .i64 0, .int .i64 0]) rfl
    have hroom := q.room1 (Z := [.int .i64 0, .int .i64 0, .int .i64 0, .int .i64 0, .string ⟨#[]⟩, .bool false, .int .i64 0, .int .i64 0, .int .i64 0, .int .i64 0]) rfl hlt
    refine Owe.mk hroom ?_
    (conv => whnf)
    exact ⟨q.step (Le.refl _) (fun _ _ h => h) hx ⟨rfl, bnx⟩ rfl, ⟨⟨rfl, rfl, look_int ((i64_succ (by omega)).trans (by simp [Fill.step])), trivial⟩, ⟨congrArg some hs, trivial⟩, rfl, rfl⟩, rfl, by simp [Fill.step]; omega⟩
  · refine RetK.mk fun g M' hl hg => ⟨_, _, rfl, ?_⟩
    exact q.done (Z := [.int .i64 0, .int .i64 0, .int .i64 0, .int .i64 0, .string ⟨#[]⟩, .bool false, .int .i64 0, .int .i64 0, .int .i64 0, .int .i64 0]) (by simpa using h1) (REntry.mono hl) (hg 0 _ rfl) h.1
theorem eqMade_a (M : Mem) (x : GMade) : Ans Try.prog M 11 #[.agg #[.int .i64 x.Pg.Pool, .int .i64 x.Pg.No, .int .i64 x.Entry.Ver.Epoch, .int .i64 x.Entry.Ver.Seq, .int .i64 x.Entry.Prior.Epoch, .int .i64 x.Entry.Prior.Seq, .string x.Entry.Name, .bool x.Entry.Gone, .int .i64 x.Entry.Size, .int .i64 x.Entry.Sum, .int .i64 x.Entry.Req.Client, .int .i64 x.Entry.Req.No, .string x.Body], .agg #[.int .i64 x.Pg.Pool, .int .i64 x.Pg.No, .int .i64 x.Entry.Ver.Epoch, .int .i64 x.Entry.Ver.Seq, .int .i64 x.Entry.Prior.Epoch, .int .i64 x.Entry.Prior.Seq, .string x.Entry.Name, .bool x.Entry.Gone, .int .i64 x.Entry.Size, .int .i64 x.Entry.Sum, .int .i64 x.Entry.Req.Client, .int .i64 x.Entry.Req.No, .string x.Body]] (.bool true) := by
  refine ans_of T (l := [.agg #[.int .i64 x.Pg.Pool, .int .i64 x.Pg.No, .int .i64 x.Entry.Ver.Epoch, .int .i64 x.Entry.Ver.Seq, .int .i64 x.Entry.Prior.Epoch, .int .i64 x.Entry.Prior.Seq, .string x.Entry.Name, .bool x.Entry.Gone, .int .i64 x.Entry.Size, .int .i64 x.Entry.Sum, .int .i64 x.Entry.Req.Client, .int .i64 x.Entry.Req.No, .string x.Body], .agg #[.int .i64 x.Pg.Pool, .int .i64 x.Pg.No, .int .i64 x.Entry.Ver.Epoch, .int .i64 x.Entry.Ver.Seq, .int .i64 x.Entry.Prior.Epoch, .int .i64 x.Entry.Prior.Seq, .string x.Entry.Name, .bool x.Entry.Gone, .int .i64 x.Entry.Size, .int .i64 x.Entry.Sum, .int .i64 x.Entry.Req.Client, .int .i64 x.Entry.Req.No, .string x.Body]]) mixed Try.func11 rfl (by kernel_rfl) (Nat.le_of_ble_eq_true rfl) ?_
  repeat' ((conv => whnf); first | with_reducible refine CondK.tt ?_ | with_reducible refine CondK.ff ?_ | with_reducible refine CondK.not ?_ | refine CallK.mk _ (eqPg_a M _) ?_ | refine CallQ.mk _ (eqPg_a M _) ?_ | refine CallK.mk _ (eqEntry_a M _) ?_ | refine CallQ.mk _ (eqEntry_a M _) ?_ | (refine CondK.no' ?_ ?_; focus (simp; done)) | (refine CondK.yes' ?_ ?_; focus (simp; done)) | exact rfl)
def szMade (x : GMade) (left : Int) : Int := szT (szEntry x.Entry (left)) fun left => szT (szSub (left) x.Body.size) fun left => left
theorem szMade_a (M : Mem) (x : GMade) (left : Int) : Ans Try.prog M 32 #[.agg #[.int .i64 x.Pg.Pool, .int .i64 x.Pg.No, .int .i64 x.Entry.Ver.Epoch, .int .i64 x.Entry.Ver.Seq, .int .i64 x.Entry.Prior.Epoch, .int .i64 x.Entry.Prior.Seq, .string x.Entry.Name, .bool x.Entry.Gone, .int .i64 x.Entry.Size, .int .i64 x.Entry.Sum, .int .i64 x.Entry.Req.Client, .int .i64 x.Entry.Req.No, .string x.Body], .int .i64 left] (.int .i64 (szMade x left)) := by
  refine ans_of T (l := [.agg #[.int .i64 x.Pg.Pool, .int .i64 x.Pg.No, .int .i64 x.Entry.Ver.Epoch, .int .i64 x.Entry.Ver.Seq, .int .i64 x.Entry.Prior.Epoch, .int .i64 x.Entry.Prior.Seq, .string x.Entry.Name, .bool x.Entry.Gone, .int .i64 x.Entry.Size, .int .i64 x.Entry.Sum, .int .i64 x.Entry.Req.Client, .int .i64 x.Entry.Req.No, .string x.Body], .int .i64 left]) mixed Try.func32 rfl (by kernel_rfl) (Nat.le_of_ble_eq_true rfl) ?_
  repeat' ((conv => whnf); first | with_reducible refine CondK.tt ?_ | with_reducible refine CondK.ff ?_ | with_reducible refine CondK.not ?_ | refine CallK.mk _ (szEntry_a M x.Entry _) ?_ | refine CallQ.mk _ (szEntry_a M x.Entry _) ?_ | refine CondK.mk (fun h => ?_) (fun h => ?_) | exact rfl)
  all_goals refine ret_int ?_
  all_goals (simp only [decide_eq_true_eq, decide_eq_false_iff_not] at *)
  all_goals first | (simp [szMade, szT, szSub, *]; done) | (unfold szMade szT szSub; simp [*]; done) | grind [szMade, szT, szSub]
theorem szMade_ok {M : Mem} {x : GMade} {cs : List Value} (hr : RMade M x cs) {left : Int} (h0 : 0 ≤ left) (h1 : left ≤ 1048576) (h : 0 ≤ szMade x left) : True ∧ szMade x left ≤ 1048576 := by
  obtain ⟨rfl, hb⟩ := hr
  unfold szMade at h ⊢
  obtain ⟨p1, h', e1⟩ := szT_ok h
  replace h := h'
  rw [e1]
  have q1 := szEntry_ok (show REntry M x.Entry _ from ⟨rfl, (by simp_all)⟩) h0 h1 p1
  obtain ⟨p2, h', e2⟩ := szT_ok h
  replace h := h'
  rw [e2]
  have q2 := szSub_ok p1 q1.2 (by simp_all) p2
  exact ⟨trivial, q2.2⟩
theorem toMade_a (M : Mem) (x : GMade) : Ans Try.prog M 34 #[.agg #[.int .i64 x.Pg.Pool, .int .i64 x.Pg.No, .int .i64 x.Entry.Ver.Epoch, .int .i64 x.Entry.Ver.Seq, .int .i64 x.Entry.Prior.Epoch, .int .i64 x.Entry.Prior.Seq, .string x.Entry.Name, .bool x.Entry.Gone, .int .i64 x.Entry.Size, .int .i64 x.Entry.Sum, .int .i64 x.Entry.Req.Client, .int .i64 x.Entry.Req.No, .string x.Body]] (.agg #[.int .i64 x.Pg.Pool, .int .i64 x.Pg.No, .int .i64 x.Entry.Ver.Epoch, .int .i64 x.Entry.Ver.Seq, .int .i64 x.Entry.Prior.Epoch, .int .i64 x.Entry.Prior.Seq, .string x.Entry.Name, .bool x.Entry.Gone, .int .i64 x.Entry.Size, .int .i64 x.Entry.Sum, .int .i64 x.Entry.Req.Client, .int .i64 x.Entry.Req.No, .string x.Body]) := by
  refine ans_of T (l := [.agg #[.int .i64 x.Pg.Pool, .int .i64 x.Pg.No, .int .i64 x.Entry.Ver.Epoch, .int .i64 x.Entry.Ver.Seq, .int .i64 x.Entry.Prior.Epoch, .int .i64 x.Entry.Prior.Seq, .string x.Entry.Name, .bool x.Entry.Gone, .int .i64 x.Entry.Size, .int .i64 x.Entry.Sum, .int .i64 x.Entry.Req.Client, .int .i64 x.Entry.Req.No, .string x.Body]]) mixed Try.func34 rfl (by kernel_rfl) (Nat.le_of_ble_eq_true rfl) ?_
  repeat' ((conv => whnf); first | with_reducible refine CondK.tt ?_ | with_reducible refine CondK.ff ?_ | with_reducible refine CondK.not ?_ | refine CallK.mk _ (toPg_a M _) ?_ | refine CallQ.mk _ (toPg_a M _) ?_ | refine CallK.mk _ (toEntry_a M _) ?_ | refine CallQ.mk _ (toEntry_a M _) ?_ | exact rfl)
theorem eqMadeS_a (M : Mem) (l : List GMade) (A A' : Option Addr) (c c' : Nat) (h : SlR M RMade 13 120 A l) (h' : SlR M RMade 13 120 A' l) : Ans Try.prog M 12 #[.slice A l.length c, .slice A' l.length c'] (.bool true) := by
  have hl := h.1
  refine ans_of T (l := [.slice A l.length c, .slice A' l.length c']) mixed Try.func12 rfl (by kernel_rfl) (Nat.le_of_ble_eq_true rfl) ?_
  (conv => whnf)
  refine CondK.mk (fun h1 => absurd h1 (by simp)) (fun _ => ?_)
  (conv => whnf)
  refine LoopK.mk {k : Nat // k ≤ l.length} (fun ⟨k, _⟩ => [(0, .v (.slice A l.length c)), (1, .v (.slice A' l.length c')), (5, .v (.int .i64 (k : Int)))]) (fun _ => []) (fun _ => M) (fun k => l.length - k.1) ⟨0, Nat.zero_le _⟩ ⟨⟨⟨rfl, rfl, rfl, trivial⟩, trivial, rfl, rfl⟩, rfl⟩ ?_
  rintro ⟨k, hk⟩
  (conv => whnf)
  refine CondK.mk (fun h1 => ?_) (fun h1 => ?_)
  · have hlt : k < l.length := by simpa using h1
    obtain ⟨ad, rfl, bnx, x0, x1, x2, x3, x4, x5, x6, x7, x8, x9, x10, x11, x12⟩ := at_Made h (List.getElem?_eq_getElem hlt)
    obtain ⟨ad', rfl, bny, y0, y1, y2, y3, y4, y5, y6, y7, y8, y9, y10, y11, y12⟩ := at_Made h' (List.getElem?_eq_getElem hlt)
    repeat' ((conv => whnf); first | with_reducible refine CondK.tt ?_ | with_reducible refine CondK.ff ?_ | with_reducible refine CondK.not ?_ | refine LdK.mk _ (by assumption) ?_ | refine IdxK.mk _ rfl (by omega) (by omega) ?_ | refine DrawN.q (by kernel_rfl) ?_ | refine CallK.mk _ (eqMade_a M l[k]) ?_ | refine CallQ.mk _ (eqMade_a M l[k]) ?_ | (refine CondK.no' ?_ ?_; focus (simp; done)) | (refine CondK.yes' ?_ ?_; focus (simp; done)) | exact rfl)
    exact ⟨⟨k + 1, hlt⟩, ⟨⟨rfl, rfl, look_int (i64_succ (by omega)), trivial⟩, trivial, rfl, rfl⟩, rfl, by simp; omega⟩
  · rfl
theorem szMadeS_a (M : Mem) (l : List GMade) (left : Int) (A : Option Addr) (c : Nat) (h : SlR M RMade 13 120 A l) : Ans Try.prog M 7 #[.slice A l.length c, .int .i64 left] (.int .i64 (szL szMade l left)) := by
  have hl := h.1
  refine ans_of T (l := [.slice A l.length c, .int .i64 left]) mixed Try.func7 rfl (by kernel_rfl) (Nat.le_of_ble_eq_true rfl) ?_
  (conv => whnf)
  refine CondK.mk (fun h1 => ?_) (fun h1 => ?_)
  · refine ret_int ?_
    rw [szL, if_pos (by simpa using h1)]
  have h2 : szL szMade l left = szRun szMade l (IntKind.i64.wrap (left - (l.length : Int))) := by rw [szL, if_neg (by simpa using h1)]
  rw [h2]
  clear h1 h2
  generalize IntKind.i64.wrap (left - (l.length : Int)) = n0
  (conv => whnf)
  refine LoopK.mk {p : Nat × Int // p.1 ≤ l.length ∧ szRun szMade l n0 = szRun szMade (l.drop p.1) p.2} (fun ⟨(k, n), _⟩ => [(0, .v (.slice A l.length c)), (1, .v (.int .i64 n)), (5, .v (.int .i64 (k : Int)))]) (fun _ => []) (fun _ => M) (fun p => l.length - p.1.1) ⟨(0, n0), Nat.zero_le _, rfl⟩ ⟨⟨⟨rfl, rfl, rfl, trivial⟩, trivial, rfl, rfl⟩, rfl⟩ ?_
  rintro ⟨⟨k, n⟩, hk, hn⟩
  (conv => whnf)
  refine CondK.mk (fun h1 => ?_) (fun h1 => ?_)
  · have hlt : k < l.length := by simpa using h1
    obtain ⟨ad, rfl, bnx, x0, x1, x2, x3, x4, x5, x6, x7, x8, x9, x10, x11, x12⟩ := at_Made h (List.getElem?_eq_getElem hlt)
    simp only [] at hn
    rw [szRun_step hlt] at hn
    repeat' ((conv => whnf); first | with_reducible refine CondK.tt ?_ | with_reducible refine CondK.ff ?_ | with_reducible refine CondK.not ?_ | refine LdK.mk _ (by assumption) ?_ | refine IdxK.mk _ rfl (by omega) (by omega) ?_ | refine DrawN.q (by kernel_rfl) ?_ | refine CallK.mk _ (szMade_a M l[k] n) ?_ | refine CallQ.mk _ (szMade_a M l[k] n) ?_ | refine CondK.mk (fun h => ?_) (fun h => ?_) | exact rfl)
    · refine ret_int ?_
      rw [hn, if_pos (by simpa using h)]
    · rw [if_neg (by simpa using h)] at hn
      exact ⟨⟨(k + 1, _), hlt, hn⟩, ⟨⟨rfl, rfl, look_int (i64_succ (by omega)), trivial⟩, trivial, rfl, rfl⟩, rfl, by simp; omega⟩
  · refine ret_int ?_
    simp only [] at hn
    rw [hn, List.drop_eq_nil_of_le (by simp at h1; omega)]
    rfl
theorem toMadeS_a (M : Mem) (l : List GMade) (A : Option Addr) (c : Nat) (h : SlR M RMade 13 120 A l) (hsm : l.length ≤ 1048576 ∧ ∀ y ∈ l, True) : AnsR Try.prog M 9 #[.slice A l.length c] (fun M' v => ∃ A' c', v = .slice A' l.length c' ∧ SlR M' RMade 13 120 A' l) := by
  have hl := hsm.1
  refine ansR_of T (l := [.slice A l.length c]) mixed Try.func9 rfl (by kernel_rfl) (Nat.le_of_ble_eq_true rfl) ?_
  (conv => whnf)
  refine MkK.mk rfl (by omega) (by omega) (by show ((120 : Nat) : Int) * (l.length : Int) ≤ _; omega) ?_
  (conv => whnf)
  refine LoopK.mk (Fill M RMade 13 l) (fun q => [(0, .v (.slice A l.length c)), (3, .s 0 l.length l.length 13), (4, .v (.int .i64 (q.css.length : Int)))]) (fun q => [(0, q.cells [.int .i64 0, .int .i64 0, .int .i64 0, .int .i64 0, .int .i64 0, .int .i64 0, .string ⟨#[]⟩, .bool false, .int .i64 0, .int .i64 0, .int .i64 0, .int .i64 0, .string ⟨#[]⟩])]) (fun q => q.M) (fun q => l.length - q.css.length) (Fill.start M RMade 13 l) ⟨⟨⟨rfl, rfl, rfl, trivial⟩, ⟨rfl, trivial⟩, rfl, rfl⟩, rfl⟩ ?_
  intro q
  have h := h.mono q.le (RMade.mono q.le)
  (conv => whnf)
  refine CondK.mk (fun h1 => ?_) (fun h1 => ?_)
  · have hlt : q.css.length < l.length := by simpa using h1
    have hx := List.getElem?_eq_getElem hlt
    obtain ⟨ad, rfl, bnx, x0, x1, x2, x3, x4, x5, x6, x7, x8, x9, x10, x11, x12⟩ := at_Made h hx
    repeat' ((conv => whnf); first | with_reducible refine CondK.tt ?_ | with_reducible refine CondK.ff ?_ | with_reducible refine CondK.not ?_ | refine LdK.mk _ (by assumption) ?_ | refine IdxK.mk _ rfl (by omega) (by omega) ?_ | refine DrawN.q (by kernel_rfl) ?_ | refine IdxA.mk (q.css.length * 13) rfl (by omega) (by omega) ?_ | refine CallK.mk _ (toMade_a _ l[q.css.length]) ?_ | refine CallQ.mk _ (toMade_a _ l[q.css.length]) ?_ | exact rfl)
    have hs := q.store (Le.refl _) (fun _ _ h => h) hx ⟨rfl, bnx⟩ rfl (Z := [.int .i64 0, .int .i64 0, .int .i64 0, .int .i64 0, .int .i64 0, .int .i64 0, .string ⟨#[]⟩, .bool false, .int .i64 0, .int .i64 0, .int .i64 0, .int .i64 0, .string ⟨#[]⟩]) rfl
    have hroom := q.room1 (Z := [.int .i64 0, .int .i64 0, .int .i64 0, .int .i64 0, .int .i64 0, .int .i64 0, .string ⟨#[]⟩, .bool false, .int .i64 0, .int .i64 0, .int .i64 0, .int .i64 0, .string ⟨#[]⟩]) rfl hlt
    refine Owe.mk hroom ?_
    (conv => whnf)
    exact ⟨q.step (Le.refl _) (fun _ _ h => h) hx ⟨rfl, bnx⟩ rfl, ⟨⟨rfl, rfl, look_int ((i64_succ (by omega)).trans (by simp [Fill.step])), trivial⟩, ⟨congrArg some hs, trivial⟩, rfl, rfl⟩, rfl, by simp [Fill.step]; omega⟩
  · refine RetK.mk fun g M' hl hg => ⟨_, _, rfl, ?_⟩
    exact q.done (Z := [.int .i64 0, .int .i64 0, .int .i64 0, .int .i64 0, .int .i64 0, .int .i64 0, .string ⟨#[]⟩, .bool false, .int .i64 0, .int .i64 0, .int .i64 0, .int .i64 0, .string ⟨#[]⟩]) (by simpa using h1) (RMade.mono hl) (hg 0 _ rfl) h.1
theorem eqCode_a (M : Mem) (x : GCode) : Ans Try.prog M 65 #[.agg #[.int .i64 x.K, .int .i64 x.M], .agg #[.int .i64 x.K, .int .i64 x.M]] (.bool true) := by
  refine ans_of T (l := [.agg #[.int .i64 x.K, .int .i64 x.M], .agg #[.int .i64 x.K, .int .i64 x.M]]) mixed Try.func65 rfl (by kernel_rfl) (Nat.le_of_ble_eq_true rfl) ?_
  repeat' ((conv => whnf); first | with_reducible refine CondK.tt ?_ | with_reducible refine CondK.ff ?_ | with_reducible refine CondK.not ?_ | (refine CondK.no' ?_ ?_; focus (simp; done)) | (refine CondK.yes' ?_ ?_; focus (simp; done)) | exact rfl)
theorem toCode_a (M : Mem) (x : GCode) : Ans Try.prog M 53 #[.agg #[.int .i64 x.K, .int .i64 x.M]] (.agg #[.int .i64 x.K, .int .i64 x.M]) := by
  refine ans_of T (l := [.agg #[.int .i64 x.K, .int .i64 x.M]]) mixed Try.func53 rfl (by kernel_rfl) (Nat.le_of_ble_eq_true rfl) ?_
  repeat' ((conv => whnf); first | with_reducible refine CondK.tt ?_ | with_reducible refine CondK.ff ?_ | with_reducible refine CondK.not ?_ | exact rfl)
theorem eqHead_a (M : Mem) (x : GHead) : Ans Try.prog M 173 #[.agg #[.string x.Name, .int .i64 x.Ver.Epoch, .int .i64 x.Ver.Seq, .int .i64 x.Size, .int .i64 x.Sum], .agg #[.string x.Name, .int .i64 x.Ver.Epoch, .int .i64 x.Ver.Seq, .int .i64 x.Size, .int .i64 x.Sum]] (.bool true) := by
  refine ans_of T (l := [.agg #[.string x.Name, .int .i64 x.Ver.Epoch, .int .i64 x.Ver.Seq, .int .i64 x.Size, .int .i64 x.Sum], .agg #[.string x.Name, .int .i64 x.Ver.Epoch, .int .i64 x.Ver.Seq, .int .i64 x.Size, .int .i64 x.Sum]]) mixed Try.func173 rfl (by kernel_rfl) (Nat.le_of_ble_eq_true rfl) ?_
  repeat' ((conv => whnf); first | with_reducible refine CondK.tt ?_ | with_reducible refine CondK.ff ?_ | with_reducible refine CondK.not ?_ | refine CallK.mk _ (eqVer_a M _) ?_ | refine CallQ.mk _ (eqVer_a M _) ?_ | (refine CondK.no' ?_ ?_; focus (simp; done)) | (refine CondK.yes' ?_ ?_; focus (simp; done)) | exact rfl)
def szHead (x : GHead) (left : Int) : Int := szT (szSub (left) x.Name.size) fun left => left
theorem szHead_a (M : Mem) (x : GHead) (left : Int) : Ans Try.prog M 166 #[.agg #[.string x.Name, .int .i64 x.Ver.Epoch, .int .i64 x.Ver.Seq, .int .i64 x.Size, .int .i64 x.Sum], .int .i64 left] (.int .i64 (szHead x left)) := by
  refine ans_of T (l := [.agg #[.string x.Name, .int .i64 x.Ver.Epoch, .int .i64 x.Ver.Seq, .int .i64 x.Size, .int .i64 x.Sum], .int .i64 left]) mixed Try.func166 rfl (by kernel_rfl) (Nat.le_of_ble_eq_true rfl) ?_
  repeat' ((conv => whnf); first | with_reducible refine CondK.tt ?_ | with_reducible refine CondK.ff ?_ | with_reducible refine CondK.not ?_ | refine CondK.mk (fun h => ?_) (fun h => ?_) | exact rfl)
  all_goals refine ret_int ?_
  all_goals (simp only [decide_eq_true_eq, decide_eq_false_iff_not] at *)
  all_goals first | (simp [szHead, szT, szSub, *]; done) | (unfold szHead szT szSub; simp [*]; done) | grind [szHead, szT, szSub]
theorem szHead_ok {M : Mem} {x : GHead} {cs : List Value} (hr : RHead M x cs) {left : Int} (h0 : 0 ≤ left) (h1 : left ≤ 1048576) (h : 0 ≤ szHead x left) : True ∧ szHead x left ≤ 1048576 := by
  obtain ⟨rfl, hb⟩ := hr
  unfold szHead at h ⊢
  obtain ⟨p0, h', e0⟩ := szT_ok h
  replace h := h'
  rw [e0]
  have q0 := szSub_ok h0 h1 (by simp_all) p0
  exact ⟨trivial, q0.2⟩
theorem toHead_a (M : Mem) (x : GHead) : Ans Try.prog M 169 #[.agg #[.string x.Name, .int .i64 x.Ver.Epoch, .int .i64 x.Ver.Seq, .int .i64 x.Size, .int .i64 x.Sum]] (.agg #[.string x.Name, .int .i64 x.Ver.Epoch, .int .i64 x.Ver.Seq, .int .i64 x.Size, .int .i64 x.Sum]) := by
  refine ans_of T (l := [.agg #[.string x.Name, .int .i64 x.Ver.Epoch, .int .i64 x.Ver.Seq, .int .i64 x.Size, .int .i64 x.Sum]]) mixed Try.func169 rfl (by kernel_rfl) (Nat.le_of_ble_eq_true rfl) ?_
  repeat' ((conv => whnf); first | with_reducible refine CondK.tt ?_ | with_reducible refine CondK.ff ?_ | with_reducible refine CondK.not ?_ | refine CallK.mk _ (toVer_a M _) ?_ | refine CallQ.mk _ (toVer_a M _) ?_ | exact rfl)
theorem eqHeadS_a (M : Mem) (l : List GHead) (A A' : Option Addr) (c c' : Nat) (h : SlR M RHead 5 48 A l) (h' : SlR M RHead 5 48 A' l) : Ans Try.prog M 130 #[.slice A l.length c, .slice A' l.length c'] (.bool true) := by
  have hl := h.1
  refine ans_of T (l := [.slice A l.length c, .slice A' l.length c']) mixed Try.func130 rfl (by kernel_rfl) (Nat.le_of_ble_eq_true rfl) ?_
  (conv => whnf)
  refine CondK.mk (fun h1 => absurd h1 (by simp)) (fun _ => ?_)
  (conv => whnf)
  refine LoopK.mk {k : Nat // k ≤ l.length} (fun ⟨k, _⟩ => [(0, .v (.slice A l.length c)), (1, .v (.slice A' l.length c')), (5, .v (.int .i64 (k : Int)))]) (fun _ => []) (fun _ => M) (fun k => l.length - k.1) ⟨0, Nat.zero_le _⟩ ⟨⟨⟨rfl, rfl, rfl, trivial⟩, trivial, rfl, rfl⟩, rfl⟩ ?_
  rintro ⟨k, hk⟩
  (conv => whnf)
  refine CondK.mk (fun h1 => ?_) (fun h1 => ?_)
  · have hlt : k < l.length := by simpa using h1
    obtain ⟨ad, rfl, bnx, x0, x1, x2, x3, x4⟩ := at_Head h (List.getElem?_eq_getElem hlt)
    obtain ⟨ad', rfl, bny, y0, y1, y2, y3, y4⟩ := at_Head h' (List.getElem?_eq_getElem hlt)
    repeat' ((conv => whnf); first | with_reducible refine CondK.tt ?_ | with_reducible refine CondK.ff ?_ | with_reducible refine CondK.not ?_ | refine LdK.mk _ (by assumption) ?_ | refine IdxK.mk _ rfl (by omega) (by omega) ?_ | refine DrawN.q (by kernel_rfl) ?_ | refine CallK.mk _ (eqHead_a M l[k]) ?_ | refine CallQ.mk _ (eqHead_a M l[k]) ?_ | (refine CondK.no' ?_ ?_; focus (simp; done)) | (refine CondK.yes' ?_ ?_; focus (simp; done)) | exact rfl)
    exact ⟨⟨k + 1, hlt⟩, ⟨⟨rfl, rfl, look_int (i64_succ (by omega)), trivial⟩, trivial, rfl, rfl⟩, rfl, by simp; omega⟩
  · rfl
theorem szHeadS_a (M : Mem) (l : List GHead) (left : Int) (A : Option Addr) (c : Nat) (h : SlR M RHead 5 48 A l) : Ans Try.prog M 112 #[.slice A l.length c, .int .i64 left] (.int .i64 (szL szHead l left)) := by
  have hl := h.1
  refine ans_of T (l := [.slice A l.length c, .int .i64 left]) mixed Try.func112 rfl (by kernel_rfl) (Nat.le_of_ble_eq_true rfl) ?_
  (conv => whnf)
  refine CondK.mk (fun h1 => ?_) (fun h1 => ?_)
  · refine ret_int ?_
    rw [szL, if_pos (by simpa using h1)]
  have h2 : szL szHead l left = szRun szHead l (IntKind.i64.wrap (left - (l.length : Int))) := by rw [szL, if_neg (by simpa using h1)]
  rw [h2]
  clear h1 h2
  generalize IntKind.i64.wrap (left - (l.length : Int)) = n0
  (conv => whnf)
  refine LoopK.mk {p : Nat × Int // p.1 ≤ l.length ∧ szRun szHead l n0 = szRun szHead (l.drop p.1) p.2} (fun ⟨(k, n), _⟩ => [(0, .v (.slice A l.length c)), (1, .v (.int .i64 n)), (5, .v (.int .i64 (k : Int)))]) (fun _ => []) (fun _ => M) (fun p => l.length - p.1.1) ⟨(0, n0), Nat.zero_le _, rfl⟩ ⟨⟨⟨rfl, rfl, rfl, trivial⟩, trivial, rfl, rfl⟩, rfl⟩ ?_
  rintro ⟨⟨k, n⟩, hk, hn⟩
  (conv => whnf)
  refine CondK.mk (fun h1 => ?_) (fun h1 => ?_)
  · have hlt : k < l.length := by simpa using h1
    obtain ⟨ad, rfl, bnx, x0, x1, x2, x3, x4⟩ := at_Head h (List.getElem?_eq_getElem hlt)
    simp only [] at hn
    rw [szRun_step hlt] at hn
    repeat' ((conv => whnf); first | with_reducible refine CondK.tt ?_ | with_reducible refine CondK.ff ?_ | with_reducible refine CondK.not ?_ | refine LdK.mk _ (by assumption) ?_ | refine IdxK.mk _ rfl (by omega) (by omega) ?_ | refine DrawN.q (by kernel_rfl) ?_ | refine CallK.mk _ (szHead_a M l[k] n) ?_ | refine CallQ.mk _ (szHead_a M l[k] n) ?_ | refine CondK.mk (fun h => ?_) (fun h => ?_) | exact rfl)
    · refine ret_int ?_
      rw [hn, if_pos (by simpa using h)]
    · rw [if_neg (by simpa using h)] at hn
      exact ⟨⟨(k + 1, _), hlt, hn⟩, ⟨⟨rfl, rfl, look_int (i64_succ (by omega)), trivial⟩, trivial, rfl, rfl⟩, rfl, by simp; omega⟩
  · refine ret_int ?_
    simp only [] at hn
    rw [hn, List.drop_eq_nil_of_le (by simp at h1; omega)]
    rfl
theorem toHeadS_a (M : Mem) (l : List GHead) (A : Option Addr) (c : Nat) (h : SlR M RHead 5 48 A l) (hsm : l.length ≤ 1048576 ∧ ∀ y ∈ l, True) : AnsR Try.prog M 118 #[.slice A l.length c] (fun M' v => ∃ A' c', v = .slice A' l.length c' ∧ SlR M' RHead 5 48 A' l) := by
  have hl := hsm.1
  refine ansR_of T (l := [.slice A l.length c]) mixed Try.func118 rfl (by kernel_rfl) (Nat.le_of_ble_eq_true rfl) ?_
  (conv => whnf)
  refine MkK.mk rfl (by omega) (by omega) (by show ((48 : Nat) : Int) * (l.length : Int) ≤ _; omega) ?_
  (conv => whnf)
  refine LoopK.mk (Fill M RHead 5 l) (fun q => [(0, .v (.slice A l.length c)), (3, .s 0 l.length l.length 5), (4, .v (.int .i64 (q.css.length : Int)))]) (fun q => [(0, q.cells [.string ⟨#[]⟩, .int .i64 0, .int .i64 0, .int .i64 0, .int .i64 0])]) (fun q => q.M) (fun q => l.length - q.css.length) (Fill.start M RHead 5 l) ⟨⟨⟨rfl, rfl, rfl, trivial⟩, ⟨rfl, trivial⟩, rfl, rfl⟩, rfl⟩ ?_
  intro q
  have h := h.mono q.le (RHead.mono q.le)
  (conv => whnf)
  refine CondK.mk (fun h1 => ?_) (fun h1 => ?_)
  · have hlt : q.css.length < l.length := by simpa using h1
    have hx := List.getElem?_eq_getElem hlt
    obtain ⟨ad, rfl, bnx, x0, x1, x2, x3, x4⟩ := at_Head h hx
    repeat' ((conv => whnf); first | with_reducible refine CondK.tt ?_ | with_reducible refine CondK.ff ?_ | with_reducible refine CondK.not ?_ | refine LdK.mk _ (by assumption) ?_ | refine IdxK.mk _ rfl (by omega) (by omega) ?_ | refine DrawN.q (by kernel_rfl) ?_ | refine IdxA.mk (q.css.length * 5) rfl (by omega) (by omega) ?_ | refine CallK.mk _ (toHead_a _ l[q.css.length]) ?_ | refine CallQ.mk _ (toHead_a _ l[q.css.length]) ?_ | exact rfl)
    have hs := q.store (Le.refl _) (fun _ _ h => h) hx ⟨rfl, bnx⟩ rfl (Z := [.string ⟨#[]⟩, .int .i64 0, .int .i64 0, .int .i64 0, .int .i64 0]) rfl
    have hroom := q.room1 (Z := [.string ⟨#[]⟩, .int .i64 0, .int .i64 0, .int .i64 0, .int .i64 0]) rfl hlt
    refine Owe.mk hroom ?_
    (conv => whnf)
    exact ⟨q.step (Le.refl _) (fun _ _ h => h) hx ⟨rfl, bnx⟩ rfl, ⟨⟨rfl, rfl, look_int ((i64_succ (by omega)).trans (by simp [Fill.step])), trivial⟩, ⟨congrArg some hs, trivial⟩, rfl, rfl⟩, rfl, by simp [Fill.step]; omega⟩
  · refine RetK.mk fun g M' hl hg => ⟨_, _, rfl, ?_⟩
    exact q.done (Z := [.string ⟨#[]⟩, .int .i64 0, .int .i64 0, .int .i64 0, .int .i64 0]) (by simpa using h1) (RHead.mono hl) (hg 0 _ rfl) h.1
theorem eqLast_a (M : Mem) (x : GLast) : Ans Try.prog M 174 #[.agg #[.int .i64 x.Client, .int .i64 x.No, .int .i64 x.Ver.Epoch, .int .i64 x.Ver.Seq], .agg #[.int .i64 x.Client, .int .i64 x.No, .int .i64 x.Ver.Epoch, .int .i64 x.Ver.Seq]] (.bool true) := by
  refine ans_of T (l := [.agg #[.int .i64 x.Client, .int .i64 x.No, .int .i64 x.Ver.Epoch, .int .i64 x.Ver.Seq], .agg #[.int .i64 x.Client, .int .i64 x.No, .int .i64 x.Ver.Epoch, .int .i64 x.Ver.Seq]]) mixed Try.func174 rfl (by kernel_rfl) (Nat.le_of_ble_eq_true rfl) ?_
  repeat' ((conv => whnf); first | with_reducible refine CondK.tt ?_ | with_reducible refine CondK.ff ?_ | with_reducible refine CondK.not ?_ | refine CallK.mk _ (eqVer_a M _) ?_ | refine CallQ.mk _ (eqVer_a M _) ?_ | (refine CondK.no' ?_ ?_; focus (simp; done)) | (refine CondK.yes' ?_ ?_; focus (simp; done)) | exact rfl)
theorem toLast_a (M : Mem) (x : GLast) : Ans Try.prog M 170 #[.agg #[.int .i64 x.Client, .int .i64 x.No, .int .i64 x.Ver.Epoch, .int .i64 x.Ver.Seq]] (.agg #[.int .i64 x.Client, .int .i64 x.No, .int .i64 x.Ver.Epoch, .int .i64 x.Ver.Seq]) := by
  refine ans_of T (l := [.agg #[.int .i64 x.Client, .int .i64 x.No, .int .i64 x.Ver.Epoch, .int .i64 x.Ver.Seq]]) mixed Try.func170 rfl (by kernel_rfl) (Nat.le_of_ble_eq_true rfl) ?_
  repeat' ((conv => whnf); first | with_reducible refine CondK.tt ?_ | with_reducible refine CondK.ff ?_ | with_reducible refine CondK.not ?_ | refine CallK.mk _ (toVer_a M _) ?_ | refine CallQ.mk _ (toVer_a M _) ?_ | exact rfl)
theorem eqLastS_a (M : Mem) (l : List GLast) (A A' : Option Addr) (c c' : Nat) (h : SlR M RLast 4 32 A l) (h' : SlR M RLast 4 32 A' l) : Ans Try.prog M 131 #[.slice A l.length c, .slice A' l.length c'] (.bool true) := by
  have hl := h.1
  refine ans_of T (l := [.slice A l.length c, .slice A' l.length c']) mixed Try.func131 rfl (by kernel_rfl) (Nat.le_of_ble_eq_true rfl) ?_
  (conv => whnf)
  refine CondK.mk (fun h1 => absurd h1 (by simp)) (fun _ => ?_)
  (conv => whnf)
  refine LoopK.mk {k : Nat // k ≤ l.length} (fun ⟨k, _⟩ => [(0, .v (.slice A l.length c)), (1, .v (.slice A' l.length c')), (5, .v (.int .i64 (k : Int)))]) (fun _ => []) (fun _ => M) (fun k => l.length - k.1) ⟨0, Nat.zero_le _⟩ ⟨⟨⟨rfl, rfl, rfl, trivial⟩, trivial, rfl, rfl⟩, rfl⟩ ?_
  rintro ⟨k, hk⟩
  (conv => whnf)
  refine CondK.mk (fun h1 => ?_) (fun h1 => ?_)
  · have hlt : k < l.length := by simpa using h1
    obtain ⟨ad, rfl, bnx, x0, x1, x2, x3⟩ := at_Last h (List.getElem?_eq_getElem hlt)
    obtain ⟨ad', rfl, bny, y0, y1, y2, y3⟩ := at_Last h' (List.getElem?_eq_getElem hlt)
    repeat' ((conv => whnf); first | with_reducible refine CondK.tt ?_ | with_reducible refine CondK.ff ?_ | with_reducible refine CondK.not ?_ | refine LdK.mk _ (by assumption) ?_ | refine IdxK.mk _ rfl (by omega) (by omega) ?_ | refine DrawN.q (by kernel_rfl) ?_ | refine CallK.mk _ (eqLast_a M l[k]) ?_ | refine CallQ.mk _ (eqLast_a M l[k]) ?_ | (refine CondK.no' ?_ ?_; focus (simp; done)) | (refine CondK.yes' ?_ ?_; focus (simp; done)) | exact rfl)
    exact ⟨⟨k + 1, hlt⟩, ⟨⟨rfl, rfl, look_int (i64_succ (by omega)), trivial⟩, trivial, rfl, rfl⟩, rfl, by simp; omega⟩
  · rfl
theorem szLastS_a (M : Mem) (l : List GLast) (left : Int) (A : Option Addr) (c : Nat) (h : SlR M RLast 4 32 A l) : Ans Try.prog M 113 #[.slice A l.length c, .int .i64 left] (.int .i64 (szSub left l.length)) := by
  refine ans_of T (l := [.slice A l.length c, .int .i64 left]) mixed Try.func113 rfl (by kernel_rfl) (Nat.le_of_ble_eq_true rfl) ?_
  repeat' ((conv => whnf); first | with_reducible refine CondK.tt ?_ | with_reducible refine CondK.ff ?_ | with_reducible refine CondK.not ?_ | refine CondK.mk (fun h => ?_) (fun h => ?_) | exact rfl)
  all_goals refine ret_int ?_
  all_goals (unfold szSub; split <;> simp_all <;> omega)
theorem toLastS_a (M : Mem) (l : List GLast) (A : Option Addr) (c : Nat) (h : SlR M RLast 4 32 A l) (hsm : l.length ≤ 1048576 ∧ ∀ y ∈ l, True) : AnsR Try.prog M 119 #[.slice A l.length c] (fun M' v => ∃ A' c', v = .slice A' l.length c' ∧ SlR M' RLast 4 32 A' l) := by
  have hl := hsm.1
  refine ansR_of T (l := [.slice A l.length c]) mixed Try.func119 rfl (by kernel_rfl) (Nat.le_of_ble_eq_true rfl) ?_
  (conv => whnf)
  refine MkK.mk rfl (by omega) (by omega) (by show ((32 : Nat) : Int) * (l.length : Int) ≤ _; omega) ?_
  (conv => whnf)
  refine LoopK.mk (Fill M RLast 4 l) (fun q => [(0, .v (.slice A l.length c)), (3, .s 0 l.length l.length 4), (4, .v (.int .i64 (q.css.length : Int)))]) (fun q => [(0, q.cells [.int .i64 0, .int .i64 0, .int .i64 0, .int .i64 0])]) (fun q => q.M) (fun q => l.length - q.css.length) (Fill.start M RLast 4 l) ⟨⟨⟨rfl, rfl, rfl, trivial⟩, ⟨rfl, trivial⟩, rfl, rfl⟩, rfl⟩ ?_
  intro q
  have h := h.mono q.le (RLast.mono q.le)
  (conv => whnf)
  refine CondK.mk (fun h1 => ?_) (fun h1 => ?_)
  · have hlt : q.css.length < l.length := by simpa using h1
    have hx := List.getElem?_eq_getElem hlt
    obtain ⟨ad, rfl, bnx, x0, x1, x2, x3⟩ := at_Last h hx
    repeat' ((conv => whnf); first | with_reducible refine CondK.tt ?_ | with_reducible refine CondK.ff ?_ | with_reducible refine CondK.not ?_ | refine LdK.mk _ (by assumption) ?_ | refine IdxK.mk _ rfl (by omega) (by omega) ?_ | refine DrawN.q (by kernel_rfl) ?_ | refine IdxA.mk (q.css.length * 4) rfl (by omega) (by omega) ?_ | refine CallK.mk _ (toLast_a _ l[q.css.length]) ?_ | refine CallQ.mk _ (toLast_a _ l[q.css.length]) ?_ | exact rfl)
    have hs := q.store (Le.refl _) (fun _ _ h => h) hx ⟨rfl, bnx⟩ rfl (Z := [.int .i64 0, .int .i64 0, .int .i64 0, .int .i64 0]) rfl
    have hroom := q.room1 (Z := [.int .i64 0, .int .i64 0, .int .i64 0, .int .i64 0]) rfl hlt
    refine Owe.mk hroom ?_
    (conv => whnf)
    exact ⟨q.step (Le.refl _) (fun _ _ h => h) hx ⟨rfl, bnx⟩ rfl, ⟨⟨rfl, rfl, look_int ((i64_succ (by omega)).trans (by simp [Fill.step])), trivial⟩, ⟨congrArg some hs, trivial⟩, rfl, rfl⟩, rfl, by simp [Fill.step]; omega⟩
  · refine RetK.mk fun g M' hl hg => ⟨_, _, rfl, ?_⟩
    exact q.done (Z := [.int .i64 0, .int .i64 0, .int .i64 0, .int .i64 0]) (by simpa using h1) (RLast.mono hl) (hg 0 _ rfl) h.1
theorem eqChunk_a (M : Mem) (x : GChunk) : Ans Try.prog M 175 #[.agg #[.string x.Name, .int .i64 x.Ver.Epoch, .int .i64 x.Ver.Seq, .int .i64 x.Pos, .int .i64 x.Sum, .string x.Bytes], .agg #[.string x.Name, .int .i64 x.Ver.Epoch, .int .i64 x.Ver.Seq, .int .i64 x.Pos, .int .i64 x.Sum, .string x.Bytes]] (.bool true) := by
  refine ans_of T (l := [.agg #[.string x.Name, .int .i64 x.Ver.Epoch, .int .i64 x.Ver.Seq, .int .i64 x.Pos, .int .i64 x.Sum, .string x.Bytes], .agg #[.string x.Name, .int .i64 x.Ver.Epoch, .int .i64 x.Ver.Seq, .int .i64 x.Pos, .int .i64 x.Sum, .string x.Bytes]]) mixed Try.func175 rfl (by kernel_rfl) (Nat.le_of_ble_eq_true rfl) ?_
  repeat' ((conv => whnf); first | with_reducible refine CondK.tt ?_ | with_reducible refine CondK.ff ?_ | with_reducible refine CondK.not ?_ | refine CallK.mk _ (eqVer_a M _) ?_ | refine CallQ.mk _ (eqVer_a M _) ?_ | (refine CondK.no' ?_ ?_; focus (simp; done)) | (refine CondK.yes' ?_ ?_; focus (simp; done)) | exact rfl)
def szChunk (x : GChunk) (left : Int) : Int := szT (szSub (left) x.Name.size) fun left => szT (szSub (left) x.Bytes.size) fun left => left
theorem szChunk_a (M : Mem) (x : GChunk) (left : Int) : Ans Try.prog M 167 #[.agg #[.string x.Name, .int .i64 x.Ver.Epoch, .int .i64 x.Ver.Seq, .int .i64 x.Pos, .int .i64 x.Sum, .string x.Bytes], .int .i64 left] (.int .i64 (szChunk x left)) := by
  refine ans_of T (l := [.agg #[.string x.Name, .int .i64 x.Ver.Epoch, .int .i64 x.Ver.Seq, .int .i64 x.Pos, .int .i64 x.Sum, .string x.Bytes], .int .i64 left]) mixed Try.func167 rfl (by kernel_rfl) (Nat.le_of_ble_eq_true rfl) ?_
  repeat' ((conv => whnf); first | with_reducible refine CondK.tt ?_ | with_reducible refine CondK.ff ?_ | with_reducible refine CondK.not ?_ | refine CondK.mk (fun h => ?_) (fun h => ?_) | exact rfl)
  all_goals refine ret_int ?_
  all_goals (simp only [decide_eq_true_eq, decide_eq_false_iff_not] at *)
  all_goals first | (simp [szChunk, szT, szSub, *]; done) | (unfold szChunk szT szSub; simp [*]; done) | grind [szChunk, szT, szSub]
theorem szChunk_ok {M : Mem} {x : GChunk} {cs : List Value} (hr : RChunk M x cs) {left : Int} (h0 : 0 ≤ left) (h1 : left ≤ 1048576) (h : 0 ≤ szChunk x left) : True ∧ szChunk x left ≤ 1048576 := by
  obtain ⟨rfl, hb⟩ := hr
  unfold szChunk at h ⊢
  obtain ⟨p0, h', e0⟩ := szT_ok h
  replace h := h'
  rw [e0]
  have q0 := szSub_ok h0 h1 (by simp_all) p0
  obtain ⟨p4, h', e4⟩ := szT_ok h
  replace h := h'
  rw [e4]
  have q4 := szSub_ok p0 q0.2 (by simp_all) p4
  exact ⟨trivial, q4.2⟩
theorem toChunk_a (M : Mem) (x : GChunk) : Ans Try.prog M 171 #[.agg #[.string x.Name, .int .i64 x.Ver.Epoch, .int .i64 x.Ver.Seq, .int .i64 x.Pos, .int .i64 x.Sum, .string x.Bytes]] (.agg #[.string x.Name, .int .i64 x.Ver.Epoch, .int .i64 x.Ver.Seq, .int .i64 x.Pos, .int .i64 x.Sum, .string x.Bytes]) := by
  refine ans_of T (l := [.agg #[.string x.Name, .int .i64 x.Ver.Epoch, .int .i64 x.Ver.Seq, .int .i64 x.Pos, .int .i64 x.Sum, .string x.Bytes]]) mixed Try.func171 rfl (by kernel_rfl) (Nat.le_of_ble_eq_true rfl) ?_
  repeat' ((conv => whnf); first | with_reducible refine CondK.tt ?_ | with_reducible refine CondK.ff ?_ | with_reducible refine CondK.not ?_ | refine CallK.mk _ (toVer_a M _) ?_ | refine CallQ.mk _ (toVer_a M _) ?_ | exact rfl)
theorem eqChunkS_a (M : Mem) (l : List GChunk) (A A' : Option Addr) (c c' : Nat) (h : SlR M RChunk 6 64 A l) (h' : SlR M RChunk 6 64 A' l) : Ans Try.prog M 133 #[.slice A l.length c, .slice A' l.length c'] (.bool true) := by
  have hl := h.1
  refine ans_of T (l := [.slice A l.length c, .slice A' l.length c']) mixed Try.func133 rfl (by kernel_rfl) (Nat.le_of_ble_eq_true rfl) ?_
  (conv => whnf)
  refine CondK.mk (fun h1 => absurd h1 (by simp)) (fun _ => ?_)
  (conv => whnf)
  refine LoopK.mk {k : Nat // k ≤ l.length} (fun ⟨k, _⟩ => [(0, .v (.slice A l.length c)), (1, .v (.slice A' l.length c')), (5, .v (.int .i64 (k : Int)))]) (fun _ => []) (fun _ => M) (fun k => l.length - k.1) ⟨0, Nat.zero_le _⟩ ⟨⟨⟨rfl, rfl, rfl, trivial⟩, trivial, rfl, rfl⟩, rfl⟩ ?_
  rintro ⟨k, hk⟩
  (conv => whnf)
  refine CondK.mk (fun h1 => ?_) (fun h1 => ?_)
  · have hlt : k < l.length := by simpa using h1
    obtain ⟨ad, rfl, bnx, x0, x1, x2, x3, x4, x5⟩ := at_Chunk h (List.getElem?_eq_getElem hlt)
    obtain ⟨ad', rfl, bny, y0, y1, y2, y3, y4, y5⟩ := at_Chunk h' (List.getElem?_eq_getElem hlt)
    repeat' ((conv => whnf); first | with_reducible refine CondK.tt ?_ | with_reducible refine CondK.ff ?_ | with_reducible refine CondK.not ?_ | refine LdK.mk _ (by assumption) ?_ | refine IdxK.mk _ rfl (by omega) (by omega) ?_ | refine DrawN.q (by kernel_rfl) ?_ | refine CallK.mk _ (eqChunk_a M l[k]) ?_ | refine CallQ.mk _ (eqChunk_a M l[k]) ?_ | (refine CondK.no' ?_ ?_; focus (simp; done)) | (refine CondK.yes' ?_ ?_; focus (simp; done)) | exact rfl)
    exact ⟨⟨k + 1, hlt⟩, ⟨⟨rfl, rfl, look_int (i64_succ (by omega)), trivial⟩, trivial, rfl, rfl⟩, rfl, by simp; omega⟩
  · rfl
theorem szChunkS_a (M : Mem) (l : List GChunk) (left : Int) (A : Option Addr) (c : Nat) (h : SlR M RChunk 6 64 A l) : Ans Try.prog M 115 #[.slice A l.length c, .int .i64 left] (.int .i64 (szL szChunk l left)) := by
  have hl := h.1
  refine ans_of T (l := [.slice A l.length c, .int .i64 left]) mixed Try.func115 rfl (by kernel_rfl) (Nat.le_of_ble_eq_true rfl) ?_
  (conv => whnf)
  refine CondK.mk (fun h1 => ?_) (fun h1 => ?_)
  · refine ret_int ?_
    rw [szL, if_pos (by simpa using h1)]
  have h2 : szL szChunk l left = szRun szChunk l (IntKind.i64.wrap (left - (l.length : Int))) := by rw [szL, if_neg (by simpa using h1)]
  rw [h2]
  clear h1 h2
  generalize IntKind.i64.wrap (left - (l.length : Int)) = n0
  (conv => whnf)
  refine LoopK.mk {p : Nat × Int // p.1 ≤ l.length ∧ szRun szChunk l n0 = szRun szChunk (l.drop p.1) p.2} (fun ⟨(k, n), _⟩ => [(0, .v (.slice A l.length c)), (1, .v (.int .i64 n)), (5, .v (.int .i64 (k : Int)))]) (fun _ => []) (fun _ => M) (fun p => l.length - p.1.1) ⟨(0, n0), Nat.zero_le _, rfl⟩ ⟨⟨⟨rfl, rfl, rfl, trivial⟩, trivial, rfl, rfl⟩, rfl⟩ ?_
  rintro ⟨⟨k, n⟩, hk, hn⟩
  (conv => whnf)
  refine CondK.mk (fun h1 => ?_) (fun h1 => ?_)
  · have hlt : k < l.length := by simpa using h1
    obtain ⟨ad, rfl, bnx, x0, x1, x2, x3, x4, x5⟩ := at_Chunk h (List.getElem?_eq_getElem hlt)
    simp only [] at hn
    rw [szRun_step hlt] at hn
    repeat' ((conv => whnf); first | with_reducible refine CondK.tt ?_ | with_reducible refine CondK.ff ?_ | with_reducible refine CondK.not ?_ | refine LdK.mk _ (by assumption) ?_ | refine IdxK.mk _ rfl (by omega) (by omega) ?_ | refine DrawN.q (by kernel_rfl) ?_ | refine CallK.mk _ (szChunk_a M l[k] n) ?_ | refine CallQ.mk _ (szChunk_a M l[k] n) ?_ | refine CondK.mk (fun h => ?_) (fun h => ?_) | exact rfl)
    · refine ret_int ?_
      rw [hn, if_pos (by simpa using h)]
    · rw [if_neg (by simpa using h)] at hn
      exact ⟨⟨(k + 1, _), hlt, hn⟩, ⟨⟨rfl, rfl, look_int (i64_succ (by omega)), trivial⟩, trivial, rfl, rfl⟩, rfl, by simp; omega⟩
  · refine ret_int ?_
    simp only [] at hn
    rw [hn, List.drop_eq_nil_of_le (by simp at h1; omega)]
    rfl
theorem toChunkS_a (M : Mem) (l : List GChunk) (A : Option Addr) (c : Nat) (h : SlR M RChunk 6 64 A l) (hsm : l.length ≤ 1048576 ∧ ∀ y ∈ l, True) : AnsR Try.prog M 121 #[.slice A l.length c] (fun M' v => ∃ A' c', v = .slice A' l.length c' ∧ SlR M' RChunk 6 64 A' l) := by
  have hl := hsm.1
  refine ansR_of T (l := [.slice A l.length c]) mixed Try.func121 rfl (by kernel_rfl) (Nat.le_of_ble_eq_true rfl) ?_
  (conv => whnf)
  refine MkK.mk rfl (by omega) (by omega) (by show ((64 : Nat) : Int) * (l.length : Int) ≤ _; omega) ?_
  (conv => whnf)
  refine LoopK.mk (Fill M RChunk 6 l) (fun q => [(0, .v (.slice A l.length c)), (3, .s 0 l.length l.length 6), (4, .v (.int .i64 (q.css.length : Int)))]) (fun q => [(0, q.cells [.string ⟨#[]⟩, .int .i64 0, .int .i64 0, .int .i64 0, .int .i64 0, .string ⟨#[]⟩])]) (fun q => q.M) (fun q => l.length - q.css.length) (Fill.start M RChunk 6 l) ⟨⟨⟨rfl, rfl, rfl, trivial⟩, ⟨rfl, trivial⟩, rfl, rfl⟩, rfl⟩ ?_
  intro q
  have h := h.mono q.le (RChunk.mono q.le)
  (conv => whnf)
  refine CondK.mk (fun h1 => ?_) (fun h1 => ?_)
  · have hlt : q.css.length < l.length := by simpa using h1
    have hx := List.getElem?_eq_getElem hlt
    obtain ⟨ad, rfl, bnx, x0, x1, x2, x3, x4, x5⟩ := at_Chunk h hx
    repeat' ((conv => whnf); first | with_reducible refine CondK.tt ?_ | with_reducible refine CondK.ff ?_ | with_reducible refine CondK.not ?_ | refine LdK.mk _ (by assumption) ?_ | refine IdxK.mk _ rfl (by omega) (by omega) ?_ | refine DrawN.q (by kernel_rfl) ?_ | refine IdxA.mk (q.css.length * 6) rfl (by omega) (by omega) ?_ | refine CallK.mk _ (toChunk_a _ l[q.css.length]) ?_ | refine CallQ.mk _ (toChunk_a _ l[q.css.length]) ?_ | exact rfl)
    have hs := q.store (Le.refl _) (fun _ _ h => h) hx ⟨rfl, bnx⟩ rfl (Z := [.string ⟨#[]⟩, .int .i64 0, .int .i64 0, .int .i64 0, .int .i64 0, .string ⟨#[]⟩]) rfl
    have hroom := q.room1 (Z := [.string ⟨#[]⟩, .int .i64 0, .int .i64 0, .int .i64 0, .int .i64 0, .string ⟨#[]⟩]) rfl hlt
    refine Owe.mk hroom ?_
    (conv => whnf)
    exact ⟨q.step (Le.refl _) (fun _ _ h => h) hx ⟨rfl, bnx⟩ rfl, ⟨⟨rfl, rfl, look_int ((i64_succ (by omega)).trans (by simp [Fill.step])), trivial⟩, ⟨congrArg some hs, trivial⟩, rfl, rfl⟩, rfl, by simp [Fill.step]; omega⟩
  · refine RetK.mk fun g M' hl hg => ⟨_, _, rfl, ?_⟩
    exact q.done (Z := [.string ⟨#[]⟩, .int .i64 0, .int .i64 0, .int .i64 0, .int .i64 0, .string ⟨#[]⟩]) (by simpa using h1) (RChunk.mono hl) (hg 0 _ rfl) h.1
end Go.Proofs.Ytbmechcabplcpaa.Hlp
