/- The laws' helpers by the light walk: equal data are called equal; what a list measures; what is turned is the same. -/
import Derived.Test.YtmdbeooianiojaaGreatHlpA
namespace Go.Proofs.YtmdbeooianiojaaGreat.Hlp
open Go Go.RowKit Go.Proofs Go.Proofs.YtmdbeooianiojaaGreat.Lw
set_option linter.unusedVariables false
set_option linter.unusedSimpArgs false
set_option maxRecDepth 100000
set_option maxHeartbeats 4000000
theorem eqHead_a (M : Mem) (x : GHead) : Ans Tryz.prog M 99 #[.agg #[.string x.Name, .int .i64 x.Ver.Epoch, .int .i64 x.Ver.Seq, .int .i64 x.Size, .int .i64 x.Sum], .agg #[.string x.Name, .int .i64 x.Ver.Epoch, .int .i64 x.Ver.Seq, .int .i64 x.Size, .int .i64 x.Sum]] (.bool true) := by
  refine ans_of T (l := [.agg #[.string x.Name, .int .i64 x.Ver.Epoch, .int .i64 x.Ver.Seq, .int .i64 x.Size, .int .i64 x.Sum], .agg #[.string x.Name, .int .i64 x.Ver.Epoch, .int .i64 x.Ver.Seq, .int .i64 x.Size, .int .i64 x.Sum]]) mixed Tryz.func99 rfl (by kernel_rfl) (Nat.le_of_ble_eq_true rfl) ?_
  repeat' ((conv => whnf); first | with_reducible refine CondK.tt ?_ | with_reducible refine CondK.ff ?_ | with_reducible refine CondK.not ?_ | refine CallK.mk _ (eqVer_a M _) ?_ | refine CallQ.mk _ (eqVer_a M _) ?_ | (refine CondK.no' ?_ ?_; focus (simp; done)) | (refine CondK.yes' ?_ ?_; focus (simp; done)) | exact rfl)
def szHead (x : GHead) (left : Int) : Int := szT (szSub (left) x.Name.size) fun left => left
theorem szHead_a (M : Mem) (x : GHead) (left : Int) : Ans Tryz.prog M 88 #[.agg #[.string x.Name, .int .i64 x.Ver.Epoch, .int .i64 x.Ver.Seq, .int .i64 x.Size, .int .i64 x.Sum], .int .i64 left] (.int .i64 (szHead x left)) := by
  refine ans_of T (l := [.agg #[.string x.Name, .int .i64 x.Ver.Epoch, .int .i64 x.Ver.Seq, .int .i64 x.Size, .int .i64 x.Sum], .int .i64 left]) mixed Tryz.func88 rfl (by kernel_rfl) (Nat.le_of_ble_eq_true rfl) ?_
  repeat' ((conv => whnf); first | with_reducible refine CondK.tt ?_ | with_reducible refine CondK.ff ?_ | with_reducible refine CondK.not ?_ | refine CondK.mk (fun h => ?_) (fun h => ?_) | exact rfl)
  all_goals refine ret_int ?_
  all_goals (simp only [decide_eq_true_eq, decide_eq_false_iff_not] at *)
  all_goals first | (simp only [szHead, szT, if_true, if_false, *]; done) | (simp [szHead, szT, *]; done) | (simp [szHead, szT, szSub, *]; done) | (unfold szHead szT szSub; simp [*]; done) | grind [szHead, szT, szSub]
theorem szHead_ok {M : Mem} {x : GHead} {cs : List Value} (hr : RHead M x cs) {left : Int} (h0 : 0 ≤ left) (h1 : left ≤ 1048576) (h : 0 ≤ szHead x left) : True ∧ szHead x left ≤ 1048576 := by
  obtain ⟨rfl, hb⟩ := hr
  unfold szHead at h ⊢
  obtain ⟨p0, h', e0⟩ := szT_ok h
  replace h := h'
  rw [e0]
  have q0 := szSub_ok h0 h1 (by simp_all) p0
  exact ⟨trivial, q0.2⟩
theorem toHead_a (M : Mem) (x : GHead) : Ans Tryz.prog M 92 #[.agg #[.string x.Name, .int .i64 x.Ver.Epoch, .int .i64 x.Ver.Seq, .int .i64 x.Size, .int .i64 x.Sum]] (.agg #[.string x.Name, .int .i64 x.Ver.Epoch, .int .i64 x.Ver.Seq, .int .i64 x.Size, .int .i64 x.Sum]) := by
  refine ans_of T (l := [.agg #[.string x.Name, .int .i64 x.Ver.Epoch, .int .i64 x.Ver.Seq, .int .i64 x.Size, .int .i64 x.Sum]]) mixed Tryz.func92 rfl (by kernel_rfl) (Nat.le_of_ble_eq_true rfl) ?_
  repeat' ((conv => whnf); first | with_reducible refine CondK.tt ?_ | with_reducible refine CondK.ff ?_ | with_reducible refine CondK.not ?_ | refine CallK.mk _ (toVer_a M _) ?_ | refine CallQ.mk _ (toVer_a M _) ?_ | exact rfl)
theorem eqHeadS_a (M : Mem) (l : List GHead) (A A' : Option Addr) (c c' : Nat) (h : SlR M RHead 5 48 A c l) (h' : SlR M RHead 5 48 A' c' l) : Ans Tryz.prog M 80 #[.slice A l.length c, .slice A' l.length c'] (.bool true) := by
  have hl := h.len
  refine ans_of T (l := [.slice A l.length c, .slice A' l.length c']) mixed Tryz.func80 rfl (by kernel_rfl) (Nat.le_of_ble_eq_true rfl) ?_
  (conv => whnf)
  refine CondK.mk (fun h1 => absurd h1 (by simp)) (fun _ => ?_)
  (conv => whnf)
  refine LoopK.mk {k : Nat // k ≤ l.length} (fun ⟨k, _⟩ => [(0, .v (.slice A l.length c)), (1, .v (.slice A' l.length c')), (5, .v (.int .i64 (k : Int)))]) (fun _ => []) (fun _ => M) (fun k => l.length - k.1) ⟨0, Nat.zero_le _⟩ ⟨⟨⟨rfl, rfl, rfl, trivial⟩, trivial, rfl, rfl⟩, rfl⟩ ?_
  rintro ⟨k, hk⟩
  (conv => whnf)
  refine CondK.mk (fun h1 => ?_) (fun h1 => ?_)
  · have hlt : k < l.length := by simpa using h1
    obtain ⟨ad, rfl, bnx, x0, x1, x2, x3, x4⟩ := at_Head h (List.getElem?_eq_getElem hlt)
    obtain ⟨ad', rfl, bny, y0, y1, y2, y3, y4⟩ := at_Head h' (List.getElem?_eq_getElem hlt)
    repeat' ((conv => whnf); first | with_reducible refine CondK.tt ?_ | with_reducible refine CondK.ff ?_ | with_reducible refine CondK.not ?_ | refine LdK.mk _ (by assumption) ?_ | refine IdxK.mk _ rfl (by omega) (by omega) ?_ | refine DrawN.q (by kernel_rfl) ?_ | refine CallK.mk _ (eqHead_a M l[k]) ?_ | refine CallQ.mk _ (eqHead_a M l[k]) ?_ | (refine CondK.no' ?_ ?_; focus (simp; done)) | (refine CondK.yes' ?_ ?_; focus (simp; done)) | exact rfl)
    exact ⟨⟨k + 1, hlt⟩, ⟨⟨rfl, rfl, look_int (i64_succ (by omega)), trivial⟩, trivial, rfl, rfl⟩, rfl, by simp; omega⟩
  · rfl
theorem szHeadS_a (M : Mem) (l : List GHead) (left : Int) (A : Option Addr) (c : Nat) (h : SlR M RHead 5 48 A c l) : Ans Tryz.prog M 50 #[.slice A l.length c, .int .i64 left] (.int .i64 (szL szHead l left)) := by
  have hl := h.len
  refine ans_of T (l := [.slice A l.length c, .int .i64 left]) mixed Tryz.func50 rfl (by kernel_rfl) (Nat.le_of_ble_eq_true rfl) ?_
  (conv => whnf)
  refine CondK.mk (fun h1 => ?_) (fun h1 => ?_)
  · refine ret_int ?_
    rw [szL, if_pos (by simpa using h1)]
  have h2 : szL szHead l left = szRun szHead l (IntKind.i64.wrap (left - (l.length : Int))) := by rw [szL, if_neg (by simpa using h1)]
  rw [h2]
  clear h1 h2
  generalize IntKind.i64.wrap (left - (l.length : Int)) = n0
  (conv => whnf)
  refine LoopK.mk {p : Nat × Int // p.1 ≤ l.length ∧ szRun szHead l n0 = szRun szHead (l.drop p.1) p.2} (fun ⟨(k, n), _⟩ => [(0, .v (.slice A l.length c)), (1, .v (.int .i64 n)), (5, .v (.int .i64 (k : Int)))]) (fun _ => []) (fun _ => M) (fun p => l.length - p.1.1) ⟨(0, n0), Nat.zero_le _, rfl⟩ ⟨⟨⟨rfl, rfl, rfl, trivial⟩, trivial, rfl, rfl⟩, rfl⟩ ?_
  rintro ⟨⟨k, n⟩, hk, hn⟩
  (conv => whnf)
  refine CondK.mk (fun h1 => ?_) (fun h1 => ?_)
  · have hlt : k < l.length := by simpa using h1
    obtain ⟨ad, rfl, bnx, x0, x1, x2, x3, x4⟩ := at_Head h (List.getElem?_eq_getElem hlt)
    simp only [] at hn
    rw [szRun_step hlt] at hn
    repeat' ((conv => whnf); first | with_reducible refine CondK.tt ?_ | with_reducible refine CondK.ff ?_ | with_reducible refine CondK.not ?_ | refine LdK.mk _ (by assumption) ?_ | refine IdxK.mk _ rfl (by omega) (by omega) ?_ | refine DrawN.q (by kernel_rfl) ?_ | refine CallK.mk _ (szHead_a M l[k] n) ?_ | refine CallQ.mk _ (szHead_a M l[k] n) ?_ | refine CondK.mk (fun h => ?_) (fun h => ?_) | exact rfl)
    · refine ret_int ?_
      rw [hn, if_pos (by simpa using h)]
    · rw [if_neg (by simpa using h)] at hn
      exact ⟨⟨(k + 1, _), hlt, hn⟩, ⟨⟨rfl, rfl, look_int (i64_succ (by omega)), trivial⟩, trivial, rfl, rfl⟩, rfl, by simp; omega⟩
  · refine ret_int ?_
    simp only [] at hn
    rw [hn, List.drop_eq_nil_of_le (by simp at h1; omega)]
    rfl
theorem toHeadS_a (M : Mem) (l : List GHead) (A : Option Addr) (c : Nat) (h : SlR M RHead 5 48 A c l) (hsm : l.length ≤ 1048576 ∧ ∀ y ∈ l, True) : AnsR Tryz.prog M 62 #[.slice A l.length c] (fun M' v => ∃ A' c', v = .slice A' l.length c' ∧ SlR M' RHead 5 48 A' c' l) := by
  have hl := hsm.1
  refine ansR_of T (l := [.slice A l.length c]) mixed Tryz.func62 rfl (by kernel_rfl) (Nat.le_of_ble_eq_true rfl) ?_
  (conv => whnf)
  refine MkK.mk rfl (by omega) (by omega) (by show ((48 : Nat) : Int) * (l.length : Int) ≤ _; omega) ?_
  (conv => whnf)
  refine LoopK.mk (Fill M RHead 5 l) (fun q => [(0, .v (.slice A l.length c)), (3, .s 0 l.length l.length 5), (4, .v (.int .i64 (q.css.length : Int)))]) (fun q => [(0, q.cells [.string ⟨#[]⟩, .int .i64 0, .int .i64 0, .int .i64 0, .int .i64 0])]) (fun q => q.M) (fun q => l.length - q.css.length) (Fill.start M RHead 5 l) ⟨⟨⟨rfl, rfl, rfl, trivial⟩, ⟨rfl, trivial⟩, rfl, rfl⟩, rfl⟩ ?_
  intro q
  have h := h.mono q.le (RHead.mono q.le)
  (conv => whnf)
  refine CondK.mk (fun h1 => ?_) (fun h1 => ?_)
  · have hlt : q.css.length < l.length := by simpa using h1
    have hx := List.getElem?_eq_getElem hlt
    obtain ⟨ad, rfl, bnx, x0, x1, x2, x3, x4⟩ := at_Head h hx
    repeat' ((conv => whnf); first | with_reducible refine CondK.tt ?_ | with_reducible refine CondK.ff ?_ | with_reducible refine CondK.not ?_ | refine LdK.mk _ (by assumption) ?_ | refine IdxK.mk _ rfl (by omega) (by omega) ?_ | refine DrawN.q (by kernel_rfl) ?_ | refine IdxA.mk (q.css.length * 5) rfl (by omega) (by omega) ?_ | refine CallK.mk _ (toHead_a _ l[q.css.length]) ?_ | refine CallQ.mk _ (toHead_a _ l[q.css.length]) ?_ | exact rfl)
    have hs := q.store (Le.refl _) (fun _ _ h => h) hx ⟨rfl, bnx⟩ rfl (Z := [.string ⟨#[]⟩, .int .i64 0, .int .i64 0, .int .i64 0, .int .i64 0]) rfl
    have hroom := q.room1 (Z := [.string ⟨#[]⟩, .int .i64 0, .int .i64 0, .int .i64 0, .int .i64 0]) rfl hlt
    refine Owe.mk hroom ?_
    (conv => whnf)
    exact ⟨q.step (Le.refl _) (fun _ _ h => h) hx ⟨rfl, bnx⟩ rfl, ⟨⟨rfl, rfl, look_int ((i64_succ (by omega)).trans (by simp [Fill.step])), trivial⟩, ⟨congrArg some hs, trivial⟩, rfl, rfl⟩, rfl, by simp [Fill.step]; omega⟩
  · refine RetK.mk fun g M' hl hg => ⟨_, _, rfl, ?_⟩
    exact q.done (Z := [.string ⟨#[]⟩, .int .i64 0, .int .i64 0, .int .i64 0, .int .i64 0]) (by simpa using h1) (RHead.mono hl) (hg 0 _ rfl) h.len
theorem eqLast_a (M : Mem) (x : GLast) : Ans Tryz.prog M 100 #[.agg #[.int .i64 x.Client, .int .i64 x.No, .int .i64 x.Ver.Epoch, .int .i64 x.Ver.Seq], .agg #[.int .i64 x.Client, .int .i64 x.No, .int .i64 x.Ver.Epoch, .int .i64 x.Ver.Seq]] (.bool true) := by
  refine ans_of T (l := [.agg #[.int .i64 x.Client, .int .i64 x.No, .int .i64 x.Ver.Epoch, .int .i64 x.Ver.Seq], .agg #[.int .i64 x.Client, .int .i64 x.No, .int .i64 x.Ver.Epoch, .int .i64 x.Ver.Seq]]) mixed Tryz.func100 rfl (by kernel_rfl) (Nat.le_of_ble_eq_true rfl) ?_
  repeat' ((conv => whnf); first | with_reducible refine CondK.tt ?_ | with_reducible refine CondK.ff ?_ | with_reducible refine CondK.not ?_ | refine CallK.mk _ (eqVer_a M _) ?_ | refine CallQ.mk _ (eqVer_a M _) ?_ | (refine CondK.no' ?_ ?_; focus (simp; done)) | (refine CondK.yes' ?_ ?_; focus (simp; done)) | exact rfl)
theorem toLast_a (M : Mem) (x : GLast) : Ans Tryz.prog M 93 #[.agg #[.int .i64 x.Client, .int .i64 x.No, .int .i64 x.Ver.Epoch, .int .i64 x.Ver.Seq]] (.agg #[.int .i64 x.Client, .int .i64 x.No, .int .i64 x.Ver.Epoch, .int .i64 x.Ver.Seq]) := by
  refine ans_of T (l := [.agg #[.int .i64 x.Client, .int .i64 x.No, .int .i64 x.Ver.Epoch, .int .i64 x.Ver.Seq]]) mixed Tryz.func93 rfl (by kernel_rfl) (Nat.le_of_ble_eq_true rfl) ?_
  repeat' ((conv => whnf); first | with_reducible refine CondK.tt ?_ | with_reducible refine CondK.ff ?_ | with_reducible refine CondK.not ?_ | refine CallK.mk _ (toVer_a M _) ?_ | refine CallQ.mk _ (toVer_a M _) ?_ | exact rfl)
theorem eqLastS_a (M : Mem) (l : List GLast) (A A' : Option Addr) (c c' : Nat) (h : SlR M RLast 4 32 A c l) (h' : SlR M RLast 4 32 A' c' l) : Ans Tryz.prog M 81 #[.slice A l.length c, .slice A' l.length c'] (.bool true) := by
  have hl := h.len
  refine ans_of T (l := [.slice A l.length c, .slice A' l.length c']) mixed Tryz.func81 rfl (by kernel_rfl) (Nat.le_of_ble_eq_true rfl) ?_
  (conv => whnf)
  refine CondK.mk (fun h1 => absurd h1 (by simp)) (fun _ => ?_)
  (conv => whnf)
  refine LoopK.mk {k : Nat // k ≤ l.length} (fun ⟨k, _⟩ => [(0, .v (.slice A l.length c)), (1, .v (.slice A' l.length c')), (5, .v (.int .i64 (k : Int)))]) (fun _ => []) (fun _ => M) (fun k => l.length - k.1) ⟨0, Nat.zero_le _⟩ ⟨⟨⟨rfl, rfl, rfl, trivial⟩, trivial, rfl, rfl⟩, rfl⟩ ?_
  rintro ⟨k, hk⟩
  (conv => whnf)
  refine CondK.mk (fun h1 => ?_) (fun h1 => ?_)
  · have hlt : k < l.length := by simpa using h1
    obtain ⟨ad, rfl, bnx, x0, x1, x2, x3⟩ := at_Last h (List.getElem?_eq_getElem hlt)
    obtain ⟨ad', rfl, bny, y0, y1, y2, y3⟩ := at_Last h' (List.getElem?_eq_getElem hlt)
    repeat' ((conv => whnf); first | with_reducible refine CondK.tt ?_ | with_reducible refine CondK.ff ?_ | with_reducible refine CondK.not ?_ | refine LdK.mk _ (by assumption) ?_ | refine IdxK.mk _ rfl (by omega) (by omega) ?_ | refine DrawN.q (by kernel_rfl) ?_ | refine CallK.mk _ (eqLast_a M l[k]) ?_ | refine CallQ.mk _ (eqLast_a M l[k]) ?_ | (refine CondK.no' ?_ ?_; focus (simp; done)) | (refine CondK.yes' ?_ ?_; focus (simp; done)) | exact rfl)
    exact ⟨⟨k + 1, hlt⟩, ⟨⟨rfl, rfl, look_int (i64_succ (by omega)), trivial⟩, trivial, rfl, rfl⟩, rfl, by simp; omega⟩
  · rfl
theorem szLastS_a (M : Mem) (l : List GLast) (left : Int) (A : Option Addr) (c : Nat) (h : SlR M RLast 4 32 A c l) : Ans Tryz.prog M 51 #[.slice A l.length c, .int .i64 left] (.int .i64 (szSub left l.length)) := by
  refine ans_of T (l := [.slice A l.length c, .int .i64 left]) mixed Tryz.func51 rfl (by kernel_rfl) (Nat.le_of_ble_eq_true rfl) ?_
  repeat' ((conv => whnf); first | with_reducible refine CondK.tt ?_ | with_reducible refine CondK.ff ?_ | with_reducible refine CondK.not ?_ | refine CondK.mk (fun h => ?_) (fun h => ?_) | exact rfl)
  all_goals refine ret_int ?_
  all_goals (unfold szSub; split <;> simp_all <;> omega)
theorem toLastS_a (M : Mem) (l : List GLast) (A : Option Addr) (c : Nat) (h : SlR M RLast 4 32 A c l) (hsm : l.length ≤ 1048576 ∧ ∀ y ∈ l, True) : AnsR Tryz.prog M 63 #[.slice A l.length c] (fun M' v => ∃ A' c', v = .slice A' l.length c' ∧ SlR M' RLast 4 32 A' c' l) := by
  have hl := hsm.1
  refine ansR_of T (l := [.slice A l.length c]) mixed Tryz.func63 rfl (by kernel_rfl) (Nat.le_of_ble_eq_true rfl) ?_
  (conv => whnf)
  refine MkK.mk rfl (by omega) (by omega) (by show ((32 : Nat) : Int) * (l.length : Int) ≤ _; omega) ?_
  (conv => whnf)
  refine LoopK.mk (Fill M RLast 4 l) (fun q => [(0, .v (.slice A l.length c)), (3, .s 0 l.length l.length 4), (4, .v (.int .i64 (q.css.length : Int)))]) (fun q => [(0, q.cells [.int .i64 0, .int .i64 0, .int .i64 0, .int .i64 0])]) (fun q => q.M) (fun q => l.length - q.css.length) (Fill.start M RLast 4 l) ⟨⟨⟨rfl, rfl, rfl, trivial⟩, ⟨rfl, trivial⟩, rfl, rfl⟩, rfl⟩ ?_
  intro q
  have h := h.mono q.le (RLast.mono q.le)
  (conv => whnf)
  refine CondK.mk (fun h1 => ?_) (fun h1 => ?_)
  · have hlt : q.css.length < l.length := by simpa using h1
    have hx := List.getElem?_eq_getElem hlt
    obtain ⟨ad, rfl, bnx, x0, x1, x2, x3⟩ := at_Last h hx
    repeat' ((conv => whnf); first | with_reducible refine CondK.tt ?_ | with_reducible refine CondK.ff ?_ | with_reducible refine CondK.not ?_ | refine LdK.mk _ (by assumption) ?_ | refine IdxK.mk _ rfl (by omega) (by omega) ?_ | refine DrawN.q (by kernel_rfl) ?_ | refine IdxA.mk (q.css.length * 4) rfl (by omega) (by omega) ?_ | refine CallK.mk _ (toLast_a _ l[q.css.length]) ?_ | refine CallQ.mk _ (toLast_a _ l[q.css.length]) ?_ | exact rfl)
    have hs := q.store (Le.refl _) (fun _ _ h => h) hx ⟨rfl, bnx⟩ rfl (Z := [.int .i64 0, .int .i64 0, .int .i64 0, .int .i64 0]) rfl
    have hroom := q.room1 (Z := [.int .i64 0, .int .i64 0, .int .i64 0, .int .i64 0]) rfl hlt
    refine Owe.mk hroom ?_
    (conv => whnf)
    exact ⟨q.step (Le.refl _) (fun _ _ h => h) hx ⟨rfl, bnx⟩ rfl, ⟨⟨rfl, rfl, look_int ((i64_succ (by omega)).trans (by simp [Fill.step])), trivial⟩, ⟨congrArg some hs, trivial⟩, rfl, rfl⟩, rfl, by simp [Fill.step]; omega⟩
  · refine RetK.mk fun g M' hl hg => ⟨_, _, rfl, ?_⟩
    exact q.done (Z := [.int .i64 0, .int .i64 0, .int .i64 0, .int .i64 0]) (by simpa using h1) (RLast.mono hl) (hg 0 _ rfl) h.len
theorem eqEntry_a (M : Mem) (x : GEntry) : Ans Tryz.prog M 101 #[.agg #[.int .i64 x.Ver.Epoch, .int .i64 x.Ver.Seq, .int .i64 x.Prior.Epoch, .int .i64 x.Prior.Seq, .string x.Name, .bool x.Gone, .int .i64 x.Size, .int .i64 x.Sum, .int .i64 x.Req.Client, .int .i64 x.Req.No], .agg #[.int .i64 x.Ver.Epoch, .int .i64 x.Ver.Seq, .int .i64 x.Prior.Epoch, .int .i64 x.Prior.Seq, .string x.Name, .bool x.Gone, .int .i64 x.Size, .int .i64 x.Sum, .int .i64 x.Req.Client, .int .i64 x.Req.No]] (.bool true) := by
  refine ans_of T (l := [.agg #[.int .i64 x.Ver.Epoch, .int .i64 x.Ver.Seq, .int .i64 x.Prior.Epoch, .int .i64 x.Prior.Seq, .string x.Name, .bool x.Gone, .int .i64 x.Size, .int .i64 x.Sum, .int .i64 x.Req.Client, .int .i64 x.Req.No], .agg #[.int .i64 x.Ver.Epoch, .int .i64 x.Ver.Seq, .int .i64 x.Prior.Epoch, .int .i64 x.Prior.Seq, .string x.Name, .bool x.Gone, .int .i64 x.Size, .int .i64 x.Sum, .int .i64 x.Req.Client, .int .i64 x.Req.No]]) mixed Tryz.func101 rfl (by kernel_rfl) (Nat.le_of_ble_eq_true rfl) ?_
  repeat' ((conv => whnf); first | with_reducible refine CondK.tt ?_ | with_reducible refine CondK.ff ?_ | with_reducible refine CondK.not ?_ | refine CallK.mk _ (eqVer_a M _) ?_ | refine CallQ.mk _ (eqVer_a M _) ?_ | refine CallK.mk _ (eqVer_a M _) ?_ | refine CallQ.mk _ (eqVer_a M _) ?_ | refine CallK.mk _ (eqReq_a M _) ?_ | refine CallQ.mk _ (eqReq_a M _) ?_ | (refine CondK.no' ?_ ?_; focus (simp; done)) | (refine CondK.yes' ?_ ?_; focus (simp; done)) | exact rfl)
def szEntry (x : GEntry) (left : Int) : Int := szT (szSub (left) x.Name.size) fun left => left
theorem szEntry_a (M : Mem) (x : GEntry) (left : Int) : Ans Tryz.prog M 89 #[.agg #[.int .i64 x.Ver.Epoch, .int .i64 x.Ver.Seq, .int .i64 x.Prior.Epoch, .int .i64 x.Prior.Seq, .string x.Name, .bool x.Gone, .int .i64 x.Size, .int .i64 x.Sum, .int .i64 x.Req.Client, .int .i64 x.Req.No], .int .i64 left] (.int .i64 (szEntry x left)) := by
  refine ans_of T (l := [.agg #[.int .i64 x.Ver.Epoch, .int .i64 x.Ver.Seq, .int .i64 x.Prior.Epoch, .int .i64 x.Prior.Seq, .string x.Name, .bool x.Gone, .int .i64 x.Size, .int .i64 x.Sum, .int .i64 x.Req.Client, .int .i64 x.Req.No], .int .i64 left]) mixed Tryz.func89 rfl (by kernel_rfl) (Nat.le_of_ble_eq_true rfl) ?_
  repeat' ((conv => whnf); first | with_reducible refine CondK.tt ?_ | with_reducible refine CondK.ff ?_ | with_reducible refine CondK.not ?_ | refine CondK.mk (fun h => ?_) (fun h => ?_) | exact rfl)
  all_goals refine ret_int ?_
  all_goals (simp only [decide_eq_true_eq, decide_eq_false_iff_not] at *)
  all_goals first | (simp only [szEntry, szT, if_true, if_false, *]; done) | (simp [szEntry, szT, *]; done) | (simp [szEntry, szT, szSub, *]; done) | (unfold szEntry szT szSub; simp [*]; done) | grind [szEntry, szT, szSub]
theorem szEntry_ok {M : Mem} {x : GEntry} {cs : List Value} (hr : REntry M x cs) {left : Int} (h0 : 0 ≤ left) (h1 : left ≤ 1048576) (h : 0 ≤ szEntry x left) : True ∧ szEntry x left ≤ 1048576 := by
  obtain ⟨rfl, hb⟩ := hr
  unfold szEntry at h ⊢
  obtain ⟨p2, h', e2⟩ := szT_ok h
  replace h := h'
  rw [e2]
  have q2 := szSub_ok h0 h1 (by simp_all) p2
  exact ⟨trivial, q2.2⟩
theorem toEntry_a (M : Mem) (x : GEntry) : Ans Tryz.prog M 94 #[.agg #[.int .i64 x.Ver.Epoch, .int .i64 x.Ver.Seq, .int .i64 x.Prior.Epoch, .int .i64 x.Prior.Seq, .string x.Name, .bool x.Gone, .int .i64 x.Size, .int .i64 x.Sum, .int .i64 x.Req.Client, .int .i64 x.Req.No]] (.agg #[.int .i64 x.Ver.Epoch, .int .i64 x.Ver.Seq, .int .i64 x.Prior.Epoch, .int .i64 x.Prior.Seq, .string x.Name, .bool x.Gone, .int .i64 x.Size, .int .i64 x.Sum, .int .i64 x.Req.Client, .int .i64 x.Req.No]) := by
  refine ans_of T (l := [.agg #[.int .i64 x.Ver.Epoch, .int .i64 x.Ver.Seq, .int .i64 x.Prior.Epoch, .int .i64 x.Prior.Seq, .string x.Name, .bool x.Gone, .int .i64 x.Size, .int .i64 x.Sum, .int .i64 x.Req.Client, .int .i64 x.Req.No]]) mixed Tryz.func94 rfl (by kernel_rfl) (Nat.le_of_ble_eq_true rfl) ?_
  repeat' ((conv => whnf); first | with_reducible refine CondK.tt ?_ | with_reducible refine CondK.ff ?_ | with_reducible refine CondK.not ?_ | refine CallK.mk _ (toVer_a M _) ?_ | refine CallQ.mk _ (toVer_a M _) ?_ | refine CallK.mk _ (toVer_a M _) ?_ | refine CallQ.mk _ (toVer_a M _) ?_ | refine CallK.mk _ (toReq_a M _) ?_ | refine CallQ.mk _ (toReq_a M _) ?_ | exact rfl)
theorem eqEntryS_a (M : Mem) (l : List GEntry) (A A' : Option Addr) (c c' : Nat) (h : SlR M REntry 10 88 A c l) (h' : SlR M REntry 10 88 A' c' l) : Ans Tryz.prog M 82 #[.slice A l.length c, .slice A' l.length c'] (.bool true) := by
  have hl := h.len
  refine ans_of T (l := [.slice A l.length c, .slice A' l.length c']) mixed Tryz.func82 rfl (by kernel_rfl) (Nat.le_of_ble_eq_true rfl) ?_
  (conv => whnf)
  refine CondK.mk (fun h1 => absurd h1 (by simp)) (fun _ => ?_)
  (conv => whnf)
  refine LoopK.mk {k : Nat // k ≤ l.length} (fun ⟨k, _⟩ => [(0, .v (.slice A l.length c)), (1, .v (.slice A' l.length c')), (5, .v (.int .i64 (k : Int)))]) (fun _ => []) (fun _ => M) (fun k => l.length - k.1) ⟨0, Nat.zero_le _⟩ ⟨⟨⟨rfl, rfl, rfl, trivial⟩, trivial, rfl, rfl⟩, rfl⟩ ?_
  rintro ⟨k, hk⟩
  (conv => whnf)
  refine CondK.mk (fun h1 => ?_) (fun h1 => ?_)
  · have hlt : k < l.length := by simpa using h1
    obtain ⟨ad, rfl, bnx, x0, x1, x2, x3, x4, x5, x6, x7, x8, x9⟩ := at_Entry h (List.getElem?_eq_getElem hlt)
    obtain ⟨ad', rfl, bny, y0, y1, y2, y3, y4, y5, y6, y7, y8, y9⟩ := at_Entry h' (List.getElem?_eq_getElem hlt)
    repeat' ((conv => whnf); first | with_reducible refine CondK.tt ?_ | with_reducible refine CondK.ff ?_ | with_reducible refine CondK.not ?_ | refine LdK.mk _ (by assumption) ?_ | refine IdxK.mk _ rfl (by omega) (by omega) ?_ | refine DrawN.q (by kernel_rfl) ?_ | refine CallK.mk _ (eqEntry_a M l[k]) ?_ | refine CallQ.mk _ (eqEntry_a M l[k]) ?_ | (refine CondK.no' ?_ ?_; focus (simp; done)) | (refine CondK.yes' ?_ ?_; focus (simp; done)) | exact rfl)
    exact ⟨⟨k + 1, hlt⟩, ⟨⟨rfl, rfl, look_int (i64_succ (by omega)), trivial⟩, trivial, rfl, rfl⟩, rfl, by simp; omega⟩
  · rfl
theorem szEntryS_a (M : Mem) (l : List GEntry) (left : Int) (A : Option Addr) (c : Nat) (h : SlR M REntry 10 88 A c l) : Ans Tryz.prog M 52 #[.slice A l.length c, .int .i64 left] (.int .i64 (szL szEntry l left)) := by
  have hl := h.len
  refine ans_of T (l := [.slice A l.length c, .int .i64 left]) mixed Tryz.func52 rfl (by kernel_rfl) (Nat.le_of_ble_eq_true rfl) ?_
  (conv => whnf)
  refine CondK.mk (fun h1 => ?_) (fun h1 => ?_)
  · refine ret_int ?_
    rw [szL, if_pos (by simpa using h1)]
  have h2 : szL szEntry l left = szRun szEntry l (IntKind.i64.wrap (left - (l.length : Int))) := by rw [szL, if_neg (by simpa using h1)]
  rw [h2]
  clear h1 h2
  generalize IntKind.i64.wrap (left - (l.length : Int)) = n0
  (conv => whnf)
  refine LoopK.mk {p : Nat × Int // p.1 ≤ l.length ∧ szRun szEntry l n0 = szRun szEntry (l.drop p.1) p.2} (fun ⟨(k, n), _⟩ => [(0, .v (.slice A l.length c)), (1, .v (.int .i64 n)), (5, .v (.int .i64 (k : Int)))]) (fun _ => []) (fun _ => M) (fun p => l.length - p.1.1) ⟨(0, n0), Nat.zero_le _, rfl⟩ ⟨⟨⟨rfl, rfl, rfl, trivial⟩, trivial, rfl, rfl⟩, rfl⟩ ?_
  rintro ⟨⟨k, n⟩, hk, hn⟩
  (conv => whnf)
  refine CondK.mk (fun h1 => ?_) (fun h1 => ?_)
  · have hlt : k < l.length := by simpa using h1
    obtain ⟨ad, rfl, bnx, x0, x1, x2, x3, x4, x5, x6, x7, x8, x9⟩ := at_Entry h (List.getElem?_eq_getElem hlt)
    simp only [] at hn
    rw [szRun_step hlt] at hn
    repeat' ((conv => whnf); first | with_reducible refine CondK.tt ?_ | with_reducible refine CondK.ff ?_ | with_reducible refine CondK.not ?_ | refine LdK.mk _ (by assumption) ?_ | refine IdxK.mk _ rfl (by omega) (by omega) ?_ | refine DrawN.q (by kernel_rfl) ?_ | refine CallK.mk _ (szEntry_a M l[k] n) ?_ | refine CallQ.mk _ (szEntry_a M l[k] n) ?_ | refine CondK.mk (fun h => ?_) (fun h => ?_) | exact rfl)
    · refine ret_int ?_
      rw [hn, if_pos (by simpa using h)]
    · rw [if_neg (by simpa using h)] at hn
      exact ⟨⟨(k + 1, _), hlt, hn⟩, ⟨⟨rfl, rfl, look_int (i64_succ (by omega)), trivial⟩, trivial, rfl, rfl⟩, rfl, by simp; omega⟩
  · refine ret_int ?_
    simp only [] at hn
    rw [hn, List.drop_eq_nil_of_le (by simp at h1; omega)]
    rfl
theorem toEntryS_a (M : Mem) (l : List GEntry) (A : Option Addr) (c : Nat) (h : SlR M REntry 10 88 A c l) (hsm : l.length ≤ 1048576 ∧ ∀ y ∈ l, True) : AnsR Tryz.prog M 64 #[.slice A l.length c] (fun M' v => ∃ A' c', v = .slice A' l.length c' ∧ SlR M' REntry 10 88 A' c' l) := by
  have hl := hsm.1
  refine ansR_of T (l := [.slice A l.length c]) mixed Tryz.func64 rfl (by kernel_rfl) (Nat.le_of_ble_eq_true rfl) ?_
  (conv => whnf)
  refine MkK.mk rfl (by omega) (by omega) (by show ((88 : Nat) : Int) * (l.length : Int) ≤ _; omega) ?_
  (conv => whnf)
  refine LoopK.mk (Fill M REntry 10 l) (fun q => [(0, .v (.slice A l.length c)), (3, .s 0 l.length l.length 10), (4, .v (.int .i64 (q.css.length : Int)))]) (fun q => [(0, q.cells [.int .i64 0, .int .i64 0, .int .i64 0, .int .i64 0, .string ⟨#[]⟩, .bool false, .int .i64 0, .int .i64 0, .int .i64 0, .int .i64 0])]) (fun q => q.M) (fun q => l.length - q.css.length) (Fill.start M REntry 10 l) ⟨⟨⟨rfl, rfl, rfl, trivial⟩, ⟨rfl, trivial⟩, rfl, rfl⟩, rfl⟩ ?_
  intro q
  have h := h.mono q.le (REntry.mono q.le)
  (conv => whnf)
  refine CondK.mk (fun h1 => ?_) (fun h1 => ?_)
  · have hlt : q.css.length < l.length := by simpa using h1
    have hx := List.getElem?_eq_getElem hlt
    obtain ⟨ad, rfl, bnx, x0, x1, x2, x3, x4, x5, x6, x7, x8, x9⟩ := at_Entry h hx
    repeat' ((conv => whnf); first | with_reducible refine CondK.tt ?_ | with_reducible refine CondK.ff ?_ | with_reducible refine CondK.not ?_ | refine LdK.mk _ (by assumption) ?_ | refine IdxK.mk _ rfl (by omega) (by omega) ?_ | refine DrawN.q (by kernel_rfl) ?_ | refine IdxA.mk (q.css.length * 10) rfl (by omega) (by omega) ?_ | refine CallK.mk _ (toEntry_a _ l[q.css.length]) ?_ | refine CallQ.mk _ (toEntry_a _ l[q.css.length]) ?_ | exact rfl)
    have hs := q.store (Le.refl _) (fun _ _ h => h) hx ⟨rfl, bnx⟩ rfl (Z := [.int .i64 0, .int .i64 0, .int .i64 0, .int .i64 0, .string ⟨#[]⟩, .bool false, .int .i64 0, .int .i64 0, .int .i64 0, .int .i64 0]) rfl
    have hroom := q.room1 (Z := [.int .i64 0, .int .i64 0, .int .i64 0, .int .i64 0, .string ⟨#[]⟩, .bool false, .int .i64 0, .int .i64 0, .int .i64 0, .int .i64 0]) rfl hlt
    refine Owe.mk hroom ?_
    (conv => whnf)
    exact ⟨q.step (Le.refl _) (fun _ _ h => h) hx ⟨rfl, bnx⟩ rfl, ⟨⟨rfl, rfl, look_int ((i64_succ (by omega)).trans (by simp [Fill.step])), trivial⟩, ⟨congrArg some hs, trivial⟩, rfl, rfl⟩, rfl, by simp [Fill.step]; omega⟩
  · refine RetK.mk fun g M' hl hg => ⟨_, _, rfl, ?_⟩
    exact q.done (Z := [.int .i64 0, .int .i64 0, .int .i64 0, .int .i64 0, .string ⟨#[]⟩, .bool false, .int .i64 0, .int .i64 0, .int .i64 0, .int .i64 0]) (by simpa using h1) (REntry.mono hl) (hg 0 _ rfl) h.len
theorem eqChunk_a (M : Mem) (x : GChunk) : Ans Tryz.prog M 84 #[.agg #[.string x.Name, .int .i64 x.Ver.Epoch, .int .i64 x.Ver.Seq, .int .i64 x.Pos, .int .i64 x.Sum, .string x.Bytes], .agg #[.string x.Name, .int .i64 x.Ver.Epoch, .int .i64 x.Ver.Seq, .int .i64 x.Pos, .int .i64 x.Sum, .string x.Bytes]] (.bool true) := by
  refine ans_of T (l := [.agg #[.string x.Name, .int .i64 x.Ver.Epoch, .int .i64 x.Ver.Seq, .int .i64 x.Pos, .int .i64 x.Sum, .string x.Bytes], .agg #[.string x.Name, .int .i64 x.Ver.Epoch, .int .i64 x.Ver.Seq, .int .i64 x.Pos, .int .i64 x.Sum, .string x.Bytes]]) mixed Tryz.func84 rfl (by kernel_rfl) (Nat.le_of_ble_eq_true rfl) ?_
  repeat' ((conv => whnf); first | with_reducible refine CondK.tt ?_ | with_reducible refine CondK.ff ?_ | with_reducible refine CondK.not ?_ | refine CallK.mk _ (eqVer_a M _) ?_ | refine CallQ.mk _ (eqVer_a M _) ?_ | (refine CondK.no' ?_ ?_; focus (simp; done)) | (refine CondK.yes' ?_ ?_; focus (simp; done)) | exact rfl)
def szChunk (x : GChunk) (left : Int) : Int := szT (szSub (left) x.Name.size) fun left => szT (szSub (left) x.Bytes.size) fun left => left
theorem szChunk_a (M : Mem) (x : GChunk) (left : Int) : Ans Tryz.prog M 54 #[.agg #[.string x.Name, .int .i64 x.Ver.Epoch, .int .i64 x.Ver.Seq, .int .i64 x.Pos, .int .i64 x.Sum, .string x.Bytes], .int .i64 left] (.int .i64 (szChunk x left)) := by
  refine ans_of T (l := [.agg #[.string x.Name, .int .i64 x.Ver.Epoch, .int .i64 x.Ver.Seq, .int .i64 x.Pos, .int .i64 x.Sum, .string x.Bytes], .int .i64 left]) mixed Tryz.func54 rfl (by kernel_rfl) (Nat.le_of_ble_eq_true rfl) ?_
  repeat' ((conv => whnf); first | with_reducible refine CondK.tt ?_ | with_reducible refine CondK.ff ?_ | with_reducible refine CondK.not ?_ | refine CondK.mk (fun h => ?_) (fun h => ?_) | exact rfl)
  all_goals refine ret_int ?_
  all_goals (simp only [decide_eq_true_eq, decide_eq_false_iff_not] at *)
  all_goals first | (simp only [szChunk, szT, if_true, if_false, *]; done) | (simp [szChunk, szT, *]; done) | (simp [szChunk, szT, szSub, *]; done) | (unfold szChunk szT szSub; simp [*]; done) | grind [szChunk, szT, szSub]
theorem szChunk_ok {M : Mem} {x : GChunk} {cs : List Value} (hr : RChunk M x cs) {left : Int} (h0 : 0 ≤ left) (h1 : left ≤ 1048576) (h : 0 ≤ szChunk x left) : True ∧ szChunk x left ≤ 1048576 := by
  obtain ⟨rfl, hb⟩ := hr
  unfold szChunk at h ⊢
  obtain ⟨p0, h', e0⟩ := szT_ok h
  replace h := h'
  rw [e0]
  have q0 := szSub_ok h0 h1 (by simp_all) p0
  obtain ⟨p4, h', e4⟩ := szT_ok h
  replace h := h'
  rw [e4]
  have q4 := szSub_ok p0 q0.2 (by simp_all) p4
  exact ⟨trivial, q4.2⟩
theorem toChunk_a (M : Mem) (x : GChunk) : Ans Tryz.prog M 66 #[.agg #[.string x.Name, .int .i64 x.Ver.Epoch, .int .i64 x.Ver.Seq, .int .i64 x.Pos, .int .i64 x.Sum, .string x.Bytes]] (.agg #[.string x.Name, .int .i64 x.Ver.Epoch, .int .i64 x.Ver.Seq, .int .i64 x.Pos, .int .i64 x.Sum, .string x.Bytes]) := by
  refine ans_of T (l := [.agg #[.string x.Name, .int .i64 x.Ver.Epoch, .int .i64 x.Ver.Seq, .int .i64 x.Pos, .int .i64 x.Sum, .string x.Bytes]]) mixed Tryz.func66 rfl (by kernel_rfl) (Nat.le_of_ble_eq_true rfl) ?_
  repeat' ((conv => whnf); first | with_reducible refine CondK.tt ?_ | with_reducible refine CondK.ff ?_ | with_reducible refine CondK.not ?_ | refine CallK.mk _ (toVer_a M _) ?_ | refine CallQ.mk _ (toVer_a M _) ?_ | exact rfl)
theorem eqChunkS_a (M : Mem) (l : List GChunk) (A A' : Option Addr) (c c' : Nat) (h : SlR M RChunk 6 64 A c l) (h' : SlR M RChunk 6 64 A' c' l) : Ans Tryz.prog M 46 #[.slice A l.length c, .slice A' l.length c'] (.bool true) := by
  have hl := h.len
  refine ans_of T (l := [.slice A l.length c, .slice A' l.length c']) mixed Tryz.func46 rfl (by kernel_rfl) (Nat.le_of_ble_eq_true rfl) ?_
  (conv => whnf)
  refine CondK.mk (fun h1 => absurd h1 (by simp)) (fun _ => ?_)
  (conv => whnf)
  refine LoopK.mk {k : Nat // k ≤ l.length} (fun ⟨k, _⟩ => [(0, .v (.slice A l.length c)), (1, .v (.slice A' l.length c')), (5, .v (.int .i64 (k : Int)))]) (fun _ => []) (fun _ => M) (fun k => l.length - k.1) ⟨0, Nat.zero_le _⟩ ⟨⟨⟨rfl, rfl, rfl, trivial⟩, trivial, rfl, rfl⟩, rfl⟩ ?_
  rintro ⟨k, hk⟩
  (conv => whnf)
  refine CondK.mk (fun h1 => ?_) (fun h1 => ?_)
  · have hlt : k < l.length := by simpa using h1
    obtain ⟨ad, rfl, bnx, x0, x1, x2, x3, x4, x5⟩ := at_Chunk h (List.getElem?_eq_getElem hlt)
    obtain ⟨ad', rfl, bny, y0, y1, y2, y3, y4, y5⟩ := at_Chunk h' (List.getElem?_eq_getElem hlt)
    repeat' ((conv => whnf); first | with_reducible refine CondK.tt ?_ | with_reducible refine CondK.ff ?_ | with_reducible refine CondK.not ?_ | refine LdK.mk _ (by assumption) ?_ | refine IdxK.mk _ rfl (by omega) (by omega) ?_ | refine DrawN.q (by kernel_rfl) ?_ | refine CallK.mk _ (eqChunk_a M l[k]) ?_ | refine CallQ.mk _ (eqChunk_a M l[k]) ?_ | (refine CondK.no' ?_ ?_; focus (simp; done)) | (refine CondK.yes' ?_ ?_; focus (simp; done)) | exact rfl)
    exact ⟨⟨k + 1, hlt⟩, ⟨⟨rfl, rfl, look_int (i64_succ (by omega)), trivial⟩, trivial, rfl, rfl⟩, rfl, by simp; omega⟩
  · rfl
theorem szChunkS_a (M : Mem) (l : List GChunk) (left : Int) (A : Option Addr) (c : Nat) (h : SlR M RChunk 6 64 A c l) : Ans Tryz.prog M 14 #[.slice A l.length c, .int .i64 left] (.int .i64 (szL szChunk l left)) := by
  have hl := h.len
  refine ans_of T (l := [.slice A l.length c, .int .i64 left]) mixed Tryz.func14 rfl (by kernel_rfl) (Nat.le_of_ble_eq_true rfl) ?_
  (conv => whnf)
  refine CondK.mk (fun h1 => ?_) (fun h1 => ?_)
  · refine ret_int ?_
    rw [szL, if_pos (by simpa using h1)]
  have h2 : szL szChunk l left = szRun szChunk l (IntKind.i64.wrap (left - (l.length : Int))) := by rw [szL, if_neg (by simpa using h1)]
  rw [h2]
  clear h1 h2
  generalize IntKind.i64.wrap (left - (l.length : Int)) = n0
  (conv => whnf)
  refine LoopK.mk {p : Nat × Int // p.1 ≤ l.length ∧ szRun szChunk l n0 = szRun szChunk (l.drop p.1) p.2} (fun ⟨(k, n), _⟩ => [(0, .v (.slice A l.length c)), (1, .v (.int .i64 n)), (5, .v (.int .i64 (k : Int)))]) (fun _ => []) (fun _ => M) (fun p => l.length - p.1.1) ⟨(0, n0), Nat.zero_le _, rfl⟩ ⟨⟨⟨rfl, rfl, rfl, trivial⟩, trivial, rfl, rfl⟩, rfl⟩ ?_
  rintro ⟨⟨k, n⟩, hk, hn⟩
  (conv => whnf)
  refine CondK.mk (fun h1 => ?_) (fun h1 => ?_)
  · have hlt : k < l.length := by simpa using h1
    obtain ⟨ad, rfl, bnx, x0, x1, x2, x3, x4, x5⟩ := at_Chunk h (List.getElem?_eq_getElem hlt)
    simp only [] at hn
    rw [szRun_step hlt] at hn
    repeat' ((conv => whnf); first | with_reducible refine CondK.tt ?_ | with_reducible refine CondK.ff ?_ | with_reducible refine CondK.not ?_ | refine LdK.mk _ (by assumption) ?_ | refine IdxK.mk _ rfl (by omega) (by omega) ?_ | refine DrawN.q (by kernel_rfl) ?_ | refine CallK.mk _ (szChunk_a M l[k] n) ?_ | refine CallQ.mk _ (szChunk_a M l[k] n) ?_ | refine CondK.mk (fun h => ?_) (fun h => ?_) | exact rfl)
    · refine ret_int ?_
      rw [hn, if_pos (by simpa using h)]
    · rw [if_neg (by simpa using h)] at hn
      exact ⟨⟨(k + 1, _), hlt, hn⟩, ⟨⟨rfl, rfl, look_int (i64_succ (by omega)), trivial⟩, trivial, rfl, rfl⟩, rfl, by simp; omega⟩
  · refine ret_int ?_
    simp only [] at hn
    rw [hn, List.drop_eq_nil_of_le (by simp at h1; omega)]
    rfl
theorem toChunkS_a (M : Mem) (l : List GChunk) (A : Option Addr) (c : Nat) (h : SlR M RChunk 6 64 A c l) (hsm : l.length ≤ 1048576 ∧ ∀ y ∈ l, True) : AnsR Tryz.prog M 28 #[.slice A l.length c] (fun M' v => ∃ A' c', v = .slice A' l.length c' ∧ SlR M' RChunk 6 64 A' c' l) := by
  have hl := hsm.1
  refine ansR_of T (l := [.slice A l.length c]) mixed Tryz.func28 rfl (by kernel_rfl) (Nat.le_of_ble_eq_true rfl) ?_
  (conv => whnf)
  refine MkK.mk rfl (by omega) (by omega) (by show ((64 : Nat) : Int) * (l.length : Int) ≤ _; omega) ?_
  (conv => whnf)
  refine LoopK.mk (Fill M RChunk 6 l) (fun q => [(0, .v (.slice A l.length c)), (3, .s 0 l.length l.length 6), (4, .v (.int .i64 (q.css.length : Int)))]) (fun q => [(0, q.cells [.string ⟨#[]⟩, .int .i64 0, .int .i64 0, .int .i64 0, .int .i64 0, .string ⟨#[]⟩])]) (fun q => q.M) (fun q => l.length - q.css.length) (Fill.start M RChunk 6 l) ⟨⟨⟨rfl, rfl, rfl, trivial⟩, ⟨rfl, trivial⟩, rfl, rfl⟩, rfl⟩ ?_
  intro q
  have h := h.mono q.le (RChunk.mono q.le)
  (conv => whnf)
  refine CondK.mk (fun h1 => ?_) (fun h1 => ?_)
  · have hlt : q.css.length < l.length := by simpa using h1
    have hx := List.getElem?_eq_getElem hlt
    obtain ⟨ad, rfl, bnx, x0, x1, x2, x3, x4, x5⟩ := at_Chunk h hx
    repeat' ((conv => whnf); first | with_reducible refine CondK.tt ?_ | with_reducible refine CondK.ff ?_ | with_reducible refine CondK.not ?_ | refine LdK.mk _ (by assumption) ?_ | refine IdxK.mk _ rfl (by omega) (by omega) ?_ | refine DrawN.q (by kernel_rfl) ?_ | refine IdxA.mk (q.css.length * 6) rfl (by omega) (by omega) ?_ | refine CallK.mk _ (toChunk_a _ l[q.css.length]) ?_ | refine CallQ.mk _ (toChunk_a _ l[q.css.length]) ?_ | exact rfl)
    have hs := q.store (Le.refl _) (fun _ _ h => h) hx ⟨rfl, bnx⟩ rfl (Z := [.string ⟨#[]⟩, .int .i64 0, .int .i64 0, .int .i64 0, .int .i64 0, .string ⟨#[]⟩]) rfl
    have hroom := q.room1 (Z := [.string ⟨#[]⟩, .int .i64 0, .int .i64 0, .int .i64 0, .int .i64 0, .string ⟨#[]⟩]) rfl hlt
    refine Owe.mk hroom ?_
    (conv => whnf)
    exact ⟨q.step (Le.refl _) (fun _ _ h => h) hx ⟨rfl, bnx⟩ rfl, ⟨⟨rfl, rfl, look_int ((i64_succ (by omega)).trans (by simp [Fill.step])), trivial⟩, ⟨congrArg some hs, trivial⟩, rfl, rfl⟩, rfl, by simp [Fill.step]; omega⟩
  · refine RetK.mk fun g M' hl hg => ⟨_, _, rfl, ?_⟩
    exact q.done (Z := [.string ⟨#[]⟩, .int .i64 0, .int .i64 0, .int .i64 0, .int .i64 0, .string ⟨#[]⟩]) (by simpa using h1) (RChunk.mono hl) (hg 0 _ rfl) h.len
theorem eqWay_a (M : Mem) (x : GWay) : Ans Tryz.prog M 102 #[.agg #[.int .i64 x.Entry.Ver.Epoch, .int .i64 x.Entry.Ver.Seq, .int .i64 x.Entry.Prior.Epoch, .int .i64 x.Entry.Prior.Seq, .string x.Entry.Name, .bool x.Entry.Gone, .int .i64 x.Entry.Size, .int .i64 x.Entry.Sum, .int .i64 x.Entry.Req.Client, .int .i64 x.Entry.Req.No, .string x.Body], .agg #[.int .i64 x.Entry.Ver.Epoch, .int .i64 x.Entry.Ver.Seq, .int .i64 x.Entry.Prior.Epoch, .int .i64 x.Entry.Prior.Seq, .string x.Entry.Name, .bool x.Entry.Gone, .int .i64 x.Entry.Size, .int .i64 x.Entry.Sum, .int .i64 x.Entry.Req.Client, .int .i64 x.Entry.Req.No, .string x.Body]] (.bool true) := by
  refine ans_of T (l := [.agg #[.int .i64 x.Entry.Ver.Epoch, .int .i64 x.Entry.Ver.Seq, .int .i64 x.Entry.Prior.Epoch, .int .i64 x.Entry.Prior.Seq, .string x.Entry.Name, .bool x.Entry.Gone, .int .i64 x.Entry.Size, .int .i64 x.Entry.Sum, .int .i64 x.Entry.Req.Client, .int .i64 x.Entry.Req.No, .string x.Body], .agg #[.int .i64 x.Entry.Ver.Epoch, .int .i64 x.Entry.Ver.Seq, .int .i64 x.Entry.Prior.Epoch, .int .i64 x.Entry.Prior.Seq, .string x.Entry.Name, .bool x.Entry.Gone, .int .i64 x.Entry.Size, .int .i64 x.Entry.Sum, .int .i64 x.Entry.Req.Client, .int .i64 x.Entry.Req.No, .string x.Body]]) mixed Tryz.func102 rfl (by kernel_rfl) (Nat.le_of_ble_eq_true rfl) ?_
  repeat' ((conv => whnf); first | with_reducible refine CondK.tt ?_ | with_reducible refine CondK.ff ?_ | with_reducible refine CondK.not ?_ | refine CallK.mk _ (eqEntry_a M _) ?_ | refine CallQ.mk _ (eqEntry_a M _) ?_ | (refine CondK.no' ?_ ?_; focus (simp; done)) | (refine CondK.yes' ?_ ?_; focus (simp; done)) | exact rfl)
def szWay (x : GWay) (left : Int) : Int := szT (szEntry x.Entry (left)) fun left => szT (szSub (left) x.Body.size) fun left => left
theorem szWay_a (M : Mem) (x : GWay) (left : Int) : Ans Tryz.prog M 90 #[.agg #[.int .i64 x.Entry.Ver.Epoch, .int .i64 x.Entry.Ver.Seq, .int .i64 x.Entry.Prior.Epoch, .int .i64 x.Entry.Prior.Seq, .string x.Entry.Name, .bool x.Entry.Gone, .int .i64 x.Entry.Size, .int .i64 x.Entry.Sum, .int .i64 x.Entry.Req.Client, .int .i64 x.Entry.Req.No, .string x.Body], .int .i64 left] (.int .i64 (szWay x left)) := by
  refine ans_of T (l := [.agg #[.int .i64 x.Entry.Ver.Epoch, .int .i64 x.Entry.Ver.Seq, .int .i64 x.Entry.Prior.Epoch, .int .i64 x.Entry.Prior.Seq, .string x.Entry.Name, .bool x.Entry.Gone, .int .i64 x.Entry.Size, .int .i64 x.Entry.Sum, .int .i64 x.Entry.Req.Client, .int .i64 x.Entry.Req.No, .string x.Body], .int .i64 left]) mixed Tryz.func90 rfl (by kernel_rfl) (Nat.le_of_ble_eq_true rfl) ?_
  repeat' ((conv => whnf); first | with_reducible refine CondK.tt ?_ | with_reducible refine CondK.ff ?_ | with_reducible refine CondK.not ?_ | refine CallK.mk _ (szEntry_a M x.Entry _) ?_ | refine CallQ.mk _ (szEntry_a M x.Entry _) ?_ | refine CondK.mk (fun h => ?_) (fun h => ?_) | exact rfl)
  all_goals refine ret_int ?_
  all_goals (simp only [decide_eq_true_eq, decide_eq_false_iff_not] at *)
  all_goals first | (simp only [szWay, szT, if_true, if_false, *]; done) | (simp [szWay, szT, *]; done) | (simp [szWay, szT, szSub, *]; done) | (unfold szWay szT szSub; simp [*]; done) | grind [szWay, szT, szSub]
theorem szWay_ok {M : Mem} {x : GWay} {cs : List Value} (hr : RWay M x cs) {left : Int} (h0 : 0 ≤ left) (h1 : left ≤ 1048576) (h : 0 ≤ szWay x left) : True ∧ szWay x left ≤ 1048576 := by
  obtain ⟨rfl, hb⟩ := hr
  unfold szWay at h ⊢
  obtain ⟨p0, h', e0⟩ := szT_ok h
  replace h := h'
  rw [e0]
  have q0 := szEntry_ok (show REntry M x.Entry _ from ⟨rfl, (by simp_all)⟩) h0 h1 p0
  obtain ⟨p1, h', e1⟩ := szT_ok h
  replace h := h'
  rw [e1]
  have q1 := szSub_ok p0 q0.2 (by simp_all) p1
  exact ⟨trivial, q1.2⟩
theorem toWay_a (M : Mem) (x : GWay) : Ans Tryz.prog M 95 #[.agg #[.int .i64 x.Entry.Ver.Epoch, .int .i64 x.Entry.Ver.Seq, .int .i64 x.Entry.Prior.Epoch, .int .i64 x.Entry.Prior.Seq, .string x.Entry.Name, .bool x.Entry.Gone, .int .i64 x.Entry.Size, .int .i64 x.Entry.Sum, .int .i64 x.Entry.Req.Client, .int .i64 x.Entry.Req.No, .string x.Body]] (.agg #[.int .i64 x.Entry.Ver.Epoch, .int .i64 x.Entry.Ver.Seq, .int .i64 x.Entry.Prior.Epoch, .int .i64 x.Entry.Prior.Seq, .string x.Entry.Name, .bool x.Entry.Gone, .int .i64 x.Entry.Size, .int .i64 x.Entry.Sum, .int .i64 x.Entry.Req.Client, .int .i64 x.Entry.Req.No, .string x.Body]) := by
  refine ans_of T (l := [.agg #[.int .i64 x.Entry.Ver.Epoch, .int .i64 x.Entry.Ver.Seq, .int .i64 x.Entry.Prior.Epoch, .int .i64 x.Entry.Prior.Seq, .string x.Entry.Name, .bool x.Entry.Gone, .int .i64 x.Entry.Size, .int .i64 x.Entry.Sum, .int .i64 x.Entry.Req.Client, .int .i64 x.Entry.Req.No, .string x.Body]]) mixed Tryz.func95 rfl (by kernel_rfl) (Nat.le_of_ble_eq_true rfl) ?_
  repeat' ((conv => whnf); first | with_reducible refine CondK.tt ?_ | with_reducible refine CondK.ff ?_ | with_reducible refine CondK.not ?_ | refine CallK.mk _ (toEntry_a M _) ?_ | refine CallQ.mk _ (toEntry_a M _) ?_ | exact rfl)
theorem eqWayS_a (M : Mem) (l : List GWay) (A A' : Option Addr) (c c' : Nat) (h : SlR M RWay 11 104 A c l) (h' : SlR M RWay 11 104 A' c' l) : Ans Tryz.prog M 85 #[.slice A l.length c, .slice A' l.length c'] (.bool true) := by
  have hl := h.len
  refine ans_of T (l := [.slice A l.length c, .slice A' l.length c']) mixed Tryz.func85 rfl (by kernel_rfl) (Nat.le_of_ble_eq_true rfl) ?_
  (conv => whnf)
  refine CondK.mk (fun h1 => absurd h1 (by simp)) (fun _ => ?_)
  (conv => whnf)
  refine LoopK.mk {k : Nat // k ≤ l.length} (fun ⟨k, _⟩ => [(0, .v (.slice A l.length c)), (1, .v (.slice A' l.length c')), (5, .v (.int .i64 (k : Int)))]) (fun _ => []) (fun _ => M) (fun k => l.length - k.1) ⟨0, Nat.zero_le _⟩ ⟨⟨⟨rfl, rfl, rfl, trivial⟩, trivial, rfl, rfl⟩, rfl⟩ ?_
  rintro ⟨k, hk⟩
  (conv => whnf)
  refine CondK.mk (fun h1 => ?_) (fun h1 => ?_)
  · have hlt : k < l.length := by simpa using h1
    obtain ⟨ad, rfl, bnx, x0, x1, x2, x3, x4, x5, x6, x7, x8, x9, x10⟩ := at_Way h (List.getElem?_eq_getElem hlt)
    obtain ⟨ad', rfl, bny, y0, y1, y2, y3, y4, y5, y6, y7, y8, y9, y10⟩ := at_Way h' (List.getElem?_eq_getElem hlt)
    repeat' ((conv => whnf); first | with_reducible refine CondK.tt ?_ | with_reducible refine CondK.ff ?_ | with_reducible refine CondK.not ?_ | refine LdK.mk _ (by assumption) ?_ | refine IdxK.mk _ rfl (by omega) (by omega) ?_ | refine DrawN.q (by kernel_rfl) ?_ | refine CallK.mk _ (eqWay_a M l[k]) ?_ | refine CallQ.mk _ (eqWay_a M l[k]) ?_ | (refine CondK.no' ?_ ?_; focus (simp; done)) | (refine CondK.yes' ?_ ?_; focus (simp; done)) | exact rfl)
    exact ⟨⟨k + 1, hlt⟩, ⟨⟨rfl, rfl, look_int (i64_succ (by omega)), trivial⟩, trivial, rfl, rfl⟩, rfl, by simp; omega⟩
  · rfl
theorem szWayS_a (M : Mem) (l : List GWay) (left : Int) (A : Option Addr) (c : Nat) (h : SlR M RWay 11 104 A c l) : Ans Tryz.prog M 55 #[.slice A l.length c, .int .i64 left] (.int .i64 (szL szWay l left)) := by
  have hl := h.len
  refine ans_of T (l := [.slice A l.length c, .int .i64 left]) mixed Tryz.func55 rfl (by kernel_rfl) (Nat.le_of_ble_eq_true rfl) ?_
  (conv => whnf)
  refine CondK.mk (fun h1 => ?_) (fun h1 => ?_)
  · refine ret_int ?_
    rw [szL, if_pos (by simpa using h1)]
  have h2 : szL szWay l left = szRun szWay l (IntKind.i64.wrap (left - (l.length : Int))) := by rw [szL, if_neg (by simpa using h1)]
  rw [h2]
  clear h1 h2
  generalize IntKind.i64.wrap (left - (l.length : Int)) = n0
  (conv => whnf)
  refine LoopK.mk {p : Nat × Int // p.1 ≤ l.length ∧ szRun szWay l n0 = szRun szWay (l.drop p.1) p.2} (fun ⟨(k, n), _⟩ => [(0, .v (.slice A l.length c)), (1, .v (.int .i64 n)), (5, .v (.int .i64 (k : Int)))]) (fun _ => []) (fun _ => M) (fun p => l.length - p.1.1) ⟨(0, n0), Nat.zero_le _, rfl⟩ ⟨⟨⟨rfl, rfl, rfl, trivial⟩, trivial, rfl, rfl⟩, rfl⟩ ?_
  rintro ⟨⟨k, n⟩, hk, hn⟩
  (conv => whnf)
  refine CondK.mk (fun h1 => ?_) (fun h1 => ?_)
  · have hlt : k < l.length := by simpa using h1
    obtain ⟨ad, rfl, bnx, x0, x1, x2, x3, x4, x5, x6, x7, x8, x9, x10⟩ := at_Way h (List.getElem?_eq_getElem hlt)
    simp only [] at hn
    rw [szRun_step hlt] at hn
    repeat' ((conv => whnf); first | with_reducible refine CondK.tt ?_ | with_reducible refine CondK.ff ?_ | with_reducible refine CondK.not ?_ | refine LdK.mk _ (by assumption) ?_ | refine IdxK.mk _ rfl (by omega) (by omega) ?_ | refine DrawN.q (by kernel_rfl) ?_ | refine CallK.mk _ (szWay_a M l[k] n) ?_ | refine CallQ.mk _ (szWay_a M l[k] n) ?_ | refine CondK.mk (fun h => ?_) (fun h => ?_) | exact rfl)
    · refine ret_int ?_
      rw [hn, if_pos (by simpa using h)]
    · rw [if_neg (by simpa using h)] at hn
      exact ⟨⟨(k + 1, _), hlt, hn⟩, ⟨⟨rfl, rfl, look_int (i64_succ (by omega)), trivial⟩, trivial, rfl, rfl⟩, rfl, by simp; omega⟩
  · refine ret_int ?_
    simp only [] at hn
    rw [hn, List.drop_eq_nil_of_le (by simp at h1; omega)]
    rfl
theorem toWayS_a (M : Mem) (l : List GWay) (A : Option Addr) (c : Nat) (h : SlR M RWay 11 104 A c l) (hsm : l.length ≤ 1048576 ∧ ∀ y ∈ l, True) : AnsR Tryz.prog M 67 #[.slice A l.length c] (fun M' v => ∃ A' c', v = .slice A' l.length c' ∧ SlR M' RWay 11 104 A' c' l) := by
  have hl := hsm.1
  refine ansR_of T (l := [.slice A l.length c]) mixed Tryz.func67 rfl (by kernel_rfl) (Nat.le_of_ble_eq_true rfl) ?_
  (conv => whnf)
  refine MkK.mk rfl (by omega) (by omega) (by show ((104 : Nat) : Int) * (l.length : Int) ≤ _; omega) ?_
  (conv => whnf)
  refine LoopK.mk (Fill M RWay 11 l) (fun q => [(0, .v (.slice A l.length c)), (3, .s 0 l.length l.length 11), (4, .v (.int .i64 (q.css.length : Int)))]) (fun q => [(0, q.cells [.int .i64 0, .int .i64 0, .int .i64 0, .int .i64 0, .string ⟨#[]⟩, .bool false, .int .i64 0, .int .i64 0, .int .i64 0, .int .i64 0, .string ⟨#[]⟩])]) (fun q => q.M) (fun q => l.length - q.css.length) (Fill.start M RWay 11 l) ⟨⟨⟨rfl, rfl, rfl, trivial⟩, ⟨rfl, trivial⟩, rfl, rfl⟩, rfl⟩ ?_
  intro q
  have h := h.mono q.le (RWay.mono q.le)
  (conv => whnf)
  refine CondK.mk (fun h1 => ?_) (fun h1 => ?_)
  · have hlt : q.css.length < l.length := by simpa using h1
    have hx := List.getElem?_eq_getElem hlt
    obtain ⟨ad, rfl, bnx, x0, x1, x2, x3, x4, x5, x6, x7, x8, x9, x10⟩ := at_Way h hx
    repeat' ((conv => whnf); first | with_reducible refine CondK.tt ?_ | with_reducible refine CondK.ff ?_ | with_reducible refine CondK.not ?_ | refine LdK.mk _ (by assumption) ?_ | refine IdxK.mk _ rfl (by omega) (by omega) ?_ | refine DrawN.q (by kernel_rfl) ?_ | refine IdxA.mk (q.css.length * 11) rfl (by omega) (by omega) ?_ | refine CallK.mk _ (toWay_a _ l[q.css.length]) ?_ | refine CallQ.mk _ (toWay_a _ l[q.css.length]) ?_ | exact rfl)
    have hs := q.store (Le.refl _) (fun _ _ h => h) hx ⟨rfl, bnx⟩ rfl (Z := [.int .i64 0, .int .i64 0, .int .i64 0, .int .i64 0, .string ⟨#[]⟩, .bool false, .int .i64 0, .int .i64 0, .int .i64 0, .int .i64 0, .string ⟨#[]⟩]) rfl
    have hroom := q.room1 (Z := [.int .i64 0, .int .i64 0, .int .i64 0, .int .i64 0, .string ⟨#[]⟩, .bool false, .int .i64 0, .int .i64 0, .int .i64 0, .int .i64 0, .string ⟨#[]⟩]) rfl hlt
    refine Owe.mk hroom ?_
    (conv => whnf)
    exact ⟨q.step (Le.refl _) (fun _ _ h => h) hx ⟨rfl, bnx⟩ rfl, ⟨⟨rfl, rfl, look_int ((i64_succ (by omega)).trans (by simp [Fill.step])), trivial⟩, ⟨congrArg some hs, trivial⟩, rfl, rfl⟩, rfl, by simp [Fill.step]; omega⟩
  · refine RetK.mk fun g M' hl hg => ⟨_, _, rfl, ?_⟩
    exact q.done (Z := [.int .i64 0, .int .i64 0, .int .i64 0, .int .i64 0, .string ⟨#[]⟩, .bool false, .int .i64 0, .int .i64 0, .int .i64 0, .int .i64 0, .string ⟨#[]⟩]) (by simpa using h1) (RWay.mono hl) (hg 0 _ rfl) h.len
theorem eqAck_a (M : Mem) (x : GAck) : Ans Tryz.prog M 103 #[.agg #[.int .i64 x.Node, .int .i64 x.Ver.Epoch, .int .i64 x.Ver.Seq], .agg #[.int .i64 x.Node, .int .i64 x.Ver.Epoch, .int .i64 x.Ver.Seq]] (.bool true) := by
  refine ans_of T (l := [.agg #[.int .i64 x.Node, .int .i64 x.Ver.Epoch, .int .i64 x.Ver.Seq], .agg #[.int .i64 x.Node, .int .i64 x.Ver.Epoch, .int .i64 x.Ver.Seq]]) mixed Tryz.func103 rfl (by kernel_rfl) (Nat.le_of_ble_eq_true rfl) ?_
  repeat' ((conv => whnf); first | with_reducible refine CondK.tt ?_ | with_reducible refine CondK.ff ?_ | with_reducible refine CondK.not ?_ | refine CallK.mk _ (eqVer_a M _) ?_ | refine CallQ.mk _ (eqVer_a M _) ?_ | (refine CondK.no' ?_ ?_; focus (simp; done)) | (refine CondK.yes' ?_ ?_; focus (simp; done)) | exact rfl)
theorem toAck_a (M : Mem) (x : GAck) : Ans Tryz.prog M 96 #[.agg #[.int .i64 x.Node, .int .i64 x.Ver.Epoch, .int .i64 x.Ver.Seq]] (.agg #[.int .i64 x.Node, .int .i64 x.Ver.Epoch, .int .i64 x.Ver.Seq]) := by
  refine ans_of T (l := [.agg #[.int .i64 x.Node, .int .i64 x.Ver.Epoch, .int .i64 x.Ver.Seq]]) mixed Tryz.func96 rfl (by kernel_rfl) (Nat.le_of_ble_eq_true rfl) ?_
  repeat' ((conv => whnf); first | with_reducible refine CondK.tt ?_ | with_reducible refine CondK.ff ?_ | with_reducible refine CondK.not ?_ | refine CallK.mk _ (toVer_a M _) ?_ | refine CallQ.mk _ (toVer_a M _) ?_ | exact rfl)
theorem eqAckS_a (M : Mem) (l : List GAck) (A A' : Option Addr) (c c' : Nat) (h : SlR M RAck 3 24 A c l) (h' : SlR M RAck 3 24 A' c' l) : Ans Tryz.prog M 86 #[.slice A l.length c, .slice A' l.length c'] (.bool true) := by
  have hl := h.len
  refine ans_of T (l := [.slice A l.length c, .slice A' l.length c']) mixed Tryz.func86 rfl (by kernel_rfl) (Nat.le_of_ble_eq_true rfl) ?_
  (conv => whnf)
  refine CondK.mk (fun h1 => absurd h1 (by simp)) (fun _ => ?_)
  (conv => whnf)
  refine LoopK.mk {k : Nat // k ≤ l.length} (fun ⟨k, _⟩ => [(0, .v (.slice A l.length c)), (1, .v (.slice A' l.length c')), (5, .v (.int .i64 (k : Int)))]) (fun _ => []) (fun _ => M) (fun k => l.length - k.1) ⟨0, Nat.zero_le _⟩ ⟨⟨⟨rfl, rfl, rfl, trivial⟩, trivial, rfl, rfl⟩, rfl⟩ ?_
  rintro ⟨k, hk⟩
  (conv => whnf)
  refine CondK.mk (fun h1 => ?_) (fun h1 => ?_)
  · have hlt : k < l.length := by simpa using h1
    obtain ⟨ad, rfl, bnx, x0, x1, x2⟩ := at_Ack h (List.getElem?_eq_getElem hlt)
    obtain ⟨ad', rfl, bny, y0, y1, y2⟩ := at_Ack h' (List.getElem?_eq_getElem hlt)
    repeat' ((conv => whnf); first | with_reducible refine CondK.tt ?_ | with_reducible refine CondK.ff ?_ | with_reducible refine CondK.not ?_ | refine LdK.mk _ (by assumption) ?_ | refine IdxK.mk _ rfl (by omega) (by omega) ?_ | refine DrawN.q (by kernel_rfl) ?_ | refine CallK.mk _ (eqAck_a M l[k]) ?_ | refine CallQ.mk _ (eqAck_a M l[k]) ?_ | (refine CondK.no' ?_ ?_; focus (simp; done)) | (refine CondK.yes' ?_ ?_; focus (simp; done)) | exact rfl)
    exact ⟨⟨k + 1, hlt⟩, ⟨⟨rfl, rfl, look_int (i64_succ (by omega)), trivial⟩, trivial, rfl, rfl⟩, rfl, by simp; omega⟩
  · rfl
theorem szAckS_a (M : Mem) (l : List GAck) (left : Int) (A : Option Addr) (c : Nat) (h : SlR M RAck 3 24 A c l) : Ans Tryz.prog M 56 #[.slice A l.length c, .int .i64 left] (.int .i64 (szSub left l.length)) := by
  refine ans_of T (l := [.slice A l.length c, .int .i64 left]) mixed Tryz.func56 rfl (by kernel_rfl) (Nat.le_of_ble_eq_true rfl) ?_
  repeat' ((conv => whnf); first | with_reducible refine CondK.tt ?_ | with_reducible refine CondK.ff ?_ | with_reducible refine CondK.not ?_ | refine CondK.mk (fun h => ?_) (fun h => ?_) | exact rfl)
  all_goals refine ret_int ?_
  all_goals (unfold szSub; split <;> simp_all <;> omega)
theorem toAckS_a (M : Mem) (l : List GAck) (A : Option Addr) (c : Nat) (h : SlR M RAck 3 24 A c l) (hsm : l.length ≤ 1048576 ∧ ∀ y ∈ l, True) : AnsR Tryz.prog M 68 #[.slice A l.length c] (fun M' v => ∃ A' c', v = .slice A' l.length c' ∧ SlR M' RAck 3 24 A' c' l) := by
  have hl := hsm.1
  refine ansR_of T (l := [.slice A l.length c]) mixed Tryz.func68 rfl (by kernel_rfl) (Nat.le_of_ble_eq_true rfl) ?_
  (conv => whnf)
  refine MkK.mk rfl (by omega) (by omega) (by show ((24 : Nat) : Int) * (l.length : Int) ≤ _; omega) ?_
  (conv => whnf)
  refine LoopK.mk (Fill M RAck 3 l) (fun q => [(0, .v (.slice A l.length c)), (3, .s 0 l.length l.length 3), (4, .v (.int .i64 (q.css.length : Int)))]) (fun q => [(0, q.cells [.int .i64 0, .int .i64 0, .int .i64 0])]) (fun q => q.M) (fun q => l.length - q.css.length) (Fill.start M RAck 3 l) ⟨⟨⟨rfl, rfl, rfl, trivial⟩, ⟨rfl, trivial⟩, rfl, rfl⟩, rfl⟩ ?_
  intro q
  have h := h.mono q.le (RAck.mono q.le)
  (conv => whnf)
  refine CondK.mk (fun h1 => ?_) (fun h1 => ?_)
  · have hlt : q.css.length < l.length := by simpa using h1
    have hx := List.getElem?_eq_getElem hlt
    obtain ⟨ad, rfl, bnx, x0, x1, x2⟩ := at_Ack h hx
    repeat' ((conv => whnf); first | with_reducible refine CondK.tt ?_ | with_reducible refine CondK.ff ?_ | with_reducible refine CondK.not ?_ | refine LdK.mk _ (by assumption) ?_ | refine IdxK.mk _ rfl (by omega) (by omega) ?_ | refine DrawN.q (by kernel_rfl) ?_ | refine IdxA.mk (q.css.length * 3) rfl (by omega) (by omega) ?_ | refine CallK.mk _ (toAck_a _ l[q.css.length]) ?_ | refine CallQ.mk _ (toAck_a _ l[q.css.length]) ?_ | exact rfl)
    have hs := q.store (Le.refl _) (fun _ _ h => h) hx ⟨rfl, bnx⟩ rfl (Z := [.int .i64 0, .int .i64 0, .int .i64 0]) rfl
    have hroom := q.room1 (Z := [.int .i64 0, .int .i64 0, .int .i64 0]) rfl hlt
    refine Owe.mk hroom ?_
    (conv => whnf)
    exact ⟨q.step (Le.refl _) (fun _ _ h => h) hx ⟨rfl, bnx⟩ rfl, ⟨⟨rfl, rfl, look_int ((i64_succ (by omega)).trans (by simp [Fill.step])), trivial⟩, ⟨congrArg some hs, trivial⟩, rfl, rfl⟩, rfl, by simp [Fill.step]; omega⟩
  · refine RetK.mk fun g M' hl hg => ⟨_, _, rfl, ?_⟩
    exact q.done (Z := [.int .i64 0, .int .i64 0, .int .i64 0]) (by simpa using h1) (RAck.mono hl) (hg 0 _ rfl) h.len
theorem eqFill_a (M : Mem) (x : GFill) : Ans Tryz.prog M 83 #[.agg #[.int .i64 x.Node, .int .i64 x.Pos, .string x.Head.Name, .int .i64 x.Head.Ver.Epoch, .int .i64 x.Head.Ver.Seq, .int .i64 x.Head.Size, .int .i64 x.Head.Sum], .agg #[.int .i64 x.Node, .int .i64 x.Pos, .string x.Head.Name, .int .i64 x.Head.Ver.Epoch, .int .i64 x.Head.Ver.Seq, .int .i64 x.Head.Size, .int .i64 x.Head.Sum]] (.bool true) := by
  refine ans_of T (l := [.agg #[.int .i64 x.Node, .int .i64 x.Pos, .string x.Head.Name, .int .i64 x.Head.Ver.Epoch, .int .i64 x.Head.Ver.Seq, .int .i64 x.Head.Size, .int .i64 x.Head.Sum], .agg #[.int .i64 x.Node, .int .i64 x.Pos, .string x.Head.Name, .int .i64 x.Head.Ver.Epoch, .int .i64 x.Head.Ver.Seq, .int .i64 x.Head.Size, .int .i64 x.Head.Sum]]) mixed Tryz.func83 rfl (by kernel_rfl) (Nat.le_of_ble_eq_true rfl) ?_
  repeat' ((conv => whnf); first | with_reducible refine CondK.tt ?_ | with_reducible refine CondK.ff ?_ | with_reducible refine CondK.not ?_ | refine CallK.mk _ (eqHead_a M _) ?_ | refine CallQ.mk _ (eqHead_a M _) ?_ | (refine CondK.no' ?_ ?_; focus (simp; done)) | (refine CondK.yes' ?_ ?_; focus (simp; done)) | exact rfl)
def szFill (x : GFill) (left : Int) : Int := szT (szHead x.Head (left)) fun left => left
theorem szFill_a (M : Mem) (x : GFill) (left : Int) : Ans Tryz.prog M 53 #[.agg #[.int .i64 x.Node, .int .i64 x.Pos, .string x.Head.Name, .int .i64 x.Head.Ver.Epoch, .int .i64 x.Head.Ver.Seq, .int .i64 x.Head.Size, .int .i64 x.Head.Sum], .int .i64 left] (.int .i64 (szFill x left)) := by
  refine ans_of T (l := [.agg #[.int .i64 x.Node, .int .i64 x.Pos, .string x.Head.Name, .int .i64 x.Head.Ver.Epoch, .int .i64 x.Head.Ver.Seq, .int .i64 x.Head.Size, .int .i64 x.Head.Sum], .int .i64 left]) mixed Tryz.func53 rfl (by kernel_rfl) (Nat.le_of_ble_eq_true rfl) ?_
  repeat' ((conv => whnf); first | with_reducible refine CondK.tt ?_ | with_reducible refine CondK.ff ?_ | with_reducible refine CondK.not ?_ | refine CallK.mk _ (szHead_a M x.Head _) ?_ | refine CallQ.mk _ (szHead_a M x.Head _) ?_ | refine CondK.mk (fun h => ?_) (fun h => ?_) | exact rfl)
  all_goals refine ret_int ?_
  all_goals (simp only [decide_eq_true_eq, decide_eq_false_iff_not] at *)
  all_goals first | (simp only [szFill, szT, if_true, if_false, *]; done) | (simp [szFill, szT, *]; done) | (simp [szFill, szT, szSub, *]; done) | (unfold szFill szT szSub; simp [*]; done) | grind [szFill, szT, szSub]
theorem szFill_ok {M : Mem} {x : GFill} {cs : List Value} (hr : RFill M x cs) {left : Int} (h0 : 0 ≤ left) (h1 : left ≤ 1048576) (h : 0 ≤ szFill x left) : True ∧ szFill x left ≤ 1048576 := by
  obtain ⟨rfl, hb⟩ := hr
  unfold szFill at h ⊢
  obtain ⟨p2, h', e2⟩ := szT_ok h
  replace h := h'
  rw [e2]
  have q2 := szHead_ok (show RHead M x.Head _ from ⟨rfl, (by simp_all)⟩) h0 h1 p2
  exact ⟨trivial, q2.2⟩
theorem toFill_a (M : Mem) (x : GFill) : Ans Tryz.prog M 65 #[.agg #[.int .i64 x.Node, .int .i64 x.Pos, .string x.Head.Name, .int .i64 x.Head.Ver.Epoch, .int .i64 x.Head.Ver.Seq, .int .i64 x.Head.Size, .int .i64 x.Head.Sum]] (.agg #[.int .i64 x.Node, .int .i64 x.Pos, .string x.Head.Name, .int .i64 x.Head.Ver.Epoch, .int .i64 x.Head.Ver.Seq, .int .i64 x.Head.Size, .int .i64 x.Head.Sum]) := by
  refine ans_of T (l := [.agg #[.int .i64 x.Node, .int .i64 x.Pos, .string x.Head.Name, .int .i64 x.Head.Ver.Epoch, .int .i64 x.Head.Ver.Seq, .int .i64 x.Head.Size, .int .i64 x.Head.Sum]]) mixed Tryz.func65 rfl (by kernel_rfl) (Nat.le_of_ble_eq_true rfl) ?_
  repeat' ((conv => whnf); first | with_reducible refine CondK.tt ?_ | with_reducible refine CondK.ff ?_ | with_reducible refine CondK.not ?_ | refine CallK.mk _ (toHead_a M _) ?_ | refine CallQ.mk _ (toHead_a M _) ?_ | exact rfl)
theorem eqFillS_a (M : Mem) (l : List GFill) (A A' : Option Addr) (c c' : Nat) (h : SlR M RFill 7 64 A c l) (h' : SlR M RFill 7 64 A' c' l) : Ans Tryz.prog M 45 #[.slice A l.length c, .slice A' l.length c'] (.bool true) := by
  have hl := h.len
  refine ans_of T (l := [.slice A l.length c, .slice A' l.length c']) mixed Tryz.func45 rfl (by kernel_rfl) (Nat.le_of_ble_eq_true rfl) ?_
  (conv => whnf)
  refine CondK.mk (fun h1 => absurd h1 (by simp)) (fun _ => ?_)
  (conv => whnf)
  refine LoopK.mk {k : Nat // k ≤ l.length} (fun ⟨k, _⟩ => [(0, .v (.slice A l.length c)), (1, .v (.slice A' l.length c')), (5, .v (.int .i64 (k : Int)))]) (fun _ => []) (fun _ => M) (fun k => l.length - k.1) ⟨0, Nat.zero_le _⟩ ⟨⟨⟨rfl, rfl, rfl, trivial⟩, trivial, rfl, rfl⟩, rfl⟩ ?_
  rintro ⟨k, hk⟩
  (conv => whnf)
  refine CondK.mk (fun h1 => ?_) (fun h1 => ?_)
  · have hlt : k < l.length := by simpa using h1
    obtain ⟨ad, rfl, bnx, x0, x1, x2, x3, x4, x5, x6⟩ := at_Fill h (List.getElem?_eq_getElem hlt)
    obtain ⟨ad', rfl, bny, y0, y1, y2, y3, y4, y5, y6⟩ := at_Fill h' (List.getElem?_eq_getElem hlt)
    repeat' ((conv => whnf); first | with_reducible refine CondK.tt ?_ | with_reducible refine CondK.ff ?_ | with_reducible refine CondK.not ?_ | refine LdK.mk _ (by assumption) ?_ | refine IdxK.mk _ rfl (by omega) (by omega) ?_ | refine DrawN.q (by kernel_rfl) ?_ | refine CallK.mk _ (eqFill_a M l[k]) ?_ | refine CallQ.mk _ (eqFill_a M l[k]) ?_ | (refine CondK.no' ?_ ?_; focus (simp; done)) | (refine CondK.yes' ?_ ?_; focus (simp; done)) | exact rfl)
    exact ⟨⟨k + 1, hlt⟩, ⟨⟨rfl, rfl, look_int (i64_succ (by omega)), trivial⟩, trivial, rfl, rfl⟩, rfl, by simp; omega⟩
  · rfl
theorem szFillS_a (M : Mem) (l : List GFill) (left : Int) (A : Option Addr) (c : Nat) (h : SlR M RFill 7 64 A c l) : Ans Tryz.prog M 13 #[.slice A l.length c, .int .i64 left] (.int .i64 (szL szFill l left)) := by
  have hl := h.len
  refine ans_of T (l := [.slice A l.length c, .int .i64 left]) mixed Tryz.func13 rfl (by kernel_rfl) (Nat.le_of_ble_eq_true rfl) ?_
  (conv => whnf)
  refine CondK.mk (fun h1 => ?_) (fun h1 => ?_)
  · refine ret_int ?_
    rw [szL, if_pos (by simpa using h1)]
  have h2 : szL szFill l left = szRun szFill l (IntKind.i64.wrap (left - (l.length : Int))) := by rw [szL, if_neg (by simpa using h1)]
  rw [h2]
  clear h1 h2
  generalize IntKind.i64.wrap (left - (l.length : Int)) = n0
  (conv => whnf)
  refine LoopK.mk {p : Nat × Int // p.1 ≤ l.length ∧ szRun szFill l n0 = szRun szFill (l.drop p.1) p.2} (fun ⟨(k, n), _⟩ => [(0, .v (.slice A l.length c)), (1, .v (.int .i64 n)), (5, .v (.int .i64 (k : Int)))]) (fun _ => []) (fun _ => M) (fun p => l.length - p.1.1) ⟨(0, n0), Nat.zero_le _, rfl⟩ ⟨⟨⟨rfl, rfl, rfl, trivial⟩, trivial, rfl, rfl⟩, rfl⟩ ?_
  rintro ⟨⟨k, n⟩, hk, hn⟩
  (conv => whnf)
  refine CondK.mk (fun h1 => ?_) (fun h1 => ?_)
  · have hlt : k < l.length := by simpa using h1
    obtain ⟨ad, rfl, bnx, x0, x1, x2, x3, x4, x5, x6⟩ := at_Fill h (List.getElem?_eq_getElem hlt)
    simp only [] at hn
    rw [szRun_step hlt] at hn
    repeat' ((conv => whnf); first | with_reducible refine CondK.tt ?_ | with_reducible refine CondK.ff ?_ | with_reducible refine CondK.not ?_ | refine LdK.mk _ (by assumption) ?_ | refine IdxK.mk _ rfl (by omega) (by omega) ?_ | refine DrawN.q (by kernel_rfl) ?_ | refine CallK.mk _ (szFill_a M l[k] n) ?_ | refine CallQ.mk _ (szFill_a M l[k] n) ?_ | refine CondK.mk (fun h => ?_) (fun h => ?_) | exact rfl)
    · refine ret_int ?_
      rw [hn, if_pos (by simpa using h)]
    · rw [if_neg (by simpa using h)] at hn
      exact ⟨⟨(k + 1, _), hlt, hn⟩, ⟨⟨rfl, rfl, look_int (i64_succ (by omega)), trivial⟩, trivial, rfl, rfl⟩, rfl, by simp; omega⟩
  · refine ret_int ?_
    simp only [] at hn
    rw [hn, List.drop_eq_nil_of_le (by simp at h1; omega)]
    rfl
theorem toFillS_a (M : Mem) (l : List GFill) (A : Option Addr) (c : Nat) (h : SlR M RFill 7 64 A c l) (hsm : l.length ≤ 1048576 ∧ ∀ y ∈ l, True) : AnsR Tryz.prog M 27 #[.slice A l.length c] (fun M' v => ∃ A' c', v = .slice A' l.length c' ∧ SlR M' RFill 7 64 A' c' l) := by
  have hl := hsm.1
  refine ansR_of T (l := [.slice A l.length c]) mixed Tryz.func27 rfl (by kernel_rfl) (Nat.le_of_ble_eq_true rfl) ?_
  (conv => whnf)
  refine MkK.mk rfl (by omega) (by omega) (by show ((64 : Nat) : Int) * (l.length : Int) ≤ _; omega) ?_
  (conv => whnf)
  refine LoopK.mk (Fill M RFill 7 l) (fun q => [(0, .v (.slice A l.length c)), (3, .s 0 l.length l.length 7), (4, .v (.int .i64 (q.css.length : Int)))]) (fun q => [(0, q.cells [.int .i64 0, .int .i64 0, .string ⟨#[]⟩, .int .i64 0, .int .i64 0, .int .i64 0, .int .i64 0])]) (fun q => q.M) (fun q => l.length - q.css.length) (Fill.start M RFill 7 l) ⟨⟨⟨rfl, rfl, rfl, trivial⟩, ⟨rfl, trivial⟩, rfl, rfl⟩, rfl⟩ ?_
  intro q
  have h := h.mono q.le (RFill.mono q.le)
  (conv => whnf)
  refine CondK.mk (fun h1 => ?_) (fun h1 => ?_)
  · have hlt : q.css.length < l.length := by simpa using h1
    have hx := List.getElem?_eq_getElem hlt
    obtain ⟨ad, rfl, bnx, x0, x1, x2, x3, x4, x5, x6⟩ := at_Fill h hx
    repeat' ((conv => whnf); first | with_reducible refine CondK.tt ?_ | with_reducible refine CondK.ff ?_ | with_reducible refine CondK.not ?_ | refine LdK.mk _ (by assumption) ?_ | refine IdxK.mk _ rfl (by omega) (by omega) ?_ | refine DrawN.q (by kernel_rfl) ?_ | refine IdxA.mk (q.css.length * 7) rfl (by omega) (by omega) ?_ | refine CallK.mk _ (toFill_a _ l[q.css.length]) ?_ | refine CallQ.mk _ (toFill_a _ l[q.css.length]) ?_ | exact rfl)
    have hs := q.store (Le.refl _) (fun _ _ h => h) hx ⟨rfl, bnx⟩ rfl (Z := [.int .i64 0, .int .i64 0, .string ⟨#[]⟩, .int .i64 0, .int .i64 0, .int .i64 0, .int .i64 0]) rfl
    have hroom := q.room1 (Z := [.int .i64 0, .int .i64 0, .string ⟨#[]⟩, .int .i64 0, .int .i64 0, .int .i64 0, .int .i64 0]) rfl hlt
    refine Owe.mk hroom ?_
    (conv => whnf)
    exact ⟨q.step (Le.refl _) (fun _ _ h => h) hx ⟨rfl, bnx⟩ rfl, ⟨⟨rfl, rfl, look_int ((i64_succ (by omega)).trans (by simp [Fill.step])), trivial⟩, ⟨congrArg some hs, trivial⟩, rfl, rfl⟩, rfl, by simp [Fill.step]; omega⟩
  · refine RetK.mk fun g M' hl hg => ⟨_, _, rfl, ?_⟩
    exact q.done (Z := [.int .i64 0, .int .i64 0, .string ⟨#[]⟩, .int .i64 0, .int .i64 0, .int .i64 0, .int .i64 0]) (by simpa using h1) (RFill.mono hl) (hg 0 _ rfl) h.len
end Go.Proofs.YtmdbeooianiojaaGreat.Hlp
