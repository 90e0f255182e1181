/- The laws' helpers by the light walk: equal data are called equal; what a list measures; what is turned is the same. -/
import Derived.Test.YthpnmempecelaaaGreatHlpA
namespace Go.Proofs.YthpnmempecelaaaGreat.Hlp
open Go Go.RowKit Go.Proofs Go.Proofs.YthpnmempecelaaaGreat.Lw
set_option linter.unusedVariables false
set_option linter.unusedSimpArgs false
set_option maxRecDepth 100000
set_option maxHeartbeats 4000000
theorem eqHead_a (M : Mem) (x : GHead) : Ans Tryz.prog M 67 #[.agg #[.string x.Name, .int .i64 x.Ver.Epoch, .int .i64 x.Ver.Seq, .int .i64 x.Size, .int .i64 x.Sum], .agg #[.string x.Name, .int .i64 x.Ver.Epoch, .int .i64 x.Ver.Seq, .int .i64 x.Size, .int .i64 x.Sum]] (.bool true) := by
  refine ans_of T (l := [.agg #[.string x.Name, .int .i64 x.Ver.Epoch, .int .i64 x.Ver.Seq, .int .i64 x.Size, .int .i64 x.Sum], .agg #[.string x.Name, .int .i64 x.Ver.Epoch, .int .i64 x.Ver.Seq, .int .i64 x.Size, .int .i64 x.Sum]]) mixed Tryz.func67 rfl (by kernel_rfl) (Nat.le_of_ble_eq_true rfl) ?_
  repeat' ((conv => whnf); first | with_reducible refine CondK.tt ?_ | with_reducible refine CondK.ff ?_ | with_reducible refine CondK.not ?_ | refine CallK.mk _ (eqVer_a M _) ?_ | refine CallQ.mk _ (eqVer_a M _) ?_ | (refine CondK.no' ?_ ?_; focus (simp; done)) | (refine CondK.yes' ?_ ?_; focus (simp; done)) | exact rfl)
def szHead (x : GHead) (left : Int) : Int := szT (szSub (left) x.Name.size) fun left => left
theorem szHead_a (M : Mem) (x : GHead) (left : Int) : Ans Tryz.prog M 29 #[.agg #[.string x.Name, .int .i64 x.Ver.Epoch, .int .i64 x.Ver.Seq, .int .i64 x.Size, .int .i64 x.Sum], .int .i64 left] (.int .i64 (szHead x left)) := by
  refine ans_of T (l := [.agg #[.string x.Name, .int .i64 x.Ver.Epoch, .int .i64 x.Ver.Seq, .int .i64 x.Size, .int .i64 x.Sum], .int .i64 left]) mixed Tryz.func29 rfl (by kernel_rfl) (Nat.le_of_ble_eq_true rfl) ?_
  repeat' ((conv => whnf); first | with_reducible refine CondK.tt ?_ | with_reducible refine CondK.ff ?_ | with_reducible refine CondK.not ?_ | refine CondK.mk (fun h => ?_) (fun h => ?_) | exact rfl)
  all_goals refine ret_int ?_
  all_goals (simp only [decide_eq_true_eq, decide_eq_false_iff_not] at *)
  all_goals first | (simp only [szHead, szT, if_true, if_false, *]; done) | (simp [szHead, szT, *]; done) | (simp [szHead, szT, szSub, *]; done) | (unfold szHead szT szSub; simp [*]; done) | grind [szHead, szT, szSub]
theorem szHead_ok {M : Mem} {x : GHead} {cs : List Value} (hr : RHead M x cs) {left : Int} (h0 : 0 ≤ left) (h1 : left ≤ 1048576) (h : 0 ≤ szHead x left) : True ∧ szHead x left ≤ 1048576 := by
  obtain ⟨rfl, hb⟩ := hr
  unfold szHead at h ⊢
  obtain ⟨p0, h', e0⟩ := szT_ok h
  replace h := h'
  rw [e0]
  have q0 := szSub_ok h0 h1 (by simp_all) p0
  exact ⟨trivial, q0.2⟩
theorem toHead_a (M : Mem) (x : GHead) : Ans Tryz.prog M 46 #[.agg #[.string x.Name, .int .i64 x.Ver.Epoch, .int .i64 x.Ver.Seq, .int .i64 x.Size, .int .i64 x.Sum]] (.agg #[.string x.Name, .int .i64 x.Ver.Epoch, .int .i64 x.Ver.Seq, .int .i64 x.Size, .int .i64 x.Sum]) := by
  refine ans_of T (l := [.agg #[.string x.Name, .int .i64 x.Ver.Epoch, .int .i64 x.Ver.Seq, .int .i64 x.Size, .int .i64 x.Sum]]) mixed Tryz.func46 rfl (by kernel_rfl) (Nat.le_of_ble_eq_true rfl) ?_
  repeat' ((conv => whnf); first | with_reducible refine CondK.tt ?_ | with_reducible refine CondK.ff ?_ | with_reducible refine CondK.not ?_ | refine CallK.mk _ (toVer_a M _) ?_ | refine CallQ.mk _ (toVer_a M _) ?_ | exact rfl)
theorem eqHeadS_a (M : Mem) (l : List GHead) (A A' : Option Addr) (c c' : Nat) (h : SlR M RHead 5 48 A c l) (h' : SlR M RHead 5 48 A' c' l) : Ans Tryz.prog M 25 #[.slice A l.length c, .slice A' l.length c'] (.bool true) := by
  have hl := h.len
  refine ans_of T (l := [.slice A l.length c, .slice A' l.length c']) mixed Tryz.func25 rfl (by kernel_rfl) (Nat.le_of_ble_eq_true rfl) ?_
  (conv => whnf)
  refine CondK.mk (fun h1 => absurd h1 (by simp)) (fun _ => ?_)
  (conv => whnf)
  refine LoopK.mk {k : Nat // k ≤ l.length} (fun ⟨k, _⟩ => [(0, .v (.slice A l.length c)), (1, .v (.slice A' l.length c')), (5, .v (.int .i64 (k : Int)))]) (fun _ => []) (fun _ => M) (fun k => l.length - k.1) ⟨0, Nat.zero_le _⟩ ⟨⟨⟨rfl, rfl, rfl, trivial⟩, trivial, rfl, rfl⟩, rfl⟩ ?_
  rintro ⟨k, hk⟩
  (conv => whnf)
  refine CondK.mk (fun h1 => ?_) (fun h1 => ?_)
  · have hlt : k < l.length := by simpa using h1
    obtain ⟨ad, rfl, bnx, x0, x1, x2, x3, x4⟩ := at_Head h (List.getElem?_eq_getElem hlt)
    obtain ⟨ad', rfl, bny, y0, y1, y2, y3, y4⟩ := at_Head h' (List.getElem?_eq_getElem hlt)
    repeat' ((conv => whnf); first | with_reducible refine CondK.tt ?_ | with_reducible refine CondK.ff ?_ | with_reducible refine CondK.not ?_ | refine LdK.mk _ (by assumption) ?_ | refine IdxK.mk _ rfl (by omega) (by omega) ?_ | refine DrawN.q (by kernel_rfl) ?_ | refine CallK.mk _ (eqHead_a M l[k]) ?_ | refine CallQ.mk _ (eqHead_a M l[k]) ?_ | (refine CondK.no' ?_ ?_; focus (simp; done)) | (refine CondK.yes' ?_ ?_; focus (simp; done)) | exact rfl)
    exact ⟨⟨k + 1, hlt⟩, ⟨⟨rfl, rfl, look_int (i64_succ (by omega)), trivial⟩, trivial, rfl, rfl⟩, rfl, by simp; omega⟩
  · rfl
theorem szHeadS_a (M : Mem) (l : List GHead) (left : Int) (A : Option Addr) (c : Nat) (h : SlR M RHead 5 48 A c l) : Ans Tryz.prog M 9 #[.slice A l.length c, .int .i64 left] (.int .i64 (szL szHead l left)) := by
  have hl := h.len
  refine ans_of T (l := [.slice A l.length c, .int .i64 left]) mixed Tryz.func9 rfl (by kernel_rfl) (Nat.le_of_ble_eq_true rfl) ?_
  (conv => whnf)
  refine CondK.mk (fun h1 => ?_) (fun h1 => ?_)
  · refine ret_int ?_
    rw [szL, if_pos (by simpa using h1)]
  have h2 : szL szHead l left = szRun szHead l (IntKind.i64.wrap (left - (l.length : Int))) := by rw [szL, if_neg (by simpa using h1)]
  rw [h2]
  clear h1 h2
  generalize IntKind.i64.wrap (left - (l.length : Int)) = n0
  (conv => whnf)
  refine LoopK.mk {p : Nat × Int // p.1 ≤ l.length ∧ szRun szHead l n0 = szRun szHead (l.drop p.1) p.2} (fun ⟨(k, n), _⟩ => [(0, .v (.slice A l.length c)), (1, .v (.int .i64 n)), (5, .v (.int .i64 (k : Int)))]) (fun _ => []) (fun _ => M) (fun p => l.length - p.1.1) ⟨(0, n0), Nat.zero_le _, rfl⟩ ⟨⟨⟨rfl, rfl, rfl, trivial⟩, trivial, rfl, rfl⟩, rfl⟩ ?_
  rintro ⟨⟨k, n⟩, hk, hn⟩
  (conv => whnf)
  refine CondK.mk (fun h1 => ?_) (fun h1 => ?_)
  · have hlt : k < l.length := by simpa using h1
    obtain ⟨ad, rfl, bnx, x0, x1, x2, x3, x4⟩ := at_Head h (List.getElem?_eq_getElem hlt)
    simp only [] at hn
    rw [szRun_step hlt] at hn
    repeat' ((conv => whnf); first | with_reducible refine CondK.tt ?_ | with_reducible refine CondK.ff ?_ | with_reducible refine CondK.not ?_ | refine LdK.mk _ (by assumption) ?_ | refine IdxK.mk _ rfl (by omega) (by omega) ?_ | refine DrawN.q (by kernel_rfl) ?_ | refine CallK.mk _ (szHead_a M l[k] n) ?_ | refine CallQ.mk _ (szHead_a M l[k] n) ?_ | refine CondK.mk (fun h => ?_) (fun h => ?_) | exact rfl)
    · refine ret_int ?_
      rw [hn, if_pos (by simpa using h)]
    · rw [if_neg (by simpa using h)] at hn
      exact ⟨⟨(k + 1, _), hlt, hn⟩, ⟨⟨rfl, rfl, look_int (i64_succ (by omega)), trivial⟩, trivial, rfl, rfl⟩, rfl, by simp; omega⟩
  · refine ret_int ?_
    simp only [] at hn
    rw [hn, List.drop_eq_nil_of_le (by simp at h1; omega)]
    rfl
theorem toHeadS_f (M : Mem) (l : List GHead) (A : Option Addr) (c : Nat) (h : SlR M RHead 5 48 A c l) (hsm : l.length ≤ 1048576 ∧ ∀ y ∈ l, True) : AnsR Tryz.prog M 17 #[.slice A l.length c] (fun M' v => ∃ A' c', v = .slice A' l.length c' ∧ SlR (sub M' M) RHead 5 48 A' c' l) := by
  have hl := hsm.1
  refine ansR_of T (l := [.slice A l.length c]) mixed Tryz.func17 rfl (by kernel_rfl) (Nat.le_of_ble_eq_true rfl) ?_
  (conv => whnf)
  refine MkK.mk rfl (by omega) (by omega) (by show ((48 : Nat) : Int) * (l.length : Int) ≤ _; omega) ?_
  (conv => whnf)
  refine LoopK.mk (Fill M (fun M' x cs => RHead (sub M' M) x cs) 5 l) (fun q => [(0, .v (.slice A l.length c)), (3, .s 0 l.length l.length 5), (4, .v (.int .i64 (q.css.length : Int)))]) (fun q => [(0, q.cells [.string ⟨#[]⟩, .int .i64 0, .int .i64 0, .int .i64 0, .int .i64 0])]) (fun q => q.M) (fun q => l.length - q.css.length) (Fill.start M (fun M' x cs => RHead (sub M' M) x cs) 5 l) ⟨⟨⟨rfl, rfl, rfl, trivial⟩, ⟨rfl, trivial⟩, rfl, rfl⟩, rfl⟩ ?_
  intro q
  have h := h.mono q.le (RHead.mono q.le)
  (conv => whnf)
  refine CondK.mk (fun h1 => ?_) (fun h1 => ?_)
  · have hlt : q.css.length < l.length := by simpa using h1
    have hx := List.getElem?_eq_getElem hlt
    obtain ⟨ad, rfl, bnx, x0, x1, x2, x3, x4⟩ := at_Head h hx
    repeat' ((conv => whnf); first | with_reducible refine CondK.tt ?_ | with_reducible refine CondK.ff ?_ | with_reducible refine CondK.not ?_ | refine LdK.mk _ (by assumption) ?_ | refine IdxK.mk _ rfl (by omega) (by omega) ?_ | refine DrawN.q (by kernel_rfl) ?_ | refine IdxA.mk (q.css.length * 5) rfl (by omega) (by omega) ?_ | refine CallK.mk _ (toHead_a _ l[q.css.length]) ?_ | refine CallQ.mk _ (toHead_a _ l[q.css.length]) ?_ | exact rfl)
    have hs := q.store (Le.refl _) (fun _ _ h => h) hx ⟨rfl, bnx⟩ rfl (Z := [.string ⟨#[]⟩, .int .i64 0, .int .i64 0, .int .i64 0, .int .i64 0]) rfl
    have hroom := q.room1 (Z := [.string ⟨#[]⟩, .int .i64 0, .int .i64 0, .int .i64 0, .int .i64 0]) rfl hlt
    refine Owe.mk hroom ?_
    (conv => whnf)
    exact ⟨q.step (Le.refl _) (fun _ _ h => h) hx ⟨rfl, bnx⟩ rfl, ⟨⟨rfl, rfl, look_int ((i64_succ (by omega)).trans (by simp [Fill.step])), trivial⟩, ⟨congrArg some hs, trivial⟩, rfl, rfl⟩, rfl, by simp [Fill.step]; omega⟩
  · refine RetK.fr fun g M' hl hg => ⟨_, _, rfl, ?_⟩
    exact q.new (Z := [.string ⟨#[]⟩, .int .i64 0, .int .i64 0, .int .i64 0, .int .i64 0]) (by simpa using h1) (RHead.mono (sub_mono _ hl)) (hg 0 _ rfl) h.len
theorem toHeadS_a (M : Mem) (l : List GHead) (A : Option Addr) (c : Nat) (h : SlR M RHead 5 48 A c l) (hsm : l.length ≤ 1048576 ∧ ∀ y ∈ l, True) : AnsR Tryz.prog M 17 #[.slice A l.length c] (fun M' v => ∃ A' c', v = .slice A' l.length c' ∧ SlR M' RHead 5 48 A' c' l) :=
  (toHeadS_f M l A c h hsm).imp fun M' v _ ⟨A', c', h1, h2⟩ => ⟨A', c', h1, h2.mono (sub_le _ _) (RHead.mono (sub_le _ _))⟩
theorem eqLast_a (M : Mem) (x : GLast) : Ans Tryz.prog M 68 #[.agg #[.int .i64 x.Client, .int .i64 x.No, .int .i64 x.Ver.Epoch, .int .i64 x.Ver.Seq], .agg #[.int .i64 x.Client, .int .i64 x.No, .int .i64 x.Ver.Epoch, .int .i64 x.Ver.Seq]] (.bool true) := by
  refine ans_of T (l := [.agg #[.int .i64 x.Client, .int .i64 x.No, .int .i64 x.Ver.Epoch, .int .i64 x.Ver.Seq], .agg #[.int .i64 x.Client, .int .i64 x.No, .int .i64 x.Ver.Epoch, .int .i64 x.Ver.Seq]]) mixed Tryz.func68 rfl (by kernel_rfl) (Nat.le_of_ble_eq_true rfl) ?_
  repeat' ((conv => whnf); first | with_reducible refine CondK.tt ?_ | with_reducible refine CondK.ff ?_ | with_reducible refine CondK.not ?_ | refine CallK.mk _ (eqVer_a M _) ?_ | refine CallQ.mk _ (eqVer_a M _) ?_ | (refine CondK.no' ?_ ?_; focus (simp; done)) | (refine CondK.yes' ?_ ?_; focus (simp; done)) | exact rfl)
theorem toLast_a (M : Mem) (x : GLast) : Ans Tryz.prog M 47 #[.agg #[.int .i64 x.Client, .int .i64 x.No, .int .i64 x.Ver.Epoch, .int .i64 x.Ver.Seq]] (.agg #[.int .i64 x.Client, .int .i64 x.No, .int .i64 x.Ver.Epoch, .int .i64 x.Ver.Seq]) := by
  refine ans_of T (l := [.agg #[.int .i64 x.Client, .int .i64 x.No, .int .i64 x.Ver.Epoch, .int .i64 x.Ver.Seq]]) mixed Tryz.func47 rfl (by kernel_rfl) (Nat.le_of_ble_eq_true rfl) ?_
  repeat' ((conv => whnf); first | with_reducible refine CondK.tt ?_ | with_reducible refine CondK.ff ?_ | with_reducible refine CondK.not ?_ | refine CallK.mk _ (toVer_a M _) ?_ | refine CallQ.mk _ (toVer_a M _) ?_ | exact rfl)
theorem eqLastS_a (M : Mem) (l : List GLast) (A A' : Option Addr) (c c' : Nat) (h : SlR M RLast 4 32 A c l) (h' : SlR M RLast 4 32 A' c' l) : Ans Tryz.prog M 26 #[.slice A l.length c, .slice A' l.length c'] (.bool true) := by
  have hl := h.len
  refine ans_of T (l := [.slice A l.length c, .slice A' l.length c']) mixed Tryz.func26 rfl (by kernel_rfl) (Nat.le_of_ble_eq_true rfl) ?_
  (conv => whnf)
  refine CondK.mk (fun h1 => absurd h1 (by simp)) (fun _ => ?_)
  (conv => whnf)
  refine LoopK.mk {k : Nat // k ≤ l.length} (fun ⟨k, _⟩ => [(0, .v (.slice A l.length c)), (1, .v (.slice A' l.length c')), (5, .v (.int .i64 (k : Int)))]) (fun _ => []) (fun _ => M) (fun k => l.length - k.1) ⟨0, Nat.zero_le _⟩ ⟨⟨⟨rfl, rfl, rfl, trivial⟩, trivial, rfl, rfl⟩, rfl⟩ ?_
  rintro ⟨k, hk⟩
  (conv => whnf)
  refine CondK.mk (fun h1 => ?_) (fun h1 => ?_)
  · have hlt : k < l.length := by simpa using h1
    obtain ⟨ad, rfl, bnx, x0, x1, x2, x3⟩ := at_Last h (List.getElem?_eq_getElem hlt)
    obtain ⟨ad', rfl, bny, y0, y1, y2, y3⟩ := at_Last h' (List.getElem?_eq_getElem hlt)
    repeat' ((conv => whnf); first | with_reducible refine CondK.tt ?_ | with_reducible refine CondK.ff ?_ | with_reducible refine CondK.not ?_ | refine LdK.mk _ (by assumption) ?_ | refine IdxK.mk _ rfl (by omega) (by omega) ?_ | refine DrawN.q (by kernel_rfl) ?_ | refine CallK.mk _ (eqLast_a M l[k]) ?_ | refine CallQ.mk _ (eqLast_a M l[k]) ?_ | (refine CondK.no' ?_ ?_; focus (simp; done)) | (refine CondK.yes' ?_ ?_; focus (simp; done)) | exact rfl)
    exact ⟨⟨k + 1, hlt⟩, ⟨⟨rfl, rfl, look_int (i64_succ (by omega)), trivial⟩, trivial, rfl, rfl⟩, rfl, by simp; omega⟩
  · rfl
theorem szLastS_a (M : Mem) (l : List GLast) (left : Int) (A : Option Addr) (c : Nat) (h : SlR M RLast 4 32 A c l) : Ans Tryz.prog M 10 #[.slice A l.length c, .int .i64 left] (.int .i64 (szSub left l.length)) := by
  refine ans_of T (l := [.slice A l.length c, .int .i64 left]) mixed Tryz.func10 rfl (by kernel_rfl) (Nat.le_of_ble_eq_true rfl) ?_
  repeat' ((conv => whnf); first | with_reducible refine CondK.tt ?_ | with_reducible refine CondK.ff ?_ | with_reducible refine CondK.not ?_ | refine CondK.mk (fun h => ?_) (fun h => ?_) | exact rfl)
  all_goals refine ret_int ?_
  all_goals (unfold szSub; split <;> simp_all <;> omega)
theorem toLastS_f (M : Mem) (l : List GLast) (A : Option Addr) (c : Nat) (h : SlR M RLast 4 32 A c l) (hsm : l.length ≤ 1048576 ∧ ∀ y ∈ l, True) : AnsR Tryz.prog M 18 #[.slice A l.length c] (fun M' v => ∃ A' c', v = .slice A' l.length c' ∧ SlR (sub M' M) RLast 4 32 A' c' l) := by
  have hl := hsm.1
  refine ansR_of T (l := [.slice A l.length c]) mixed Tryz.func18 rfl (by kernel_rfl) (Nat.le_of_ble_eq_true rfl) ?_
  (conv => whnf)
  refine MkK.mk rfl (by omega) (by omega) (by show ((32 : Nat) : Int) * (l.length : Int) ≤ _; omega) ?_
  (conv => whnf)
  refine LoopK.mk (Fill M (fun M' x cs => RLast (sub M' M) x cs) 4 l) (fun q => [(0, .v (.slice A l.length c)), (3, .s 0 l.length l.length 4), (4, .v (.int .i64 (q.css.length : Int)))]) (fun q => [(0, q.cells [.int .i64 0, .int .i64 0, .int .i64 0, .int .i64 0])]) (fun q => q.M) (fun q => l.length - q.css.length) (Fill.start M (fun M' x cs => RLast (sub M' M) x cs) 4 l) ⟨⟨⟨rfl, rfl, rfl, trivial⟩, ⟨rfl, trivial⟩, rfl, rfl⟩, rfl⟩ ?_
  intro q
  have h := h.mono q.le (RLast.mono q.le)
  (conv => whnf)
  refine CondK.mk (fun h1 => ?_) (fun h1 => ?_)
  · have hlt : q.css.length < l.length := by simpa using h1
    have hx := List.getElem?_eq_getElem hlt
    obtain ⟨ad, rfl, bnx, x0, x1, x2, x3⟩ := at_Last h hx
    repeat' ((conv => whnf); first | with_reducible refine CondK.tt ?_ | with_reducible refine CondK.ff ?_ | with_reducible refine CondK.not ?_ | refine LdK.mk _ (by assumption) ?_ | refine IdxK.mk _ rfl (by omega) (by omega) ?_ | refine DrawN.q (by kernel_rfl) ?_ | refine IdxA.mk (q.css.length * 4) rfl (by omega) (by omega) ?_ | refine CallK.mk _ (toLast_a _ l[q.css.length]) ?_ | refine CallQ.mk _ (toLast_a _ l[q.css.length]) ?_ | exact rfl)
    have hs := q.store (Le.refl _) (fun _ _ h => h) hx ⟨rfl, bnx⟩ rfl (Z := [.int .i64 0, .int .i64 0, .int .i64 0, .int .i64 0]) rfl
    have hroom := q.room1 (Z := [.int .i64 0, .int .i64 0, .int .i64 0, .int .i64 0]) rfl hlt
    refine Owe.mk hroom ?_
    (conv => whnf)
    exact ⟨q.step (Le.refl _) (fun _ _ h => h) hx ⟨rfl, bnx⟩ rfl, ⟨⟨rfl, rfl, look_int ((i64_succ (by omega)).trans (by simp [Fill.step])), trivial⟩, ⟨congrArg some hs, trivial⟩, rfl, rfl⟩, rfl, by simp [Fill.step]; omega⟩
  · refine RetK.fr fun g M' hl hg => ⟨_, _, rfl, ?_⟩
    exact q.new (Z := [.int .i64 0, .int .i64 0, .int .i64 0, .int .i64 0]) (by simpa using h1) (RLast.mono (sub_mono _ hl)) (hg 0 _ rfl) h.len
theorem toLastS_a (M : Mem) (l : List GLast) (A : Option Addr) (c : Nat) (h : SlR M RLast 4 32 A c l) (hsm : l.length ≤ 1048576 ∧ ∀ y ∈ l, True) : AnsR Tryz.prog M 18 #[.slice A l.length c] (fun M' v => ∃ A' c', v = .slice A' l.length c' ∧ SlR M' RLast 4 32 A' c' l) :=
  (toLastS_f M l A c h hsm).imp fun M' v _ ⟨A', c', h1, h2⟩ => ⟨A', c', h1, h2.mono (sub_le _ _) (RLast.mono (sub_le _ _))⟩
end Go.Proofs.YthpnmempecelaaaGreat.Hlp
