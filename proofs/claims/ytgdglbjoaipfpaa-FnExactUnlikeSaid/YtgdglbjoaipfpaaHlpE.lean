/- The laws' helpers by the light walk: equal data are called equal; what a list measures; what is turned is the same. -/
import Derived.Test.YtgdglbjoaipfpaaHlpD
namespace Go.Proofs.Ytgdglbjoaipfpaa.Hlp
open Go Go.RowKit Go.Proofs Go.Proofs.Ytgdglbjoaipfpaa.Lw
set_option linter.unusedVariables false
set_option linter.unusedSimpArgs false
set_option maxRecDepth 100000
set_option maxHeartbeats 4000000
theorem eqProof_a (M : Mem) (x : GProof) : Ans Try.prog M 124 #[.agg #[.string x.Name, .int .i64 x.Ver.Epoch, .int .i64 x.Ver.Seq, .int .i64 x.Pos, .int .i64 x.Sum, .int .i64 x.Real], .agg #[.string x.Name, .int .i64 x.Ver.Epoch, .int .i64 x.Ver.Seq, .int .i64 x.Pos, .int .i64 x.Sum, .int .i64 x.Real]] (.bool true) := by
  refine ans_of T (l := [.agg #[.string x.Name, .int .i64 x.Ver.Epoch, .int .i64 x.Ver.Seq, .int .i64 x.Pos, .int .i64 x.Sum, .int .i64 x.Real], .agg #[.string x.Name, .int .i64 x.Ver.Epoch, .int .i64 x.Ver.Seq, .int .i64 x.Pos, .int .i64 x.Sum, .int .i64 x.Real]]) mixed Try.func124 rfl (by kernel_rfl) (Nat.le_of_ble_eq_true rfl) ?_
  repeat' ((conv => whnf); first | with_reducible refine CondK.tt ?_ | with_reducible refine CondK.ff ?_ | with_reducible refine CondK.not ?_ | refine CallK.mk _ (eqVer_a M _) ?_ | refine CallQ.mk _ (eqVer_a M _) ?_ | (refine CondK.no' ?_ ?_; focus (simp; done)) | (refine CondK.yes' ?_ ?_; focus (simp; done)) | exact rfl)
def szProof (x : GProof) (left : Int) : Int := szT (szSub (left) x.Name.size) fun left => left
theorem szProof_a (M : Mem) (x : GProof) (left : Int) : Ans Try.prog M 117 #[.agg #[.string x.Name, .int .i64 x.Ver.Epoch, .int .i64 x.Ver.Seq, .int .i64 x.Pos, .int .i64 x.Sum, .int .i64 x.Real], .int .i64 left] (.int .i64 (szProof x left)) := by
  refine ans_of T (l := [.agg #[.string x.Name, .int .i64 x.Ver.Epoch, .int .i64 x.Ver.Seq, .int .i64 x.Pos, .int .i64 x.Sum, .int .i64 x.Real], .int .i64 left]) mixed Try.func117 rfl (by kernel_rfl) (Nat.le_of_ble_eq_true rfl) ?_
  repeat' ((conv => whnf); first | with_reducible refine CondK.tt ?_ | with_reducible refine CondK.ff ?_ | with_reducible refine CondK.not ?_ | refine CondK.mk (fun h => ?_) (fun h => ?_) | exact rfl)
  all_goals refine ret_int ?_
  all_goals (simp only [decide_eq_true_eq, decide_eq_false_iff_not] at *)
  all_goals first | (simp only [szProof, szT, if_true, if_false, *]; done) | (simp [szProof, szT, *]; done) | (simp [szProof, szT, szSub, *]; done) | (unfold szProof szT szSub; simp [*]; done) | grind [szProof, szT, szSub]
theorem szProof_ok {M : Mem} {x : GProof} {cs : List Value} (hr : RProof M x cs) {left : Int} (h0 : 0 ≤ left) (h1 : left ≤ 1048576) (h : 0 ≤ szProof x left) : True ∧ szProof x left ≤ 1048576 := by
  obtain ⟨rfl, hb⟩ := hr
  unfold szProof at h ⊢
  obtain ⟨p0, h', e0⟩ := szT_ok h
  replace h := h'
  rw [e0]
  have q0 := szSub_ok h0 h1 (by simp_all) p0
  exact ⟨trivial, q0.2⟩
theorem toProof_a (M : Mem) (x : GProof) : Ans Try.prog M 120 #[.agg #[.string x.Name, .int .i64 x.Ver.Epoch, .int .i64 x.Ver.Seq, .int .i64 x.Pos, .int .i64 x.Sum, .int .i64 x.Real]] (.agg #[.string x.Name, .int .i64 x.Ver.Epoch, .int .i64 x.Ver.Seq, .int .i64 x.Pos, .int .i64 x.Sum, .int .i64 x.Real]) := by
  refine ans_of T (l := [.agg #[.string x.Name, .int .i64 x.Ver.Epoch, .int .i64 x.Ver.Seq, .int .i64 x.Pos, .int .i64 x.Sum, .int .i64 x.Real]]) mixed Try.func120 rfl (by kernel_rfl) (Nat.le_of_ble_eq_true rfl) ?_
  repeat' ((conv => whnf); first | with_reducible refine CondK.tt ?_ | with_reducible refine CondK.ff ?_ | with_reducible refine CondK.not ?_ | refine CallK.mk _ (toVer_a M _) ?_ | refine CallQ.mk _ (toVer_a M _) ?_ | exact rfl)
theorem eqProofS_a (M : Mem) (l : List GProof) (A A' : Option Addr) (c c' : Nat) (h : SlR M RProof 6 56 A c l) (h' : SlR M RProof 6 56 A' c' l) : Ans Try.prog M 107 #[.slice A l.length c, .slice A' l.length c'] (.bool true) := by
  have hl := h.len
  refine ans_of T (l := [.slice A l.length c, .slice A' l.length c']) mixed Try.func107 rfl (by kernel_rfl) (Nat.le_of_ble_eq_true rfl) ?_
  (conv => whnf)
  refine CondK.mk (fun h1 => absurd h1 (by simp)) (fun _ => ?_)
  (conv => whnf)
  refine LoopK.mk {k : Nat // k ≤ l.length} (fun ⟨k, _⟩ => [(0, .v (.slice A l.length c)), (1, .v (.slice A' l.length c')), (5, .v (.int .i64 (k : Int)))]) (fun _ => []) (fun _ => M) (fun k => l.length - k.1) ⟨0, Nat.zero_le _⟩ ⟨⟨⟨rfl, rfl, rfl, trivial⟩, trivial, rfl, rfl⟩, rfl⟩ ?_
  rintro ⟨k, hk⟩
  (conv => whnf)
  refine CondK.mk (fun h1 => ?_) (fun h1 => ?_)
  · have hlt : k < l.length := by simpa using h1
    obtain ⟨ad, rfl, bnx, x0, x1, x2, x3, x4, x5⟩ := at_Proof h (List.getElem?_eq_getElem hlt)
    obtain ⟨ad', rfl, bny, y0, y1, y2, y3, y4, y5⟩ := at_Proof h' (List.getElem?_eq_getElem hlt)
    repeat' ((conv => whnf); first | with_reducible refine CondK.tt ?_ | with_reducible refine CondK.ff ?_ | with_reducible refine CondK.not ?_ | refine LdK.mk _ (by assumption) ?_ | refine IdxK.mk _ rfl (by omega) (by omega) ?_ | refine DrawN.q (by kernel_rfl) ?_ | refine CallK.mk _ (eqProof_a M l[k]) ?_ | refine CallQ.mk _ (eqProof_a M l[k]) ?_ | (refine CondK.no' ?_ ?_; focus (simp; done)) | (refine CondK.yes' ?_ ?_; focus (simp; done)) | exact rfl)
    exact ⟨⟨k + 1, hlt⟩, ⟨⟨rfl, rfl, look_int (i64_succ (by omega)), trivial⟩, trivial, rfl, rfl⟩, rfl, by simp; omega⟩
  · rfl
theorem szProofS_a (M : Mem) (l : List GProof) (left : Int) (A : Option Addr) (c : Nat) (h : SlR M RProof 6 56 A c l) : Ans Try.prog M 102 #[.slice A l.length c, .int .i64 left] (.int .i64 (szL szProof l left)) := by
  have hl := h.len
  refine ans_of T (l := [.slice A l.length c, .int .i64 left]) mixed Try.func102 rfl (by kernel_rfl) (Nat.le_of_ble_eq_true rfl) ?_
  (conv => whnf)
  refine CondK.mk (fun h1 => ?_) (fun h1 => ?_)
  · refine ret_int ?_
    rw [szL, if_pos (by simpa using h1)]
  have h2 : szL szProof l left = szRun szProof l (IntKind.i64.wrap (left - (l.length : Int))) := by rw [szL, if_neg (by simpa using h1)]
  rw [h2]
  clear h1 h2
  generalize IntKind.i64.wrap (left - (l.length : Int)) = n0
  (conv => whnf)
  refine LoopK.mk {p : Nat × Int // p.1 ≤ l.length ∧ szRun szProof l n0 = szRun szProof (l.drop p.1) p.2} (fun ⟨(k, n), _⟩ => [(0, .v (.slice A l.length c)), (1, .v (.int .i64 n)), (5, .v (.int .i64 (k : Int)))]) (fun _ => []) (fun _ => M) (fun p => l.length - p.1.1) ⟨(0, n0), Nat.zero_le _, rfl⟩ ⟨⟨⟨rfl, rfl, rfl, trivial⟩, trivial, rfl, rfl⟩, rfl⟩ ?_
  rintro ⟨⟨k, n⟩, hk, hn⟩
  (conv => whnf)
  refine CondK.mk (fun h1 => ?_) (fun h1 => ?_)
  · have hlt : k < l.length := by simpa using h1
    obtain ⟨ad, rfl, bnx, x0, x1, x2, x3, x4, x5⟩ := at_Proof h (List.getElem?_eq_getElem hlt)
    simp only [] at hn
    rw [szRun_step hlt] at hn
    repeat' ((conv => whnf); first | with_reducible refine CondK.tt ?_ | with_reducible refine CondK.ff ?_ | with_reducible refine CondK.not ?_ | refine LdK.mk _ (by assumption) ?_ | refine IdxK.mk _ rfl (by omega) (by omega) ?_ | refine DrawN.q (by kernel_rfl) ?_ | refine CallK.mk _ (szProof_a M l[k] n) ?_ | refine CallQ.mk _ (szProof_a M l[k] n) ?_ | refine CondK.mk (fun h => ?_) (fun h => ?_) | exact rfl)
    · refine ret_int ?_
      rw [hn, if_pos (by simpa using h)]
    · rw [if_neg (by simpa using h)] at hn
      exact ⟨⟨(k + 1, _), hlt, hn⟩, ⟨⟨rfl, rfl, look_int (i64_succ (by omega)), trivial⟩, trivial, rfl, rfl⟩, rfl, by simp; omega⟩
  · refine ret_int ?_
    simp only [] at hn
    rw [hn, List.drop_eq_nil_of_le (by simp at h1; omega)]
    rfl
theorem toProofS_f (M : Mem) (l : List GProof) (A : Option Addr) (c : Nat) (h : SlR M RProof 6 56 A c l) (hsm : l.length ≤ 1048576 ∧ ∀ y ∈ l, True) : AnsR Try.prog M 104 #[.slice A l.length c] (fun M' v => ∃ A' c', v = .slice A' l.length c' ∧ SlR (sub M' M) RProof 6 56 A' c' l) := by
  have hl := hsm.1
  refine ansR_of T (l := [.slice A l.length c]) mixed Try.func104 rfl (by kernel_rfl) (Nat.le_of_ble_eq_true rfl) ?_
  (conv => whnf)
  refine MkK.mk rfl (by omega) (by omega) (by show ((56 : Nat) : Int) * (l.length : Int) ≤ _; omega) ?_
  (conv => whnf)
  refine LoopK.mk (Fill M (fun M' x cs => RProof (sub M' M) x cs) 6 l) (fun q => [(0, .v (.slice A l.length c)), (3, .s 0 l.length l.length 6), (4, .v (.int .i64 (q.css.length : Int)))]) (fun q => [(0, q.cells [.string ⟨#[]⟩, .int .i64 0, .int .i64 0, .int .i64 0, .int .i64 0, .int .i64 0])]) (fun q => q.M) (fun q => l.length - q.css.length) (Fill.start M (fun M' x cs => RProof (sub M' M) x cs) 6 l) ⟨⟨⟨rfl, rfl, rfl, trivial⟩, ⟨rfl, trivial⟩, rfl, rfl⟩, rfl⟩ ?_
  intro q
  have h := h.mono q.le (RProof.mono q.le)
  (conv => whnf)
  refine CondK.mk (fun h1 => ?_) (fun h1 => ?_)
  · have hlt : q.css.length < l.length := by simpa using h1
    have hx := List.getElem?_eq_getElem hlt
    obtain ⟨ad, rfl, bnx, x0, x1, x2, x3, x4, x5⟩ := at_Proof h hx
    repeat' ((conv => whnf); first | with_reducible refine CondK.tt ?_ | with_reducible refine CondK.ff ?_ | with_reducible refine CondK.not ?_ | refine LdK.mk _ (by assumption) ?_ | refine IdxK.mk _ rfl (by omega) (by omega) ?_ | refine DrawN.q (by kernel_rfl) ?_ | refine IdxA.mk (q.css.length * 6) rfl (by omega) (by omega) ?_ | refine CallK.mk _ (toProof_a _ l[q.css.length]) ?_ | refine CallQ.mk _ (toProof_a _ l[q.css.length]) ?_ | exact rfl)
    have hs := q.store (Le.refl _) (fun _ _ h => h) hx ⟨rfl, bnx⟩ rfl (Z := [.string ⟨#[]⟩, .int .i64 0, .int .i64 0, .int .i64 0, .int .i64 0, .int .i64 0]) rfl
    have hroom := q.room1 (Z := [.string ⟨#[]⟩, .int .i64 0, .int .i64 0, .int .i64 0, .int .i64 0, .int .i64 0]) rfl hlt
    refine Owe.mk hroom ?_
    (conv => whnf)
    exact ⟨q.step (Le.refl _) (fun _ _ h => h) hx ⟨rfl, bnx⟩ rfl, ⟨⟨rfl, rfl, look_int ((i64_succ (by omega)).trans (by simp [Fill.step])), trivial⟩, ⟨congrArg some hs, trivial⟩, rfl, rfl⟩, rfl, by simp [Fill.step]; omega⟩
  · refine RetK.fr fun g M' hl hg => ⟨_, _, rfl, ?_⟩
    exact q.new (Z := [.string ⟨#[]⟩, .int .i64 0, .int .i64 0, .int .i64 0, .int .i64 0, .int .i64 0]) (by simpa using h1) (RProof.mono (sub_mono _ hl)) (hg 0 _ rfl) h.len
theorem toProofS_a (M : Mem) (l : List GProof) (A : Option Addr) (c : Nat) (h : SlR M RProof 6 56 A c l) (hsm : l.length ≤ 1048576 ∧ ∀ y ∈ l, True) : AnsR Try.prog M 104 #[.slice A l.length c] (fun M' v => ∃ A' c', v = .slice A' l.length c' ∧ SlR M' RProof 6 56 A' c' l) :=
  (toProofS_f M l A c h hsm).imp fun M' v _ ⟨A', c', h1, h2⟩ => ⟨A', c', h1, h2.mono (sub_le _ _) (RProof.mono (sub_le _ _))⟩
theorem eqReport_a (M : Mem) (x : GReport) (cs ds : List Value) (h : RReport M x cs) (h' : RReport M x ds) : Ans Try.prog M 62 #[.agg cs.toArray, .agg ds.toArray] (.bool true) := by
  obtain ⟨A0, c0, rfl, hb, s0⟩ := h
  obtain ⟨B0, d0, rfl, _, t0⟩ := h'
  refine ans_of T (l := [.agg #[.int .i64 x.From, .slice A0 x.List.length c0], .agg #[.int .i64 x.From, .slice B0 x.List.length d0]]) mixed Try.func62 rfl (by kernel_rfl) (Nat.le_of_ble_eq_true rfl) ?_
  repeat' ((conv => whnf); first | with_reducible refine CondK.tt ?_ | with_reducible refine CondK.ff ?_ | with_reducible refine CondK.not ?_ | refine CallK.mk _ (eqProofS_a M _ _ _ _ _ s0 t0) ?_ | refine CallQ.mk _ (eqProofS_a M _ _ _ _ _ s0 t0) ?_ | (refine CondK.no' ?_ ?_; focus (simp; done)) | (refine CondK.yes' ?_ ?_; focus (simp; done)) | exact rfl)
def szReport (x : GReport) (left : Int) : Int := szT (szL szProof x.List (left)) fun left => left
theorem szReport_a (M : Mem) (x : GReport) (left : Int) (cs : List Value) (h : RReport M x cs) : Ans Try.prog M 55 #[.agg cs.toArray, .int .i64 left] (.int .i64 (szReport x left)) := by
  obtain ⟨A0, c0, rfl, hb, s0⟩ := h
  refine ans_of T (l := [.agg #[.int .i64 x.From, .slice A0 x.List.length c0], .int .i64 left]) mixed Try.func55 rfl (by kernel_rfl) (Nat.le_of_ble_eq_true rfl) ?_
  repeat' ((conv => whnf); first | with_reducible refine CondK.tt ?_ | with_reducible refine CondK.ff ?_ | with_reducible refine CondK.not ?_ | refine CallK.mk _ (szProofS_a M _ _ _ _ s0) ?_ | refine CallQ.mk _ (szProofS_a M _ _ _ _ s0) ?_ | refine CondK.mk (fun h => ?_) (fun h => ?_) | exact rfl)
  all_goals refine ret_int ?_
  all_goals (simp only [decide_eq_true_eq, decide_eq_false_iff_not] at *)
  all_goals first | (simp only [szReport, szT, if_true, if_false, *]; done) | (simp [szReport, szT, *]; done) | (simp [szReport, szT, szSub, *]; done) | (unfold szReport szT szSub; simp [*]; done) | grind [szReport, szT, szSub]
def SmallReport (x : GReport) : Prop := (x.List.length ≤ 1048576 ∧ ∀ y ∈ x.List, True)
theorem szReport_ok {M : Mem} {x : GReport} {cs : List Value} (hr : RReport M x cs) {left : Int} (h0 : 0 ≤ left) (h1 : left ≤ 1048576) (h : 0 ≤ szReport x left) : SmallReport x ∧ szReport x left ≤ 1048576 := by
  obtain ⟨A0, c0, rfl, hb, s0⟩ := hr
  unfold szReport at h ⊢
  obtain ⟨p1, h', e1⟩ := szT_ok h
  replace h := h'
  rw [e1]
  have q1 := szL_ok s0.len (fun y hy left h0 h1 h => let ⟨_, hr⟩ := s0.each hy; szProof_ok hr h0 h1 h) h0 h1 p1
  exact ⟨q1.1, q1.2⟩
theorem toReport_f (M : Mem) (x : GReport) (cs : List Value) (h : RReport M x cs) (hs : SmallReport x) : AnsR Try.prog M 58 #[.agg cs.toArray] (fun M' v => ∃ cs' : List Value, v = .agg cs'.toArray ∧ RReport (sub M' M) x cs') := by
  have z0 := hs
  obtain ⟨A0, c0, rfl, hb, s0⟩ := h
  refine ansR_of T (l := [.agg #[.int .i64 x.From, .slice A0 x.List.length c0]]) mixed Try.func58 rfl (by kernel_rfl) (Nat.le_of_ble_eq_true rfl) ?_
  repeat' ((conv => whnf); first | with_reducible refine CondK.tt ?_ | with_reducible refine CondK.ff ?_ | with_reducible refine CondK.not ?_ | exact rfl)
  refine CallK.mr _ (toProofS_f _ _ _ _ s0 z0) (fun v1 M1 hl1 hv1 => ?_)
  obtain ⟨B0, d0, rfl, r0⟩ := hv1
  have hle := hl1
  repeat' ((conv => whnf); first | with_reducible refine CondK.tt ?_ | with_reducible refine CondK.ff ?_ | with_reducible refine CondK.not ?_ | exact rfl)
  exact RetK.mk fun g M' hl hg => ⟨_, rfl, _, _, rfl, hb, r0.mono (sub_mono _ hl) (RProof.mono (sub_mono _ hl))⟩
theorem toReport_a (M : Mem) (x : GReport) (cs : List Value) (h : RReport M x cs) (hs : SmallReport x) : AnsR Try.prog M 58 #[.agg cs.toArray] (fun M' v => ∃ cs' : List Value, v = .agg cs'.toArray ∧ RReport M' x cs') :=
  (toReport_f M x cs h hs).imp fun M' v _ ⟨cs', h1, h2⟩ => ⟨cs', h1, RReport.mono (sub_le _ _) _ _ h2⟩
theorem eqReportS_a (M : Mem) (l : List GReport) (A A' : Option Addr) (c c' : Nat) (h : SlR M RReport 2 32 A c l) (h' : SlR M RReport 2 32 A' c' l) : Ans Try.prog M 16 #[.slice A l.length c, .slice A' l.length c'] (.bool true) := by
  have hl := h.len
  refine ans_of T (l := [.slice A l.length c, .slice A' l.length c']) mixed Try.func16 rfl (by kernel_rfl) (Nat.le_of_ble_eq_true rfl) ?_
  (conv => whnf)
  refine CondK.mk (fun h1 => absurd h1 (by simp)) (fun _ => ?_)
  (conv => whnf)
  refine LoopK.mk {k : Nat // k ≤ l.length} (fun ⟨k, _⟩ => [(0, .v (.slice A l.length c)), (1, .v (.slice A' l.length c')), (5, .v (.int .i64 (k : Int)))]) (fun _ => []) (fun _ => M) (fun k => l.length - k.1) ⟨0, Nat.zero_le _⟩ ⟨⟨⟨rfl, rfl, rfl, trivial⟩, trivial, rfl, rfl⟩, rfl⟩ ?_
  rintro ⟨k, hk⟩
  (conv => whnf)
  refine CondK.mk (fun h1 => ?_) (fun h1 => ?_)
  · have hlt : k < l.length := by simpa using h1
    obtain ⟨ad, rfl, A0, c0, bnx, s0, x0, x1⟩ := at_Report h (List.getElem?_eq_getElem hlt)
    obtain ⟨ad', rfl, B0, d0, bny, t0, y0, y1⟩ := at_Report h' (List.getElem?_eq_getElem hlt)
    repeat' ((conv => whnf); first | with_reducible refine CondK.tt ?_ | with_reducible refine CondK.ff ?_ | with_reducible refine CondK.not ?_ | refine LdK.mk _ (by assumption) ?_ | refine IdxK.mk _ rfl (by omega) (by omega) ?_ | refine DrawN.q (by kernel_rfl) ?_ | refine CallK.mk _ (eqReport_a M l[k] _ _ ⟨_, _, rfl, bnx, s0⟩ ⟨_, _, rfl, bny, t0⟩) ?_ | refine CallQ.mk _ (eqReport_a M l[k] _ _ ⟨_, _, rfl, bnx, s0⟩ ⟨_, _, rfl, bny, t0⟩) ?_ | (refine CondK.no' ?_ ?_; focus (simp; done)) | (refine CondK.yes' ?_ ?_; focus (simp; done)) | exact rfl)
    exact ⟨⟨k + 1, hlt⟩, ⟨⟨rfl, rfl, look_int (i64_succ (by omega)), trivial⟩, trivial, rfl, rfl⟩, rfl, by simp; omega⟩
  · rfl
theorem szReportS_a (M : Mem) (l : List GReport) (left : Int) (A : Option Addr) (c : Nat) (h : SlR M RReport 2 32 A c l) : Ans Try.prog M 11 #[.slice A l.length c, .int .i64 left] (.int .i64 (szL szReport l left)) := by
  have hl := h.len
  refine ans_of T (l := [.slice A l.length c, .int .i64 left]) mixed Try.func11 rfl (by kernel_rfl) (Nat.le_of_ble_eq_true rfl) ?_
  (conv => whnf)
  refine CondK.mk (fun h1 => ?_) (fun h1 => ?_)
  · refine ret_int ?_
    rw [szL, if_pos (by simpa using h1)]
  have h2 : szL szReport l left = szRun szReport l (IntKind.i64.wrap (left - (l.length : Int))) := by rw [szL, if_neg (by simpa using h1)]
  rw [h2]
  clear h1 h2
  generalize IntKind.i64.wrap (left - (l.length : Int)) = n0
  (conv => whnf)
  refine LoopK.mk {p : Nat × Int // p.1 ≤ l.length ∧ szRun szReport l n0 = szRun szReport (l.drop p.1) p.2} (fun ⟨(k, n), _⟩ => [(0, .v (.slice A l.length c)), (1, .v (.int .i64 n)), (5, .v (.int .i64 (k : Int)))]) (fun _ => []) (fun _ => M) (fun p => l.length - p.1.1) ⟨(0, n0), Nat.zero_le _, rfl⟩ ⟨⟨⟨rfl, rfl, rfl, trivial⟩, trivial, rfl, rfl⟩, rfl⟩ ?_
  rintro ⟨⟨k, n⟩, hk, hn⟩
  (conv => whnf)
  refine CondK.mk (fun h1 => ?_) (fun h1 => ?_)
  · have hlt : k < l.length := by simpa using h1
    obtain ⟨ad, rfl, A0, c0, bnx, s0, x0, x1⟩ := at_Report h (List.getElem?_eq_getElem hlt)
    simp only [] at hn
    rw [szRun_step hlt] at hn
    repeat' ((conv => whnf); first | with_reducible refine CondK.tt ?_ | with_reducible refine CondK.ff ?_ | with_reducible refine CondK.not ?_ | refine LdK.mk _ (by assumption) ?_ | refine IdxK.mk _ rfl (by omega) (by omega) ?_ | refine DrawN.q (by kernel_rfl) ?_ | refine CallK.mk _ (szReport_a M l[k] n _ ⟨_, _, rfl, bnx, s0⟩) ?_ | refine CallQ.mk _ (szReport_a M l[k] n _ ⟨_, _, rfl, bnx, s0⟩) ?_ | refine CondK.mk (fun h => ?_) (fun h => ?_) | exact rfl)
    · refine ret_int ?_
      rw [hn, if_pos (by simpa using h)]
    · rw [if_neg (by simpa using h)] at hn
      exact ⟨⟨(k + 1, _), hlt, hn⟩, ⟨⟨rfl, rfl, look_int (i64_succ (by omega)), trivial⟩, trivial, rfl, rfl⟩, rfl, by simp; omega⟩
  · refine ret_int ?_
    simp only [] at hn
    rw [hn, List.drop_eq_nil_of_le (by simp at h1; omega)]
    rfl
theorem toReportS_f (M : Mem) (l : List GReport) (A : Option Addr) (c : Nat) (h : SlR M RReport 2 32 A c l) (hsm : l.length ≤ 1048576 ∧ ∀ y ∈ l, SmallReport y) : AnsR Try.prog M 13 #[.slice A l.length c] (fun M' v => ∃ A' c', v = .slice A' l.length c' ∧ SlR (sub M' M) RReport 2 32 A' c' l) := by
  have hl := hsm.1
  refine ansR_of T (l := [.slice A l.length c]) mixed Try.func13 rfl (by kernel_rfl) (Nat.le_of_ble_eq_true rfl) ?_
  (conv => whnf)
  refine MkK.mk rfl (by omega) (by omega) (by show ((32 : Nat) : Int) * (l.length : Int) ≤ _; omega) ?_
  (conv => whnf)
  refine LoopK.mk (Fill M (fun M' x cs => RReport (sub M' M) x cs) 2 l) (fun q => [(0, .v (.slice A l.length c)), (3, .s 0 l.length l.length 2), (4, .v (.int .i64 (q.css.length : Int)))]) (fun q => [(0, q.cells [.int .i64 0, .slice none 0 0])]) (fun q => q.M) (fun q => l.length - q.css.length) (Fill.start M (fun M' x cs => RReport (sub M' M) x cs) 2 l) ⟨⟨⟨rfl, rfl, rfl, trivial⟩, ⟨rfl, trivial⟩, rfl, rfl⟩, rfl⟩ ?_
  intro q
  have h := h.mono q.le (RReport.mono q.le)
  (conv => whnf)
  refine CondK.mk (fun h1 => ?_) (fun h1 => ?_)
  · have hlt : q.css.length < l.length := by simpa using h1
    have hx := List.getElem?_eq_getElem hlt
    obtain ⟨ad, rfl, A0, c0, bnx, s0, x0, x1⟩ := at_Report h hx
    repeat' ((conv => whnf); first | with_reducible refine CondK.tt ?_ | with_reducible refine CondK.ff ?_ | with_reducible refine CondK.not ?_ | refine LdK.mk _ (by assumption) ?_ | refine IdxK.mk _ rfl (by omega) (by omega) ?_ | refine DrawN.q (by kernel_rfl) ?_ | refine IdxA.mk (q.css.length * 2) rfl (by omega) (by omega) ?_ | exact rfl)
    refine CallK.mr _ (toReport_f _ l[q.css.length] _ ⟨_, _, rfl, bnx, s0⟩ (hsm.2 _ (List.getElem_mem hlt))) (fun v M1 hl1 hv => ?_)
    obtain ⟨cs', rfl, hr⟩ := hv
    replace hr := RReport.mono (sub_anti M1 q.le) _ _ hr
    have hz : cs'.length = 2 := by obtain ⟨E0, e0, rfl, _⟩ := hr; rfl
    have hs := q.store hl1 (RReport.mono (sub_mono _ hl1)) hx hr hz (Z := [.int .i64 0, .slice none 0 0]) rfl
    have hroom := q.room1 (Z := [.int .i64 0, .slice none 0 0]) rfl hlt
    obtain ⟨E0, e0, rfl, hrb, hrs⟩ := hr
    repeat' ((conv => whnf); first | with_reducible refine CondK.tt ?_ | with_reducible refine CondK.ff ?_ | with_reducible refine CondK.not ?_ | refine IdxA.mk (q.css.length * 2) rfl (by omega) (by omega) ?_ | exact rfl)
    refine Owe.mk hroom ?_
    (conv => whnf)
    exact ⟨q.step hl1 (RReport.mono (sub_mono _ hl1)) hx ⟨_, _, rfl, hrb, hrs⟩ hz, ⟨⟨rfl, rfl, look_int ((i64_succ (by omega)).trans (by simp [Fill.step])), trivial⟩, ⟨congrArg some hs, trivial⟩, rfl, rfl⟩, rfl, by simp [Fill.step]; omega⟩
  · refine RetK.fr fun g M' hl hg => ⟨_, _, rfl, ?_⟩
    exact q.new (Z := [.int .i64 0, .slice none 0 0]) (by simpa using h1) (RReport.mono (sub_mono _ hl)) (hg 0 _ rfl) h.len
theorem toReportS_a (M : Mem) (l : List GReport) (A : Option Addr) (c : Nat) (h : SlR M RReport 2 32 A c l) (hsm : l.length ≤ 1048576 ∧ ∀ y ∈ l, SmallReport y) : AnsR Try.prog M 13 #[.slice A l.length c] (fun M' v => ∃ A' c', v = .slice A' l.length c' ∧ SlR M' RReport 2 32 A' c' l) :=
  (toReportS_f M l A c h hsm).imp fun M' v _ ⟨A', c', h1, h2⟩ => ⟨A', c', h1, h2.mono (sub_le _ _) (RReport.mono (sub_le _ _))⟩
theorem eqBad_a (M : Mem) (x : GBad) : Ans Try.prog M 61 #[.agg #[.int .i64 x.Node, .string x.Name, .int .i64 x.Ver.Epoch, .int .i64 x.Ver.Seq, .int .i64 x.Pos], .agg #[.int .i64 x.Node, .string x.Name, .int .i64 x.Ver.Epoch, .int .i64 x.Ver.Seq, .int .i64 x.Pos]] (.bool true) := by
  refine ans_of T (l := [.agg #[.int .i64 x.Node, .string x.Name, .int .i64 x.Ver.Epoch, .int .i64 x.Ver.Seq, .int .i64 x.Pos], .agg #[.int .i64 x.Node, .string x.Name, .int .i64 x.Ver.Epoch, .int .i64 x.Ver.Seq, .int .i64 x.Pos]]) mixed Try.func61 rfl (by kernel_rfl) (Nat.le_of_ble_eq_true rfl) ?_
  repeat' ((conv => whnf); first | with_reducible refine CondK.tt ?_ | with_reducible refine CondK.ff ?_ | with_reducible refine CondK.not ?_ | refine CallK.mk _ (eqVer_a M _) ?_ | refine CallQ.mk _ (eqVer_a M _) ?_ | (refine CondK.no' ?_ ?_; focus (simp; done)) | (refine CondK.yes' ?_ ?_; focus (simp; done)) | exact rfl)
theorem eqBadS_a (M : Mem) (l : List GBad) (A A' : Option Addr) (c c' : Nat) (h : SlR M RBad 5 48 A c l) (h' : SlR M RBad 5 48 A' c' l) : Ans Try.prog M 15 #[.slice A l.length c, .slice A' l.length c'] (.bool true) := by
  have hl := h.len
  refine ans_of T (l := [.slice A l.length c, .slice A' l.length c']) mixed Try.func15 rfl (by kernel_rfl) (Nat.le_of_ble_eq_true rfl) ?_
  (conv => whnf)
  refine CondK.mk (fun h1 => absurd h1 (by simp)) (fun _ => ?_)
  (conv => whnf)
  refine LoopK.mk {k : Nat // k ≤ l.length} (fun ⟨k, _⟩ => [(0, .v (.slice A l.length c)), (1, .v (.slice A' l.length c')), (5, .v (.int .i64 (k : Int)))]) (fun _ => []) (fun _ => M) (fun k => l.length - k.1) ⟨0, Nat.zero_le _⟩ ⟨⟨⟨rfl, rfl, rfl, trivial⟩, trivial, rfl, rfl⟩, rfl⟩ ?_
  rintro ⟨k, hk⟩
  (conv => whnf)
  refine CondK.mk (fun h1 => ?_) (fun h1 => ?_)
  · have hlt : k < l.length := by simpa using h1
    obtain ⟨ad, rfl, bnx, x0, x1, x2, x3, x4⟩ := at_Bad h (List.getElem?_eq_getElem hlt)
    obtain ⟨ad', rfl, bny, y0, y1, y2, y3, y4⟩ := at_Bad h' (List.getElem?_eq_getElem hlt)
    repeat' ((conv => whnf); first | with_reducible refine CondK.tt ?_ | with_reducible refine CondK.ff ?_ | with_reducible refine CondK.not ?_ | refine LdK.mk _ (by assumption) ?_ | refine IdxK.mk _ rfl (by omega) (by omega) ?_ | refine DrawN.q (by kernel_rfl) ?_ | refine CallK.mk _ (eqBad_a M l[k]) ?_ | refine CallQ.mk _ (eqBad_a M l[k]) ?_ | (refine CondK.no' ?_ ?_; focus (simp; done)) | (refine CondK.yes' ?_ ?_; focus (simp; done)) | exact rfl)
    exact ⟨⟨k + 1, hlt⟩, ⟨⟨rfl, rfl, look_int (i64_succ (by omega)), trivial⟩, trivial, rfl, rfl⟩, rfl, by simp; omega⟩
  · rfl
end Go.Proofs.Ytgdglbjoaipfpaa.Hlp
