/- The laws' helpers by the light walk: equal data are called equal; what a list measures; what is turned is the same. -/
import Derived.Test.YtoedjkeahjmpiaaGreatHlpF
namespace Go.Proofs.YtoedjkeahjmpiaaGreat.Hlp
open Go Go.RowKit Go.Proofs Go.Proofs.YtoedjkeahjmpiaaGreat.Lw
set_option linter.unusedVariables false
set_option linter.unusedSimpArgs false
set_option maxRecDepth 100000
set_option maxHeartbeats 4000000
theorem eqInterval_a (M : Mem) (x : GInterval) (cs ds : List Value) (h : RInterval M x cs) (h' : RInterval M x ds) : Ans Tryz.prog M 30 #[.agg cs.toArray, .agg ds.toArray] (.bool true) := by
  obtain ⟨A0, c0, rfl, hb, s0⟩ := h
  obtain ⟨B0, d0, rfl, _, t0⟩ := h'
  refine ans_of T (l := [.agg #[.int .i64 x.First, .int .i64 x.Last, .slice A0 x.Acting.length c0, .bool x.May], .agg #[.int .i64 x.First, .int .i64 x.Last, .slice B0 x.Acting.length d0, .bool x.May]]) mixed Tryz.func30 rfl (by kernel_rfl) (Nat.le_of_ble_eq_true rfl) ?_
  repeat' ((conv => whnf); first | with_reducible refine CondK.tt ?_ | with_reducible refine CondK.ff ?_ | with_reducible refine CondK.not ?_ | refine CallK.mk _ (eqInt64S_a M _ _ _ _ _ s0 t0) ?_ | refine CallQ.mk _ (eqInt64S_a M _ _ _ _ _ s0 t0) ?_ | (refine CondK.no' ?_ ?_; focus (simp; done)) | (refine CondK.yes' ?_ ?_; focus (simp; done)) | exact rfl)
def szInterval (x : GInterval) (left : Int) : Int := szT (szSub (left) x.Acting.length) fun left => left
theorem szInterval_a (M : Mem) (x : GInterval) (left : Int) (cs : List Value) (h : RInterval M x cs) : Ans Tryz.prog M 22 #[.agg cs.toArray, .int .i64 left] (.int .i64 (szInterval x left)) := by
  obtain ⟨A0, c0, rfl, hb, s0⟩ := h
  refine ans_of T (l := [.agg #[.int .i64 x.First, .int .i64 x.Last, .slice A0 x.Acting.length c0, .bool x.May], .int .i64 left]) mixed Tryz.func22 rfl (by kernel_rfl) (Nat.le_of_ble_eq_true rfl) ?_
  repeat' ((conv => whnf); first | with_reducible refine CondK.tt ?_ | with_reducible refine CondK.ff ?_ | with_reducible refine CondK.not ?_ | refine CallK.mk _ (szInt64S_a M _ _ _ _ s0) ?_ | refine CallQ.mk _ (szInt64S_a M _ _ _ _ s0) ?_ | refine CondK.mk (fun h => ?_) (fun h => ?_) | exact rfl)
  all_goals refine ret_int ?_
  all_goals (simp only [decide_eq_true_eq, decide_eq_false_iff_not] at *)
  all_goals first | (simp only [szInterval, szT, if_true, if_false, *]; done) | (simp [szInterval, szT, *]; done) | (simp [szInterval, szT, szSub, *]; done) | (unfold szInterval szT szSub; simp [*]; done) | grind [szInterval, szT, szSub]
def SmallInterval (x : GInterval) : Prop := (x.Acting.length ≤ 1048576 ∧ ∀ y ∈ x.Acting, True)
theorem szInterval_ok {M : Mem} {x : GInterval} {cs : List Value} (hr : RInterval M x cs) {left : Int} (h0 : 0 ≤ left) (h1 : left ≤ 1048576) (h : 0 ≤ szInterval x left) : SmallInterval x ∧ szInterval x left ≤ 1048576 := by
  obtain ⟨A0, c0, rfl, hb, s0⟩ := hr
  unfold szInterval at h ⊢
  obtain ⟨p2, h', e2⟩ := szT_ok h
  replace h := h'
  rw [e2]
  have q2 := szSub_ok h0 h1 s0.len p2
  exact ⟨⟨q2.1, fun _ _ => trivial⟩, q2.2⟩
theorem toInterval_f (M : Mem) (x : GInterval) (cs : List Value) (h : RInterval M x cs) (hs : SmallInterval x) : AnsR Tryz.prog M 26 #[.agg cs.toArray] (fun M' v => ∃ cs' : List Value, v = .agg cs'.toArray ∧ RInterval (sub M' M) x cs') := by
  have z0 := hs
  obtain ⟨A0, c0, rfl, hb, s0⟩ := h
  refine ansR_of T (l := [.agg #[.int .i64 x.First, .int .i64 x.Last, .slice A0 x.Acting.length c0, .bool x.May]]) mixed Tryz.func26 rfl (by kernel_rfl) (Nat.le_of_ble_eq_true rfl) ?_
  repeat' ((conv => whnf); first | with_reducible refine CondK.tt ?_ | with_reducible refine CondK.ff ?_ | with_reducible refine CondK.not ?_ | exact rfl)
  refine CallK.mr _ (toInt64S_f _ _ _ _ s0 z0) (fun v1 M1 hl1 hv1 => ?_)
  obtain ⟨B0, d0, rfl, r0⟩ := hv1
  have hle := hl1
  repeat' ((conv => whnf); first | with_reducible refine CondK.tt ?_ | with_reducible refine CondK.ff ?_ | with_reducible refine CondK.not ?_ | exact rfl)
  exact RetK.mk fun g M' hl hg => ⟨_, rfl, _, _, rfl, hb, r0.mono (sub_mono _ hl) (RInt.mono (sub_mono _ hl))⟩
theorem toInterval_a (M : Mem) (x : GInterval) (cs : List Value) (h : RInterval M x cs) (hs : SmallInterval x) : AnsR Tryz.prog M 26 #[.agg cs.toArray] (fun M' v => ∃ cs' : List Value, v = .agg cs'.toArray ∧ RInterval M' x cs') :=
  (toInterval_f M x cs h hs).imp fun M' v _ ⟨cs', h1, h2⟩ => ⟨cs', h1, RInterval.mono (sub_le _ _) _ _ h2⟩
theorem eqIntervalS_a (M : Mem) (l : List GInterval) (A A' : Option Addr) (c c' : Nat) (h : SlR M RInterval 4 48 A c l) (h' : SlR M RInterval 4 48 A' c' l) : Ans Tryz.prog M 13 #[.slice A l.length c, .slice A' l.length c'] (.bool true) := by
  have hl := h.len
  refine ans_of T (l := [.slice A l.length c, .slice A' l.length c']) mixed Tryz.func13 rfl (by kernel_rfl) (Nat.le_of_ble_eq_true rfl) ?_
  (conv => whnf)
  refine CondK.mk (fun h1 => absurd h1 (by simp)) (fun _ => ?_)
  (conv => whnf)
  refine LoopK.mk {k : Nat // k ≤ l.length} (fun ⟨k, _⟩ => [(0, .v (.slice A l.length c)), (1, .v (.slice A' l.length c')), (5, .v (.int .i64 (k : Int)))]) (fun _ => []) (fun _ => M) (fun k => l.length - k.1) ⟨0, Nat.zero_le _⟩ ⟨⟨⟨rfl, rfl, rfl, trivial⟩, trivial, rfl, rfl⟩, rfl⟩ ?_
  rintro ⟨k, hk⟩
  (conv => whnf)
  refine CondK.mk (fun h1 => ?_) (fun h1 => ?_)
  · have hlt : k < l.length := by simpa using h1
    obtain ⟨ad, rfl, A0, c0, bnx, s0, x0, x1, x2, x3⟩ := at_Interval h (List.getElem?_eq_getElem hlt)
    obtain ⟨ad', rfl, B0, d0, bny, t0, y0, y1, y2, y3⟩ := at_Interval h' (List.getElem?_eq_getElem hlt)
    repeat' ((conv => whnf); first | with_reducible refine CondK.tt ?_ | with_reducible refine CondK.ff ?_ | with_reducible refine CondK.not ?_ | refine LdK.mk _ (by assumption) ?_ | refine IdxK.mk _ rfl (by omega) (by omega) ?_ | refine DrawN.q (by kernel_rfl) ?_ | refine CallK.mk _ (eqInterval_a M l[k] _ _ ⟨_, _, rfl, bnx, s0⟩ ⟨_, _, rfl, bny, t0⟩) ?_ | refine CallQ.mk _ (eqInterval_a M l[k] _ _ ⟨_, _, rfl, bnx, s0⟩ ⟨_, _, rfl, bny, t0⟩) ?_ | (refine CondK.no' ?_ ?_; focus (simp; done)) | (refine CondK.yes' ?_ ?_; focus (simp; done)) | exact rfl)
    exact ⟨⟨k + 1, hlt⟩, ⟨⟨rfl, rfl, look_int (i64_succ (by omega)), trivial⟩, trivial, rfl, rfl⟩, rfl, by simp; omega⟩
  · rfl
theorem szIntervalS_a (M : Mem) (l : List GInterval) (left : Int) (A : Option Addr) (c : Nat) (h : SlR M RInterval 4 48 A c l) : Ans Tryz.prog M 5 #[.slice A l.length c, .int .i64 left] (.int .i64 (szL szInterval l left)) := by
  have hl := h.len
  refine ans_of T (l := [.slice A l.length c, .int .i64 left]) mixed Tryz.func5 rfl (by kernel_rfl) (Nat.le_of_ble_eq_true rfl) ?_
  (conv => whnf)
  refine CondK.mk (fun h1 => ?_) (fun h1 => ?_)
  · refine ret_int ?_
    rw [szL, if_pos (by simpa using h1)]
  have h2 : szL szInterval l left = szRun szInterval l (IntKind.i64.wrap (left - (l.length : Int))) := by rw [szL, if_neg (by simpa using h1)]
  rw [h2]
  clear h1 h2
  generalize IntKind.i64.wrap (left - (l.length : Int)) = n0
  (conv => whnf)
  refine LoopK.mk {p : Nat × Int // p.1 ≤ l.length ∧ szRun szInterval l n0 = szRun szInterval (l.drop p.1) p.2} (fun ⟨(k, n), _⟩ => [(0, .v (.slice A l.length c)), (1, .v (.int .i64 n)), (5, .v (.int .i64 (k : Int)))]) (fun _ => []) (fun _ => M) (fun p => l.length - p.1.1) ⟨(0, n0), Nat.zero_le _, rfl⟩ ⟨⟨⟨rfl, rfl, rfl, trivial⟩, trivial, rfl, rfl⟩, rfl⟩ ?_
  rintro ⟨⟨k, n⟩, hk, hn⟩
  (conv => whnf)
  refine CondK.mk (fun h1 => ?_) (fun h1 => ?_)
  · have hlt : k < l.length := by simpa using h1
    obtain ⟨ad, rfl, A0, c0, bnx, s0, x0, x1, x2, x3⟩ := at_Interval h (List.getElem?_eq_getElem hlt)
    simp only [] at hn
    rw [szRun_step hlt] at hn
    repeat' ((conv => whnf); first | with_reducible refine CondK.tt ?_ | with_reducible refine CondK.ff ?_ | with_reducible refine CondK.not ?_ | refine LdK.mk _ (by assumption) ?_ | refine IdxK.mk _ rfl (by omega) (by omega) ?_ | refine DrawN.q (by kernel_rfl) ?_ | refine CallK.mk _ (szInterval_a M l[k] n _ ⟨_, _, rfl, bnx, s0⟩) ?_ | refine CallQ.mk _ (szInterval_a M l[k] n _ ⟨_, _, rfl, bnx, s0⟩) ?_ | refine CondK.mk (fun h => ?_) (fun h => ?_) | exact rfl)
    · refine ret_int ?_
      rw [hn, if_pos (by simpa using h)]
    · rw [if_neg (by simpa using h)] at hn
      exact ⟨⟨(k + 1, _), hlt, hn⟩, ⟨⟨rfl, rfl, look_int (i64_succ (by omega)), trivial⟩, trivial, rfl, rfl⟩, rfl, by simp; omega⟩
  · refine ret_int ?_
    simp only [] at hn
    rw [hn, List.drop_eq_nil_of_le (by simp at h1; omega)]
    rfl
theorem toIntervalS_f (M : Mem) (l : List GInterval) (A : Option Addr) (c : Nat) (h : SlR M RInterval 4 48 A c l) (hsm : l.length ≤ 1048576 ∧ ∀ y ∈ l, SmallInterval y) : AnsR Tryz.prog M 8 #[.slice A l.length c] (fun M' v => ∃ A' c', v = .slice A' l.length c' ∧ SlR (sub M' M) RInterval 4 48 A' c' l) := by
  have hl := hsm.1
  refine ansR_of T (l := [.slice A l.length c]) mixed Tryz.func8 rfl (by kernel_rfl) (Nat.le_of_ble_eq_true rfl) ?_
  (conv => whnf)
  refine MkK.mk rfl (by omega) (by omega) (by show ((48 : Nat) : Int) * (l.length : Int) ≤ _; omega) ?_
  (conv => whnf)
  refine LoopK.mk (Fill M (fun M' x cs => RInterval (sub M' M) x cs) 4 l) (fun q => [(0, .v (.slice A l.length c)), (3, .s 0 l.length l.length 4), (4, .v (.int .i64 (q.css.length : Int)))]) (fun q => [(0, q.cells [.int .i64 0, .int .i64 0, .slice none 0 0, .bool false])]) (fun q => q.M) (fun q => l.length - q.css.length) (Fill.start M (fun M' x cs => RInterval (sub M' M) x cs) 4 l) ⟨⟨⟨rfl, rfl, rfl, trivial⟩, ⟨rfl, trivial⟩, rfl, rfl⟩, rfl⟩ ?_
  intro q
  have h := h.mono q.le (RInterval.mono q.le)
  (conv => whnf)
  refine CondK.mk (fun h1 => ?_) (fun h1 => ?_)
  · have hlt : q.css.length < l.length := by simpa using h1
    have hx := List.getElem?_eq_getElem hlt
    obtain ⟨ad, rfl, A0, c0, bnx, s0, x0, x1, x2, x3⟩ := at_Interval h hx
    repeat' ((conv => whnf); first | with_reducible refine CondK.tt ?_ | with_reducible refine CondK.ff ?_ | with_reducible refine CondK.not ?_ | refine LdK.mk _ (by assumption) ?_ | refine IdxK.mk _ rfl (by omega) (by omega) ?_ | refine DrawN.q (by kernel_rfl) ?_ | refine IdxA.mk (q.css.length * 4) rfl (by omega) (by omega) ?_ | exact rfl)
    refine CallK.mr _ (toInterval_f _ l[q.css.length] _ ⟨_, _, rfl, bnx, s0⟩ (hsm.2 _ (List.getElem_mem hlt))) (fun v M1 hl1 hv => ?_)
    obtain ⟨cs', rfl, hr⟩ := hv
    replace hr := RInterval.mono (sub_anti M1 q.le) _ _ hr
    have hz : cs'.length = 4 := by obtain ⟨E0, e0, rfl, _⟩ := hr; rfl
    have hs := q.store hl1 (RInterval.mono (sub_mono _ hl1)) hx hr hz (Z := [.int .i64 0, .int .i64 0, .slice none 0 0, .bool false]) rfl
    have hroom := q.room1 (Z := [.int .i64 0, .int .i64 0, .slice none 0 0, .bool false]) rfl hlt
    obtain ⟨E0, e0, rfl, hrb, hrs⟩ := hr
    repeat' ((conv => whnf); first | with_reducible refine CondK.tt ?_ | with_reducible refine CondK.ff ?_ | with_reducible refine CondK.not ?_ | refine IdxA.mk (q.css.length * 4) rfl (by omega) (by omega) ?_ | exact rfl)
    refine Owe.mk hroom ?_
    (conv => whnf)
    exact ⟨q.step hl1 (RInterval.mono (sub_mono _ hl1)) hx ⟨_, _, rfl, hrb, hrs⟩ hz, ⟨⟨rfl, rfl, look_int ((i64_succ (by omega)).trans (by simp [Fill.step])), trivial⟩, ⟨congrArg some hs, trivial⟩, rfl, rfl⟩, rfl, by simp [Fill.step]; omega⟩
  · refine RetK.fr fun g M' hl hg => ⟨_, _, rfl, ?_⟩
    exact q.new (Z := [.int .i64 0, .int .i64 0, .slice none 0 0, .bool false]) (by simpa using h1) (RInterval.mono (sub_mono _ hl)) (hg 0 _ rfl) h.len
theorem toIntervalS_a (M : Mem) (l : List GInterval) (A : Option Addr) (c : Nat) (h : SlR M RInterval 4 48 A c l) (hsm : l.length ≤ 1048576 ∧ ∀ y ∈ l, SmallInterval y) : AnsR Tryz.prog M 8 #[.slice A l.length c] (fun M' v => ∃ A' c', v = .slice A' l.length c' ∧ SlR M' RInterval 4 48 A' c' l) :=
  (toIntervalS_f M l A c h hsm).imp fun M' v _ ⟨A', c', h1, h2⟩ => ⟨A', c', h1, h2.mono (sub_le _ _) (RInterval.mono (sub_le _ _))⟩
end Go.Proofs.YtoedjkeahjmpiaaGreat.Hlp
