/- SearchLine: what can be searched. -/
import Derived.Test.YthlnapamdcmlkaaFunCC
namespace Go.Proofs.Ythlnapamdcmlkaa.Hlp
open Go Go.RowKit Go.Proofs Go.Proofs.Ythlnapamdcmlkaa.Lw
set_option linter.unusedVariables false
set_option linter.unusedSimpArgs false
set_option maxRecDepth 100000
set_option maxHeartbeats 4000000
def pgEq (x y : GCall) : Bool := (x.Pg.Pool == y.Pg.Pool) && ((x.Pg.No == y.Pg.No) && true)
def badF (y x : GCall) : Bool := !(pgEq x y) || (!(x.Name.toList == y.Name.toList) || (!(x.Op.Kind == 1) && (!(x.Op.Kind == 2) && !(x.Op.Kind == 6))))
theorem badF_kind {y x : GCall} (h : badF y x = false) : kindOk x := by
  unfold badF at h
  simp only [Bool.or_eq_false_iff, Bool.and_eq_false_iff, Bool.not_eq_false', beq_iff_eq] at h
  unfold kindOk
  omega
theorem searchable1_a (M : Mem) (x y : GCall) (a ad : Addr) (n c : Nat) (h0 : 0 < n) (ha : M (a.add 0) = some (.slice (some ad) n c)) (y2 : M ((ad.add (0 * 14)).add 2) = some (.int .i64 y.Pg.Pool)) (y3 : M ((ad.add (0 * 14)).add 3) = some (.int .i64 y.Pg.No)) (y4 : M ((ad.add (0 * 14)).add 4) = some (.string y.Name)) : Ans Try.prog M 27 #[.agg (List.toArray [.int .i64 x.Client, .int .i64 x.No, .int .i64 x.Pg.Pool, .int .i64 x.Pg.No, .string x.Name, .int .i64 x.Op.Kind, .int .i64 x.Op.At, .string x.Op.Bytes, .int .i64 x.Begin, .int .i64 x.End, .int .i64 x.Code, .int .i64 x.Ver.Epoch, .int .i64 x.Ver.Seq, .string x.Body]), .pointer (some a)] (.bool (badF y x)) := by
  refine ansC_of T (l := [.agg (List.toArray [.int .i64 x.Client, .int .i64 x.No, .int .i64 x.Pg.Pool, .int .i64 x.Pg.No, .string x.Name, .int .i64 x.Op.Kind, .int .i64 x.Op.At, .string x.Op.Bytes, .int .i64 x.Begin, .int .i64 x.End, .int .i64 x.Code, .int .i64 x.Ver.Epoch, .int .i64 x.Ver.Seq, .string x.Body]), .pointer (some a)]) mixed Try.func27 rfl (by kernel_rfl) (Nat.le_of_ble_eq_true rfl) ?_
  unfold badF
  cases q1 : pgEq x y
  · unfold pgEq at q1
    repeat' ((conv => whnf); first | refine DrawN.q (by kernel_rfl) ?_ | refine IdxK.mk _ rfl (by omega) (by omega) ?_ | refine LdK.mk _ (by assumption) ?_ | rw [q1] | fail)
    (conv => whnf)
    exact rfl
  · unfold pgEq at q1
    cases q2 : (x.Name.toList == y.Name.toList)
    · repeat' ((conv => whnf); first | refine DrawN.q (by kernel_rfl) ?_ | refine IdxK.mk _ rfl (by omega) (by omega) ?_ | refine LdK.mk _ (by assumption) ?_ | rw [q1] | rw [q2] | fail)
      (conv => whnf)
      exact rfl
    · cases q3 : (x.Op.Kind == 1) <;> cases q4 : (x.Op.Kind == 2)
      all_goals (have e3 : (x.Op.Kind != 1) = _ := congrArg not q3; have e4 : (x.Op.Kind != 2) = _ := congrArg not q4)
      all_goals repeat' ((conv => whnf); first | refine DrawN.q (by kernel_rfl) ?_ | refine IdxK.mk _ rfl (by omega) (by omega) ?_ | refine LdK.mk _ (by assumption) ?_ | rw [q1] | rw [q2] | rw [e3] | rw [e4] | fail)
      all_goals ((conv => whnf); exact rfl)
def searchF (l : List GCall) : Bool := decide (l.length ≤ 6) && (callsOkF l && match l with | [] => true | y :: r => !(l.any (badF y)))
theorem searchable_a (M : Mem) (l : List GCall) (A : Option Addr) (c : Nat) (h : SlR M RCall 14 136 A c l) : AnsR Try.prog M 13 #[.slice A l.length c] (fun _ v => v = .bool (searchF l)) := by
  have hl := h.len
  refine ansR_of T (l := [.slice A l.length c]) mixed Try.func13 rfl (by kernel_rfl) (Nat.le_of_ble_eq_true rfl) ?_
  unfold searchF
  by_cases hn : l.length ≤ 6
  · have q0 : decide ((l.length : Int) > 6) = false := decide_eq_false (by omega)
    rw [decide_eq_true hn, Bool.true_and]
    cases q : callsOkF l with
    | false =>
      repeat' ((conv => whnf); first | rw [q0] | fail)
      refine CallK.mr _ (callsOk_a M l A c h hn) (fun v M1 hl1 hv => ?_)
      rw [q] at hv
      subst hv
      repeat' ((conv => whnf); first | with_reducible refine CondK.tt ?_ | with_reducible refine CondK.ff ?_ | fail)
      (conv => whnf)
      exact RetK.mk fun g M' hl hg => rfl
    | true =>
      repeat' ((conv => whnf); first | rw [q0] | fail)
      refine CallK.mr _ (callsOk_a M l A c h hn) (fun v M1 hl1 hv => ?_)
      rw [q] at hv
      subst hv
      repeat' ((conv => whnf); first | with_reducible refine CondK.tt ?_ | with_reducible refine CondK.ff ?_ | fail)
      (conv => whnf)
      refine PubK.mk fun a M2 hl2 hc2 => ?_
      have h2 := (h.mono hl1 (RCall.mono hl1)).mono hl2 (RCall.mono hl2)
      cases l with
      | nil =>
        have g3 := hasCall_a M2 [] A c h2 27 a (fun _ => false) (fun x hx => absurd hx (by simp))
        repeat' ((conv => whnf); first | with_reducible refine CondK.tt ?_ | with_reducible refine CondK.ff ?_ | refine CallK.mk _ g3 ?_ | fail)
        (conv => whnf)
        exact RetK.mk fun g M' hl hg => rfl
      | cons y r =>
        obtain ⟨ad, rfl, bny, y0, y1, y2, y3, y4, _⟩ := at_Call h2 (i := 0) (x := y) rfl
        have g3 := hasCall_a M2 (y :: r) _ c h2 27 a (badF y) (fun x hx => searchable1_a M2 x y a ad (y :: r).length c (by simp) (hc2 0 _ rfl) y2 y3 y4)
        repeat' ((conv => whnf); first | with_reducible refine CondK.tt ?_ | with_reducible refine CondK.ff ?_ | refine CallK.mk _ g3 ?_ | fail)
        (conv => whnf)
        exact RetK.mk fun g M' hl hg => rfl
  · have q0 : decide ((l.length : Int) > 6) = true := decide_eq_true (by omega)
    rw [decide_eq_false hn]
    repeat' ((conv => whnf); first | with_reducible refine CondK.tt ?_ | with_reducible refine CondK.ff ?_ | rw [q0] | fail)
    (conv => whnf)
    exact RetK.mk fun g M' hl hg => rfl
end Go.Proofs.Ythlnapamdcmlkaa.Hlp
