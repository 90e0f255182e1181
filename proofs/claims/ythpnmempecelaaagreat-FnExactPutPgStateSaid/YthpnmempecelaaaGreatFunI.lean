/- The reference's log by the light walk. -/
import Derived.Test.YthpnmempecelaaaGreatFunH
namespace Go.Proofs.YthpnmempecelaaaGreat.Hlp
open Go Go.RowKit Go.Proofs Go.Proofs.YthpnmempecelaaaGreat.Lw
set_option linter.unusedVariables false
set_option linter.unusedSimpArgs false
set_option maxRecDepth 100000
set_option maxHeartbeats 4000000
theorem l17Put_a (M : Mem) (l : List GHead) (A : Option Addr) (c : Nat) (h : SlR M RHead 5 48 A c l) (hn : l.length ≤ 1048576) (x : GEntry) (hb : x.Name.size ≤ 9223372036854775807) : AnsR Tryz.prog M 77 #[.slice A l.length c, .agg #[.int .i64 x.Ver.Epoch, .int .i64 x.Ver.Seq, .int .i64 x.Prior.Epoch, .int .i64 x.Prior.Seq, .string x.Name, .bool x.Gone, .int .i64 x.Size, .int .i64 x.Sum, .int .i64 x.Req.Client, .int .i64 x.Req.No]] (fun M' v => ∃ A' c', v = .slice A' (putF x l).length c' ∧ SlR M' RHead 5 48 A' c' (putF x l)) := by
  have hl := h.len
  have hcap := h.cap
  refine ansR_of T (l := [.slice A l.length c, .agg #[.int .i64 x.Ver.Epoch, .int .i64 x.Ver.Seq, .int .i64 x.Prior.Epoch, .int .i64 x.Prior.Seq, .string x.Name, .bool x.Gone, .int .i64 x.Size, .int .i64 x.Sum, .int .i64 x.Req.Client, .int .i64 x.Req.No]]) mixed Tryz.func77 rfl (by kernel_rfl) (Nat.le_of_ble_eq_true rfl) ?_
  (conv => whnf)
  refine LoopK.mk {k : Nat // k ≤ l.length ∧ ∀ (j : Nat) (hj : j < k) (hl : j < l.length), bl (l[j]'hl).Name x.Name = true} (fun ⟨k, _⟩ => [(0, .v (.slice A l.length c)), (3, .p 0 0), (5, .v (.int .i64 (k : Int)))]) (fun _ => [(0, _)]) (fun _ => M) (fun k => l.length - k.1) ⟨0, Nat.zero_le _, fun j hj => absurd hj (by omega)⟩ ⟨⟨⟨rfl, rfl, rfl, trivial⟩, ⟨rfl, trivial⟩, rfl, rfl⟩, rfl⟩ ?_
  rintro ⟨k, hk, ha⟩
  have step : ∀ (hlt : k < l.length), bl l[k].Name x.Name = true → ∀ (j : Nat) (hj : j < k + 1) (hl : j < l.length), bl (l[j]'hl).Name x.Name = true := fun hlt h j hj hl => by
    rcases Nat.lt_succ_iff_lt_or_eq.mp hj with hj | rfl
    · exact ha j hj hl
    · exact h
  have hnew : x.Gone = false → newF x = [⟨x.Name, x.Ver, x.Size, x.Sum⟩] := fun h => by unfold newF; rw [h]; rfl
  have hgone : x.Gone = true → newF x = [] := fun h => by unfold newF; rw [h]; rfl
  have h1R := fun (x : GHead) cs h => (RHead.one (M := M) x cs h).1
  obtain ⟨d1, r1, n1, m1⟩ := h.rowTo h1R hk
  by_cases hlt : k < l.length
  · obtain ⟨ad, rfl, bnx, x0, x1, x2, x3, x4⟩ := at_Head h (List.getElem?_eq_getElem hlt)
    obtain ⟨d2, r2, n2, m2⟩ := h.rowFrom h1R hk
    obtain ⟨d3, r3, n3, m3⟩ := h.rowFrom h1R (show k + 1 ≤ l.length from hlt)
    have hget : l[k]? = some l[k] := List.getElem?_eq_getElem hlt
    have ht := List.length_take_of_le hk
    have hd2 := List.length_drop (i := k) (l := l)
    have hd3 := List.length_drop (i := k + 1) (l := l)
    have he : bl l[k].Name x.Name = false → (l[k].Name.toList == x.Name.toList) = true → putF x l = l.take k ++ (newF x ++ l.drop (k + 1)) := fun h1 h2 => by
      rw [ba_eq] at h2
      have := putF_at hk ha (fun h hh => by rw [hget] at hh; cases hh; exact h1)
      rw [hget] at this
      simpa [h2] using this
    have hn' : bl l[k].Name x.Name = false → (l[k].Name.toList == x.Name.toList) = false → putF x l = l.take k ++ (newF x ++ l.drop k) := fun h1 h2 => by
      rw [ba_eq] at h2
      have := putF_at hk ha (fun h hh => by rw [hget] at hh; cases hh; exact h1)
      rw [hget] at this
      simpa [h2] using this
    repeat' ((conv => whnf); first | with_reducible refine CondK.tt ?_ | with_reducible refine CondK.ff ?_ | with_reducible refine CondK.not ?_ | refine LdK.mk _ (by assumption) ?_ | refine IdxK.mk _ rfl (by omega) (by omega) ?_ | refine SlK.mk 0 k rfl rfl (by omega) (by omega) ?_ | refine SlK.mk k l.length rfl rfl (by omega) (by omega) ?_ | refine SlK.mk (k + 1) l.length (i64_succ (by omega)) rfl (by omega) (by omega) ?_ | refine SrcK.mk d1 n1 m1 ?_ | refine SrcK.mk d2 n2 m2 ?_ | refine SrcK.mk d3 n3 m3 ?_ | refine AppK.mk (by show (2 * _ + 512) * 48 ≤ 281474976710656; omega) (by omega) (.inr rfl) (by first | exact r1.all | exact r2.all | exact r3.all | rfl) (fun cap hcap => ?_) | refine DrawN.q (by kernel_rfl) ?_ | refine CondK.yes' (show decide ((k : Int) < (l.length : Int)) = true by simpa using hlt) ?_ | refine CondK.mk (fun h => ?_) (fun h => ?_) | fail)
    all_goals first
      | exact ⟨⟨k + 1, hlt, step hlt (by assumption)⟩, ⟨⟨rfl, rfl, look_int (i64_succ (by omega)), trivial⟩, ⟨rfl, trivial⟩, rfl, rfl⟩, rfl, by simp; omega⟩
      | (have e := he (by assumption) (by assumption)
         rw [hnew (not_t (by assumption))] at e
         refine RetK.mk fun g M' hl hg => ⟨_, _, slice_eq (m := (putF x l).length) (by rw [e]; simp; omega), row_out (((RowR.nil.app r1).app (RowR.one (x := (⟨x.Name, x.Ver, x.Size, x.Sum⟩ : GHead)) ⟨rfl, hb⟩ rfl rfl)).app r3) (by rw [e]; simp) (RHead.mono hl) (hg 5 _ rfl) (by rw [e]; simp; omega) (by rw [e]; simp; omega)⟩)
      | (have e := hn' (by assumption) (by assumption)
         rw [hnew (not_t (by assumption))] at e
         refine RetK.mk fun g M' hl hg => ⟨_, _, slice_eq (m := (putF x l).length) (by rw [e]; simp; omega), row_out (((RowR.nil.app r1).app (RowR.one (x := (⟨x.Name, x.Ver, x.Size, x.Sum⟩ : GHead)) ⟨rfl, hb⟩ rfl rfl)).app r2) (by rw [e]; simp) (RHead.mono hl) (hg 5 _ rfl) (by rw [e]; simp; omega) (by rw [e]; simp; omega)⟩)
      | (have e := he (by assumption) (by assumption)
         rw [hgone (not_f (by assumption))] at e
         refine RetK.mk fun g M' hl hg => ⟨_, _, slice_eq (m := (putF x l).length) (by rw [e]; simp; omega), row_out ((RowR.nil.app r1).app r3) (by rw [e]; simp) (RHead.mono hl) (hg 3 _ rfl) (by rw [e]; simp; omega) (by rw [e]; simp; omega)⟩)
      | (have e := hn' (by assumption) (by assumption)
         rw [hgone (not_f (by assumption))] at e
         refine RetK.mk fun g M' hl hg => ⟨_, _, slice_eq (m := (putF x l).length) (by rw [e]; simp; omega), row_out ((RowR.nil.app r1).app r2) (by rw [e]; simp) (RHead.mono hl) (hg 3 _ rfl) (by rw [e]; simp; omega) (by rw [e]; simp; omega)⟩)
      | fail
  · obtain ⟨d2, r2, n2, m2⟩ := h.rowFrom h1R hk
    have hget : l[k]? = none := List.getElem?_eq_none (by omega)
    have ht := List.length_take_of_le hk
    have hd2 := List.length_drop (i := k) (l := l)
    have e : putF x l = l.take k ++ (newF x ++ l.drop k) := by
      have := putF_at hk ha (fun h hh => by rw [hget] at hh; cases hh)
      rw [hget] at this
      simpa using this
    repeat' ((conv => whnf); first | with_reducible refine CondK.tt ?_ | with_reducible refine CondK.ff ?_ | with_reducible refine CondK.not ?_ | refine LdK.mk _ (by assumption) ?_ | refine IdxK.mk _ rfl (by omega) (by omega) ?_ | refine SlK.mk 0 k rfl rfl (by omega) (by omega) ?_ | refine SlK.mk k l.length rfl rfl (by omega) (by omega) ?_ | refine SrcK.mk d1 n1 m1 ?_ | refine SrcK.mk d2 n2 m2 ?_ | refine AppK.mk (by show (2 * _ + 512) * 48 ≤ 281474976710656; omega) (by omega) (.inr rfl) (by first | exact r1.all | exact r2.all | rfl) (fun cap hcap => ?_) | refine DrawN.q (by kernel_rfl) ?_ | refine CondK.no' (show decide ((k : Int) < (l.length : Int)) = false by simpa using hlt) ?_ | refine CondK.mk (fun h => ?_) (fun h => ?_) | fail)
    all_goals first
      | (rw [hnew (not_t (by assumption))] at e
         refine RetK.mk fun g M' hl hg => ⟨_, _, slice_eq (m := (putF x l).length) (by rw [e]; simp; omega), row_out (((RowR.nil.app r1).app (RowR.one (x := (⟨x.Name, x.Ver, x.Size, x.Sum⟩ : GHead)) ⟨rfl, hb⟩ rfl rfl)).app r2) (by rw [e]; simp) (RHead.mono hl) (hg 5 _ rfl) (by rw [e]; simp; omega) (by rw [e]; simp; omega)⟩)
      | (rw [hgone (not_f (by assumption))] at e
         refine RetK.mk fun g M' hl hg => ⟨_, _, slice_eq (m := (putF x l).length) (by rw [e]; simp; omega), row_out ((RowR.nil.app r1).app r2) (by rw [e]; simp) (RHead.mono hl) (hg 3 _ rfl) (by rw [e]; simp; omega) (by rw [e]; simp; omega)⟩)
      | fail
end Go.Proofs.YthpnmempecelaaaGreat.Hlp
