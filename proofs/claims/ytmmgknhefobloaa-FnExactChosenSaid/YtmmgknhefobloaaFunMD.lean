/- Monitors' lists; the reference's ballots. -/
import Derived.Test.YtmmgknhefobloaaFunMC
namespace Go.Proofs.Ytmmgknhefobloaa.Hlp
open Go Go.RowKit Go.Proofs Go.Proofs.Ytmmgknhefobloaa.Lw
set_option linter.unusedVariables false
set_option linter.unusedSimpArgs false
set_option maxRecDepth 100000
set_option maxHeartbeats 4000000
theorem slPub {α : Type} {M N : Mem} {R : Mem → α → List Value → Prop} {z by_ cap : Nat} {ad : Addr} {l : List α} {ds : List Value} (r : RowR M R z l ds) (hc : ∀ o u, ([] ++ ds)[o]? = some u → N (ad.add o) = some u) (hcap : 0 + l.length ≤ cap) (hn : l.length ≤ 100000) (hR : ∀ x cs, R M x cs → R N x cs) : SlR N R z by_ (some ad) cap l := by
  obtain ⟨css, rfl, h1, h2, h3⟩ := r.ex
  refine ⟨by omega, by omega, fun i x hx => ?_⟩
  obtain ⟨cs, g1, g2⟩ := h3 i x hx
  refine ⟨ad, cs, rfl, hR x cs g2, (h2 cs (List.mem_of_getElem? g1)).1, fun j u hu => ?_⟩
  rw [add_add]
  exact hc _ u (by rw [List.nil_append]; exact flat_get (fun c hc => (h2 c hc).1) g1 hu)
def monP (n : Nat) (l : List GMon) (k : Nat) : Bool :=
  match l[k]? with
  | some m => monOkF m && (m.Id == (k : Int)) && (m.Many == (n : Int))
  | none => true
theorem monP_at {n : Nat} {l : List GMon} {k : Nat} {m : GMon} (h : l[k]? = some m) : monP n l k = (monOkF m && (m.Id == (k : Int)) && (m.Many == (n : Int))) := by
  unfold monP
  rw [h]
def monsF (l : List GMon) : Bool := inR (l.length : Int) 1 5 && allR l.length (monP l.length l)
theorem monsOk_a (M : Mem) (l : List GMon) (A : Option Addr) (c : Nat) (h : SlR M RMon 15 168 A c l) : Ans Try.prog M 19 #[.slice A l.length c] (.bool (monsF l)) := by
  have hl := h.len
  refine ans_of T (l := [.slice A l.length c]) mixed Try.func19 rfl (by kernel_rfl) (Nat.le_of_ble_eq_true rfl) ?_
  (conv => whnf)
  refine LoopK.mk {k : Nat // k ≤ l.length ∧ ∀ j, j < k → monP l.length l j = true} (fun ⟨k, _⟩ => [(0, .v (.slice A l.length c)), (5, .v (.slice A l.length c)), (6, .v (.int .i64 (l.length : Int))), (7, .v (.int .i64 (k : Int)))]) (fun _ => []) (fun _ => M) (fun k => l.length - k.1) ⟨0, Nat.zero_le _, fun j hj => absurd hj (by omega)⟩ ⟨⟨⟨rfl, rfl, rfl, rfl, trivial⟩, trivial, rfl, rfl⟩, rfl⟩ ?_
  rintro ⟨k, hk, ha⟩
  (conv => whnf)
  refine CondK.mk (fun h1 => ?_) (fun h1 => ?_)
  · have hlt : k < l.length := by simpa using h1
    have hx := List.getElem?_eq_getElem hlt
    have hb := monP_at (n := l.length) hx
    obtain ⟨ad, rfl, A0, c0, A1, c1, A2, c2, bnx, ⟨s0, s1, s2⟩, x0, x1, x2, x3, x4, x5, x6, x7, x8, x9, x10, x11, x12, x13, x14⟩ := at_Mon h hx
    generalize l[k] = m at *
    have f1 := monOk_a M m _ ⟨A0, c0, A1, c1, A2, c2, rfl, trivial, s0, s1, s2⟩
    cases u1 : monOkF m with
    | false =>
      rw [u1] at f1
      repeat' ((conv => whnf); first | refine DrawN.q (by kernel_rfl) ?_ | with_reducible refine CondK.tt ?_ | with_reducible refine CondK.ff ?_ | refine LdK.mk _ (by assumption) ?_ | refine CallK.mk _ (f1) ?_ | refine CallQ.mk _ (f1) ?_ | fail | refine CondK.yes' (by assumption) ?_ | refine CondK.no' (by assumption) ?_ | refine IdxK.mk _ rfl (by omega) (by omega) ?_ | fail)
      all_goals first | (exact ⟨⟨k + 1, hlt, allR_step ha (by rw [hb]; simp_all)⟩, ⟨⟨rfl, rfl, rfl, look_int (i64_succ (by omega)), trivial⟩, trivial, rfl, rfl⟩, rfl, by simp; omega⟩; done) | ((refine ret_bool ?_; unfold monsF; rw [allR_no hlt (by rw [hb]; simp_all), Bool.and_false]); done)
    | true =>
      rw [u1] at f1
      cases u2 : (m.Id != (k : Int)) with
      | false =>
        cases u3 : (m.Many != (l.length : Int)) with
        | false =>
          repeat' ((conv => whnf); first | refine DrawN.q (by kernel_rfl) ?_ | with_reducible refine CondK.tt ?_ | with_reducible refine CondK.ff ?_ | refine LdK.mk _ (by assumption) ?_ | refine CallK.mk _ (f1) ?_ | refine CallQ.mk _ (f1) ?_ | rw [u2] | rw [u3] | refine CondK.yes' (by assumption) ?_ | refine CondK.no' (by assumption) ?_ | refine IdxK.mk _ rfl (by omega) (by omega) ?_ | fail)
          all_goals first | (exact ⟨⟨k + 1, hlt, allR_step ha (by rw [hb]; simp_all)⟩, ⟨⟨rfl, rfl, rfl, look_int (i64_succ (by omega)), trivial⟩, trivial, rfl, rfl⟩, rfl, by simp; omega⟩; done) | ((refine ret_bool ?_; unfold monsF; rw [allR_no hlt (by rw [hb]; simp_all), Bool.and_false]); done)
        | true =>
          repeat' ((conv => whnf); first | refine DrawN.q (by kernel_rfl) ?_ | with_reducible refine CondK.tt ?_ | with_reducible refine CondK.ff ?_ | refine LdK.mk _ (by assumption) ?_ | refine CallK.mk _ (f1) ?_ | refine CallQ.mk _ (f1) ?_ | rw [u2] | rw [u3] | refine CondK.yes' (by assumption) ?_ | refine CondK.no' (by assumption) ?_ | refine IdxK.mk _ rfl (by omega) (by omega) ?_ | fail)
          all_goals first | (exact ⟨⟨k + 1, hlt, allR_step ha (by rw [hb]; simp_all)⟩, ⟨⟨rfl, rfl, rfl, look_int (i64_succ (by omega)), trivial⟩, trivial, rfl, rfl⟩, rfl, by simp; omega⟩; done) | ((refine ret_bool ?_; unfold monsF; rw [allR_no hlt (by rw [hb]; simp_all), Bool.and_false]); done)
      | true =>
        repeat' ((conv => whnf); first | refine DrawN.q (by kernel_rfl) ?_ | with_reducible refine CondK.tt ?_ | with_reducible refine CondK.ff ?_ | refine LdK.mk _ (by assumption) ?_ | refine CallK.mk _ (f1) ?_ | refine CallQ.mk _ (f1) ?_ | rw [u2] | refine CondK.yes' (by assumption) ?_ | refine CondK.no' (by assumption) ?_ | refine IdxK.mk _ rfl (by omega) (by omega) ?_ | fail)
        all_goals first | (exact ⟨⟨k + 1, hlt, allR_step ha (by rw [hb]; simp_all)⟩, ⟨⟨rfl, rfl, rfl, look_int (i64_succ (by omega)), trivial⟩, trivial, rfl, rfl⟩, rfl, by simp; omega⟩; done) | ((refine ret_bool ?_; unfold monsF; rw [allR_no hlt (by rw [hb]; simp_all), Bool.and_false]); done)
  · have he : k = l.length := by
      have : ¬ k < l.length := by simpa using h1
      omega
    subst he
    (conv => whnf)
    refine CallK.mk _ (between_a M (l.length : Int) 1 5) ?_
    (conv => whnf)
    refine ret_bool ?_
    unfold monsF
    rw [allR_yes ha, Bool.and_true]
def insB (out : List GBallot) (b : GBallot) : List GBallot := if b = ⟨0, 0⟩ ∨ out[out.findIdx fun x => !lessF x b]? = some b then out else out.take (out.findIdx fun x => !lessF x b) ++ [b] ++ out.drop (out.findIdx fun x => !lessF x b)
def accF (e : Int) (m : GMon) : GBallot := (slotF m.Slots e).Accepted
def balsF (l : List GMon) (e : Int) : List GBallot := (l.map (accF e)).foldl insB []
theorem insB_len (out : List GBallot) (b : GBallot) : (insB out b).length ≤ out.length + 1 := by
  unfold insB
  split
  · omega
  · simp only [List.length_append, List.length_take, List.length_drop, List.length_singleton]
    omega
theorem bals_step {l : List GMon} {e : Int} {k : Nat} (hk : k < l.length) : balsF (l.take (k + 1)) e = insB (balsF (l.take k) e) (accF e l[k]) := by
  unfold balsF
  rw [List.take_succ_eq_append_getElem hk, List.map_append, List.foldl_append]
  rfl
theorem bals_len (l : List GMon) (e : Int) : (balsF l e).length ≤ l.length := by
  unfold balsF
  have key : ∀ (bs out : List GBallot), (bs.foldl insB out).length ≤ out.length + bs.length := by
    intro bs
    induction bs with
    | nil => intro out; simp
    | cons b r ih =>
      intro out
      have h1 := ih (insB out b)
      have h2 := insB_len out b
      simp only [List.foldl_cons, List.length_cons]
      omega
  have := key (l.map (accF e)) []
  simpa using this
theorem ix_less {out : List GBallot} {b : GBallot} {k : Nat} (ha : ∀ (j : Nat) (hj : j < out.length), j < k → lessF (out[j]'hj) b = true) (hk : k = out.length ∨ ∃ h : k < out.length, lessF out[k] b = false) : (out.findIdx fun x => !lessF x b) = k := by
  rcases hk with rfl | ⟨h, h1⟩
  · rw [List.findIdx_eq_length_of_false]
    intro x hx
    obtain ⟨j, hj, rfl⟩ := List.getElem_of_mem hx
    rw [ha j hj hj]
    rfl
  · rw [List.findIdx_eq h]
    refine ⟨by rw [h1]; rfl, fun j hj => ?_⟩
    rw [ha j (by omega) hj]
    rfl
theorem RowR.atB {M : Mem} {l : List GBallot} {ds : List Value} (h : RowR M RBallot 2 l ds) {i : Nat} {x : GBallot} (hx : l[i]? = some x) : ds[i * 2]? = some (.int .i64 x.No) ∧ ds[i * 2 + 1]? = some (.int .i64 x.By) := by
  obtain ⟨css, rfl, h1, h2, h3⟩ := h.ex
  obtain ⟨cs, g1, rfl, _⟩ := h3 i x hx
  exact ⟨flat_get (j := 0) (fun c hc => (h2 c hc).1) g1 rfl, flat_get (j := 1) (fun c hc => (h2 c hc).1) g1 rfl⟩
end Go.Proofs.Ytmmgknhefobloaa.Hlp
