/- PutPgState on both sides. -/
import Derived.Test.YthpnmempecelaaaGreatFunPS
import Derived.Test.YthpnmempecelaaaGreatFunL
namespace Go.Proofs.YthpnmempecelaaaGreat.Hlp
open Go Go.RowKit Go.Proofs Go.Proofs.YthpnmempecelaaaGreat.Lw Go.Proofs.YthpnmempecelaaaGreat.Bld
set_option linter.unusedVariables false
set_option linter.unusedSimpArgs false
set_option maxRecDepth 100000
set_option maxHeartbeats 4000000
theorem allR_iff' {n : Nat} {f : Nat → Bool} : allR n f = true ↔ ∀ j, j < n → f j = true := by
  unfold allR
  simp
theorem name_8 {t : ByteArray} (h : nameOkF t = true) : t.size ≤ 8 := by
  unfold nameOkF inR at h
  simp only [Bool.and_eq_true, decide_eq_true_eq] at h
  omega
theorem entry_name {e : GEntry} (h : entryOkF e = true) : e.Name.size ≤ 8 := by
  unfold entryOkF at h
  simp only [Bool.and_eq_true] at h
  exact name_8 h.1.1.1.2
theorem logI_names : ∀ {r : List GEntry} {v : GVer} {m : MapD}, logI v m r = true → ∀ x ∈ r, x.Name.size ≤ 8
  | [], _, _, _, x, hx => by cases hx
  | e :: r, v, m, h, x, hx => by
    simp only [logI, Bool.and_eq_true] at h
    rcases List.mem_cons.1 hx with rfl | hx
    · exact entry_name h.1.1
    · exact logI_names h.2.2 x hx
theorem short_of {s : GPgState} (h : stateOkF s = true) : Short s := by
  unfold stateOkF baseOkF logOkF chunksOkF at h
  simp only [Bool.and_eq_true, decide_eq_true_eq] at h
  obtain ⟨⟨⟨⟨⟨⟨⟨⟨a1, a2⟩, a3⟩, a4⟩, ⟨⟨b1, b2⟩, b3, b4⟩⟩, ⟨c1, c2⟩⟩, d1⟩, d2⟩, ⟨e1, e2⟩⟩ := h
  refine ⟨by omega, by omega, by omega, by omega, fun x hx => ?_, fun x hx => ?_, fun x hx => ?_⟩
  · obtain ⟨j, hj, rfl⟩ := List.getElem_of_mem hx
    have := allR_iff'.1 b1 j hj
    unfold headF at this
    rw [List.getElem?_eq_getElem hj] at this
    simp only [Bool.and_eq_true] at this
    have := name_8 this.1.1.1
    omega
  · have := logI_names c1 x hx
    omega
  · obtain ⟨j, hj, rfl⟩ := List.getElem_of_mem hx
    have := allR_iff'.1 e1 j hj
    unfold chunkF at this
    rw [List.getElem?_eq_getElem hj] at this
    simp only [Bool.and_eq_true] at this
    have h1 := this.1
    unfold chunkOkF at h1
    simp only [Bool.and_eq_true, decide_eq_true_eq] at h1
    have := name_8 h1.1.1.1.1.1
    omega
def putPF (s : GPgState) : ByteArray := if stateOkF s = true then stateS s else ⟨#[]⟩
theorem putPgState_a (M : Mem) (s : GPgState) (cs : List Value) (h : RPgState M s cs) : Ans Tryz.prog M 7 #[.agg cs.toArray] (.string (putPF s)) := by
  have h0 := h
  obtain ⟨A0, c0, A1, c1, A2, c2, A3, c3, rfl, _⟩ := h0
  refine ans_of T (l := [.agg (List.toArray _)]) mixed Tryz.func7 rfl (by kernel_rfl) (Nat.le_of_ble_eq_true rfl) ?_
  have g1 := stateOk_a M s _ h
  unfold putPF
  cases q : stateOkF s with
  | false =>
    rw [q] at g1
    repeat' ((conv => whnf); first | with_reducible refine CondK.tt ?_ | with_reducible refine CondK.ff ?_ | refine CallK.mk _ g1 ?_ | fail)
    (conv => whnf)
    exact rfl
  | true =>
    rw [q] at g1
    have g2 := put_a M s _ h (short_of q)
    rw [if_pos rfl]
    repeat' ((conv => whnf); first | with_reducible refine CondK.tt ?_ | with_reducible refine CondK.ff ?_ | refine CallK.mk _ g1 ?_ | refine CallK.mk _ g2 ?_ | fail)
    (conv => whnf)
    exact rfl
theorem sPutPgState_a (M : Mem) (s : GPgState) (cs : List Value) (h : RPgState M s cs) : Ans Tryz.prog M 5 #[.agg cs.toArray] (.string (putPF s)) := by
  have h0 := h
  obtain ⟨A0, c0, A1, c1, A2, c2, A3, c3, rfl, _⟩ := h0
  refine ans_of T (l := [.agg (List.toArray _)]) mixed Tryz.func5 rfl (by kernel_rfl) (Nat.le_of_ble_eq_true rfl) ?_
  have g1 := sStateOk_a M s _ h
  unfold putPF
  cases q : stateOkF s with
  | false =>
    rw [q] at g1
    repeat' ((conv => whnf); first | with_reducible refine CondK.tt ?_ | with_reducible refine CondK.ff ?_ | refine CallK.mk _ g1 ?_ | fail)
    (conv => whnf)
    exact rfl
  | true =>
    rw [q] at g1
    have g2 := l17PutState_a M s _ h (short_of q)
    rw [if_pos rfl]
    repeat' ((conv => whnf); first | with_reducible refine CondK.tt ?_ | with_reducible refine CondK.ff ?_ | refine CallK.mk _ g1 ?_ | refine CallK.mk _ g2 ?_ | fail)
    (conv => whnf)
    exact rfl
end Go.Proofs.YthpnmempecelaaaGreat.Hlp
