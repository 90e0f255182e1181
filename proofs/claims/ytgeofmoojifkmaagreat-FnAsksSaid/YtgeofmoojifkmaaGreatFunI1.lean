/- slices.DeleteFunc over Interval with a closure that reads what is known. -/
import Derived.Test.YtgeofmoojifkmaaGreatFunDN1
namespace Go.Proofs.YtgeofmoojifkmaaGreat.Hlp
open Go Go.RowKit Go.Proofs Go.Proofs.YtgeofmoojifkmaaGreat.Lw
set_option linter.unusedVariables false
set_option linter.unusedSimpArgs false
set_option maxRecDepth 100000
set_option maxHeartbeats 4000000
theorem row_ati1 {N Mb : Mem} {ad : Addr} {n cap : Nat} {L : List GInterval} {dl : List Value} (hrow : RowC N ad 4 n cap dl) (hrl : RowR Mb RInterval 4 L dl) {j : Nat} {y : GInterval} (hy : L[j]? = some y) : ∃ cs, RInterval Mb y cs ∧ ∀ k u, cs[k]? = some u → N ((ad.add (j * 4)).add k) = some u := by
  obtain ⟨css, rfl, h1, h2, h3⟩ := hrl.ex
  obtain ⟨cs, g1, g2⟩ := h3 j y hy
  exact ⟨cs, g2, fun k u hu => by rw [add_add]; exact hrow.el _ u (flat_get (fun c hc => (h2 c hc).1) g1 hu)⟩
theorem ixIntervalB_ri1 (M : Mem) (l : List GInterval) (A : Option Addr) (c : Nat) (h : SlR M RInterval 4 48 A c l) (f : FuncId) (a : Addr) (p : GInterval → Bool) (Cap : Mem → Prop) (hc0 : Cap M) (hcm : ∀ M1 M2 : Mem, Cap M1 → Le M1 M2 → Cap M2) (hcl : ∀ M1, Cap M1 → ∀ x ∈ l, ∀ cs : List Value, RInterval M1 x cs → AnsR Tryz.prog M1 f #[.agg cs.toArray, .pointer (some a)] (fun _ v => v = .bool (p x))) : AnsR Tryz.prog M 56 #[.slice A l.length c, .func (.func f) #[] #[.pointer (some a)]] (fun _ v => v = .int .i64 (ixD p l)) := by
  have hl := h.len
  refine ansR_of T (l := [.slice A l.length c, .func (.func f) #[] #[.pointer (some a)]]) mixed Tryz.func56 rfl (by kernel_rfl) (Nat.le_of_ble_eq_true rfl) ?_
  (conv => whnf)
  refine LoopK.mk {q : Nat × Mem // q.1 ≤ l.length ∧ (∀ (j : Nat) (hj : j < l.length), j < q.1 → p (l[j]'hj) = false) ∧ Le M q.2} (fun ⟨⟨k, _⟩, _⟩ => [(0, .v (.slice A l.length c)), (1, .v (.func (.func f) #[] #[.pointer (some a)])), (7, .v (.int .i64 (l.length : Int))), (8, .v (.int .i64 (k : Int)))]) (fun _ => []) (fun q => q.1.2) (fun k => l.length - k.1.1) ⟨(0, M), Nat.zero_le _, fun j _ hj => absurd hj (by simp only; omega), Le.refl M⟩ ⟨⟨⟨rfl, rfl, rfl, rfl, trivial⟩, trivial, rfl, rfl⟩, rfl⟩ ?_
  rintro ⟨⟨k, N⟩, hk, hp, hle⟩
  simp only at hk hp hle
  (conv => whnf)
  refine CondK.mk (fun h1 => ?_) (fun h1 => ?_)
  · have hlt : k < l.length := by simpa using h1
    obtain ⟨y, hyk⟩ : ∃ y, l[k] = y := ⟨_, rfl⟩
    have hy : l[k]? = some y := by rw [List.getElem?_eq_getElem hlt, hyk]
    obtain ⟨ad, rfl, A0, c0, bny, s0, y0, y1, y2, y3⟩ := at_Interval (h.mono hle (RInterval.mono hle)) hy
    repeat' ((conv => whnf); first | with_reducible refine CondK.tt ?_ | with_reducible refine CondK.ff ?_ | refine IdxK.mk _ rfl (by omega) (by omega) ?_ | refine LdK.mk _ (by assumption) ?_ | (refine CallK.mr _ (hcl N (hcm _ _ hc0 hle) y (List.mem_of_getElem? hy) _ ⟨_, _, rfl, bny, s0⟩) (fun v M3 hl3 hv => ?_); subst hv) | refine CondK.mk (fun hc => ?_) (fun hc => ?_) | fail)
    all_goals first
      | exact RetK.mk fun _ _ _ _ => by rw [ixD_at hlt (by rw [hyk]; exact hc) hp]; rfl
      | exact ⟨⟨(k + 1, M3), hlt, fun j hj hj' => by rcases Nat.lt_succ_iff_lt_or_eq.mp hj' with hj' | rfl; exact hp j hj hj'; rw [hyk]; exact hc, hle.trans hl3⟩, ⟨⟨rfl, rfl, rfl, look_int (i64_succ (by omega)), trivial⟩, trivial, rfl, rfl⟩, rfl, by simp only; omega⟩
  · have he : k = l.length := by have : ¬ k < l.length := by simpa using h1
                                 omega
    subst he
    rw [ixD_none fun j hj => hp j hj hj]
    exact RetK.mk fun _ _ _ _ => rfl
end Go.Proofs.YtgeofmoojifkmaaGreat.Hlp
