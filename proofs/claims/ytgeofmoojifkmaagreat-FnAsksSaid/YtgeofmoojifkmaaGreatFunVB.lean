/- removed, nodesOf and what they lean on, over ints. -/
import Derived.Test.YtgeofmoojifkmaaGreatFunDI
import Derived.Test.YtgeofmoojifkmaaGreatFunVA
import Derived.Test.YtgeofmoojifkmaaGreatFunHA
namespace Go.Proofs.YtgeofmoojifkmaaGreat.Hlp
open Go Go.RowKit Go.Proofs Go.Proofs.YtgeofmoojifkmaaGreat.Lw
set_option linter.unusedVariables false
set_option linter.unusedSimpArgs false
set_option maxRecDepth 100000
set_option maxHeartbeats 4000000
theorem cloneInt_f (M : Mem) (l : List Int) (A : Option Addr) (c : Nat) (h : SlR M RInt 1 8 A c l) (hn : l.length ≤ 1000) : AnsR Tryz.prog M 80 #[.slice A l.length c] (fun M' v => ∃ A' cap' ds, v = .slice A' l.length cap' ∧ RowR M RInt 1 l ds ∧ RowN M M' 1 A' l.length cap' ds) := by
  refine ansR_of T (l := [.slice A l.length c]) mixed Tryz.func80 rfl (by kernel_rfl) (Nat.le_of_ble_eq_true rfl) ?_
  obtain ⟨ds, h1, h2, h3⟩ := h.row (fun x cs hx => (RInt.one x cs hx).1)
  cases A with
  | none =>
    have hl : l = [] := by
      cases l with
      | nil => rfl
      | cons x r => obtain ⟨ad, _, h4, _⟩ := h.el 0 x rfl; cases h4
    subst hl
    have hd : ds = [] := List.eq_nil_of_length_eq_zero (by simpa using h2)
    subst hd
    repeat' ((conv => whnf); first | with_reducible refine CondK.tt ?_ | with_reducible refine CondK.ff ?_ | fail)
    exact RetK.mk fun g M' hl hg => ⟨none, 0, [], rfl, h1, .inl ⟨rfl, rfl, rfl, rfl⟩⟩
  | some ad =>
    repeat' ((conv => whnf); first | with_reducible refine CondK.tt ?_ | with_reducible refine CondK.ff ?_ | fail)
    refine SrcK.mk ds h2 h3 ?_
    (conv => whnf)
    refine AppK.mk (by show (2 * _ + 512) * 8 ≤ 281474976710656; omega) (by omega) (.inr rfl) h1.all (fun cap3 hcap3 => ?_)
    (conv => whnf)
    refine RetK.fc fun g M' hl hg hc => ⟨_, cap3, ds, slice_eq (by omega), h1, .inr ⟨_, rfl, ⟨h2, by omega, fun o u hu => ?_, fun o ho => ?_⟩, fun a u hu => (hg 1 _ rfl).1 a u hu⟩⟩
    · have := (hg 1 _ rfl).2 o u hu
      unfold Addr.add
      split
      · rename_i h0; subst h0; exact this
      · simpa using this
    · obtain ⟨u, hu⟩ := hc 1 _ _ _ _ (List.mem_singleton.mpr rfl) rfl o ho
      refine ⟨u, ?_⟩
      unfold Addr.add
      split
      · rename_i h0; subst h0; exact hu
      · simpa using hu
theorem removed1_r (M : Mem) (n : Int) (av : Addr) (hv : M (av.add 0) = some (.int .i64 n)) (x : Int) : AnsR Tryz.prog M 81 #[.int .i64 x, .pointer (some av)] (fun _ v => v = .bool (x == n)) := by
  refine ansRC_of T (l := [.int .i64 x, .pointer (some av)]) mixed Tryz.func81 rfl (by kernel_rfl) (Nat.le_of_ble_eq_true rfl) ?_
  repeat' ((conv => whnf); first | refine LdK.mk _ (by assumption) ?_ | refine DrawN.q (by kernel_rfl) ?_ | fail)
  exact RetK.mk fun _ _ _ _ => rfl
def remF (l : List Int) (n : Int) : List Int := l.filter fun x => !(x == n)
theorem removed_f (M : Mem) (l : List Int) (A : Option Addr) (c : Nat) (h : SlR M RInt 1 8 A c l) (hn : l.length ≤ 1000) (n : Int) : AnsR Tryz.prog M 52 #[.slice A l.length c, .int .i64 n] (fun M' v => ∃ A' cap' ds, v = .slice A' (remF l n).length cap' ∧ RowR M RInt 1 (remF l n) ds ∧ RowN M M' 1 A' (remF l n).length cap' ds) := by
  refine ansR_of (T.at M) (l := [.slice A l.length c, .int .i64 n]) mixed Tryz.func52 rfl (by kernel_rfl) (Nat.le_of_ble_eq_true rfl) ?_ (fun _ ad u h1 h2 => by rw [show M ad = none from h1] at h2; cases h2)
  (conv => whnf)
  refine CallK.mr _ (cloneInt_f M l A c h hn) (fun v M1 hl1 hv => ?_)
  obtain ⟨A1, c1, ds, rfl, hr, hn1⟩ := hv
  (conv => whnf)
  refine PubK.fr fun av N2 hl2 hc2 hroom2 hfresh2 hdom2 => ?_
  (conv => whnf)
  refine delIntB_kI rfl (hn1.mono hl2) (by omega) (hl1.trans hl2) _ av (fun x => x == n) (fun a => if a.block = av.block then N2 a else none) (fun a u hu => ?_) (fun a u ad had hpos hu => ?_) (hr.mono (fun _ _ h => h)) (fun M1' hM1 x _ => removed1_r M1' n av (hM1 _ _ (by simp only [add_block, if_true]; exact hc2 0 _ rfl)) x) (fun N' ds' hN' hrow' hr' hlc => ?_)
  · try simp only at hu
    split at hu
    · exact hu
    · cases hu
  · try simp only at hu
    split at hu
    · rename_i hb
      rw [hb]
      rcases hn1 with ⟨h5, h6, _⟩ | ⟨ad1, h5, hrc, _⟩
      · omega
      · rw [had] at h5
        cases h5
        obtain ⟨w, hw⟩ := hrc.room 0 (by have := hrc.le; omega)
        have f2 := hfresh2 _ w hw
        rw [add_block] at f2
        exact f2.symm
    · cases hu
  (conv => whnf)
  exact RetK.mk fun g M' hl hg => ⟨_, _, ds', rfl, hr'.mono (fun _ _ h => h), hrow'.mono hl⟩
end Go.Proofs.YtgeofmoojifkmaaGreat.Hlp
