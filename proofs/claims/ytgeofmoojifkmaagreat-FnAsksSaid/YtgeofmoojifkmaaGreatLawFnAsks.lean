/- FnAsks by the light walk: the law. -/
import Derived.Test.YtgeofmoojifkmaaGreatFunUX
namespace Go.Proofs.YtgeofmoojifkmaaGreat.Hlp
open Go Go.RowKit Go.Proofs Go.Proofs.YtgeofmoojifkmaaGreat.Lw
set_option linter.unusedVariables false
set_option linter.unusedSimpArgs false
set_option maxRecDepth 100000
set_option maxHeartbeats 4000000
theorem lawFnAsks_a (M : Mem) (l : List Int) (A : Option Addr) (c : Nat) (h0 : SlR M RByte 1 1 A c l) : AnsR Tryz.prog M 3 #[.slice A l.length c] (fun _ v => v = .bool true) := by
  refine ansR_of T (l := [.slice A l.length c]) mixed Tryz.func3 rfl (by kernel_rfl) (Nat.le_of_ble_eq_true rfl) ?_
  have hln0 := h0.len
  rcases Bool.eq_false_or_eq_true (decide ((l.length : Int) > 1048576)) with hbig | hbig
  · have hb := c2Big_a M l.length c A (by omega)
    rw [hbig] at hb
    repeat' ((conv => whnf); first | refine CallK.mk _ hb ?_ | with_reducible refine CondK.tt ?_ | exact RetK.mk fun _ _ _ _ => rfl | fail)
  have hb := c2Big_a M l.length c A (by omega)
  rw [hbig] at hb
  repeat' ((conv => whnf); first | refine CallK.mk _ hb ?_ | with_reducible refine CondK.ff ?_ | fail)
  refine CallK.mr _ (drawStillLacks_r h0) (fun v M1 hl1 hv => ?_)
  obtain ⟨ivs, Ai, ci, cd, ln, An, cn, rfl, hi, hn⟩ := hv
  (conv => whnf)
  refine CallK.mr _ (iStillLacks_f M1 ivs _ _ hi cd ln _ _ hn) (fun v M2 hl2 hv => ?_)
  obtain ⟨As, cs, rfl, hs⟩ := hv
  replace hs := hs.mono (sub_le M2 M1) (fun _ _ h => h)
  (conv => whnf)
  refine CallK.mr _ (sStillLacks_a M2 ivs _ _ (hi.mono hl2 (RInterval.mono hl2)) cd ln _ _ (hn.mono hl2 (RNotice.mono hl2))) (fun v M3 hl3 hv => ?_)
  obtain ⟨At, ct, rfl, ht⟩ := hv
  (conv => whnf)
  refine CallK.mk _ (c2Ints_a M3 (slF ivs cd ln) As At cs ct (hs.mono hl3 (fun _ _ h => h)) ht) ?_
  repeat' ((conv => whnf); first | with_reducible refine CondK.ff ?_ | with_reducible refine CondK.tt ?_ | with_reducible refine CondK.not ?_ | fail)
  have e13 := hl2.trans hl3
  refine CallK.mr _ (askOf_f M3 ivs _ _ (hi.mono e13 (RInterval.mono e13))) (fun v M4 hl4 hv => ?_)
  obtain ⟨Aq, cq, rfl, hq⟩ := hv
  replace hq := hq.mono (sub_le M4 M3) (fun _ _ h => h)
  have e14 := e13.trans hl4
  have hs4 := hs.mono (hl3.trans hl4) (fun _ _ h => h)
  have hi4 := hi.mono e14 (RInterval.mono e14)
  have hn4 := hn.mono e14 (RNotice.mono e14)
  have hsn := slF_len ivs cd ln
  have hnl := hn4.len
  (conv => whnf)
  refine LoopK.mk {k : Nat // k ≤ (slF ivs cd ln).length} (fun ⟨k, _⟩ => [(3, .v (.slice Ai ivs.length ci)), (4, .p 0 0), (5, .v (.slice An ln.length cn)), (6, .v (.slice As (slF ivs cd ln).length cs)), (7, .v (.slice Aq (askF ivs).length cq)), (8, .v (.int .i64 (k : Int)))]) (fun _ => [(0, [.int .i64 cd.K, .int .i64 cd.M])]) (fun _ => M4) (fun q => (slF ivs cd ln).length - q.1) ⟨0, Nat.zero_le _⟩ ⟨⟨⟨rfl, rfl, rfl, rfl, rfl, rfl, trivial⟩, ⟨rfl, trivial⟩, rfl, rfl⟩, rfl⟩ ?_
  rintro ⟨k, hk⟩
  by_cases hlt : (k : Int) < ((slF ivs cd ln).length : Int)
  · obtain ⟨x, hx⟩ : ∃ x, (slF ivs cd ln)[k]? = some x := ⟨_, List.getElem?_eq_getElem (show k < (slF ivs cd ln).length by omega)⟩
    obtain ⟨g1, g2, _⟩ := sl_mem (List.mem_of_getElem? hx)
    obtain ⟨ad, hAs, _, x0⟩ := at_Int hs4 hx
    have hh := c2Has_a M4 (askF ivs) Aq cq hq x
    rw [show ((askF ivs).any fun z => decide (x = z)) = true from List.any_eq_true.2 ⟨x, g1, by simp⟩] at hh
    repeat' ((conv => whnf); first | refine CondK.yes' (decide_eq_true hlt) ?_ | refine IdxK.mk ad hAs (by omega) (by omega) ?_ | refine LdK.mk _ x0 ?_ | refine CallK.mk _ hh ?_ | with_reducible refine CondK.ff ?_ | with_reducible refine CondK.tt ?_ | with_reducible refine CondK.not ?_ | fail)
    refine LoopK.mk {m : Nat // m ≤ ln.length} (fun ⟨m, _⟩ => [(3, .v (.slice Ai ivs.length ci)), (4, .p 0 0), (5, .v (.slice An ln.length cn)), (6, .v (.slice As (slF ivs cd ln).length cs)), (7, .v (.slice Aq (askF ivs).length cq)), (8, .v (.int .i64 (k : Int))), (9, .v (.int .i64 (m : Int)))]) (fun _ => [(0, [.int .i64 cd.K, .int .i64 cd.M])]) (fun _ => M4) (fun q => ln.length - q.1) ⟨0, Nat.zero_le _⟩ ⟨⟨⟨rfl, rfl, rfl, rfl, rfl, rfl, rfl, trivial⟩, ⟨rfl, trivial⟩, rfl, rfl⟩, rfl⟩ ?_
    rintro ⟨m, hm⟩
    by_cases hlm : (m : Int) < (ln.length : Int)
    · obtain ⟨y, hy⟩ : ∃ y, ln[m]? = some y := ⟨_, List.getElem?_eq_getElem (show m < ln.length by omega)⟩
      have hne : (y.From == x) = false := beq_eq_false_iff_ne.2 fun he => g2 (by unfold fromsF; exact List.mem_map.2 ⟨y, List.mem_of_getElem? hy, he⟩)
      obtain ⟨an, hAn, B0, b0, B1, b1, B2, b2, B3, b3, bny, ⟨r0, r1, r2, r3⟩, y0, _⟩ := at_Notice hn4 hy
      repeat' ((conv => whnf); first | refine CondK.yes' (decide_eq_true hlm) ?_ | refine DrawN.q (by kernel_rfl) ?_ | refine IdxK.mk an hAn (by omega) (by omega) ?_ | refine IdxK.mk ad hAs (by omega) (by omega) ?_ | refine LdK.mk _ y0 ?_ | refine LdK.mk _ x0 ?_ | refine CondK.no' hne ?_ | fail)
      exact ⟨⟨m + 1, by omega⟩, ⟨⟨rfl, rfl, rfl, rfl, rfl, rfl, look_int (i64_succ (by omega)), trivial⟩, ⟨rfl, trivial⟩, rfl, rfl⟩, rfl, by show ln.length - (m + 1) < ln.length - m; omega⟩
    · repeat' ((conv => whnf); first | refine CondK.no' (decide_eq_false hlm) ?_ | fail)
      exact ⟨⟨k + 1, by omega⟩, ⟨⟨rfl, rfl, rfl, rfl, rfl, look_int (i64_succ (by omega)), trivial⟩, ⟨rfl, trivial⟩, rfl, rfl⟩, rfl, by show (slF ivs cd ln).length - (k + 1) < (slF ivs cd ln).length - k; omega⟩
  · repeat' ((conv => whnf); first | refine CondK.no' (decide_eq_false hlt) ?_ | fail)
    refine CallK.mr _ (iVerOf_r M4 ivs _ _ hi4 cd ln _ _ hn4) (fun v M5 hl5 hv => ?_)
    subst hv
    (conv => whnf)
    refine CallK.mr _ (sVerOf_r M5 ivs _ _ (hi4.mono hl5 (RInterval.mono hl5)) cd ln _ _ (hn4.mono hl5 (RNotice.mono hl5))) (fun v M6 hl6 hv => ?_)
    subst hv
    have q1 : ((voF ivs cd ln).2 == (voF ivs cd ln).2) = true := by simp
    by_cases h0 : (((slF ivs cd ln).length : Nat) : Int) = 0
    · repeat' ((conv => whnf); first | refine CondK.yes' q1 ?_ | refine CondK.yes' (show ((((slF ivs cd ln).length : Nat) : Int) == 0) = true by rw [h0]; rfl) ?_ | exact RetK.mk fun _ _ _ _ => rfl | fail)
    · have h8 : (voF ivs cd ln).2 = 8 := by
        cases hL : slF ivs cd ln with
        | nil => rw [hL] at h0; exact absurd rfl h0
        | cons x r => exact (sl_mem (x := x) (by rw [hL]; exact List.mem_cons_self ..)).2.2
      have q8 : ((voF ivs cd ln).2 == 8) = true := by rw [h8]; rfl
      repeat' ((conv => whnf); first | refine CondK.yes' q1 ?_ | refine CondK.no' (show ((((slF ivs cd ln).length : Nat) : Int) == 0) = false from beq_eq_false_iff_ne.2 h0) ?_ | refine CondK.yes' q8 ?_ | fail)
      exact RetK.mk fun _ _ _ _ => by
        show _ = _
        first | rfl | (rw [q8]; rfl) | (simp [q8]; done)
end Go.Proofs.YtgeofmoojifkmaaGreat.Hlp
