/- SearchLine: the reference's side. -/
import Derived.Test.YthlnapamdcmlkaaFunCH
namespace Go.Proofs.Ythlnapamdcmlkaa.Hlp
open Go Go.RowKit Go.Proofs Go.Proofs.Ythlnapamdcmlkaa.Lw Go.Proofs.Ythlnapamdcmlkaa.SL
set_option linter.unusedVariables false
set_option linter.unusedSimpArgs false
set_option maxRecDepth 100000
set_option maxHeartbeats 4000000
theorem callsOk_each {l : List GCall} (h : callsOkF l = true) : ∀ x ∈ l, callOkF x = true := fun x hx => by
  obtain ⟨j, hj, rfl⟩ := List.getElem_of_mem hx
  have := allR_iff.1 h j hj
  rw [callAt_at (List.getElem?_eq_getElem hj), Bool.and_eq_true] at this
  exact this.1
theorem find_nil {M : Mem} {ad : Addr} {A : Option Addr} {c : Nat} (f0 : M (ad.add 0) = some (.slice A 0 c)) : Ans Try.prog M 11 #[.pointer (some ad), .string eB, .bool false] (.bool true) := by
  refine ans_of T (l := [.pointer (some ad), .string eB, .bool false]) mixed Try.func11 rfl (by kernel_rfl) (Nat.le_of_ble_eq_true rfl) ?_
  (conv => whnf)
  refine LoopK.mk Unit (fun _ => [(0, .v (.pointer (some ad))), (7, .v (.bool true)), (8, .v (.int .i64 0))]) (fun _ => []) (fun _ => M) (fun _ => 0) () ⟨⟨⟨rfl, rfl, rfl, trivial⟩, trivial, rfl, rfl⟩, rfl⟩ ?_
  rintro _
  repeat' ((conv => whnf); first | refine LdK.mk _ f0 ?_ | with_reducible refine CondK.tt ?_ | with_reducible refine CondK.ff ?_ | fail)
  (conv => whnf)
  exact rfl
theorem sSearch_a (M : Mem) (l : List GCall) (A : Option Addr) (c : Nat) (h : SlR M RCall 14 136 A c l) : AnsR Try.prog M 5 #[.slice A l.length c] (fun _ v => ∃ b, v = .bool b ∧ (b = true ↔ searchF l = true ∧ FindI befF rdF countsF stepC l (List.replicate l.length false) (eB, false))) := by
  have hlen := h.len
  refine ansR_of (T.at M) (l := [.slice A l.length c]) mixed Try.func5 rfl (by kernel_rfl) (Nat.le_of_ble_eq_true rfl) ?_ (fun _ ad u h1 h2 => by rw [show M ad = none from h1] at h2; cases h2)
  by_cases hn : l.length ≤ 6
  · have q0 : decide ((l.length : Int) > 6) = false := decide_eq_false (by omega)
    have g1 := l29Calls_a M l A c h hn
    cases q : callsOkF l with
    | false =>
      have hs : searchF l = false := by unfold searchF; rw [q]; simp
      rw [q] at g1
      repeat' ((conv => whnf); first | with_reducible refine CondK.tt ?_ | with_reducible refine CondK.ff ?_ | rw [q0] | refine CallK.mk _ g1 ?_ | fail)
      (conv => whnf)
      exact RetK.mk fun g M' hl hg => ⟨false, rfl, by simp [hs]⟩
    | true =>
      have hok := callsOk_each q
      rw [q] at g1
      repeat' ((conv => whnf); first | with_reducible refine CondK.tt ?_ | with_reducible refine CondK.ff ?_ | rw [q0] | refine CallK.mk _ g1 ?_ | fail)
      (conv => whnf)
      cases l with
      | nil =>
        refine LoopK.mk Unit (fun _ => [(0, .v (.slice A 0 c)), (3, .v (.int .i64 0))]) (fun _ => []) (fun _ => M) (fun _ => 0) () ⟨⟨⟨rfl, rfl, trivial⟩, trivial, rfl, rfl⟩, rfl⟩ ?_
        rintro _
        repeat' ((conv => whnf); first | with_reducible refine CondK.tt ?_ | with_reducible refine CondK.ff ?_ | fail)
        (conv => whnf)
        refine MkK.mk rfl (by decide) (by decide) (by decide) ?_
        (conv => whnf)
        refine PubK.fr fun ua N1 hl1 hc1 hroom1 hf1 _ => ?_
        (conv => whnf)
        refine PubK.fr fun ad N2 hl2 hc2 hroom2 hf2 _ => ?_
        (conv => whnf)
        refine CallK.mk _ (find_nil (hc2 0 _ rfl)) ?_
        (conv => whnf)
        exact RetK.mk fun g M' hl hg => ⟨true, rfl, by simp only [true_iff]; exact ⟨by unfold searchF; rw [q]; rfl, .all _ _ (fun o ho => by simp [left] at ho)⟩⟩
      | cons y r =>
        obtain ⟨Q, hQ⟩ : ∃ Q : Nat → Prop, Q = fun k => ∀ (j : Nat) (hj : j < (y :: r).length), j < k → badF y ((y :: r)[j]'hj) = false := ⟨_, rfl⟩
        obtain ⟨n, hnn⟩ : ∃ n, n = (y :: r).length := ⟨_, rfl⟩
        obtain ⟨a0, rfl, bny, y0, y1, y2, y3, y4, y5, y6, y7, y8, y9, y10, y11, y12, y13⟩ := at_Call h (i := 0) (x := y) rfl
        refine LoopK.mk {k : Nat // k ≤ (y :: r).length ∧ Q k} (fun ⟨k, _⟩ => [(0, .v (.slice (some a0) (y :: r).length c)), (3, .v (.int .i64 (k : Int)))]) (fun _ => []) (fun _ => M) (fun k => (y :: r).length - k.1) ⟨0, Nat.zero_le _, by rw [hQ]; exact fun j _ hj => absurd hj (by omega)⟩ ⟨⟨⟨rfl, rfl, trivial⟩, trivial, rfl, rfl⟩, rfl⟩ ?_
        rintro ⟨k, hk, hq⟩
        have hq' := hq
        rw [hQ] at hq'
        by_cases hlt : k < (y :: r).length
        · have qk : decide ((k : Int) < ((y :: r).length : Int)) = true := decide_eq_true (by omega)
          obtain ⟨x, hx⟩ : ∃ x, x = (y :: r)[k] := ⟨_, rfl⟩
          have hxl : (y :: r)[k]? = some x := by rw [hx]; exact List.getElem?_eq_getElem hlt
          have hxm : x ∈ y :: r := by rw [hx]; exact List.getElem_mem hlt
          have hsF : badF y x = true → searchF (y :: r) = false := fun hb => by
            show (decide ((y :: r).length ≤ 6) && (callsOkF (y :: r) && !((y :: r).any (badF y)))) = false
            rw [show (y :: r).any (badF y) = true from List.any_eq_true.2 ⟨x, hxm, hb⟩]
            simp
          obtain ⟨a0', ha', bnx, x0, x1, x2, x3, x4, x5, x6, x7, x8, x9, x10, x11, x12, x13⟩ := at_Call h hxl
          cases ha'
          cases q1 : pgEq x y
          · have hbf : badF y x = true := by unfold badF; rw [q1]; rfl
            unfold pgEq at q1
            repeat' ((conv => whnf); first | with_reducible refine CondK.tt ?_ | with_reducible refine CondK.ff ?_ | refine DrawN.q (by kernel_rfl) ?_ | refine IdxK.mk _ rfl (by omega) (by omega) ?_ | refine LdK.mk _ (by assumption) ?_ | rw [qk] | refine CondK.yes' qk ?_ | rw [q1] | fail)
            (conv => whnf)
            exact RetK.mk fun g M' hl hg => ⟨false, rfl, by rw [hsF hbf]; simp⟩
          · cases q2 : (x.Name.toList == y.Name.toList)
            · have hbf : badF y x = true := by unfold badF; rw [q1, q2]; rfl
              unfold pgEq at q1
              repeat' ((conv => whnf); first | with_reducible refine CondK.tt ?_ | with_reducible refine CondK.ff ?_ | refine DrawN.q (by kernel_rfl) ?_ | refine IdxK.mk _ rfl (by omega) (by omega) ?_ | refine LdK.mk _ (by assumption) ?_ | rw [qk] | refine CondK.yes' qk ?_ | rw [q1] | rw [q2] | fail)
              (conv => whnf)
              exact RetK.mk fun g M' hl hg => ⟨false, rfl, by rw [hsF hbf]; simp⟩
            · cases q3 : (x.Op.Kind == 1)
              · cases q4 : (x.Op.Kind == 2)
                · cases q5 : (x.Op.Kind == 6)
                  · have hbf : badF y x = true := by unfold badF; rw [q1, q2, q3, q4, q5]; rfl
                    unfold pgEq at q1
                    have e3 : (x.Op.Kind != 1) = _ := congrArg not q3
                    have e4 : (x.Op.Kind != 2) = _ := congrArg not q4
                    have e5 : (x.Op.Kind != 6) = _ := congrArg not q5
                    repeat' ((conv => whnf); first | with_reducible refine CondK.tt ?_ | with_reducible refine CondK.ff ?_ | refine DrawN.q (by kernel_rfl) ?_ | refine IdxK.mk _ rfl (by omega) (by omega) ?_ | refine LdK.mk _ (by assumption) ?_ | rw [qk] | refine CondK.yes' qk ?_ | rw [q1] | rw [q2] | rw [e3] | rw [e4] | rw [e5] | refine CondK.yes' e5 ?_ | refine CondK.no' e5 ?_ | fail)
                    (conv => whnf)
                    exact RetK.mk fun g M' hl hg => ⟨false, rfl, by rw [hsF hbf]; simp⟩
                  · have hbf : badF y x = false := by unfold badF; rw [q1, q2, q3, q4, q5]; rfl
                    unfold pgEq at q1
                    have e3 : (x.Op.Kind != 1) = _ := congrArg not q3
                    have e4 : (x.Op.Kind != 2) = _ := congrArg not q4
                    have e5 : (x.Op.Kind != 6) = _ := congrArg not q5
                    repeat' ((conv => whnf); first | with_reducible refine CondK.tt ?_ | with_reducible refine CondK.ff ?_ | refine DrawN.q (by kernel_rfl) ?_ | refine IdxK.mk _ rfl (by omega) (by omega) ?_ | refine LdK.mk _ (by assumption) ?_ | rw [qk] | refine CondK.yes' qk ?_ | rw [q1] | rw [q2] | rw [e3] | rw [e4] | rw [e5] | refine CondK.yes' e5 ?_ | refine CondK.no' e5 ?_ | fail)
                    (conv => whnf)
                    exact ⟨⟨k + 1, hlt, by rw [hQ]; exact fun j hj hj' => by rcases Nat.lt_succ_iff_lt_or_eq.mp hj' with hj' | rfl; exact hq' j hj hj'; exact hx ▸ hbf⟩, ⟨⟨rfl, look_int (i64_succ (by omega)), trivial⟩, trivial, rfl, rfl⟩, rfl, by simp only; omega⟩
                · have hbf : badF y x = false := by unfold badF; rw [q1, q2, q3, q4]; rfl
                  unfold pgEq at q1
                  have e3 : (x.Op.Kind != 1) = _ := congrArg not q3
                  have e4 : (x.Op.Kind != 2) = _ := congrArg not q4
                  repeat' ((conv => whnf); first | with_reducible refine CondK.tt ?_ | with_reducible refine CondK.ff ?_ | refine DrawN.q (by kernel_rfl) ?_ | refine IdxK.mk _ rfl (by omega) (by omega) ?_ | refine LdK.mk _ (by assumption) ?_ | rw [qk] | refine CondK.yes' qk ?_ | rw [q1] | rw [q2] | rw [e3] | rw [e4] | fail)
                  (conv => whnf)
                  exact ⟨⟨k + 1, hlt, by rw [hQ]; exact fun j hj hj' => by rcases Nat.lt_succ_iff_lt_or_eq.mp hj' with hj' | rfl; exact hq' j hj hj'; exact hx ▸ hbf⟩, ⟨⟨rfl, look_int (i64_succ (by omega)), trivial⟩, trivial, rfl, rfl⟩, rfl, by simp only; omega⟩
              · have hbf : badF y x = false := by unfold badF; rw [q1, q2, q3]; rfl
                unfold pgEq at q1
                have e3 : (x.Op.Kind != 1) = _ := congrArg not q3
                repeat' ((conv => whnf); first | with_reducible refine CondK.tt ?_ | with_reducible refine CondK.ff ?_ | refine DrawN.q (by kernel_rfl) ?_ | refine IdxK.mk _ rfl (by omega) (by omega) ?_ | refine LdK.mk _ (by assumption) ?_ | rw [qk] | refine CondK.yes' qk ?_ | rw [q1] | rw [q2] | rw [e3] | fail)
                (conv => whnf)
                exact ⟨⟨k + 1, hlt, by rw [hQ]; exact fun j hj hj' => by rcases Nat.lt_succ_iff_lt_or_eq.mp hj' with hj' | rfl; exact hq' j hj hj'; exact hx ▸ hbf⟩, ⟨⟨rfl, look_int (i64_succ (by omega)), trivial⟩, trivial, rfl, rfl⟩, rfl, by simp only; omega⟩
        · have qk : decide ((k : Int) < ((y :: r).length : Int)) = false := decide_eq_false (by omega)
          have hke : k = (y :: r).length := by omega
          have hs : searchF (y :: r) = true := by
            show (decide ((y :: r).length ≤ 6) && (callsOkF (y :: r) && !((y :: r).any (badF y)))) = true
            rw [decide_eq_true hn, q, List.any_eq_false.2 (fun x hx => by obtain ⟨j, hj, rfl⟩ := List.getElem_of_mem hx; rw [hq' j hj (by omega)]; decide)]
            rfl
          obtain ⟨h6, _, hkk⟩ := searchF_kind hs
          repeat' ((conv => whnf); first | with_reducible refine CondK.tt ?_ | with_reducible refine CondK.ff ?_ | rw [qk] | fail)
          (conv => whnf)
          refine MkK.mk rfl (by omega) (by omega) (by show (1 : Int) * _ ≤ _; omega) ?_
          (conv => whnf)
          refine PubK.fr fun ua N1 hl1 hc1 hroom1 hf1 _ => ?_
          (conv => whnf)
          refine PubK.fr fun ad N2 hl2 hc2 hroom2 hf2 _ => ?_
          have hrep : ∀ i, i < (y :: r).length → N1 (ua.add (i * 1)) = some (.bool false) := fun i hi => by
            rw [Nat.mul_one]
            refine hc1 i _ ?_
            show (List.replicate (y :: r).length [Value.bool false]).flatten[i]? = _
            rw [List.flatten_replicate_singleton, List.getElem?_replicate, if_pos hi]
          have hne : ad.block ≠ ua.block := fun he => hf2 _ _ (hrep 0 (by simp)) (by rw [add_block, he])
          have hMo : Le M (off N2 ua.block) := fun a u hu => off_of (hl2 _ _ (hl1 _ _ hu)) (hf1 a u hu)
          have hO : SeO N2 ad ua (some a0) c (y :: r).length (y :: r) (List.replicate (y :: r).length false) :=
            ⟨off_of (hc2 0 _ rfl) (by rw [add_block]; exact hne), off_of (hc2 1 _ rfl) (by rw [add_block]; exact hne), h.mono hMo (RCall.mono hMo), by simp, fun i hi => by
              rw [List.getElem_replicate]
              exact hl2 _ _ (hrep i (by simpa using hi))⟩
          have hin : InvS (eB, false) := ⟨by show (0 : Nat) ≤ 64; omega, fun _ => rfl⟩
          (conv => whnf)
          refine CallK.mb (off N2 ua.block) _ rfl (find_b _ hO rfl h6 hok hkk eB false hin) (off_le _ _) (fun a u h1 h2 => ?_) (off_dj _ _) (fun v Mx N3 hR hl3 hlb3 _ => ?_)
          · cases hm : M a with
            | none => exact hm
            | some w => exact absurd (off_blk h1 h2) (hf1 a w hm)
          obtain ⟨b, rfl, hb, _⟩ := hR
          (conv => whnf)
          exact RetK.mk fun g M' hl hg => ⟨b, rfl, by rw [hb, hs]; simp⟩
  · have q0 : decide ((l.length : Int) > 6) = true := decide_eq_true (by omega)
    have hs : searchF l = false := by unfold searchF; rw [decide_eq_false hn]; rfl
    repeat' ((conv => whnf); first | with_reducible refine CondK.tt ?_ | with_reducible refine CondK.ff ?_ | rw [q0] | fail)
    (conv => whnf)
    exact RetK.mk fun g M' hl hg => ⟨false, rfl, by simp [hs]⟩
end Go.Proofs.Ythlnapamdcmlkaa.Hlp
