/- A world of nodes, drawn out of bytes. -/
import Derived.Test.YtefhbbmklpnpoaaGreatFunFI
namespace Go.Proofs.YtefhbbmklpnpoaaGreat.Hlp
open Go Go.RowKit Go.Proofs Go.Proofs.YtefhbbmklpnpoaaGreat.Lw
set_option linter.unusedVariables false
set_option linter.unusedSimpArgs false
set_option maxRecDepth 100000
set_option maxHeartbeats 4000000
theorem callOwn {P : Program} {wr : Bool} {base M : Mem} {f : FuncId} {args : Array Value} {K : Value → Mem → Prop} (hc : AnsR P M f args (fun _ v => ∃ A' n c', v = .slice A' n c')) (k : ∀ A n c M', Le M M' → K (.slice A n c) M') : CallK P wr base M f args K :=
  CallK.mr _ hc fun v M' hl hv => by obtain ⟨A, n, c, rfl⟩ := hv; exact k A n c M' hl
theorem a8World_r {M : Mem} {A : Option Addr} {c : Nat} {l : List Int} (h : SlR M RByte 1 1 A c l) : AnsR Tryz.prog M 10 #[.slice A l.length c] (fun M' v => ∃ (K m : Int) (Aa : Option Addr) (na ca : Nat) (s : GPgState) (A0 : Option Addr) (c0 : Nat) (A1 : Option Addr) (c1 : Nat) (A2 : Option Addr) (c2 : Nat) (A3 : Option Addr) (c3 : Nat) (As : Option Addr) (ns cs : Nat), v = .tuple #[.agg #[.int .i64 K, .int .i64 m], .slice Aa na ca, .agg (List.toArray [.int .i64 s.Pg.Pool, .int .i64 s.Pg.No, .int .i64 s.Seen, .int .i64 s.Started, .int .i64 s.Tail.Epoch, .int .i64 s.Tail.Seq, .slice A0 s.Base.length c0, .slice A1 s.Clients.length c1, .slice A2 s.Log.length c2, .int .i64 s.Firm.Epoch, .int .i64 s.Firm.Seq, .slice A3 s.Chunks.length c3]), .slice As ns cs] ∧ RPgState M' s [.int .i64 s.Pg.Pool, .int .i64 s.Pg.No, .int .i64 s.Seen, .int .i64 s.Started, .int .i64 s.Tail.Epoch, .int .i64 s.Tail.Seq, .slice A0 s.Base.length c0, .slice A1 s.Clients.length c1, .slice A2 s.Log.length c2, .int .i64 s.Firm.Epoch, .int .i64 s.Firm.Seq, .slice A3 s.Chunks.length c3] ∧ stateOkF s = true) := by
  refine ansR_of (T.at M) (l := [.slice A l.length c]) mixed Tryz.func10 rfl (by kernel_rfl) (Nat.le_of_ble_eq_true rfl) ?_ (fun _ a u h1 h2 => by rw [show M a = none from h1] at h2; cases h2)
  (conv => whnf)
  refine CallK.mr _ (l00From_r h) (fun v M0 hl0 hv => ?_)
  obtain ⟨ad, rfl, hS0, hfr⟩ := hv
  have hno : ∀ a : Addr, a.block = ad.block → M a = none := fun a ha => by
    cases hm : M a with
    | none => rfl
    | some u => exact absurd ha (hfr a u hm)
  (conv => whnf)
  refine CallK.mb (off M0 ad.block) _ rfl (l23Make_b hS0 (by omega)) (off_le _ _) (fun a u h1 h2 => hno a (off_blk h1 h2)) (off_dj _ _) (fun v Mx M1 hR hl1 hlb1 _ => ?_)
  obtain ⟨aw, rb, b', rfl, _, K, m, acting, Aa, ca, s, pcs, ln, B, cap, hw⟩ := hR
  replace hw := hw.up hl1
  have hsp0 := hw.sp
  obtain ⟨A0, c0, A1, c1, A2, c2, A3, c3, rfl, hbb, s0, s1, s2, s3⟩ := hsp0
  obtain ⟨p0, p1, p2, p3, p4, p5, p6, p7, p8, p9, p10, p11⟩ := hw.pk
  have q0 := hw.c0
  have q1 := hw.c1
  have q2 := hw.c2
  have q15 := hw.c15
  have hsm : ∀ x ∈ ln, SmallS x.State := fun x hx => by
    obtain ⟨i, hi⟩ := List.mem_iff_getElem?.mp hx
    obtain ⟨_, _, _, _, _, _, _, h5, _⟩ := hw.st i x hi
    exact h5
  (conv => whnf)
  refine DrawN.w [0, 1] {q : Option Addr × Nat × Nat × Mem // Le M1 q.2.2.2} (fun ⟨⟨As, n, cs, N⟩, _⟩ => [(2, .p 0 0), (3, .v (.slice Aa acting.length ca)), (4, .p 1 0), (5, .v (.slice As n cs))]) (fun _ => [(0, [.int .i64 K, .int .i64 m]), (1, [.int .i64 s.Pg.Pool, .int .i64 s.Pg.No, .int .i64 s.Seen, .int .i64 s.Started, .int .i64 s.Tail.Epoch, .int .i64 s.Tail.Seq, .slice A0 s.Base.length c0, .slice A1 s.Clients.length c1, .slice A2 s.Log.length c2, .int .i64 s.Firm.Epoch, .int .i64 s.Firm.Seq, .slice A3 s.Chunks.length c3])]) 30 (fun ⟨⟨As, n, cs, N⟩, _⟩ => N) (by kernel_rfl) ?_ ?_
  · repeat' ((conv => whnf); first | refine AndK.mk ?_ ?_ | refine HeldK.mk (by kernel_rfl) ?_ | refine LdK.mk _ (by assumption) ?_ | refine callOwn (l22OwnAll_r _ ln B cap hw.sl (by have := hw.ll; omega) hsm) (fun As n cs N hl2 => ?_) | fail)
    all_goals exact ⟨⟨(As, n, cs, N), hl2⟩, ⟨⟨rfl, rfl, rfl, rfl, trivial⟩, ⟨rfl, rfl, trivial⟩, rfl, rfl⟩, rfl⟩
  · rintro ⟨⟨As, n, cs, N⟩, hl2⟩
    replace hl2 : Le M1 N := hl2
    (conv => whnf)
    exact RetK.mk fun g M' hl _ => ⟨K, m, Aa, acting.length, ca, s, A0, c0, A1, c1, A2, c2, A3, c3, As, n, cs, rfl, RPgState.mono (fun a u hu => hl _ _ (hl2 _ _ (offX_le _ _ _ _ _ _ hu))) _ _ hw.sp, hw.ok⟩
end Go.Proofs.YtefhbbmklpnpoaaGreat.Hlp
