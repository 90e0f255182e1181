/- Worlds of nodes, drawn. -/
import Derived.Test.YtefhbbmklpnpoaaGreatFunFH
namespace Go.Proofs.YtefhbbmklpnpoaaGreat.Hlp
open Go Go.RowKit Go.Proofs Go.Proofs.YtefhbbmklpnpoaaGreat.Lw
set_option linter.unusedVariables false
set_option linter.unusedSimpArgs false
set_option maxRecDepth 100000
set_option maxHeartbeats 4000000
theorem noticeZ (M : Mem) (x : Int) (g : GPg) (s t : Int) : RNotice M ⟨x, ⟨g, s, t, ⟨0, 0⟩, [], [], [], ⟨0, 0⟩, []⟩⟩ [.int .i64 x, .int .i64 g.Pool, .int .i64 g.No, .int .i64 s, .int .i64 t, .int .i64 0, .int .i64 0, .slice none 0 0, .slice none 0 0, .slice none 0 0, .int .i64 0, .int .i64 0, .slice none 0 0] := ⟨none, 0, none, 0, none, 0, none, 0, rfl, trivial, SlR.nil, SlR.nil, SlR.nil, SlR.nil⟩
theorem noticeN {N : Mem} {x : GNotice} {cs : List Value} (h : RNotice N x cs) (hx : ∃ f g s t, x = ⟨f, ⟨g, s, t, ⟨0, 0⟩, [], [], [], ⟨0, 0⟩, []⟩⟩) : RNotice (fun _ => none) x cs := by
  obtain ⟨f, g, s, t, rfl⟩ := hx
  obtain ⟨A0, c0, A1, c1, A2, c2, A3, c3, rfl, _, _⟩ := h
  exact ⟨A0, c0, A1, c1, A2, c2, A3, c3, rfl, trivial, SlR.nil, SlR.nil, SlR.nil, SlR.nil⟩
/-- The row of notices while it grows. -/
structure NRow (M N : Mem) (sb : Nat) (l : List GNotice) (B : Option Addr) (cap : Nat) : Prop where
  cap : l.length ≤ cap
  nz : ∀ x ∈ l, ∃ f g s t, x = ⟨f, ⟨g, s, t, ⟨0, 0⟩, [], [], [], ⟨0, 0⟩, []⟩⟩
  st : ∀ (i : Nat) x, l[i]? = some x → ∃ (ar : Addr) (cs : List Value), B = some ar ∧ ar.block ≠ sb ∧ (∀ a u, M a = some u → a.block ≠ ar.block) ∧ RNotice (fun _ => none) x cs ∧ cs.length = 13 ∧ ∀ (j : Nat) u, cs[j]? = some u → N ((ar.add (i * 13)).add j) = some u
theorem NRow.sl {M N : Mem} {sb : Nat} {l : List GNotice} {B : Option Addr} {cap : Nat} (h : NRow M N sb l B cap) (hl : l.length ≤ 1000) : SlR N RNotice 13 168 B cap l :=
  ⟨h.cap, by omega, fun i x hi => by
    obtain ⟨ar, cs, h1, _, _, h3, h4, h6⟩ := h.st i x hi
    exact ⟨ar, cs, h1, RNotice.mono (fun a u hu => by cases hu) _ _ h3, h4, h6⟩⟩
theorem NRow.mono {M N N' : Mem} {sb : Nat} {l : List GNotice} {B : Option Addr} {cap : Nat} (h : NRow M N sb l B cap) (hl : Le (off N sb) N') : NRow M N' sb l B cap :=
  ⟨h.cap, h.nz, fun i x hi => by
    obtain ⟨ar, cs, h1, h2, h3, h4, h5, h6⟩ := h.st i x hi
    exact ⟨ar, cs, h1, h2, h3, h4, h5, fun j u hu => hl _ _ (off_of (h6 j u hu) (by rw [add_blk, add_blk]; exact h2))⟩⟩
theorem callAddN {P : Program} {base M : Mem} {f : FuncId} {args : Array Value} {K : Value → Mem → Prop} {l : List GNotice} {n : GNotice} (hc : AnsR P M f args (fun M' v => RAddN M M' l n v)) (k : ∀ (l' : List GNotice) (ad : Addr) (c' : Nat) M', l'.length ≤ l.length + 1 → l'.length ≤ c' → (∀ x ∈ l', x ∈ l ∨ x = n) → (∀ a u, M a = some u → a.block ≠ ad.block) → (∀ (i : Nat) x, l'[i]? = some x → ∃ cs : List Value, RNotice M x cs ∧ cs.length = 13 ∧ ∀ (j : Nat) u, cs[j]? = some u → M' ((ad.add (i * 13)).add j) = some u) → Le M M' → K (.slice (some ad) l'.length c') M') : CallB P base M f args K :=
  CallB.mr _ hc fun v M' hl hv => by obtain ⟨l', ad, c', rfl, h1, h2, h3, h4, h5⟩ := hv; exact k l' ad c' M' h1 h2 h3 h4 h5 hl
theorem st0_ok {g : GPg} (h : pgOkF g = true) : stateOkF ⟨g, 9, 1, ⟨0, 0⟩, [], [], [], ⟨0, 0⟩, []⟩ = true := by
  unfold stateOkF
  rw [show pgOkF (GPgState.mk g 9 1 ⟨0, 0⟩ [] [] [] ⟨0, 0⟩ []).Pg = true from h]
  rfl
/-- A world laid open. -/
theorem world0 {X P N1 N2 : Mem} {ad aw : Addr} {b m : Int} {kk : Int} {acting : List Int} {A B : Option Addr} {c cap : Nat} {g : GPg} {l : List GNotice} (hS : Src X N1 ad b) (hPne : ∀ a u, P a = some u → a.block ≠ ad.block) (hPN : Le P N1) (hsa : SlR P RInt 1 8 A c acting) (hNR : NRow P N1 ad.block l B cap) (hll : l.length ≤ 100) (hk : 1 ≤ kk ∧ kk ≤ 3 ∧ 0 ≤ m ∧ m ≤ 2 ∧ (acting.length : Int) = kk + m) (hg : pgOkF g = true) (hl2 : Le N1 N2) (hc : ∀ (o : Nat) u, [Value.int .i64 kk, .int .i64 m, .slice A acting.length c, .int .i64 g.Pool, .int .i64 g.No, .int .i64 9, .int .i64 1, .int .i64 0, .int .i64 0, .slice none 0 0, .slice none 0 0, .slice none 0 0, .int .i64 0, .int .i64 0, .slice none 0 0, .slice B l.length cap][o]? = some u → N2 (aw.add o) = some u) (hf : ∀ a u, N1 a = some u → a.block ≠ aw.block) : ∃ rb, W23 N2 ad.block aw rb kk m acting A c ⟨g, 9, 1, ⟨0, 0⟩, [], [], [], ⟨0, 0⟩, []⟩ [.int .i64 g.Pool, .int .i64 g.No, .int .i64 9, .int .i64 1, .int .i64 0, .int .i64 0, .slice none 0 0, .slice none 0 0, .slice none 0 0, .int .i64 0, .int .i64 0, .slice none 0 0] l B cap ∧ ∀ a u, P a = some u → a.block ≠ aw.block ∧ a.block ≠ rb := by
  obtain ⟨u0, hu0⟩ := hS.blk
  have hne : aw.block ≠ ad.block := fun he => hf _ _ hu0 (by rw [add_blk, he])
  have hPw : ∀ a u, P a = some u → a.block ≠ aw.block := fun a u hu => hf a u (hPN a u hu)
  have hc0 := hc 0 _ rfl
  obtain ⟨rb, hnr, hkn, hst, hPr⟩ : ∃ rb, rb ≠ ad.block ∧ (∃ x u, x.block = rb ∧ N2 x = some u) ∧ (∀ (i : Nat) x, l[i]? = some x → rb ≠ aw.block ∧ ∃ ar, B = some ar ∧ ar.block = rb) ∧ ∀ a u, P a = some u → a.block ≠ rb := by
    cases l with
    | nil => exact ⟨aw.block, hne, ⟨aw.add 0, _, add_blk _ _, hc0⟩, fun i x hx => by simp at hx, hPw⟩
    | cons x0 r =>
      obtain ⟨ar, cs, h1, h2, h3, h4, h5, h6⟩ := hNR.st 0 x0 rfl
      obtain ⟨u, hu⟩ : ∃ u, cs[0]? = some u := ⟨_, List.getElem?_eq_getElem (by omega)⟩
      have hcell := h6 0 u hu
      refine ⟨ar.block, h2, ⟨_, u, by rw [add_blk, add_blk], hl2 _ _ hcell⟩, fun i x hx => ⟨fun he => hf _ _ hcell (by rw [add_blk, add_blk, he]), ar, h1, rfl⟩, h3⟩
  have hPX : Le P (offX N2 ad.block aw.block rb) := fun a u hu => offX_of (hl2 _ _ (hPN a u hu)) (hPne a u hu) (hPw a u hu) (hPr a u hu)
  refine ⟨rb, ⟨hc0, hc 1 _ rfl, hc 2 _ rfl, fun j u hu => hc (3 + j) u ?_, hc 15 _ rfl, hk, intUp hsa hPX, ⟨none, 0, none, 0, none, 0, none, 0, rfl, trivial, SlR.nil, SlR.nil, SlR.nil, SlR.nil⟩, st0_ok hg, ⟨hll, hNR.cap⟩, fun i x hx => ?_, hne, hnr, hkn⟩, fun a u hu => ⟨hPw a u hu, hPr a u hu⟩⟩
  · rw [Nat.add_comm 3 j]
    show ([.int .i64 g.Pool, .int .i64 g.No, .int .i64 9, .int .i64 1, .int .i64 0, .int .i64 0, .slice none 0 0, .slice none 0 0, .slice none 0 0, .int .i64 0, .int .i64 0, .slice none 0 0] ++ [.slice B l.length cap])[j]? = some u
    have hj : j < 12 := by rcases Nat.lt_or_ge j 12 with h | h; exact h; (rw [List.getElem?_eq_none (by exact h)] at hu; cases hu)
    rw [List.getElem?_append_left (by exact hj)]
    exact hu
  · obtain ⟨k1, ar, k2, k3⟩ := hst i x hx
    obtain ⟨ar', cs, h1, h2, h3, h4, h5, h6⟩ := hNR.st i x hx
    rw [k2] at h1
    cases h1
    obtain ⟨f, g', s, t, rfl⟩ := hNR.nz x (List.mem_of_getElem? hx)
    exact ⟨k1, ar, cs, k2, k3, RNotice.mono (fun a u hu => by cases hu) _ _ h4, h5, ⟨Nat.zero_le _, Nat.zero_le _, Nat.zero_le _, Nat.zero_le _⟩, fun j u hu => hl2 _ _ (h6 j u hu)⟩
def InvM (X P : Mem) (ad : Addr) (b : Int) (l : List GNotice) (B : Option Addr) (cap : Nat) (q : Nat × Option (Addr × Nat) × Mem) : Prop :=
  1 ≤ q.1 ∧ q.1 ≤ 7 ∧ Le P q.2.2 ∧ match q.2.1 with
  | none => q.1 = 1 ∧ NRow P q.2.2 ad.block l B cap ∧ Src X q.2.2 ad (b + 400)
  | some (aw, rb) => RPut23 X ad aw rb (b + 1000 + 20000 * q.1) q.2.2 ∧ ∀ a u, P a = some u → a.block ≠ aw.block ∧ a.block ≠ rb
theorem l23Make_b {X M : Mem} {ad : Addr} {b : Int} (h : Src X M ad b) (hb : b ≤ 4611686018427000000) : AnsB Tryz.prog (off M ad.block) M 37 #[.pointer (some ad)] (fun v M' => ∃ aw rb b', v = .pointer (some aw) ∧ RPut23 X ad aw rb b' M') := by
  refine ansB_of T (l := [.pointer (some ad)]) (Mb := off M ad.block) mixed Tryz.func37 rfl (by kernel_rfl) (Nat.le_of_ble_eq_true rfl) (off_le _ _) (off_dj _ _) ?_
  have hno : ∀ a : Addr, a.block = ad.block → off M ad.block a = none := fun a h => off_none h
  have hXB := h.le
  (conv => whnf)
  refine gcall (pick_b h (by omega)) hno (fun k1 M1 hk1 hS1 hlb1 => ?_)
  (conv => whnf)
  refine gcall (pick_b hS1 (by omega)) hno (fun m M2 hm hS2 hlb2 => ?_)
  have hk1' := hk1.2 (by decide)
  have hm' := hm.2 (by decide)
  have hlM2 : Le (off M ad.block) M2 := fun a u hu => hlb2 a u (off_of (hlb1 a u hu) (off_ne hu))
  have hw1 : IntKind.i64.wrap (1 + k1) = 1 + k1 := i64_id (by omega) (by omega)
  obtain ⟨n, hn⟩ : ∃ n : Nat, (n : Int) = IntKind.i64.wrap (IntKind.i64.wrap (1 + k1) + m) := ⟨(1 + k1 + m).toNat, by rw [hw1, i64_id (by omega) (by omega)]; omega⟩
  have hn' : (n : Int) = 1 + k1 + m := by rw [hn, hw1]; exact i64_id (by omega) (by omega)
  have hAct : ∀ {N : Mem}, Src X N ad (b + 4) → AnsB Tryz.prog (off N ad.block) N 86 #[.pointer (some ad), .int .i64 (IntKind.i64.wrap (IntKind.i64.wrap (1 + k1) + m))] (RAct X ad (b + 4 + 100) n) := fun hS => by
    rw [← hn]
    exact l23Acting_b hS (by omega) n (by omega)
  have hS2' : Src X M2 ad (b + 4) := hS2.mono (fun _ _ h => h) (by omega)
  (conv => whnf)
  refine DrawN.b [0] {q : List Int × Option Addr × Nat × Mem // q.1.length = n ∧ SlR (off q.2.2.2 ad.block) RInt 1 8 q.2.1 q.2.2.1 q.1 ∧ Src X q.2.2.2 ad (b + 200) ∧ Le (off M ad.block) q.2.2.2} (fun _ => [(0, .v (.pointer (some ad))), (3, .p 0 0)]) (fun ⟨⟨ns, A, cap, N⟩, _⟩ => [(0, [.int .i64 (IntKind.i64.wrap (1 + k1)), .int .i64 m, .slice A ns.length cap, .int .i64 0, .int .i64 0, .int .i64 0, .int .i64 0, .int .i64 0, .int .i64 0, .slice none 0 0, .slice none 0 0, .slice none 0 0, .int .i64 0, .int .i64 0, .slice none 0 0, .slice none 0 0])]) 9 (fun ⟨⟨ns, A, cap, N⟩, _⟩ => N) rfl (by kernel_rfl) ?_ ?_
  · repeat' ((conv => whnf); first | refine AndK.mk ?_ ?_ | refine HeldK.mk (by kernel_rfl) ?_ | refine gcallAB (hAct hS2') hno (fun ns A cap N h1 h2 h3 h4 => ?_) | fail)
    all_goals exact ⟨⟨(ns, A, cap, N), h1, h2, h3.mono (fun _ _ h => h) (by omega), fun a u hu => h4 a u (off_of (hlM2 a u hu) (off_ne hu))⟩, ⟨⟨rfl, rfl, trivial⟩, ⟨rfl, trivial⟩, rfl, rfl⟩, rfl⟩
  · rintro ⟨⟨acting, A, c, N2⟩, hna, hsa, hS3, hlN2⟩
    replace hna : acting.length = n := hna
    replace hsa : SlR (off N2 ad.block) RInt 1 8 A c acting := hsa
    replace hS3 : Src X N2 ad (b + 200) := hS3
    replace hlN2 : Le (off M ad.block) N2 := hlN2
    (conv => whnf)
    refine gcall (pick_b hS3 (by omega)) hno (fun g1 N3 hg1 hS4 hlb4 => ?_)
    (conv => whnf)
    refine gcall (pick_b hS4 (by omega)) hno (fun g2 N4 hg2 hS5 hlb5 => ?_)
    have hsa4 : SlR (off N4 ad.block) RInt 1 8 A c acting := intUp hsa (fun a u hu => off_of (hlb5 a u (off_of (hlb4 a u hu) (off_ne hu))) (off_ne hu))
    have hlN4 : Le (off M ad.block) N4 := fun a u hu => hlb5 a u (off_of (hlb4 a u (off_of (hlN2 a u hu) (off_ne hu))) (off_ne hu))
    have hP : Le (off M ad.block) (off N4 ad.block) := fun a u hu => off_of (hlN4 a u hu) (off_ne hu)
    have hgp := hg1.2 (by decide)
    have hgn := hg2.2 (by decide)
    obtain ⟨g, hg⟩ : ∃ g : GPg, g = ⟨IntKind.i64.wrap (1 + g1), g2⟩ := ⟨_, rfl⟩
    have hgok : pgOkF g = true := by
      rw [hg]
      unfold pgOkF inR
      simp only [Bool.and_eq_true, decide_eq_true_eq]
      rw [i64_id (x := 1 + g1) (by omega) (by omega)]
      omega
    obtain ⟨P, hPd⟩ : ∃ P, P = off N4 ad.block := ⟨_, rfl⟩
    rw [← hPd] at hP hsa4
    have hPne : ∀ a u, P a = some u → a.block ≠ ad.block := fun a u hu => off_ne (hPd ▸ hu)
    have hPN4 : Le P N4 := hPd ▸ off_le _ _
    have hXP : Le X P := by rw [hPd]; exact hS5.le
    (conv => whnf)
    refine LoopK.mk {q : Nat × List GNotice × Option Addr × Nat × Mem // q.1 ≤ acting.length ∧ q.2.1.length ≤ q.1 ∧ NRow P q.2.2.2.2 ad.block q.2.1 q.2.2.1 q.2.2.2.1 ∧ Src X q.2.2.2.2 ad (b + 300 + 10 * q.1) ∧ Le P q.2.2.2.2} (fun ⟨⟨i, l, B, cap, N⟩, _⟩ => [(0, .v (.pointer (some ad))), (3, .p 0 0), (4, .p 9 0), (5, .v (.int .i64 (i : Int)))]) (fun ⟨⟨i, l, B, cap, N⟩, _⟩ => [(0, [.int .i64 (IntKind.i64.wrap (1 + k1)), .int .i64 m, .slice A acting.length c, .int .i64 g.Pool, .int .i64 g.No, .int .i64 9, .int .i64 1, .int .i64 0, .int .i64 0, .slice none 0 0, .slice none 0 0, .slice none 0 0, .int .i64 0, .int .i64 0, .slice none 0 0, .slice B l.length cap]), (9, [.int .i64 g.Pool, .int .i64 g.No])]) (fun ⟨⟨i, l, B, cap, N⟩, _⟩ => N) (fun q => acting.length - q.1.1) ⟨(0, [], none, 0, N4), Nat.zero_le _, Nat.le_refl _, ⟨Nat.le_refl _, (fun x hx => by cases hx), (fun i x hx => by cases hx)⟩, hS5.mono (fun _ _ h => h) (by show _ ≤ b + 300 + 10 * ((0 : Nat) : Int); omega), hPN4⟩ ⟨⟨⟨rfl, rfl, rfl, rfl, trivial⟩, ⟨by rw [hg]; rfl, by rw [hg]; rfl, trivial⟩, rfl, rfl⟩, rfl⟩ ?_
    clear hsa hS3 hS5 hlN2 hlN4
    rintro ⟨⟨i, l, B, cap, N⟩, hi, hli, hNR, hS, hlN⟩
    replace hi : i ≤ acting.length := hi
    replace hli : l.length ≤ i := hli
    replace hNR : NRow P N ad.block l B cap := hNR
    replace hS : Src X N ad (b + 300 + 10 * i) := hS
    replace hlN : Le P N := hlN
    have hPN : ∀ {N' : Mem}, Le (off N ad.block) N' → Le P N' := fun hl a u hu => hl a u (off_of (hlN a u hu) (hPne a u hu))
    by_cases hlt : i < acting.length
    · obtain ⟨x, hx⟩ : ∃ x, acting[i]? = some x := ⟨_, List.getElem?_eq_getElem hlt⟩
      obtain ⟨A9, cs9, hA9, hcs9, _, hel9⟩ := hsa4.el i x hx
      replace hcs9 : cs9 = [.int .i64 x] := hcs9
      subst hcs9
      have hel9 := hel9 0 _ rfl
      have hel := hlN _ _ hel9
      have hend : ∀ (N' : Mem), Le (off N ad.block) N' → Src X N' ad (b + 300 + 10 * i + 8) → ∀ (l' : List GNotice) (B' : Option Addr) (cap' : Nat), l'.length ≤ i + 1 → NRow P N' ad.block l' B' cap' → i + 1 ≤ acting.length ∧ l'.length ≤ i + 1 ∧ NRow P N' ad.block l' B' cap' ∧ Src X N' ad (b + 300 + 10 * ((i + 1 : Nat) : Int)) ∧ Le P N' := fun N' hl hS' l' B' cap' h1 h2 => ⟨hlt, h1, h2, hS'.mono (fun _ _ h => h) (by push_cast; omega), hPN hl⟩
      (conv => whnf)
      refine CondK.yes' (decide_eq_true (by omega)) ?_
      (conv => whnf)
      refine IdxK.at i _ rfl hA9 hlt ?_
      (conv => whnf)
      refine LdK.mk _ hel ?_
      by_cases hx0 : x ≥ 0
      · (conv => whnf)
        refine CondK.yes' (decide_eq_true hx0) ?_
        (conv => whnf)
        refine gcall (one_b hS (by omega)) hno (fun t N5 _ hS6 hlb6 => ?_)
        have hNR6 := hNR.mono hlb6
        cases t with
        | true =>
          (conv => whnf)
          exact ⟨⟨(i + 1, l, B, cap, N5), hend N5 hlb6 (hS6.mono (fun _ _ h => h) (by omega)) l B cap (by omega) hNR6⟩, ⟨⟨rfl, rfl, rfl, look_int (i64_succ (by omega)), trivial⟩, ⟨rfl, rfl, trivial⟩, rfl, rfl⟩, rfl, by show acting.length - (i + 1) < acting.length - i; omega⟩
        | false =>
          have hel5 : N5 ((A9.add (i * 1)).add 0) = some (.int .i64 x) := hPN hlb6 _ _ hel9
          have hne9 := hPne _ _ hel9
          have endA : ∀ {t : Int} {N7 N8 : Mem} {l' : List GNotice} {ar : Addr} {c' : Nat}, Src X N7 ad (b + 300 + 10 * i + 2 + 2) → Le (off N5 ad.block) N7 → l'.length ≤ l.length + 1 → l'.length ≤ c' → (∀ y ∈ l', y ∈ l ∨ y = ⟨x, ⟨g, 9, t, ⟨0, 0⟩, [], [], [], ⟨0, 0⟩, []⟩⟩) → (∀ a u, N7 a = some u → a.block ≠ ar.block) → (∀ (j : Nat) y, l'[j]? = some y → ∃ cs : List Value, RNotice N7 y cs ∧ cs.length = 13 ∧ ∀ (o : Nat) u, cs[o]? = some u → N8 ((ar.add (j * 13)).add o) = some u) → Le N7 N8 → l'.length ≤ i + 1 ∧ NRow P N8 ad.block l' (some ar) c' ∧ Src X N8 ad (b + 300 + 10 * i + 8) ∧ Le (off N ad.block) N8 := by
            intro t N7 N8 l' ar c' hS7 hlb7 g1 g2 g3 g4 g5 hl8
            have hnz : ∀ y ∈ l', ∃ f g s t, y = ⟨f, ⟨g, s, t, ⟨0, 0⟩, [], [], [], ⟨0, 0⟩, []⟩⟩ := fun y hy => (g3 y hy).elim (hNR.nz y) (fun e => ⟨x, g, 9, t, e⟩)
            obtain ⟨u0, hu0⟩ := hS7.blk
            have hnb : ar.block ≠ ad.block := fun he => g4 _ _ hu0 (by rw [add_blk, he])
            have hP7 : Le P N7 := fun a u hu => hlb7 a u (off_of (hPN hlb6 a u hu) (hPne a u hu))
            refine ⟨by omega, ⟨g2, hnz, fun j y hj => ?_⟩, hS7.mono hl8 (by omega), fun a u hu => hl8 _ _ (hlb7 a u (off_of (hlb6 a u hu) (off_ne hu)))⟩
            obtain ⟨cs, k1, k2, k3⟩ := g5 j y hj
            exact ⟨ar, cs, rfl, hnb, fun a u hu => g4 a u (hP7 a u hu), noticeN k1 (hnz y (List.mem_of_getElem? hj)), k2, k3⟩
          (conv => whnf)
          refine DrawN.b [0] {q : List GNotice × Option Addr × Nat × Mem // q.1.length ≤ i + 1 ∧ NRow P q.2.2.2 ad.block q.1 q.2.1 q.2.2.1 ∧ Src X q.2.2.2 ad (b + 300 + 10 * i + 8) ∧ Le (off N ad.block) q.2.2.2} (fun _ => [(0, .v (.pointer (some ad))), (3, .p 0 0), (4, .p 9 0), (5, .v (.int .i64 (i : Int)))]) (fun ⟨⟨l, B, cap, N⟩, _⟩ => [(0, [.int .i64 (IntKind.i64.wrap (1 + k1)), .int .i64 m, .slice A acting.length c, .int .i64 g.Pool, .int .i64 g.No, .int .i64 9, .int .i64 1, .int .i64 0, .int .i64 0, .slice none 0 0, .slice none 0 0, .slice none 0 0, .int .i64 0, .int .i64 0, .slice none 0 0, .slice B l.length cap]), (9, [.int .i64 g.Pool, .int .i64 g.No])]) 60 (fun ⟨⟨l, B, cap, N⟩, _⟩ => N) rfl (by kernel_rfl) ?_ ?_
          · repeat' ((conv => whnf); first | refine AndK.mk ?_ ?_ | refine HeldK.mk (by kernel_rfl) ?_ | refine IdxK.at i _ rfl hA9 hlt ?_ | refine LdK.mk _ hel5 ?_ | refine LdK.mk _ (hlb7 _ _ (off_of hel5 hne9)) ?_ | refine gcallB (pick_b hS6 (by omega)) hno (fun t N7 ht hS7 hlb7 => ?_) | refine callAddN (l22Add_r _ l B cap ((hNR6.mono hlb7).sl (by omega)) (by omega) ⟨x, ⟨g, 9, t, ⟨0, 0⟩, [], [], [], ⟨0, 0⟩, []⟩⟩ _ (noticeZ _ x g 9 t)) (fun l' ar c' N8 g1 g2 g3 g4 g5 hl8 => ?_) | fail)
            all_goals exact ⟨⟨(l', some ar, c', N8), endA hS7 hlb7 g1 g2 g3 g4 g5 hl8⟩, ⟨⟨rfl, rfl, rfl, rfl, trivial⟩, ⟨rfl, rfl, trivial⟩, rfl, rfl⟩, rfl⟩
          · rintro ⟨⟨l', B', cap', N6⟩, h1, h2, h3, h4⟩
            (conv => whnf)
            exact ⟨⟨(i + 1, l', B', cap', N6), hend N6 h4 h3 l' B' cap' h1 h2⟩, ⟨⟨rfl, rfl, rfl, look_int (i64_succ (by omega)), trivial⟩, ⟨rfl, rfl, trivial⟩, rfl, rfl⟩, rfl, by show acting.length - (i + 1) < acting.length - i; omega⟩
      · (conv => whnf)
        refine CondK.no' (decide_eq_false hx0) ?_
        (conv => whnf)
        exact ⟨⟨(i + 1, l, B, cap, N), hend N (off_le _ _) (hS.mono (fun _ _ h => h) (by omega)) l B cap (by omega) hNR⟩, ⟨⟨rfl, rfl, rfl, look_int (i64_succ (by omega)), trivial⟩, ⟨rfl, rfl, trivial⟩, rfl, rfl⟩, rfl, by show acting.length - (i + 1) < acting.length - i; omega⟩
    · (conv => whnf)
      refine CondK.no' (decide_eq_false (by omega)) ?_
      (conv => whnf)
      have hn5 : acting.length ≤ 5 := by omega
      have hkk : 1 ≤ IntKind.i64.wrap (1 + k1) ∧ IntKind.i64.wrap (1 + k1) ≤ 3 ∧ 0 ≤ m ∧ m ≤ 2 ∧ (acting.length : Int) = IntKind.i64.wrap (1 + k1) + m := by rw [hw1]; omega
      refine LoopK.mk {q : Nat × Option (Addr × Nat) × Mem // InvM X P ad b l B cap q} (fun ⟨⟨i, o, N⟩, _⟩ => [(0, .v (.pointer (some ad))), (3, match o with | none => .p 0 0 | some (aw, _) => .e aw 0), (6, .v (.int .i64 (i : Int)))]) (fun ⟨⟨i, o, N⟩, _⟩ => match o with | none => [(0, [.int .i64 (IntKind.i64.wrap (1 + k1)), .int .i64 m, .slice A acting.length c, .int .i64 g.Pool, .int .i64 g.No, .int .i64 9, .int .i64 1, .int .i64 0, .int .i64 0, .slice none 0 0, .slice none 0 0, .slice none 0 0, .int .i64 0, .int .i64 0, .slice none 0 0, .slice B l.length cap])] | some _ => []) (fun ⟨⟨i, o, N⟩, _⟩ => N) (fun q => 7 - q.1.1) ⟨(1, none, N), Nat.le_refl _, by show 1 ≤ 7; omega, hlN, rfl, hNR, hS.mono (fun _ _ h => h) (by omega)⟩ ⟨⟨⟨rfl, rfl, rfl, trivial⟩, ⟨rfl, trivial⟩, rfl, rfl⟩, rfl⟩ ?_
      clear hS hNR hlN hPN
      rintro ⟨⟨j, o, N⟩, hj1, hj7, hlN, ho⟩
      replace hj1 : 1 ≤ j := hj1
      replace hj7 : j ≤ 7 := hj7
      replace hlN : Le P N := hlN
      have hPN : ∀ {N' : Mem}, Le (off N ad.block) N' → Le P N' := fun hl a u hu => hl a u (off_of (hlN a u hu) (hPne a u hu))
      cases o with
      | none =>
        replace ho : j = 1 ∧ NRow P N ad.block l B cap ∧ Src X N ad (b + 400) := ho
        obtain ⟨rfl, hNR, hS⟩ := ho
        (conv => whnf)
        refine gcall (pick_b hS (by omega)) hno (fun t N1 ht hS1 hlb1 => ?_)
        have ht' := ht.2 (by decide)
        (conv => whnf)
        refine CondK.yes' (decide_eq_true (by rw [i64_id (x := t + 1) (by omega) (by omega)]; omega)) ?_
        (conv => whnf)
        refine PubK.fr (fun aw N2 hl2 hc _ hf _ => ?_)
        obtain ⟨rb, hW, hPr⟩ := world0 hS1 hPne (hPN hlb1) hsa4 (hNR.mono hlb1) (by omega) hkk hgok hl2 hc hf
        have hS2 := hS1.mono hl2 (Int.le_refl _)
        (conv => whnf)
        refine CallK.mb (offX N2 ad.block aw.block rb) _ rfl (l23Put_b hS2 (by omega) hW (fun a u hu => hPr a u (hXP a u hu)) 1 _) (offX_le _ _ _ _) (fun a u h1 h2 => ?_) (offX_dj _ _ _ _) (fun v Mx N3 hR hl3 hlb3 _ => ?_)
        · show off M ad.block a = none
          cases hm0 : off M ad.block a with
          | none => rfl
          | some v =>
            exfalso
            have hv := hP a v hm0
            rcases offX_blk h1 h2 with h | h | h
            · exact hPne a v hv h
            · exact (hPr a v hv).1 h
            · exact (hPr a v hv).2 h
        · obtain ⟨rfl, hS3, K', m', a', A', c', s', p', l', B', cap', hW3⟩ := hR
          have hP3 : Le P N3 := fun a u hu => hlb3 a u (offX_of (hl2 _ _ (hPN hlb1 a u hu)) (hPne a u hu) (hPr a u hu).1 (hPr a u hu).2)
          (conv => whnf)
          exact ⟨⟨(2, some (aw, rb), N3), by show 1 ≤ 2; omega, by show 2 ≤ 7; omega, hP3, ⟨hS3.mono hl3 (by show _ ≤ b + 1000 + 20000 * ((2 : Nat) : Int); omega), K', m', a', A', c', s', p', l', B', cap', hW3.up hl3⟩, hPr⟩, ⟨⟨rfl, rfl, look_int (i64_succ (by omega)), trivial⟩, trivial, rfl, rfl⟩, rfl, by show 7 - 2 < 7 - 1; omega⟩
      | some q =>
        obtain ⟨aw, rb⟩ := q
        replace ho : RPut23 X ad aw rb (b + 1000 + 20000 * j) N ∧ ∀ a u, P a = some u → a.block ≠ aw.block ∧ a.block ≠ rb := ho
        obtain ⟨⟨hS, K', m', a', A', c', s', p', l', B', cap', hW⟩, hPr⟩ := ho
        (conv => whnf)
        refine gcall (pick_b hS (by omega)) hno (fun t N1 ht hS1 hlb1 => ?_)
        have ht' := ht.2 (by decide)
        have hW1 := hW.mono hlb1
        by_cases hle : (j : Int) ≤ t + 1
        · (conv => whnf)
          refine CondK.yes' (decide_eq_true (by rw [i64_id (x := t + 1) (by omega) (by omega)]; omega)) ?_
          (conv => whnf)
          refine CallK.mb (offX N1 ad.block aw.block rb) _ rfl (l23Put_b hS1 (by omega) hW1 (fun a u hu => hPr a u (hXP a u hu)) 1 _) (offX_le _ _ _ _) (fun a u h1 h2 => ?_) (offX_dj _ _ _ _) (fun v Mx N3 hR hl3 hlb3 _ => ?_)
          · show off M ad.block a = none
            cases hm0 : off M ad.block a with
            | none => rfl
            | some v =>
              exfalso
              have hv := hP a v hm0
              rcases offX_blk h1 h2 with h | h | h
              · exact hPne a v hv h
              · exact (hPr a v hv).1 h
              · exact (hPr a v hv).2 h
          · obtain ⟨rfl, hS3, K2, m2, a2, A2, c2, s2, p2, l2, B2, cap2, hW3⟩ := hR
            have hP3 : Le P N3 := fun a u hu => hlb3 a u (offX_of (hPN hlb1 a u hu) (hPne a u hu) (hPr a u hu).1 (hPr a u hu).2)
            (conv => whnf)
            exact ⟨⟨(j + 1, some (aw, rb), N3), by show 1 ≤ j + 1; omega, by show j + 1 ≤ 7; omega, hP3, ⟨hS3.mono hl3 (by show _ ≤ b + 1000 + 20000 * ((j + 1 : Nat) : Int); push_cast; omega), K2, m2, a2, A2, c2, s2, p2, l2, B2, cap2, hW3.up hl3⟩, hPr⟩, ⟨⟨rfl, rfl, look_int (i64_succ (by omega)), trivial⟩, trivial, rfl, rfl⟩, rfl, by show 7 - (j + 1) < 7 - j; omega⟩
        · (conv => whnf)
          refine CondK.no' (decide_eq_false (by rw [i64_id (x := t + 1) (by omega) (by omega)]; omega)) ?_
          (conv => whnf)
          exact RetK.mk fun g M' hl _ => ⟨aw, rb, b + 1000 + 20000 * j + 2, congrArg (fun z => Value.pointer (some z)) (add0 aw), hS1.mono hl (Int.le_refl _), K', m', a', A', c', s', p', l', B', cap', hW1.up hl⟩
end Go.Proofs.YtefhbbmklpnpoaaGreat.Hlp
