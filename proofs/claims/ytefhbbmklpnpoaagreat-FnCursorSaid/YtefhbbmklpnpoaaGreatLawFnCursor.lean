/- FnCursor by the light walk: the law. -/
import Derived.Test.YtefhbbmklpnpoaaGreatFunFJ
import Derived.Test.YtefhbbmklpnpoaaGreatFunFK
namespace Go.Proofs.YtefhbbmklpnpoaaGreat.Hlp
open Go Go.RowKit Go.Proofs Go.Proofs.YtefhbbmklpnpoaaGreat.Lw
set_option linter.unusedVariables false
set_option linter.unusedSimpArgs false
set_option maxRecDepth 100000
set_option maxHeartbeats 4000000
theorem callEx2 {P : Program} {wr : Bool} {base M : Mem} {f : FuncId} {args : Array Value} {R : Int → Prop} {K : Value → Mem → Prop} (h : AnsR P M f args (fun _ v => ∃ x : Int, v = .int .i64 x ∧ R x)) (k : ∀ x M', R x → Le M M' → K (.int .i64 x) M') : CallK P wr base M f args K :=
  CallK.mr _ h fun v M' hl hv => by obtain ⟨x, rfl, hx⟩ := hv; exact k x M' hx hl
theorem callHA {P : Program} {wr : Bool} {base M : Mem} {f : FuncId} {args : Array Value} {K : Value → Mem → Prop} {l : List GHead} {x : Int} (hc : AnsR P M f args (fun M' u => ∃ A' cap', u = .tuple #[.slice A' l.length cap', .int .i64 x] ∧ SlR M' RHead 5 48 A' cap' l)) (k : ∀ A cap M', SlR M' RHead 5 48 A cap l → Le M M' → K (.tuple #[.slice A l.length cap, .int .i64 x]) M') : CallK P wr base M f args K :=
  CallK.mr _ hc fun v M' hl hv => by obtain ⟨A, cap, rfl, h1⟩ := hv; exact k A cap M' h1 hl
theorem callNX {P : Program} {wr : Bool} {base M : Mem} {f : FuncId} {args : Array Value} {K : Value → Mem → Prop} {l : List GHead} {d : Bool} {nm : ByteArray} {x : Int} (hc : AnsR P M f args (fun M' u => ∃ A' cap', u = .tuple #[.slice A' l.length cap', .agg #[.bool d, .string nm], .int .i64 x] ∧ SlR M' RHead 5 48 A' cap' l)) (k : ∀ A cap M', SlR M' RHead 5 48 A cap l → Le M M' → K (.tuple #[.slice A l.length cap, .agg #[.bool d, .string nm], .int .i64 x]) M') : CallK P wr base M f args K :=
  CallK.mr _ hc fun v M' hl hv => by obtain ⟨A, cap, rfl, h1⟩ := hv; exact k A cap M' h1 hl
theorem RowR.slA {M' : Mem} {ad : Addr} {c : Nat} {l : List GHead} {ds : List Value} (r : RowR M' RHead 5 l ds) (hc : ∀ o u, ds[o]? = some u → M' (ad.add o) = some u) (hcap : l.length ≤ c) (hn : l.length ≤ 1000) : SlR M' RHead 5 48 (some ad) c l := by
  obtain ⟨css, rfl, h1, h2, h3⟩ := r.ex
  refine ⟨hcap, by omega, fun i x hx => ?_⟩
  obtain ⟨cs, g1, g2⟩ := h3 i x hx
  refine ⟨ad, cs, rfl, g2, (h2 cs (List.mem_of_getElem? g1)).1, fun j u hu => ?_⟩
  rw [add_add]
  exact hc _ u (flat_get (fun c hc => (h2 c hc).1) g1 hu)
def InvC (M : Mem) (s : GPgState) (q : Nat × Nat × GCursor × List Value × Nat × Mem) : Prop :=
  (q.2.2.1.Done = false → q.1 ≤ q.2.1) ∧ CurI s q.2.1 q.2.2.1 ∧ (q.2.2.1.Done = true → q.2.1 = (hdsTo s s.Log.length).length) ∧ (q.2.2.1.Done = false → q.2.1 < (hdsTo s s.Log.length).length ∨ (hdsTo s s.Log.length).length = 0) ∧ RowR M RHead 5 ((hdsTo s s.Log.length).take q.2.1) q.2.2.2.1 ∧ q.2.1 ≤ q.2.2.2.2.1 ∧ Le M q.2.2.2.2.2
theorem lawFnCursor_a (M : Mem) (l : List Int) (A : Option Addr) (c : Nat) (h0 : SlR M RByte 1 1 A c l) : AnsR Tryz.prog M 4 #[.slice A l.length c] (fun _ v => v = .bool true) := by
  refine ansR_of T (l := [.slice A l.length c]) mixed Tryz.func4 rfl (by kernel_rfl) (Nat.le_of_ble_eq_true rfl) ?_
  by_cases hbig : (l.length : Int) > 1048576
  · (conv => whnf)
    refine CondK.yes' (decide_eq_true hbig) ?_
    (conv => whnf)
    exact RetK.mk fun _ _ _ _ => rfl
  (conv => whnf)
  refine CondK.no' (decide_eq_false hbig) ?_
  (conv => whnf)
  refine CallK.mr _ (a8World_r h0) (fun v M1 hl1 hv => ?_)
  obtain ⟨K, m, Aa, na, ca, s, A0, c0, A1, c1, A2, c2, A3, c3, As, ns, cs2, rfl, hsp, hok⟩ := hv
  obtain ⟨H, hH⟩ : ∃ H, H = hdsTo s s.Log.length := ⟨_, rfl⟩
  have hH16 : H.length ≤ 16 := hH ▸ hds_len hok (Nat.le_refl _)
  have hLO : ∀ N, Le M1 N → Ans Tryz.prog N 12 #[.agg (List.toArray [.int .i64 s.Pg.Pool, .int .i64 s.Pg.No, .int .i64 s.Seen, .int .i64 s.Started, .int .i64 s.Tail.Epoch, .int .i64 s.Tail.Seq, .slice A0 s.Base.length c0, .slice A1 s.Clients.length c1, .slice A2 s.Log.length c2, .int .i64 s.Firm.Epoch, .int .i64 s.Firm.Seq, .slice A3 s.Chunks.length c3])] (.agg #[.int .i64 (lastVerF s).Epoch, .int .i64 (lastVerF s).Seq]) := fun N hl => by
    have := sLastOf_a N s _ (RPgState.mono hl _ _ hsp)
    rw [show lastOfF s = lastVerF s from if_pos hok] at this
    exact this
  have hHA : ∀ N, Le M1 N → AnsR Tryz.prog N 11 #[.agg (List.toArray [.int .i64 s.Pg.Pool, .int .i64 s.Pg.No, .int .i64 s.Seen, .int .i64 s.Started, .int .i64 s.Tail.Epoch, .int .i64 s.Tail.Seq, .slice A0 s.Base.length c0, .slice A1 s.Clients.length c1, .slice A2 s.Log.length c2, .int .i64 s.Firm.Epoch, .int .i64 s.Firm.Seq, .slice A3 s.Chunks.length c3]), .agg #[.int .i64 (lastVerF s).Epoch, .int .i64 (lastVerF s).Seq]] (fun M' u => ∃ A' cap', u = .tuple #[.slice A' H.length cap', .int .i64 0] ∧ SlR M' RHead 5 48 A' cap' H) := fun N hl => by
    have := sHeadsAt_a N s _ (RPgState.mono hl _ _ hsp) (lastVerF s)
    rw [(ha_last hok).1, (ha_last hok).2, ← hH] at this
    exact this
  (conv => whnf)
  refine DrawN.h {q : Option Addr × Nat × Mem // SlR q.2.2 RHead 5 48 q.1 q.2.1 H ∧ Le M1 q.2.2} (fun ⟨⟨W, wc, N⟩, _⟩ => [(0, .v (.slice A l.length c)), (5, .p 1 0), (7, .v (.slice W H.length wc))]) (fun _ => [(1, [.int .i64 s.Pg.Pool, .int .i64 s.Pg.No, .int .i64 s.Seen, .int .i64 s.Started, .int .i64 s.Tail.Epoch, .int .i64 s.Tail.Seq, .slice A0 s.Base.length c0, .slice A1 s.Clients.length c1, .slice A2 s.Log.length c2, .int .i64 s.Firm.Epoch, .int .i64 s.Firm.Seq, .slice A3 s.Chunks.length c3])]) 9 (fun ⟨⟨W, wc, N⟩, _⟩ => N) (by kernel_rfl) ?_ ?_
  · repeat' ((conv => whnf); first | refine AndK.mk ?_ ?_ | refine HeldK.mk (by kernel_rfl) ?_ | refine CallK.mk _ (hLO _ (fun _ _ h => h)) ?_ | refine callHA (hHA _ (fun _ _ h => h)) (fun W wc N hs2 hl2 => ?_) | fail)
    all_goals exact ⟨⟨(W, wc, N), hs2, hl2⟩, ⟨⟨rfl, rfl, rfl, trivial⟩, ⟨rfl, trivial⟩, rfl, rfl⟩, rfl⟩
  rintro ⟨⟨W, wc, N1⟩, hW, hl2⟩
  replace hW : SlR N1 RHead 5 48 W wc H := hW
  replace hl2 : Le M1 N1 := hl2
  (conv => whnf)
  refine callEx2 (a8At_r N1 A c l (h0.mono (hl1.trans hl2) (fun _ _ h => h)) (by omega)) (fun x N2 hx hl3 => ?_)
  have hwn : IntKind.i64.wrap (1 + x) = 1 + x := i64_id (by omega) (by omega)
  obtain ⟨n, hn⟩ : ∃ n, n = IntKind.i64.wrap (1 + x) := ⟨_, rfl⟩
  have hn1 : 1 ≤ n := by rw [hn, hwn]; omega
  have hn3 : n ≤ 3 := by rw [hn, hwn]; omega
  have hsp2 : RPgState N2 s [.int .i64 s.Pg.Pool, .int .i64 s.Pg.No, .int .i64 s.Seen, .int .i64 s.Started, .int .i64 s.Tail.Epoch, .int .i64 s.Tail.Seq, .slice A0 s.Base.length c0, .slice A1 s.Clients.length c1, .slice A2 s.Log.length c2, .int .i64 s.Firm.Epoch, .int .i64 s.Firm.Seq, .slice A3 s.Chunks.length c3] := RPgState.mono (hl2.trans hl3) _ _ hsp
  have hW2 := hW.mono hl3 (RHead.mono hl3)
  (conv => whnf)
  refine LoopK.sw 11 12 {q : Nat × Nat × GCursor × List Value × Nat × Mem // InvC N2 s q} (fun ⟨⟨i, g, u, ds, cap, N⟩, _⟩ => [(5, .p 1 0), (7, .v (.slice W H.length wc)), (9, .v (.int .i64 n)), (10, .p 9 0), (11, .s 11 g cap 5), (12, .v (.int .i64 (i : Int)))]) (fun ⟨⟨i, g, u, ds, cap, N⟩, _⟩ => [(11, ds), (9, [.bool u.Done, .string u.Name]), (1, [.int .i64 s.Pg.Pool, .int .i64 s.Pg.No, .int .i64 s.Seen, .int .i64 s.Started, .int .i64 s.Tail.Epoch, .int .i64 s.Tail.Seq, .slice A0 s.Base.length c0, .slice A1 s.Clients.length c1, .slice A2 s.Log.length c2, .int .i64 s.Firm.Epoch, .int .i64 s.Firm.Seq, .slice A3 s.Chunks.length c3])]) (fun ⟨⟨i, g, u, ds, cap, N⟩, _⟩ => N) (fun q => 17 - q.1.1) ⟨(0, 0, ⟨false, e0⟩, [], 0, N2), (fun _ => Nat.le_refl _), ⟨Nat.zero_le _, rfl⟩, (fun h => by cases h), (fun _ => by show 0 < _ ∨ _; omega), RowR.nil, Nat.le_refl _, fun _ _ h => h⟩ 10 ⟨⟨⟨rfl, rfl, by rw [hn]; rfl, rfl, rfl, rfl, trivial⟩, ⟨rfl, rfl, rfl, trivial⟩, rfl, rfl⟩, rfl⟩ ?_
  rintro ⟨⟨i, g, ⟨dn, nm⟩, ds, cap, N⟩, zig, zcur, zdone, zopen, zrow, zcap, zlN⟩
  have hig : dn = false → i ≤ g := zig
  have hcur : CurI s g ⟨dn, nm⟩ := zcur
  have hdone : dn = true → g = (hdsTo s s.Log.length).length := zdone
  have hopen : dn = false → g < (hdsTo s s.Log.length).length ∨ (hdsTo s s.Log.length).length = 0 := zopen
  have hrow : RowR N2 RHead 5 ((hdsTo s s.Log.length).take g) ds := zrow
  have hcap : g ≤ cap := zcap
  have hlN : Le N2 N := zlN
  have hgle := hcur.le
  rw [← hH] at hdone hopen hrow hgle
  have hspN : RPgState N s [.int .i64 s.Pg.Pool, .int .i64 s.Pg.No, .int .i64 s.Seen, .int .i64 s.Started, .int .i64 s.Tail.Epoch, .int .i64 s.Tail.Seq, .slice A0 s.Base.length c0, .slice A1 s.Clients.length c1, .slice A2 s.Log.length c2, .int .i64 s.Firm.Epoch, .int .i64 s.Firm.Seq, .slice A3 s.Chunks.length c3] := RPgState.mono hlN _ _ hsp2
  have hnmz : nm.size ≤ 9223372036854775807 := by have h8 : nm.size ≤ 8 := hcur.sz hok; omega
  have hin : inR n 1 16 = true := by unfold inR; simp only [Bool.and_eq_true, decide_eq_true_eq]; omega
  cases dn with
  | true =>
    replace hdone := hdone rfl
    have hC5 : nxC s ⟨true, nm⟩ n = 5 := by
      unfold nxC
      rw [if_pos hok, if_pos (hcur.ok hok)]
      unfold nxD
      rw [if_pos hin]
      rfl
    have hNX : AnsR Tryz.prog N 14 #[.agg (List.toArray [.int .i64 s.Pg.Pool, .int .i64 s.Pg.No, .int .i64 s.Seen, .int .i64 s.Started, .int .i64 s.Tail.Epoch, .int .i64 s.Tail.Seq, .slice A0 s.Base.length c0, .slice A1 s.Clients.length c1, .slice A2 s.Log.length c2, .int .i64 s.Firm.Epoch, .int .i64 s.Firm.Seq, .slice A3 s.Chunks.length c3]), .agg #[.bool true, .string nm], .int .i64 n] (fun M' r => ∃ A' cap', r = .tuple #[.slice A' ([] : List GHead).length cap', .agg #[.bool false, .string ⟨#[]⟩], .int .i64 5] ∧ SlR M' RHead 5 48 A' cap' ([] : List GHead)) := by
      have := iNextRange_f N s _ hspN ⟨true, nm⟩ hnmz n
      rw [show nxRL s ⟨true, nm⟩ n = [] by unfold nxRL; rw [hC5]; rfl, show nxRU s ⟨true, nm⟩ n = ⟨false, ⟨#[]⟩⟩ by unfold nxRU; rw [hC5]; rfl, hC5] at this
      exact this.imp fun M' v _ ⟨A', c', h1, h2⟩ => ⟨A', c', h1, SlR.nil⟩
    have hrow2 : RowR N2 RHead 5 H ds := by rw [hdone, List.take_length] at hrow; exact hrow
    have hcap2 : H.length ≤ cap := by rw [← hdone]; exact hcap
    subst hdone
    (conv => whnf)
    refine CondK.mk (fun h => ?_) (fun h => ?_)
    all_goals (conv => whnf)
    all_goals refine callNX hNX (fun A' c' N3 _ hl4 => ?_)
    all_goals (conv => whnf)
    all_goals refine PubK.mk (fun ad N4 hl5 hc => ?_)
    all_goals (conv => whnf)
    all_goals refine CallK.mk _ (a8Same_a N4 H (some ad) W cap wc (RowR.slA (hrow2.mono (RHead.mono (hlN.trans (hl4.trans hl5)))) hc hcap2 (by omega)) (hW2.mono (hlN.trans (hl4.trans hl5)) (RHead.mono (hlN.trans (hl4.trans hl5))))) ?_
    all_goals (conv => whnf)
    all_goals exact RetK.mk fun _ _ _ _ => rfl
  | false =>
    replace hopen := hopen rfl
    have hig := hig rfl
    have hi16 : i ≤ 16 := by omega
    obtain ⟨st1, st2, g', hg', st3⟩ := cur_step hok hcur rfl hn1 hn3
    obtain ⟨m1, m2, m3, m4⟩ := cur_more hok hcur hn1
    rw [← hH] at st2 hg' st3
    rw [← hH] at m1 m2 m3 m4
    rw [← hg'] at m2 m3 m4
    obtain ⟨L, hL⟩ : ∃ L, L = (H.drop g).take n.toNat := ⟨_, rfl⟩
    rw [← hL] at st2 m1 m2 m3 m4
    obtain ⟨nm', hnm'⟩ : ∃ nm', nm' = lastNm (H.take g') e0 := ⟨_, rfl⟩
    rw [← hnm'] at st3 m2
    obtain ⟨dn', hdn'⟩ : ∃ dn', dn' = decide (g' = H.length) := ⟨_, rfl⟩
    rw [← hdn'] at st3
    have hLn : (L.length : Int) ≤ n := by rw [hL, List.length_take]; omega
    have hL16 : L.length ≤ 16 := by omega
    have hNX : AnsR Tryz.prog N 14 #[.agg (List.toArray [.int .i64 s.Pg.Pool, .int .i64 s.Pg.No, .int .i64 s.Seen, .int .i64 s.Started, .int .i64 s.Tail.Epoch, .int .i64 s.Tail.Seq, .slice A0 s.Base.length c0, .slice A1 s.Clients.length c1, .slice A2 s.Log.length c2, .int .i64 s.Firm.Epoch, .int .i64 s.Firm.Seq, .slice A3 s.Chunks.length c3]), .agg #[.bool false, .string nm], .int .i64 n] (fun M' r => ∃ A' cap', r = .tuple #[.slice A' L.length cap', .agg #[.bool dn', .string nm'], .int .i64 0] ∧ SlR M' RHead 5 48 A' cap' L) := by
      have := iNextRange_f N s _ hspN ⟨false, nm⟩ hnmz n
      rw [st1, st2, st3] at this
      exact this.imp fun M' v _ ⟨A', c', h1, h2⟩ => ⟨A', c', h1, h2.mono (sub_le _ _) (RHead.mono (sub_le _ _))⟩
    (conv => whnf)
    refine CondK.yes' (decide_eq_true (by omega)) ?_
    (conv => whnf)
    refine callNX hNX (fun A' c' N3 hSL hl4 => ?_)
    obtain ⟨dsL, rL, nL, mL⟩ := hSL.row (fun x cs hx => (RHead.one x cs hx).1)
    have hl5 := hlN.trans hl4
    by_cases hL0 : L = []
    · have hH0 : g' = H.length := by
        have h1 := m3
        rw [hL0] at h1
        have : g + 0 = g' := h1
        omega
      have hdt : dn' = true := by rw [hdn']; exact decide_eq_true hH0
      subst hdt
      subst hL0
      (conv => whnf)
      refine DrawN.q (by kernel_rfl) ?_
      (conv => whnf)
      refine CondK.no' (decide_eq_false (by show ¬ ((0 : Int) > n); omega)) ?_
      (conv => whnf)
      refine SrcK.mk dsL nL mL ?_
      (conv => whnf)
      refine AppK.mk (by show (2 * (g + 0) + 512) * 48 ≤ 281474976710656; omega) (by show g + 0 ≤ _; omega) (.inr rfl) rL.all (fun cap3 hcap3 => ?_)
      (conv => whnf)
      exact ⟨⟨(i + 1, g', ⟨true, nm'⟩, ds ++ dsL, cap3, N3), (fun h => by cases h), ⟨by show g' ≤ _; rw [← hH]; omega, by show nm' = _; rw [← hH]; exact hnm'⟩, (fun _ => by show g' = _; rw [← hH]; exact of_decide_eq_true hdn'.symm), (fun h => by cases h), by show RowR N2 RHead 5 ((hdsTo s s.Log.length).take g') (ds ++ dsL); rw [← hH, m4]; exact RowR.app hrow (rL.mono (fun _ _ h => h)), by show g' ≤ cap3; omega, hl5⟩, 13, ⟨⟨rfl, rfl, rfl, rfl, congrArg (fun t => some (PV.s 13 t cap3 5)) m3, look_int (i64_succ (by omega)), trivial⟩, ⟨rfl, rfl, rfl, trivial⟩, rfl, rfl⟩, rfl, by show 17 - (i + 1) < 17 - i; omega⟩
    · have hLpos : 0 < L.length := List.length_pos_iff.mpr hL0
      obtain ⟨x0, hx0⟩ : ∃ x0, L[0]? = some x0 := ⟨_, List.getElem?_eq_getElem hLpos⟩
      obtain ⟨xl, hxl⟩ : ∃ xl, L[L.length - 1]? = some xl := ⟨_, List.getElem?_eq_getElem (by omega)⟩
      have hnl := m2 xl hxl
      have hle0 := m1 x0 (List.mem_of_getElem? hx0)
      obtain ⟨ad, rfl, _, a0, a1, a2, a3, a4⟩ := at_Head hSL hx0
      obtain ⟨ad', had, _, b0, b1, b2, b3, b4⟩ := at_Head hSL hxl
      cases had
      have hw1 : IntKind.i64.wrap ((L.length : Int) - 1) = ((L.length - 1 : Nat) : Int) := by rw [i64_id (by omega) (by omega)]; omega
      have hdn2 : dn' = false → g' < H.length := fun h => by
        rw [hdn'] at h
        have := of_decide_eq_false h
        omega
      cases dn'
      all_goals (conv => whnf)
      all_goals refine DrawN.q (by kernel_rfl) ?_
      all_goals (conv => whnf)
      all_goals refine CondK.no' (decide_eq_false (by omega)) ?_
      all_goals (conv => whnf)
      all_goals refine CondK.yes' (decide_eq_true (by omega)) ?_
      all_goals (conv => whnf)
      all_goals refine IdxK.mk _ rfl (by omega) (by omega) ?_
      all_goals (conv => whnf)
      all_goals refine LdK.mk _ a0 ?_
      all_goals (conv => whnf)
      all_goals refine CondK.no' hle0 ?_
      all_goals (conv => whnf)
      all_goals refine IdxK.at (L.length - 1) _ hw1 rfl (by omega) ?_
      all_goals (conv => whnf)
      all_goals refine LdK.mk _ b0 ?_
      all_goals (conv => whnf)
      all_goals refine CondK.no' (by rw [hnl]; simp) ?_
      all_goals (conv => whnf)
      · refine CondK.no' (beq_eq_false_iff_ne.mpr (by omega)) ?_
        (conv => whnf)
        refine SrcK.mk dsL nL mL ?_
        (conv => whnf)
        refine AppK.mk (by show (2 * (g + L.length) + 512) * 48 ≤ 281474976710656; omega) (by omega) (.inr rfl) rL.all (fun cap3 hcap3 => ?_)
        (conv => whnf)
        exact ⟨⟨(i + 1, g', ⟨false, nm'⟩, ds ++ dsL, cap3, N3), (fun _ => by show i + 1 ≤ g'; omega), ⟨by show g' ≤ _; rw [← hH]; omega, by show nm' = _; rw [← hH]; exact hnm'⟩, (fun h => by cases h), (fun _ => by show g' < _ ∨ _; rw [← hH]; exact .inl (hdn2 rfl)), by show RowR N2 RHead 5 ((hdsTo s s.Log.length).take g') (ds ++ dsL); rw [← hH, m4]; exact RowR.app hrow (rL.mono (fun _ _ h => h)), by show g' ≤ cap3; omega, hl5⟩, 13, ⟨⟨rfl, rfl, rfl, rfl, congrArg (fun t => some (PV.s 13 t cap3 5)) m3, look_int (i64_succ (by omega)), trivial⟩, ⟨rfl, rfl, rfl, trivial⟩, rfl, rfl⟩, rfl, by show 17 - (i + 1) < 17 - i; omega⟩
      · refine SrcK.mk dsL nL mL ?_
        (conv => whnf)
        refine AppK.mk (by show (2 * (g + L.length) + 512) * 48 ≤ 281474976710656; omega) (by omega) (.inr rfl) rL.all (fun cap3 hcap3 => ?_)
        (conv => whnf)
        exact ⟨⟨(i + 1, g', ⟨true, nm'⟩, ds ++ dsL, cap3, N3), (fun h => by cases h), ⟨by show g' ≤ _; rw [← hH]; omega, by show nm' = _; rw [← hH]; exact hnm'⟩, (fun _ => by show g' = _; rw [← hH]; exact of_decide_eq_true hdn'.symm), (fun h => by cases h), by show RowR N2 RHead 5 ((hdsTo s s.Log.length).take g') (ds ++ dsL); rw [← hH, m4]; exact RowR.app hrow (rL.mono (fun _ _ h => h)), by show g' ≤ cap3; omega, hl5⟩, 13, ⟨⟨rfl, rfl, rfl, rfl, congrArg (fun t => some (PV.s 13 t cap3 5)) m3, look_int (i64_succ (by omega)), trivial⟩, ⟨rfl, rfl, rfl, trivial⟩, rfl, rfl⟩, rfl, by show 17 - (i + 1) < 17 - i; omega⟩
end Go.Proofs.YtefhbbmklpnpoaaGreat.Hlp
