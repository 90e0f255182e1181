/- Rotten chunks by the light walk. -/
import Derived.Test.YtgdglbjoaipfpaaFunY
namespace Go.Proofs.Ytgdglbjoaipfpaa.Hlp
open Go Go.RowKit Go.Proofs Go.Proofs.Ytgdglbjoaipfpaa.Lw
set_option linter.unusedVariables false
set_option linter.unusedSimpArgs false
set_option maxRecDepth 100000
set_option maxHeartbeats 4000000
def rowP0 (L : List GBad) (o : Option (Nat × List Value)) : PV := match o with | none => .v (.slice none 0 0) | some q => .s 0 L.length q.1 5
def rowB0 (o : Option (Nat × List Value)) (b : Bx) : Bx := match o with | none => b | some q => (0, q.2) :: b
def RowOB (M : Mem) (L : List GBad) (o : Option (Nat × List Value)) : Prop := match o with | none => L = [] | some q => L.length ≤ q.1 ∧ RowR M RBad 5 L q.2
theorem rowOB_new {M1 M M' : Mem} {L : List GBad} {cap g : Nat} {ds : List Value} (h : RowOB M1 L (some (cap, ds))) (hl : L.length ≤ 1000000) {M0 : Mem} (h0 : Le M0 M) (hg : (∀ ad u, M ad = some u → ad.block ≠ g) ∧ ∀ o u, ds[o]? = some u → M' ⟨g, o, none⟩ = some u) : SlR (sub M' M0) RBad 5 48 (some ⟨g, 0, none⟩) cap L :=
  row_new (RowR.mono (M' := M) h.2 (fun _ _ h => h)) rfl (fun _ _ h => h) h0 hg h.1 (by omega)
def rotIs (r : GReport) (p : GProof) : Bool := (p.Sum != p.Real)
theorem rotten1_a (M : Mem) (r : GReport) (cs : List Value) (h : RReport M r cs) (p : GProof) : Ans Try.prog M 106 #[.agg cs.toArray, .agg #[.string p.Name, .int .i64 p.Ver.Epoch, .int .i64 p.Ver.Seq, .int .i64 p.Pos, .int .i64 p.Sum, .int .i64 p.Real]] (.bool (rotIs r p)) := by
  obtain ⟨A0, c0, rfl, hb, s0⟩ := h
  refine ans_of T (l := [.agg (List.toArray _), .agg #[.string p.Name, .int .i64 p.Ver.Epoch, .int .i64 p.Ver.Seq, .int .i64 p.Pos, .int .i64 p.Sum, .int .i64 p.Real]]) mixed Try.func106 rfl (by kernel_rfl) (Nat.le_of_ble_eq_true rfl) ?_
  repeat' ((conv => whnf); first | refine LdK.mk _ (by assumption) ?_ | fail)
  exact ret_bool rfl
theorem markedRot_a (M : Mem) (l : List GReport) (A : Option Addr) (c : Nat) (h : SlR M RReport 2 32 A c l) (hn : l.length ≤ 16) (hs : ∀ y ∈ l, y.List.length ≤ 160)  : AnsR Try.prog M 67 #[.slice A l.length c, .func (.func 106) #[] #[]] (fun M' v => ∃ A' c', v = .slice A' (mkTo rotIs l l.length).length c' ∧ SlR (sub M' M) RBad 5 48 A' c' (mkTo rotIs l l.length)) := by
  have hl := h.len
  refine ansR_of T (l := [.slice A l.length c, .func (.func 106) #[] #[]]) mixed Try.func67 rfl (by kernel_rfl) (Nat.le_of_ble_eq_true rfl) ?_
  generalize his : rotIs = is0
  (conv => whnf)
  refine LoopK.sw 0 1 {q : Nat × Option (Nat × List Value) // q.1 ≤ l.length ∧ RowOB M (mkTo is0 l q.1) q.2} (fun ⟨⟨k, o⟩, _⟩ => [(1, .v (.func (.func 106) #[] #[])), (5, rowP0 (mkTo is0 l k) o), (10, .v (.slice A l.length c)), (11, .v (.int .i64 (l.length : Int))), (12, .v (.int .i64 (k : Int)))]) (fun ⟨⟨k, o⟩, _⟩ => rowB0 o []) (fun _ => M) (fun q => l.length - q.1.1) ⟨(0, none), Nat.zero_le _, rfl⟩ 0 ⟨⟨⟨rfl, rfl, rfl, rfl, rfl, trivial⟩, trivial, rfl, rfl⟩, rfl⟩ ?_
  rintro ⟨⟨k, o⟩, hk, hr⟩
  replace hk : k ≤ l.length := hk
  replace hr : RowOB M (mkTo is0 l k) o := hr
  have hsl := mkTo_len is0 hs k hk
  (conv => whnf)
  refine CondK.mk (fun h1 => ?_) (fun h1 => ?_)
  · have hlt : k < l.length := by simpa using h1
    obtain ⟨y, hyk⟩ : ∃ y, l[k] = y := ⟨_, rfl⟩
    have hy : l[k]? = some y := by rw [List.getElem?_eq_getElem hlt, hyk]
    have hyl : y ∈ l := List.mem_of_getElem? hy
    have hy1 := hs y hyl
    obtain ⟨ad, rfl, A0, c0, bnx, s0, x0, x1⟩ := at_Report h hy
    have hss : mkTo is0 l (k + 1) = mkTo is0 l k ++ mkN is0 y y.List.length := by rw [mkTo_step hlt, hyk]
    have h00 : mkTo is0 l k ++ mkN is0 y 0 = mkTo is0 l k := by simp [mkN]
    repeat' ((conv => whnf); first | refine IdxK.mk _ rfl (by omega) (by omega) ?_ | refine LdK.mk _ (by assumption) ?_ | fail)
    refine LoopK.sw 0 2 {q : Nat × Option (Nat × List Value) // q.1 ≤ y.List.length ∧ RowOB M (mkTo is0 l k ++ mkN is0 y q.1) q.2} (fun ⟨⟨j, o⟩, _⟩ => [(1, .v (.func (.func 106) #[] #[])), (5, rowP0 (mkTo is0 l k ++ mkN is0 y j) o), (7, .p 1 0), (10, .v (.slice (some ad) l.length c)), (11, .v (.int .i64 (l.length : Int))), (12, .v (.int .i64 (k : Int))), (17, .v (.slice A0 y.List.length c0)), (18, .v (.int .i64 (y.List.length : Int))), (19, .v (.int .i64 (j : Int)))]) (fun ⟨⟨j, o⟩, _⟩ => rowB0 o [(1, [.int .i64 y.From, .slice A0 y.List.length c0])]) (fun _ => M) (fun q => y.List.length - q.1.1) ⟨(0, o), Nat.zero_le _, by rw [h00]; exact hr⟩ 0 ?_ ?_
    · cases o with
      | none => exact ⟨⟨⟨rfl, rfl, rfl, rfl, rfl, rfl, rfl, rfl, rfl, trivial⟩, ⟨rfl, trivial⟩, rfl, rfl⟩, rfl⟩
      | some q => exact ⟨⟨⟨rfl, congrArg (fun t => some (PV.s 0 t q.1 5)) (by rw [h00]), rfl, rfl, rfl, rfl, rfl, rfl, rfl, trivial⟩, ⟨rfl, rfl, trivial⟩, rfl, rfl⟩, rfl⟩
    rintro ⟨⟨j, o⟩, hj, hr⟩
    replace hj : j ≤ y.List.length := hj
    replace hr : RowOB M (mkTo is0 l k ++ mkN is0 y j) o := hr
    have hsn := mkN_len is0 y j
    have hlen2 : (mkTo is0 l k ++ mkN is0 y j).length ≤ 4000 := by rw [List.length_append]; omega
    (conv => whnf)
    refine CondK.mk (fun h2 => ?_) (fun h2 => ?_)
    · have hlt2 : j < y.List.length := by simpa using h2
      have e := mkN_step (is := is0) hlt2
      obtain ⟨p, hpj⟩ : ∃ p, y.List[j] = p := ⟨_, rfl⟩
      have hp : y.List[j]? = some p := by rw [List.getElem?_eq_getElem hlt2, hpj]
      rw [hpj] at e
      obtain ⟨ad2, rfl, bnp, z0, z1, z2, z3, z4, z5⟩ := at_Proof s0 hp
      have hcl := his ▸ rotten1_a M y _ ⟨_, _, rfl, trivial, s0⟩ p
      cases hq : is0 y p with
      | false =>
        rw [hq] at hcl
        rw [hq, if_neg (by decide), List.append_nil] at e
        cases o with
        | none =>
          repeat' ((conv => whnf); first | refine IdxK.mk _ rfl (by omega) (by omega) ?_ | refine LdK.mk _ (by assumption) ?_ | refine CallK.mk _ hcl ?_ | with_reducible refine CondK.ff ?_ | fail)
          exact ⟨⟨(j + 1, none), hlt2, by show _ = _; rw [e]; exact hr⟩, 0, ⟨⟨rfl, rfl, rfl, rfl, rfl, rfl, rfl, rfl, look_int (i64_succ (by omega)), trivial⟩, ⟨rfl, trivial⟩, rfl, rfl⟩, rfl, by simp; omega⟩
        | some q =>
          repeat' ((conv => whnf); first | refine IdxK.mk _ rfl (by omega) (by omega) ?_ | refine LdK.mk _ (by assumption) ?_ | refine CallK.mk _ hcl ?_ | with_reducible refine CondK.ff ?_ | fail)
          exact ⟨⟨(j + 1, some q), hlt2, by show RowOB M _ _; rw [e]; exact hr⟩, 0, ⟨⟨rfl, congrArg (fun t => some (PV.s 0 t q.1 5)) (by rw [e]), rfl, rfl, rfl, rfl, rfl, rfl, look_int (i64_succ (by omega)), trivial⟩, ⟨rfl, rfl, trivial⟩, rfl, rfl⟩, rfl, by simp; omega⟩
      | true =>
        rw [hq] at hcl
        rw [hq, if_pos rfl] at e
        have e2 : mkTo is0 l k ++ mkN is0 y (j + 1) = (mkTo is0 l k ++ mkN is0 y j) ++ [badF y p] := by rw [e, List.append_assoc]
        cases o with
        | none =>
          replace hr : mkTo is0 l k ++ mkN is0 y j = [] := hr
          repeat' ((conv => whnf); first | refine IdxK.mk _ rfl (by omega) (by omega) ?_ | refine LdK.mk _ (by assumption) ?_ | refine CallK.mk _ hcl ?_ | with_reducible refine CondK.tt ?_ | refine AppK.mk (by decide) (by decide) (.inl (by decide)) rfl (fun cap3 hcap3 => ?_) | fail)
          refine ⟨⟨(j + 1, some (cap3, [.int .i64 y.From, .string p.Name, .int .i64 p.Ver.Epoch, .int .i64 p.Ver.Seq, .int .i64 p.Pos])), hlt2, ?_⟩, 4, ⟨⟨rfl, congrArg (fun t => some (PV.s 4 t cap3 5)) ?_, rfl, rfl, rfl, rfl, rfl, rfl, look_int (i64_succ (by omega)), trivial⟩, ⟨rfl, rfl, trivial⟩, rfl, rfl⟩, rfl, by simp; omega⟩
          · show RowOB M (mkTo is0 l k ++ mkN is0 y (j + 1)) _
            rw [e2, hr]
            exact ⟨hcap3, RowR.one (x := badF y p) ⟨rfl, bnp⟩ rfl rfl⟩
          · rw [e2, hr]
            rfl
        | some q =>
          obtain ⟨cap, ds⟩ := q
          obtain ⟨hr1, hr2⟩ := hr
          repeat' ((conv => whnf); first | refine IdxK.mk _ rfl (by omega) (by omega) ?_ | refine LdK.mk _ (by assumption) ?_ | refine CallK.mk _ hcl ?_ | with_reducible refine CondK.tt ?_ | refine AppK.mk (by show (2 * _ + 512) * 48 ≤ 281474976710656; omega) (by omega) (.inr rfl) (by first | exact hr2.all | rfl) (fun cap3 hcap3 => ?_) | fail)
          refine ⟨⟨(j + 1, some (cap3, ds ++ [.int .i64 y.From, .string p.Name, .int .i64 p.Ver.Epoch, .int .i64 p.Ver.Seq, .int .i64 p.Pos])), hlt2, ?_⟩, 4, ⟨⟨rfl, congrArg (fun t => some (PV.s 4 t cap3 5)) ?_, rfl, rfl, rfl, rfl, rfl, rfl, look_int (i64_succ (by omega)), trivial⟩, ⟨rfl, rfl, trivial⟩, rfl, rfl⟩, rfl, by simp; omega⟩
          · show RowOB M (mkTo is0 l k ++ mkN is0 y (j + 1)) _
            rw [e2]
            exact ⟨by rw [List.length_append]; exact hcap3, hr2.app (RowR.one (x := badF y p) ⟨rfl, bnp⟩ rfl rfl)⟩
          · rw [e2]
            simp only [List.length_append, List.length_singleton]
    · have he : j = y.List.length := by have : ¬ j < y.List.length := by simpa using h2
                                        omega
      subst he
      cases o with
      | none => exact ⟨⟨(k + 1, none), hlt, by show _ = _; rw [hss]; exact hr⟩, 0, ⟨⟨rfl, rfl, rfl, rfl, look_int (i64_succ (by omega)), trivial⟩, trivial, rfl, rfl⟩, rfl, by simp; omega⟩
      | some q => exact ⟨⟨(k + 1, some q), hlt, by show RowOB M _ _; rw [hss]; exact hr⟩, 0, ⟨⟨rfl, congrArg (fun t => some (PV.s 0 t q.1 5)) (by rw [hss]), rfl, rfl, look_int (i64_succ (by omega)), trivial⟩, ⟨rfl, trivial⟩, rfl, rfl⟩, rfl, by simp; omega⟩
  · have he : k = l.length := by have : ¬ k < l.length := by simpa using h1
                                 omega
    subst he
    cases o with
    | none =>
      replace hr : mkTo is0 l l.length = [] := hr
      exact RetK.mk fun g M' hl hg => ⟨none, 0, slice_eq (by rw [hr]; rfl), slR_eq SlR.nil hr.symm⟩
    | some q =>
      obtain ⟨cap, ds⟩ := q
      exact RetK.fr fun g M' hl hg => ⟨_, _, rfl, rowOB_new hr (by omega) (Le.refl M) (hg 0 _ rfl)⟩
theorem rotten_f (M : Mem) (l : List GReport) (A : Option Addr) (c : Nat) (h : SlR M RReport 2 32 A c l) (hn : l.length ≤ 16) (hs : ∀ y ∈ l, y.List.length ≤ 160) : AnsR Try.prog M 60 #[.slice A l.length c] (fun M' v => ∃ A' c', v = .slice A' (mkTo rotIs l l.length).length c' ∧ SlR (sub M' M) RBad 5 48 A' c' (mkTo rotIs l l.length)) := by
  refine ansR_of T (l := [.slice A l.length c]) mixed Try.func60 rfl (by kernel_rfl) (Nat.le_of_ble_eq_true rfl) ?_
  (conv => whnf)
  refine CallK.mr _ (markedRot_a M l A c h hn hs) (fun v M1 hl1 hv => ?_)
  obtain ⟨A1, c1, rfl, hs⟩ := hv
  (conv => whnf)
  exact RetK.mk fun g M' hl hg => ⟨A1, c1, rfl, hs.mono (sub_mono _ hl) (fun _ _ h => h)⟩
theorem iRotten_f (M : Mem) (l : List GReport) (A : Option Addr) (c : Nat) (h : SlR M RReport 2 32 A c l) : AnsR Try.prog M 14 #[.slice A l.length c] (fun M' v => ∃ A' c', v = .tuple #[.slice A' (mkAll rotIs l).length c', .int .i64 (if reportsF l = true then 0 else 1)] ∧ SlR (sub M' M) RBad 5 48 A' c' (mkAll rotIs l)) := by
  refine ansR_of T (l := [.slice A l.length c]) mixed Try.func14 rfl (by kernel_rfl) (Nat.le_of_ble_eq_true rfl) ?_
  cases h2 : reportsF l with
  | false =>
    have e' : mkAll rotIs l = [] := by unfold mkAll; rw [h2]; rfl
    repeat' ((conv => whnf); first | with_reducible refine CondK.tt ?_ | with_reducible refine CondK.ff ?_ | refine CallK.mk (.bool false) (h2 ▸ reportsOk_a M l A c h) ?_ | refine DrawN.q (by kernel_rfl) ?_ | fail)
    exact RetK.mk fun g M' hl hg => ⟨none, 0, by rw [e']; rfl, slR_eq SlR.nil e'.symm⟩
  | true =>
    have e' : mkAll rotIs l = mkTo rotIs l l.length := by unfold mkAll; rw [h2]; rfl
    repeat' ((conv => whnf); first | with_reducible refine CondK.tt ?_ | with_reducible refine CondK.ff ?_ | refine CallK.mk (.bool true) (h2 ▸ reportsOk_a M l A c h) ?_ | (refine CallK.mr _ (rotten_f M l A c h (reports_len h2) (fun y hy => report_small h2 hy)) (fun v M1 hl1 hv => ?_); obtain ⟨A1, c1, rfl, hs⟩ := hv) | fail)
    exact RetK.mk fun g M' hl hg => ⟨A1, c1, by rw [e']; rfl, slR_eq (hs.mono (sub_mono _ hl) (fun _ _ h => h)) e'.symm⟩
theorem l26Bad_a (M : Mem) (n : Int) (p : GProof) : Ans Try.prog M 66 #[.int .i64 n, .agg #[.string p.Name, .int .i64 p.Ver.Epoch, .int .i64 p.Ver.Seq, .int .i64 p.Pos, .int .i64 p.Sum, .int .i64 p.Real]] (.agg #[.int .i64 n, .string p.Name, .int .i64 p.Ver.Epoch, .int .i64 p.Ver.Seq, .int .i64 p.Pos]) := by
  refine ans_of T (l := [.int .i64 n, .agg #[.string p.Name, .int .i64 p.Ver.Epoch, .int .i64 p.Ver.Seq, .int .i64 p.Pos, .int .i64 p.Sum, .int .i64 p.Real]]) mixed Try.func66 rfl (by kernel_rfl) (Nat.le_of_ble_eq_true rfl) ?_
  repeat' ((conv => whnf); first | fail)
  exact rfl
theorem l26Rotten_a (M : Mem) (l : List GReport) (A : Option Addr) (c : Nat) (h : SlR M RReport 2 32 A c l) (hn : l.length ≤ 16) (hs : ∀ y ∈ l, y.List.length ≤ 160) : AnsR Try.prog M 57 #[.slice A l.length c] (fun M' v => ∃ A' c', v = .slice A' (mkTo rotIs l l.length).length c' ∧ SlR M' RBad 5 48 A' c' (mkTo rotIs l l.length)) := by
  have hl := h.len
  refine ansR_of T (l := [.slice A l.length c]) mixed Try.func57 rfl (by kernel_rfl) (Nat.le_of_ble_eq_true rfl) ?_
  generalize his : rotIs = is0
  (conv => whnf)
  refine LoopK.sw 0 1 {q : Nat × Nat × List Value // q.1 ≤ l.length ∧ (mkTo is0 l q.1).length ≤ q.2.1 ∧ RowR M RBad 5 (mkTo is0 l q.1) q.2.2} (fun ⟨⟨k, cap, ds⟩, _⟩ => [(0, .v (.slice A l.length c)), (3, .s 0 (mkTo is0 l k).length cap 5), (4, .v (.int .i64 (k : Int)))]) (fun ⟨⟨k, cap, ds⟩, _⟩ => [(0, ds)]) (fun _ => M) (fun q => l.length - q.1.1) ⟨(0, 0, []), Nat.zero_le _, Nat.le_refl _, RowR.nil⟩ 0 ⟨⟨⟨rfl, rfl, rfl, trivial⟩, ⟨rfl, trivial⟩, rfl, rfl⟩, rfl⟩ ?_
  rintro ⟨⟨k, cap, ds⟩, hk, hcap, hr⟩
  replace hk : k ≤ l.length := hk
  replace hcap : (mkTo is0 l k).length ≤ cap := hcap
  replace hr : RowR M RBad 5 (mkTo is0 l k) ds := hr
  have hsl := mkTo_len is0 hs k hk
  (conv => whnf)
  refine CondK.mk (fun h1 => ?_) (fun h1 => ?_)
  · have hlt : k < l.length := by simpa using h1
    obtain ⟨y, hyk⟩ : ∃ y, l[k] = y := ⟨_, rfl⟩
    have hy : l[k]? = some y := by rw [List.getElem?_eq_getElem hlt, hyk]
    have hyl : y ∈ l := List.mem_of_getElem? hy
    have hy1 := hs y hyl
    obtain ⟨ad, rfl, A0, c0, bnx, s0, x0, x1⟩ := at_Report h hy
    have hss : mkTo is0 l (k + 1) = mkTo is0 l k ++ mkN is0 y y.List.length := by rw [mkTo_step hlt, hyk]
    have h00 : mkTo is0 l k ++ mkN is0 y 0 = mkTo is0 l k := by simp [mkN]
    (conv => whnf)
    refine LoopK.sw 0 1 {q : Nat × Nat × List Value // q.1 ≤ y.List.length ∧ (mkTo is0 l k ++ mkN is0 y q.1).length ≤ q.2.1 ∧ RowR M RBad 5 (mkTo is0 l k ++ mkN is0 y q.1) q.2.2} (fun ⟨⟨j, cap, ds⟩, _⟩ => [(0, .v (.slice (some ad) l.length c)), (3, .s 0 (mkTo is0 l k ++ mkN is0 y j).length cap 5), (4, .v (.int .i64 (k : Int))), (5, .v (.int .i64 (j : Int)))]) (fun ⟨⟨j, cap, ds⟩, _⟩ => [(0, ds)]) (fun _ => M) (fun q => y.List.length - q.1.1) ⟨(0, cap, ds), Nat.zero_le _, by rw [h00]; exact hcap, by rw [h00]; exact hr⟩ 0 ⟨⟨⟨rfl, congrArg (fun t => some (PV.s 0 t cap 5)) (by rw [h00]), rfl, rfl, trivial⟩, ⟨rfl, trivial⟩, rfl, rfl⟩, rfl⟩ ?_
    rintro ⟨⟨j, cap2, ds2⟩, hj, hcap2, hr2⟩
    replace hj : j ≤ y.List.length := hj
    replace hcap2 : (mkTo is0 l k ++ mkN is0 y j).length ≤ cap2 := hcap2
    replace hr2 : RowR M RBad 5 (mkTo is0 l k ++ mkN is0 y j) ds2 := hr2
    have hsn := mkN_len is0 y j
    have hlen2 : (mkTo is0 l k ++ mkN is0 y j).length ≤ 4000 := by rw [List.length_append]; omega
    repeat' ((conv => whnf); first | refine IdxK.mk _ rfl (by omega) (by omega) ?_ | refine LdK.mk _ (by assumption) ?_ | fail)
    refine CondK.mk (fun h2 => ?_) (fun h2 => ?_)
    · have hlt2 : j < y.List.length := by simpa using h2
      have e := mkN_step (is := is0) hlt2
      obtain ⟨p, hpj⟩ : ∃ p, y.List[j] = p := ⟨_, rfl⟩
      have hp : y.List[j]? = some p := by rw [List.getElem?_eq_getElem hlt2, hpj]
      rw [hpj] at e
      obtain ⟨ad2, rfl, bnp, z0, z1, z2, z3, z4, z5⟩ := at_Proof s0 hp
      cases hq : is0 y p with
      | false =>
        rw [hq, if_neg (by decide), List.append_nil] at e
        have hq' : (p.Sum != p.Real) = false := by rw [← hq, ← his]; rfl
        repeat' ((conv => whnf); first | refine IdxK.mk _ rfl (by omega) (by omega) ?_ | refine LdK.mk _ (by assumption) ?_ | refine CondK.no' hq' ?_ | fail)
        refine ⟨⟨(j + 1, cap2, ds2), hlt2, ?_, ?_⟩, 0, ⟨⟨rfl, congrArg (fun t => some (PV.s 0 t cap2 5)) ?_, rfl, look_int (i64_succ (by omega)), trivial⟩, ⟨rfl, trivial⟩, rfl, rfl⟩, rfl, by simp; omega⟩
        · show (mkTo is0 l k ++ mkN is0 y (j + 1)).length ≤ cap2
          rw [e]; exact hcap2
        · show RowR M RBad 5 (mkTo is0 l k ++ mkN is0 y (j + 1)) _
          rw [e]; exact hr2
        · rw [e]
      | true =>
        rw [hq, if_pos rfl] at e
        have e2 : mkTo is0 l k ++ mkN is0 y (j + 1) = (mkTo is0 l k ++ mkN is0 y j) ++ [badF y p] := by rw [e, List.append_assoc]
        have hq' : (p.Sum != p.Real) = true := by rw [← hq, ← his]; rfl
        repeat' ((conv => whnf); first | refine IdxK.mk _ rfl (by omega) (by omega) ?_ | refine LdK.mk _ (by assumption) ?_ | refine CondK.yes' hq' ?_ | fail)
        refine DrawN.a {cap3 : Nat // (mkTo is0 l k ++ mkN is0 y j).length + 1 ≤ cap3} (fun ⟨cap3, _⟩ => [(0, .v (.slice (some ad) l.length c)), (3, .s 3 ((mkTo is0 l k ++ mkN is0 y j).length + 1) cap3 5), (4, .v (.int .i64 (k : Int))), (5, .v (.int .i64 (j : Int)))]) (fun _ => [(3, ds2 ++ [.int .i64 y.From, .string p.Name, .int .i64 p.Ver.Epoch, .int .i64 p.Ver.Seq, .int .i64 p.Pos])]) 4 (fun _ => M) ?_ ?_
        · repeat' ((conv => whnf); first | refine AndK.mk ?_ ?_ | refine IdxK.mk _ rfl (by omega) (by omega) ?_ | refine LdK.mk _ (by assumption) ?_ | refine CallK.mk _ (l26Bad_a _ _ p) ?_ | refine AppK.mk (by show (2 * _ + 512) * 48 ≤ 281474976710656; omega) (by omega) (.inr rfl) (by first | exact hr2.all | rfl) (fun cap3 hcap3 => ?_) | fail)
          all_goals exact ⟨⟨cap3, hcap3⟩, ⟨⟨rfl, rfl, rfl, rfl, trivial⟩, ⟨rfl, trivial⟩, rfl, rfl⟩, rfl⟩
        rintro ⟨cap3, hcap3⟩
        (conv => whnf)
        refine ⟨⟨(j + 1, cap3, ds2 ++ [.int .i64 y.From, .string p.Name, .int .i64 p.Ver.Epoch, .int .i64 p.Ver.Seq, .int .i64 p.Pos]), hlt2, ?_, ?_⟩, 3, ⟨⟨rfl, congrArg (fun t => some (PV.s 3 t cap3 5)) ?_, rfl, look_int (i64_succ (by omega)), trivial⟩, ⟨rfl, trivial⟩, rfl, rfl⟩, rfl, by simp; omega⟩
        · show (mkTo is0 l k ++ mkN is0 y (j + 1)).length ≤ cap3
          rw [e2, List.length_append]
          exact hcap3
        · show RowR M RBad 5 (mkTo is0 l k ++ mkN is0 y (j + 1)) _
          rw [e2]
          exact hr2.app (RowR.one (x := badF y p) ⟨rfl, bnp⟩ rfl rfl)
        · rw [e2]
          simp only [List.length_append, List.length_singleton]
    · have he : j = y.List.length := by have : ¬ j < y.List.length := by simpa using h2
                                        omega
      subst he
      refine ⟨⟨(k + 1, cap2, ds2), hlt, ?_, ?_⟩, 0, ⟨⟨rfl, congrArg (fun t => some (PV.s 0 t cap2 5)) ?_, look_int (i64_succ (by omega)), trivial⟩, ⟨rfl, trivial⟩, rfl, rfl⟩, rfl, by simp; omega⟩
      · show (mkTo is0 l (k + 1)).length ≤ cap2
        rw [hss]; exact hcap2
      · show RowR M RBad 5 (mkTo is0 l (k + 1)) _
        rw [hss]; exact hr2
      · rw [hss]
  · have he : k = l.length := by have : ¬ k < l.length := by simpa using h1
                                 omega
    subst he
    exact RetK.mk fun g M' hl hg => ⟨_, _, rfl, row_out hr rfl (fun _ _ h => h) (hg 0 _ rfl) hcap (by omega)⟩
theorem sRotten_a (M : Mem) (l : List GReport) (A : Option Addr) (c : Nat) (h : SlR M RReport 2 32 A c l) : AnsR Try.prog M 12 #[.slice A l.length c] (fun M' v => ∃ A' c', v = .tuple #[.slice A' (mkAll rotIs l).length c', .int .i64 (if reportsF l = true then 0 else 1)] ∧ SlR M' RBad 5 48 A' c' (mkAll rotIs l)) := by
  refine ansR_of T (l := [.slice A l.length c]) mixed Try.func12 rfl (by kernel_rfl) (Nat.le_of_ble_eq_true rfl) ?_
  cases h2 : reportsF l with
  | false =>
    have e' : mkAll rotIs l = [] := by unfold mkAll; rw [h2]; rfl
    repeat' ((conv => whnf); first | with_reducible refine CondK.tt ?_ | with_reducible refine CondK.ff ?_ | refine CallK.mk (.bool false) (h2 ▸ l26All_a M l A c h) ?_ | refine DrawN.q (by kernel_rfl) ?_ | fail)
    exact RetK.mk fun g M' hl hg => ⟨_, _, by rw [e']; rfl, slR_eq SlR.nil e'.symm⟩
  | true =>
    have e' : mkAll rotIs l = mkTo rotIs l l.length := by unfold mkAll; rw [h2]; rfl
    repeat' ((conv => whnf); first | with_reducible refine CondK.tt ?_ | with_reducible refine CondK.ff ?_ | refine CallK.mk (.bool true) (h2 ▸ l26All_a M l A c h) ?_ | (refine CallK.mr _ (l26Rotten_a M l A c h (reports_len h2) (fun y hy => report_small h2 hy)) (fun v M1 hl1 hv => ?_); obtain ⟨A1, c1, rfl, hs⟩ := hv) | fail)
    exact RetK.mk fun g M' hl hg => ⟨A1, c1, by rw [e']; rfl, slR_eq (hs.mono hl (fun _ _ h => h)) e'.symm⟩
end Go.Proofs.Ytgdglbjoaipfpaa.Hlp
