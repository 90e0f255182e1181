/- Sources by the light walk. -/
import Derived.Test.YtpkphcgipkmiaaaGreatFunL
import Derived.Test.YtpkphcgipkmiaaaGreatFunM
namespace Go.Proofs.YtpkphcgipkmiaaaGreat.Hlp
open Go Go.RowKit Go.Proofs Go.Proofs.YtpkphcgipkmiaaaGreat.Lw
set_option linter.unusedVariables false
set_option linter.unusedSimpArgs false
set_option maxRecDepth 100000
set_option maxHeartbeats 4000000
def hasAt (s : GPgState) (x : GHead) (pos : Int) : Bool := hasF s.Chunks (chunkIx s.Chunks (keyChunk x.Name x.Ver pos)) (keyChunk x.Name x.Ver pos)
theorem holds_a (M : Mem) (s : GPgState) (cs : List Value) (h : RPgState M s cs) (hn : s.Chunks.length ≤ 1048576) (hsort : SortedC s.Chunks) (x : GHead) (pos : Int) : Ans Tryz.prog M 101 #[.agg cs.toArray, .agg #[.string x.Name, .int .i64 x.Ver.Epoch, .int .i64 x.Ver.Seq, .int .i64 x.Size, .int .i64 x.Sum], .int .i64 pos] (.bool (hasAt s x pos)) := by
  have h0 := h
  obtain ⟨A0, c0, A1, c1, A2, c2, A3, c3, rfl, _⟩ := h
  refine ans_of T (l := [.agg (List.toArray _), .agg #[.string x.Name, .int .i64 x.Ver.Epoch, .int .i64 x.Ver.Seq, .int .i64 x.Size, .int .i64 x.Sum], .int .i64 pos]) mixed Tryz.func101 rfl (by kernel_rfl) (Nat.le_of_ble_eq_true rfl) ?_
  repeat' ((conv => whnf); first | refine CallK.mk _ (chunkAt_a _ s _ h0 hn hsort x.Name x.Ver pos) ?_ | fail)
  exact rfl
theorem l23Has_a (M : Mem) (s : GPgState) (cs : List Value) (h : RPgState M s cs) (x : GHead) (pos : Int) : Ans Tryz.prog M 98 #[.agg cs.toArray, .agg #[.string x.Name, .int .i64 x.Ver.Epoch, .int .i64 x.Ver.Seq, .int .i64 x.Size, .int .i64 x.Sum], .int .i64 pos] (.bool (hasAt s x pos)) := by
  obtain ⟨A0, c0, A1, c1, A2, c2, A3, c3, rfl, _, s0, s1, s2, s3⟩ := h
  refine ans_of T (l := [.agg (List.toArray _), .agg #[.string x.Name, .int .i64 x.Ver.Epoch, .int .i64 x.Ver.Seq, .int .i64 x.Size, .int .i64 x.Sum], .int .i64 pos]) mixed Tryz.func98 rfl (by kernel_rfl) (Nat.le_of_ble_eq_true rfl) ?_
  repeat' ((conv => whnf); first | refine CallK.mk _ (l17At_a _ _ _ _ s3 (keyChunk x.Name x.Ver pos)) ?_ | fail)
  exact rfl
def srcN (n : GNotice) (x : GHead) (p : Nat) : List GSource := ((List.range p).filter fun j : Nat => hasAt n.State x (j : Int)).map fun j : Nat => ⟨n.From, (j : Int)⟩
theorem srcN_step (n : GNotice) (x : GHead) (p : Nat) : srcN n x (p + 1) = srcN n x p ++ (if hasAt n.State x (p : Int) = true then [⟨n.From, (p : Int)⟩] else []) := by
  unfold srcN
  rw [List.range_succ, List.filter_append, List.map_append]
  congr 1
  cases h : hasAt n.State x (p : Int) <;> simp [h]
theorem srcN_len (n : GNotice) (x : GHead) (p : Nat) : (srcN n x p).length ≤ p := by
  unfold srcN
  rw [List.length_map]
  exact Nat.le_trans (List.length_filter_le _ _) (by simp)
def srcTo (l : List GNotice) (x : GHead) (k : Nat) : List GSource := (l.take k).flatMap fun n => srcN n x 7
theorem srcTo_step {l : List GNotice} {x : GHead} {k : Nat} (h : k < l.length) : srcTo l x (k + 1) = srcTo l x k ++ srcN l[k] x 7 := by
  unfold srcTo
  rw [List.take_succ_eq_append_getElem h, List.flatMap_append]
  simp
theorem srcTo_len (l : List GNotice) (x : GHead) : ∀ k, k ≤ l.length → (srcTo l x k).length ≤ 7 * k
  | 0, _ => by simp [srcTo]
  | k + 1, h => by
    rw [srcTo_step h, List.length_append]
    have := srcTo_len l x k (by omega)
    have := srcN_len l[k] x 7
    omega
theorem l23Sources_a (M : Mem) (l : List GNotice) (A : Option Addr) (c : Nat) (h : SlR M RNotice 13 168 A c l) (hn : l.length ≤ 16) (x : GHead) : AnsR Tryz.prog M 111 #[.slice A l.length c, .agg #[.string x.Name, .int .i64 x.Ver.Epoch, .int .i64 x.Ver.Seq, .int .i64 x.Size, .int .i64 x.Sum]] (fun M' v => ∃ A' c', v = .slice A' (srcTo l x l.length).length c' ∧ SlR M' RSource 2 16 A' c' (srcTo l x l.length)) := by
  have hl := h.len
  refine ansR_of T (l := [.slice A l.length c, .agg #[.string x.Name, .int .i64 x.Ver.Epoch, .int .i64 x.Ver.Seq, .int .i64 x.Size, .int .i64 x.Sum]]) mixed Tryz.func111 rfl (by kernel_rfl) (Nat.le_of_ble_eq_true rfl) ?_
  (conv => whnf)
  refine LoopK.sw 1 2 {q : Nat × Nat × List Value // q.1 ≤ l.length ∧ (srcTo l x q.1).length ≤ q.2.1 ∧ RowR M RSource 2 (srcTo l x q.1) q.2.2} (fun ⟨⟨k, cap, ds⟩, _⟩ => [(0, .v (.slice A l.length c)), (3, .p 0 0), (5, .s 1 (srcTo l x k).length cap 2), (6, .v (.int .i64 (k : Int)))]) (fun ⟨⟨k, cap, ds⟩, _⟩ => [(1, ds), (0, [.string x.Name, .int .i64 x.Ver.Epoch, .int .i64 x.Ver.Seq, .int .i64 x.Size, .int .i64 x.Sum])]) (fun _ => M) (fun q => l.length - q.1.1) ⟨(0, 0, []), Nat.zero_le _, Nat.le_refl _, RowR.nil⟩ 1 ⟨⟨⟨rfl, rfl, rfl, rfl, trivial⟩, ⟨rfl, rfl, trivial⟩, rfl, rfl⟩, rfl⟩ ?_
  rintro ⟨⟨k, cap, ds⟩, hk, hcap, hr⟩
  replace hk : k ≤ l.length := hk
  replace hcap : (srcTo l x k).length ≤ cap := hcap
  replace hr : RowR M RSource 2 (srcTo l x k) ds := hr
  have hsl := srcTo_len l x k hk
  (conv => whnf)
  refine CondK.mk (fun h1 => ?_) (fun h1 => ?_)
  · have hlt : k < l.length := by simpa using h1
    obtain ⟨y, hyk⟩ : ∃ y, l[k] = y := ⟨_, rfl⟩
    have hy : l[k]? = some y := by rw [List.getElem?_eq_getElem hlt, hyk]
    obtain ⟨ad, rfl, A0, c0, A1, c1, A2, c2, A3, c3, bnx, ⟨s0, s1, s2, s3⟩, x0, x1, x2, x3, x4, x5, x6, x7, x8, x9, x10, x11, x12⟩ := at_Notice h hy
    have hs : srcTo l x (k + 1) = srcTo l x k ++ srcN y x 7 := by rw [srcTo_step hlt, hyk]
    (conv => whnf)
    refine LoopK.sw 1 2 {q : Nat × Nat × List Value // q.1 ≤ 7 ∧ (srcTo l x k ++ srcN y x q.1).length ≤ q.2.1 ∧ RowR M RSource 2 (srcTo l x k ++ srcN y x q.1) q.2.2} (fun ⟨⟨p, cap, ds⟩, _⟩ => [(0, .v (.slice (some ad) l.length c)), (3, .p 0 0), (5, .s 1 (srcTo l x k ++ srcN y x p).length cap 2), (6, .v (.int .i64 (k : Int))), (7, .v (.int .i64 (p : Int)))]) (fun ⟨⟨p, cap, ds⟩, _⟩ => [(1, ds), (0, [.string x.Name, .int .i64 x.Ver.Epoch, .int .i64 x.Ver.Seq, .int .i64 x.Size, .int .i64 x.Sum])]) (fun _ => M) (fun q => 7 - q.1.1) ⟨(0, cap, ds), Nat.zero_le _, by simpa [srcN] using hcap, by simpa [srcN] using hr⟩ 1 ⟨⟨⟨rfl, rfl, congrArg (fun t => some (PV.s 1 t cap 2)) (by simp [srcN]), rfl, rfl, trivial⟩, ⟨rfl, rfl, trivial⟩, rfl, rfl⟩, rfl⟩ ?_
    rintro ⟨⟨p, cap2, ds2⟩, hp, hcap2, hr2⟩
    replace hp : p ≤ 7 := hp
    replace hcap2 : (srcTo l x k ++ srcN y x p).length ≤ cap2 := hcap2
    replace hr2 : RowR M RSource 2 (srcTo l x k ++ srcN y x p) ds2 := hr2
    have hsn := srcN_len y x p
    have hlen2 : (srcTo l x k ++ srcN y x p).length ≤ 200 := by rw [List.length_append]; omega
    (conv => whnf)
    refine CondK.mk (fun h2 => ?_) (fun h2 => ?_)
    · have hlt2 : p < 7 := by simp at h2; omega
      repeat' ((conv => whnf); first | with_reducible refine CondK.tt ?_ | with_reducible refine CondK.ff ?_ | refine DrawN.q (by kernel_rfl) ?_ | refine IdxK.mk _ rfl (by omega) (by omega) ?_ | refine LdK.mk _ (by assumption) ?_ | refine CallQ.mk _ (l23Has_a _ y.State _ ⟨_, _, _, _, _, _, _, _, rfl, trivial, s0, s1, s2, s3⟩ x p) ?_ | refine AppK.mk (by show (2 * _ + 512) * 16 ≤ 281474976710656; omega) (by omega) (.inr rfl) (by first | exact hr2.all | rfl) (fun cap3 hcap3 => ?_) | refine CondK.mk (fun hc => ?_) (fun hc => ?_) | fail)
      · have e := srcN_step y x p
        rw [if_pos hc] at e
        have e2 : srcTo l x k ++ srcN y x (p + 1) = (srcTo l x k ++ srcN y x p) ++ [⟨y.From, (p : Int)⟩] := by rw [e, List.append_assoc]
        refine ⟨⟨(p + 1, cap3, ds2 ++ [.int .i64 y.From, .int .i64 (p : Int)]), hlt2, ?_, ?_⟩, 3, ⟨⟨rfl, rfl, congrArg (fun t => some (PV.s 3 t cap3 2)) ?_, rfl, look_int (i64_succ (by omega)), trivial⟩, ⟨rfl, rfl, trivial⟩, rfl, rfl⟩, rfl, by simp; omega⟩
        · show (srcTo l x k ++ srcN y x (p + 1)).length ≤ cap3
          rw [e2, List.length_append]
          exact hcap3
        · show RowR M RSource 2 (srcTo l x k ++ srcN y x (p + 1)) _
          rw [e2]
          exact hr2.app (RowR.one (x := (⟨y.From, (p : Int)⟩ : GSource)) ⟨rfl, trivial⟩ rfl rfl)
        · rw [e2]
          simp only [List.length_append, List.length_singleton]
      · have e := srcN_step y x p
        rw [if_neg (by rw [hc]; decide), List.append_nil] at e
        refine ⟨⟨(p + 1, cap2, ds2), hlt2, ?_, ?_⟩, 1, ⟨⟨rfl, rfl, congrArg (fun t => some (PV.s 1 t cap2 2)) ?_, rfl, look_int (i64_succ (by omega)), trivial⟩, ⟨rfl, rfl, trivial⟩, rfl, rfl⟩, rfl, by simp; omega⟩
        · show (srcTo l x k ++ srcN y x (p + 1)).length ≤ cap2
          rw [e]; exact hcap2
        · show RowR M RSource 2 (srcTo l x k ++ srcN y x (p + 1)) _
          rw [e]; exact hr2
        · rw [e]
    · have he : p = 7 := by simp at h2; omega
      subst he
      refine ⟨⟨(k + 1, cap2, ds2), hlt, ?_, ?_⟩, 1, ⟨⟨rfl, rfl, congrArg (fun t => some (PV.s 1 t cap2 2)) ?_, look_int (i64_succ (by omega)), trivial⟩, ⟨rfl, rfl, trivial⟩, rfl, rfl⟩, rfl, by simp; omega⟩
      · show (srcTo l x (k + 1)).length ≤ cap2
        rw [hs]; exact hcap2
      · show RowR M RSource 2 (srcTo l x (k + 1)) _
        rw [hs]; exact hr2
      · rw [hs]
  · have he : k = l.length := by have : ¬ k < l.length := by simpa using h1
                                 omega
    subst he
    exact RetK.mk fun g M' hl hg => ⟨_, _, rfl, row_out hr rfl (fun _ _ h => h) (hg 1 _ rfl) hcap (by omega)⟩
def rowP (L : List GSource) (o : Option (Nat × List Value)) : PV := match o with | none => .v (.slice none 0 0) | some q => .s 1 L.length q.1 2
def rowB (o : Option (Nat × List Value)) (b : Bx) : Bx := match o with | none => b | some q => (1, q.2) :: b
def RowO (M : Mem) (L : List GSource) (o : Option (Nat × List Value)) : Prop := match o with | none => L = [] | some q => L.length ≤ q.1 ∧ RowR M RSource 2 L q.2
theorem rowO_out {M M' : Mem} {L : List GSource} {cap g : Nat} {ds : List Value} (h : RowO M L (some (cap, ds))) (hl : L.length ≤ 1000000) (hg : ∀ o u, ds[o]? = some u → M' ⟨g, o, none⟩ = some u) : SlR M' RSource 2 16 (some ⟨g, 0, none⟩) cap L :=
  row_out h.2 rfl (fun _ _ h => h) hg h.1 (by omega)
theorem rowO_new {M1 M M' : Mem} {L : List GSource} {cap g : Nat} {ds : List Value} (h : RowO M1 L (some (cap, ds))) (hl : L.length ≤ 1000000) {M0 : Mem} (h0 : Le M0 M) (hg : (∀ ad u, M ad = some u → ad.block ≠ g) ∧ ∀ o u, ds[o]? = some u → M' ⟨g, o, none⟩ = some u) : SlR (sub M' M0) RSource 2 16 (some ⟨g, 0, none⟩) cap L :=
  row_new (RowR.mono (M' := M) h.2 (fun _ _ h => h)) rfl (fun _ _ h => h) h0 hg h.1 (by omega)
theorem sources_f (M : Mem) (l : List GNotice) (A : Option Addr) (c : Nat) (h : SlR M RNotice 13 168 A c l) (hn : l.length ≤ 16) (hok : ∀ y ∈ l, y.State.Chunks.length ≤ 1048576 ∧ SortedC y.State.Chunks) (x : GHead) : AnsR Tryz.prog M 89 #[.slice A l.length c, .agg #[.string x.Name, .int .i64 x.Ver.Epoch, .int .i64 x.Ver.Seq, .int .i64 x.Size, .int .i64 x.Sum]] (fun M' v => ∃ A' c', v = .slice A' (srcTo l x l.length).length c' ∧ SlR (sub M' M) RSource 2 16 A' c' (srcTo l x l.length)) := by
  have hl := h.len
  refine ansR_of T (l := [.slice A l.length c, .agg #[.string x.Name, .int .i64 x.Ver.Epoch, .int .i64 x.Ver.Seq, .int .i64 x.Size, .int .i64 x.Sum]]) mixed Tryz.func89 rfl (by kernel_rfl) (Nat.le_of_ble_eq_true rfl) ?_
  (conv => whnf)
  refine LoopK.sw 1 2 {q : Nat × Option (Nat × List Value) // q.1 ≤ l.length ∧ RowO M (srcTo l x q.1) q.2} (fun ⟨⟨k, o⟩, _⟩ => [(3, .p 0 0), (5, rowP (srcTo l x k) o), (9, .v (.slice A l.length c)), (10, .v (.int .i64 (l.length : Int))), (11, .v (.int .i64 (k : Int)))]) (fun ⟨⟨k, o⟩, _⟩ => rowB o [(0, [.string x.Name, .int .i64 x.Ver.Epoch, .int .i64 x.Ver.Seq, .int .i64 x.Size, .int .i64 x.Sum])]) (fun _ => M) (fun q => l.length - q.1.1) ⟨(0, none), Nat.zero_le _, rfl⟩ 1 ⟨⟨⟨rfl, rfl, rfl, rfl, rfl, trivial⟩, ⟨rfl, trivial⟩, rfl, rfl⟩, rfl⟩ ?_
  rintro ⟨⟨k, o⟩, hk, hr⟩
  replace hk : k ≤ l.length := hk
  replace hr : RowO M (srcTo l x k) o := hr
  have hsl := srcTo_len l x k hk
  (conv => whnf)
  refine CondK.mk (fun h1 => ?_) (fun h1 => ?_)
  · have hlt : k < l.length := by simpa using h1
    obtain ⟨y, hyk⟩ : ∃ y, l[k] = y := ⟨_, rfl⟩
    have hy : l[k]? = some y := by rw [List.getElem?_eq_getElem hlt, hyk]
    have hyl : y ∈ l := List.mem_of_getElem? hy
    obtain ⟨hy1, hy2⟩ := hok y hyl
    obtain ⟨ad, rfl, A0, c0, A1, c1, A2, c2, A3, c3, bnx, ⟨s0, s1, s2, s3⟩, x0, x1, x2, x3, x4, x5, x6, x7, x8, x9, x10, x11, x12⟩ := at_Notice h hy
    have hs : srcTo l x (k + 1) = srcTo l x k ++ srcN y x 7 := by rw [srcTo_step hlt, hyk]
    have h00 : srcTo l x k ++ srcN y x 0 = srcTo l x k := by simp [srcN]
    repeat' ((conv => whnf); first | refine IdxK.mk _ rfl (by omega) (by omega) ?_ | refine LdK.mk _ (by assumption) ?_ | fail)
    refine LoopK.sw 1 3 {q : Nat × Option (Nat × List Value) // q.1 ≤ 7 ∧ RowO M (srcTo l x k ++ srcN y x q.1) q.2} (fun ⟨⟨p, o⟩, _⟩ => [(3, .p 0 0), (5, rowP (srcTo l x k ++ srcN y x p) o), (7, .p 2 0), (9, .v (.slice (some ad) l.length c)), (10, .v (.int .i64 (l.length : Int))), (11, .v (.int .i64 (k : Int))), (15, .v (.int .i64 (p : Int)))]) (fun ⟨⟨p, o⟩, _⟩ => rowB o [(2, [.int .i64 y.From, .int .i64 y.State.Pg.Pool, .int .i64 y.State.Pg.No, .int .i64 y.State.Seen, .int .i64 y.State.Started, .int .i64 y.State.Tail.Epoch, .int .i64 y.State.Tail.Seq, .slice A0 y.State.Base.length c0, .slice A1 y.State.Clients.length c1, .slice A2 y.State.Log.length c2, .int .i64 y.State.Firm.Epoch, .int .i64 y.State.Firm.Seq, .slice A3 y.State.Chunks.length c3]), (0, [.string x.Name, .int .i64 x.Ver.Epoch, .int .i64 x.Ver.Seq, .int .i64 x.Size, .int .i64 x.Sum])]) (fun _ => M) (fun q => 7 - q.1.1) ⟨(0, o), Nat.zero_le _, by rw [h00]; exact hr⟩ 1 ?_ ?_
    · cases o with
      | none => exact ⟨⟨⟨rfl, rfl, rfl, rfl, rfl, rfl, rfl, trivial⟩, ⟨rfl, rfl, trivial⟩, rfl, rfl⟩, rfl⟩
      | some q => exact ⟨⟨⟨rfl, congrArg (fun t => some (PV.s 1 t q.1 2)) (by rw [h00]), rfl, rfl, rfl, rfl, rfl, trivial⟩, ⟨rfl, rfl, rfl, trivial⟩, rfl, rfl⟩, rfl⟩
    rintro ⟨⟨p, o⟩, hp, hr⟩
    replace hp : p ≤ 7 := hp
    replace hr : RowO M (srcTo l x k ++ srcN y x p) o := hr
    have hsn := srcN_len y x p
    have hlen2 : (srcTo l x k ++ srcN y x p).length ≤ 200 := by rw [List.length_append]; omega
    have e := srcN_step y x p
    (conv => whnf)
    refine CondK.mk (fun h2 => ?_) (fun h2 => ?_)
    · have hlt2 : p < 7 := by simp at h2; omega
      cases hq : hasAt y.State x (p : Int) with
      | false =>
        rw [hq, if_neg (by decide), List.append_nil] at e
        cases o with
        | none =>
          repeat' ((conv => whnf); first | refine CallK.mk _ (holds_a _ y.State _ ⟨_, _, _, _, _, _, _, _, rfl, trivial, s0, s1, s2, s3⟩ hy1 hy2 x p) ?_ | refine CondK.no' hq ?_ | fail)
          exact ⟨⟨(p + 1, none), hlt2, by show _ = _; rw [e]; exact hr⟩, 1, ⟨⟨rfl, rfl, rfl, rfl, rfl, rfl, look_int (i64_succ (by omega)), trivial⟩, ⟨rfl, rfl, trivial⟩, rfl, rfl⟩, rfl, by simp; omega⟩
        | some q =>
          repeat' ((conv => whnf); first | refine CallK.mk _ (holds_a _ y.State _ ⟨_, _, _, _, _, _, _, _, rfl, trivial, s0, s1, s2, s3⟩ hy1 hy2 x p) ?_ | refine CondK.no' hq ?_ | fail)
          exact ⟨⟨(p + 1, some q), hlt2, by show RowO M _ _; rw [e]; exact hr⟩, 1, ⟨⟨rfl, congrArg (fun t => some (PV.s 1 t q.1 2)) (by rw [e]), rfl, rfl, rfl, rfl, look_int (i64_succ (by omega)), trivial⟩, ⟨rfl, rfl, rfl, trivial⟩, rfl, rfl⟩, rfl, by simp; omega⟩
      | true =>
        rw [hq, if_pos rfl] at e
        have e2 : srcTo l x k ++ srcN y x (p + 1) = (srcTo l x k ++ srcN y x p) ++ [⟨y.From, (p : Int)⟩] := by rw [e, List.append_assoc]
        cases o with
        | none =>
          replace hr : srcTo l x k ++ srcN y x p = [] := hr
          repeat' ((conv => whnf); first | refine CallK.mk _ (holds_a _ y.State _ ⟨_, _, _, _, _, _, _, _, rfl, trivial, s0, s1, s2, s3⟩ hy1 hy2 x p) ?_ | refine CondK.yes' hq ?_ | refine AppK.mk (by decide) (by decide) (.inl (by decide)) rfl (fun cap3 hcap3 => ?_) | fail)
          refine ⟨⟨(p + 1, some (cap3, [.int .i64 y.From, .int .i64 (p : Int)])), hlt2, ?_⟩, 4, ⟨⟨rfl, congrArg (fun t => some (PV.s 4 t cap3 2)) ?_, rfl, rfl, rfl, rfl, look_int (i64_succ (by omega)), trivial⟩, ⟨rfl, rfl, rfl, trivial⟩, rfl, rfl⟩, rfl, by simp; omega⟩
          · show RowO M (srcTo l x k ++ srcN y x (p + 1)) _
            rw [e2, hr]
            exact ⟨hcap3, RowR.one (x := (⟨y.From, (p : Int)⟩ : GSource)) ⟨rfl, trivial⟩ rfl rfl⟩
          · rw [e2, hr]
            rfl
        | some q =>
          obtain ⟨cap, ds⟩ := q
          obtain ⟨hr1, hr2⟩ := hr
          repeat' ((conv => whnf); first | refine CallK.mk _ (holds_a _ y.State _ ⟨_, _, _, _, _, _, _, _, rfl, trivial, s0, s1, s2, s3⟩ hy1 hy2 x p) ?_ | refine CondK.yes' hq ?_ | refine AppK.mk (by show (2 * _ + 512) * 16 ≤ 281474976710656; omega) (by omega) (.inr rfl) (by first | exact hr2.all | rfl) (fun cap3 hcap3 => ?_) | fail)
          refine ⟨⟨(p + 1, some (cap3, ds ++ [.int .i64 y.From, .int .i64 (p : Int)])), hlt2, ?_⟩, 4, ⟨⟨rfl, congrArg (fun t => some (PV.s 4 t cap3 2)) ?_, rfl, rfl, rfl, rfl, look_int (i64_succ (by omega)), trivial⟩, ⟨rfl, rfl, rfl, trivial⟩, rfl, rfl⟩, rfl, by simp; omega⟩
          · show RowO M (srcTo l x k ++ srcN y x (p + 1)) _
            rw [e2]
            exact ⟨by rw [List.length_append]; exact hcap3, hr2.app (RowR.one (x := (⟨y.From, (p : Int)⟩ : GSource)) ⟨rfl, trivial⟩ rfl rfl)⟩
          · rw [e2]
            simp only [List.length_append, List.length_singleton]
    · have he : p = 7 := by simp at h2; omega
      subst he
      cases o with
      | none => exact ⟨⟨(k + 1, none), hlt, by show _ = _; rw [hs]; exact hr⟩, 1, ⟨⟨rfl, rfl, rfl, rfl, look_int (i64_succ (by omega)), trivial⟩, ⟨rfl, trivial⟩, rfl, rfl⟩, rfl, by simp; omega⟩
      | some q => exact ⟨⟨(k + 1, some q), hlt, by show RowO M _ _; rw [hs]; exact hr⟩, 1, ⟨⟨rfl, congrArg (fun t => some (PV.s 1 t q.1 2)) (by rw [hs]), rfl, rfl, look_int (i64_succ (by omega)), trivial⟩, ⟨rfl, rfl, trivial⟩, rfl, rfl⟩, rfl, by simp; omega⟩
  · have he : k = l.length := by have : ¬ k < l.length := by simpa using h1
                                 omega
    subst he
    cases o with
    | none =>
      replace hr : srcTo l x l.length = [] := hr
      exact RetK.mk fun g M' hl hg => ⟨none, 0, slice_eq (by rw [hr]; rfl), slR_eq SlR.nil hr.symm⟩
    | some q =>
      obtain ⟨cap, ds⟩ := q
      exact RetK.fr fun g M' hl hg => ⟨_, _, rfl, rowO_new hr (by omega) (Le.refl M) (hg 1 _ rfl)⟩
theorem sources_a (M : Mem) (l : List GNotice) (A : Option Addr) (c : Nat) (h : SlR M RNotice 13 168 A c l) (hn : l.length ≤ 16) (hok : ∀ y ∈ l, y.State.Chunks.length ≤ 1048576 ∧ SortedC y.State.Chunks) (x : GHead) : AnsR Tryz.prog M 89 #[.slice A l.length c, .agg #[.string x.Name, .int .i64 x.Ver.Epoch, .int .i64 x.Ver.Seq, .int .i64 x.Size, .int .i64 x.Sum]] (fun M' v => ∃ A' c', v = .slice A' (srcTo l x l.length).length c' ∧ SlR M' RSource 2 16 A' c' (srcTo l x l.length)) :=
  (sources_f M l A c h hn hok x).imp fun M' v _ ⟨A', c', h1, h2⟩ => ⟨A', c', h1, h2.mono (sub_le _ _) (fun _ _ h => h)⟩
end Go.Proofs.YtpkphcgipkmiaaaGreat.Hlp
