/- What places lack of a state's heads: both doors. -/
import Derived.Test.YtpkphcgipkmiaaaGreatFunQA
namespace Go.Proofs.YtpkphcgipkmiaaaGreat.Hlp
open Go Go.RowKit Go.Proofs Go.Proofs.YtpkphcgipkmiaaaGreat.Lw
set_option linter.unusedVariables false
set_option linter.unusedSimpArgs false
set_option maxRecDepth 100000
set_option maxHeartbeats 4000000
def rowPF (L : List GFill) (o : Option (Nat × List Value)) : PV := match o with | none => .v (.slice none 0 0) | some q => .s 1 L.length q.1 7
def rowBF (o : Option (Nat × List Value)) (b : Bx) : Bx := b ++ (match o with | none => [] | some q => [(1, q.2)])
def RowOF (M : Mem) (L : List GFill) (o : Option (Nat × List Value)) : Prop := match o with | none => L = [] | some q => L.length ≤ q.1 ∧ RowR M RFill 7 L q.2
theorem find_two {l : List GNotice} {n : Int} (hs : SortedN l) : (hasN l (ixN l n) n = false ∧ ∀ x pos, holdN l n x pos = false) ∨ (hasN l (ixN l n) n = true ∧ ∃ y, l[ixN l n]? = some y ∧ ∀ x pos, holdN l n x pos = hasAt y.State x pos) := by
  cases h : hasN l (ixN l n) n with
  | false => exact .inl ⟨rfl, fun x pos => by unfold holdN; rw [findN_no hs h]⟩
  | true =>
    obtain ⟨y, h1, h2⟩ := findN_at hs h
    exact .inr ⟨rfl, y, h1, fun x pos => by unfold holdN; rw [h2]⟩
theorem fills_f (M : Mem) (a : List Int) (A : Option Addr) (c : Nat) (ha : SlR M RInt 1 8 A c a) (hal : a.length ≤ 7) (s : GPgState) (cs : List Value) (h : RPgState M s cs) (hok : stateOkF s = true) (l : List GNotice) (B : Option Addr) (d : Nat) (hl : SlR M RNotice 13 168 B d l) (hno : noticesOkF l = true) : AnsR Tryz.prog M 64 #[.slice A a.length c, .agg cs.toArray, .slice B l.length d] (fun M' v => ∃ A' c', v = .slice A' (filTo a l (hdsTo s s.Log.length) a.length).length c' ∧ SlR (sub M' M) RFill 7 64 A' c' (filTo a l (hdsTo s s.Log.length) a.length)) := by
  have hh : ∀ N, Le M N → _ := fun N hN => heads_n N s cs (RPgState.mono hN _ _ h) hok
  have hlen := hds_len hok (Nat.le_refl s.Log.length)
  obtain ⟨A0, c0, A1, c1, A2, c2, A3, c3, rfl, hb, s0, s1, s2, s3⟩ := h
  have hln := notices_len hno
  have hsN := notices_sorted hno
  have hch := notices_chunks hno
  refine ansR_of T (l := [.slice A a.length c, .agg (List.toArray _), .slice B l.length d]) mixed Tryz.func64 rfl (by kernel_rfl) (Nat.le_of_ble_eq_true rfl) ?_
  generalize hdsTo s s.Log.length = L at hh hlen
  (conv => whnf)
  refine LoopK.sw 1 2 {q : (Nat × Option (Nat × List Value)) × Mem // q.1.1 ≤ a.length ∧ RowOF M (filTo a l L q.1.1) q.1.2 ∧ Le M q.2} (fun ⟨⟨⟨k, o⟩, _⟩, _⟩ => [(2, .v (.slice B l.length d)), (4, .p 0 0), (7, rowPF (filTo a l L k) o), (14, .v (.slice A a.length c)), (15, .v (.int .i64 (a.length : Int))), (16, .v (.int .i64 (k : Int)))]) (fun ⟨⟨⟨k, o⟩, _⟩, _⟩ => rowBF o [(0, [.int .i64 s.Pg.Pool, .int .i64 s.Pg.No, .int .i64 s.Seen, .int .i64 s.Started, .int .i64 s.Tail.Epoch, .int .i64 s.Tail.Seq, .slice A0 s.Base.length c0, .slice A1 s.Clients.length c1, .slice A2 s.Log.length c2, .int .i64 s.Firm.Epoch, .int .i64 s.Firm.Seq, .slice A3 s.Chunks.length c3])]) (fun q => q.1.2) (fun q => a.length - q.1.1.1) ⟨((0, none), M), Nat.zero_le _, rfl, Le.refl M⟩ 1 ⟨⟨⟨rfl, rfl, rfl, rfl, rfl, rfl, trivial⟩, ⟨rfl, trivial⟩, rfl, rfl⟩, rfl⟩ ?_
  rintro ⟨⟨⟨k, o⟩, N⟩, hk, hr, hle⟩
  simp only at hk hr hle
  have hsl := filTo_len a l L k
  have hsl2 : (filTo a l L k).length ≤ 7 * 16 := Nat.le_trans hsl (Nat.mul_le_mul (by omega) hlen)
  (conv => whnf)
  refine CondK.mk (fun h1 => ?_) (fun h1 => ?_)
  · have hlt : k < a.length := by simpa using h1
    obtain ⟨n, hnk⟩ : ∃ n, a[k] = n := ⟨_, rfl⟩
    have hy : a[k]? = some n := by rw [List.getElem?_eq_getElem hlt, hnk]
    obtain ⟨ad, rfl, _, x0⟩ := at_Int (ha.mono hle (fun _ _ h => h)) hy
    by_cases hneg : n < 0
    · have e : filTo a l L (k + 1) = filTo a l L k := by show filTo a l L k ++ _ = _; rw [hy]; simp only [if_pos hneg, List.append_nil]
      cases o with
      | none =>
        repeat' ((conv => whnf); first | refine IdxK.mk _ rfl (by omega) (by omega) ?_ | refine LdK.mk _ (by assumption) ?_ | refine CondK.yes' (decide_eq_true hneg) ?_ | fail)
        exact ⟨⟨((k + 1, none), N), hlt, by show _ = _; rw [e]; exact hr, hle⟩, 1, ⟨⟨rfl, rfl, rfl, rfl, rfl, look_int (i64_succ (by omega)), trivial⟩, ⟨rfl, trivial⟩, rfl, rfl⟩, rfl, by simp only; omega⟩
      | some q =>
        repeat' ((conv => whnf); first | refine IdxK.mk _ rfl (by omega) (by omega) ?_ | refine LdK.mk _ (by assumption) ?_ | refine CondK.yes' (decide_eq_true hneg) ?_ | fail)
        exact ⟨⟨((k + 1, some q), N), hlt, by show RowOF M _ _; rw [e]; exact hr, hle⟩, 1, ⟨⟨rfl, rfl, congrArg (fun t : List GFill => some (PV.s 1 t.length q.1 7)) e.symm, rfl, rfl, look_int (i64_succ (by omega)), trivial⟩, ⟨rfl, rfl, trivial⟩, rfl, rfl⟩, rfl, by simp only; omega⟩
    have e : filTo a l L (k + 1) = filTo a l L k ++ filN l n (k : Int) L L.length := by show filTo a l L k ++ _ = _; rw [hy]; simp only [if_neg hneg]
    repeat' ((conv => whnf); first | refine IdxK.mk _ rfl (by omega) (by omega) ?_ | refine LdK.mk _ (by assumption) ?_ | refine CondK.no' (decide_eq_false hneg) ?_ | refine CallK.mk _ (noticeAt_a _ l B d (hl.mono hle (RNotice.mono hle)) (by omega) hsN n) ?_ | (refine CallK.mr _ (hh N hle) (fun u N1 hl1 hv => ?_); obtain ⟨Ag, cg, dg, rfl, hrL, hnL⟩ := hv) | fail)
    have hsL : SlR N1 RHead 5 48 Ag cg L := hnL.sl hrL (fun _ _ h => h) (by omega)
    have hl2 := hl.mono (hle.trans hl1) (RNotice.mono (hle.trans hl1))
    have h00 : filTo a l L k ++ filN l n (k : Int) L 0 = filTo a l L k := by simp [filN]
    refine LoopK.sw 1 2 {q : Nat × Option (Nat × List Value) // q.1 ≤ L.length ∧ RowOF M (filTo a l L k ++ filN l n (k : Int) L q.1) q.2} (fun ⟨⟨j, o⟩, _⟩ => [(2, .v (.slice B l.length d)), (4, .p 0 0), (7, rowPF (filTo a l L k ++ filN l n (k : Int) L j) o), (8, .v (.int .i64 (k : Int))), (9, .v (.int .i64 n)), (10, .v (.int .i64 (ixN l n : Int))), (11, .v (.bool (hasN l (ixN l n) n))), (14, .v (.slice (some ad) a.length c)), (15, .v (.int .i64 (a.length : Int))), (16, .v (.int .i64 (k : Int))), (30, .v (.slice Ag L.length cg)), (31, .v (.int .i64 (L.length : Int))), (32, .v (.int .i64 (j : Int)))]) (fun ⟨⟨j, o⟩, _⟩ => rowBF o [(0, [.int .i64 s.Pg.Pool, .int .i64 s.Pg.No, .int .i64 s.Seen, .int .i64 s.Started, .int .i64 s.Tail.Epoch, .int .i64 s.Tail.Seq, .slice A0 s.Base.length c0, .slice A1 s.Clients.length c1, .slice A2 s.Log.length c2, .int .i64 s.Firm.Epoch, .int .i64 s.Firm.Seq, .slice A3 s.Chunks.length c3])]) (fun _ => N1) (fun q => L.length - q.1.1) ⟨(0, o), Nat.zero_le _, by simp only; rw [h00]; exact hr⟩ 1 ?_ ?_
    · cases o with
      | none => exact ⟨⟨⟨rfl, rfl, rfl, rfl, rfl, rfl, rfl, rfl, rfl, rfl, rfl, rfl, rfl, trivial⟩, ⟨rfl, trivial⟩, rfl, rfl⟩, rfl⟩
      | some q => exact ⟨⟨⟨rfl, rfl, congrArg (fun t : List GFill => some (PV.s 1 t.length q.1 7)) h00.symm, rfl, rfl, rfl, rfl, rfl, rfl, rfl, rfl, rfl, rfl, trivial⟩, ⟨rfl, rfl, trivial⟩, rfl, rfl⟩, rfl⟩
    rintro ⟨⟨j, o⟩, hj, hr⟩
    simp only at hj hr
    have hfl := filN_len l n (k : Int) L j
    have hlen2 : (filTo a l L k ++ filN l n (k : Int) L j).length ≤ 200 := by rw [List.length_append]; omega
    (conv => whnf)
    refine CondK.mk (fun h2 => ?_) (fun h2 => ?_)
    · have hltj : j < L.length := by simpa using h2
      obtain ⟨x, hxk⟩ : ∃ x, L[j] = x := ⟨_, rfl⟩
      have hx : L[j]? = some x := by rw [List.getElem?_eq_getElem hltj, hxk]
      obtain ⟨hd, rfl, bnx, g0, g1, g2, g3, g4⟩ := at_Head hsL hx
      have ej := filN_step (l := l) (n := n) (pos := (k : Int)) hltj
      rw [hxk] at ej
      have hcase : (holdN l n x (k : Int) = false ∧ ∀ K : Prop, (K → K)) ∨ holdN l n x (k : Int) = true := by cases holdN l n x (k : Int) with | false => exact .inl ⟨rfl, fun _ h => h⟩ | true => exact .inr rfl
      rcases find_two (n := n) hsN with ⟨hf, hol⟩ | ⟨hf, y, hyi, hol⟩
      · have hol := hol x (k : Int)
        rw [hol, if_neg (by decide)] at ej
        rw [hf]
        have e2 : filTo a l L k ++ filN l n (k : Int) L (j + 1) = (filTo a l L k ++ filN l n (k : Int) L j) ++ [⟨n, (k : Int), x⟩] := by rw [ej, List.append_assoc]
        have hone : RowR M RFill 7 [(⟨n, (k : Int), x⟩ : GFill)] [.int .i64 n, .int .i64 (k : Int), .string x.Name, .int .i64 x.Ver.Epoch, .int .i64 x.Ver.Seq, .int .i64 x.Size, .int .i64 x.Sum] := RowR.one ⟨rfl, bnx⟩ rfl rfl
        cases o with
        | none =>
          replace hr : filTo a l L k ++ filN l n (k : Int) L j = [] := hr
          repeat' ((conv => whnf); first | with_reducible refine CondK.tt ?_ | with_reducible refine CondK.ff ?_ | refine IdxK.mk _ rfl (by omega) (by omega) ?_ | refine LdK.mk _ (by assumption) ?_ | refine DrawN.q (by kernel_rfl) ?_ | refine AppK.mk (by decide) (by decide) (.inl (by decide)) rfl (fun cap3 hcap3 => ?_) | fail)
          refine ⟨⟨(j + 1, some (cap3, [.int .i64 n, .int .i64 (k : Int), .string x.Name, .int .i64 x.Ver.Epoch, .int .i64 x.Ver.Seq, .int .i64 x.Size, .int .i64 x.Sum])), hltj, ?_⟩, 4, ⟨⟨rfl, rfl, congrArg (fun t => some (PV.s 4 t cap3 7)) ?_, rfl, rfl, rfl, by first | rfl | exact congrArg (fun t => some (PV.v (Value.bool t))) hf.symm, rfl, rfl, rfl, rfl, rfl, look_int (i64_succ (by omega)), trivial⟩, ⟨rfl, rfl, trivial⟩, rfl, rfl⟩, rfl, by simp only; omega⟩
          · show RowOF M (filTo a l L k ++ filN l n (k : Int) L (j + 1)) _
            rw [e2, hr]
            exact ⟨hcap3, hone⟩
          · rw [e2, hr]
            rfl
        | some q =>
          obtain ⟨cap, ds⟩ := q
          obtain ⟨hr1, hr2⟩ := hr
          repeat' ((conv => whnf); first | with_reducible refine CondK.tt ?_ | with_reducible refine CondK.ff ?_ | refine IdxK.mk _ rfl (by omega) (by omega) ?_ | refine LdK.mk _ (by assumption) ?_ | refine DrawN.q (by kernel_rfl) ?_ | refine AppK.mk (by show (2 * _ + 512) * 64 ≤ 281474976710656; omega) (by omega) (.inr rfl) (by first | exact hr2.all | rfl) (fun cap3 hcap3 => ?_) | fail)
          refine ⟨⟨(j + 1, some (cap3, ds ++ [.int .i64 n, .int .i64 (k : Int), .string x.Name, .int .i64 x.Ver.Epoch, .int .i64 x.Ver.Seq, .int .i64 x.Size, .int .i64 x.Sum])), hltj, ?_⟩, 4, ⟨⟨rfl, rfl, congrArg (fun t => some (PV.s 4 t cap3 7)) ?_, rfl, rfl, rfl, by first | rfl | exact congrArg (fun t => some (PV.v (Value.bool t))) hf.symm, rfl, rfl, rfl, rfl, rfl, look_int (i64_succ (by omega)), trivial⟩, ⟨rfl, rfl, trivial⟩, rfl, rfl⟩, rfl, by simp only; omega⟩
          · show RowOF M (filTo a l L k ++ filN l n (k : Int) L (j + 1)) _
            rw [e2]
            exact ⟨by rw [List.length_append]; exact hcap3, hr2.app hone⟩
          · rw [e2]
            simp only [List.length_append, List.length_singleton]
      · obtain ⟨hixl, _⟩ := List.getElem?_eq_some_iff.1 hyi
        obtain ⟨nd, rfl, B0, d0, B1, d1, B2, d2, B3, d3, bny, ⟨t0, t1, t2, t3⟩, y0, y1, y2, y3, y4, y5, y6, y7, y8, y9, y10, y11, y12⟩ := at_Notice hl2 hyi
        obtain ⟨hy1, hy2⟩ := hch y (List.mem_of_getElem? hyi)
        have hol := hol x (k : Int)
        have hha := holds_a N1 y.State _ ⟨_, _, _, _, _, _, _, _, rfl, trivial, t0, t1, t2, t3⟩ hy1 hy2 x (k : Int)
        rw [← hol] at hha
        rw [hf]
        cases hq : holdN l n x (k : Int) with
        | true =>
          rw [hq, if_pos rfl, List.append_nil] at ej
          rw [hq] at hha
          cases o with
          | none =>
            repeat' ((conv => whnf); first | with_reducible refine CondK.tt ?_ | with_reducible refine CondK.ff ?_ | refine IdxK.mk _ rfl (by omega) (by omega) ?_ | refine LdK.mk _ (by assumption) ?_ | refine DrawN.q (by kernel_rfl) ?_ | refine CallQ.mk _ hha ?_ | fail)
            exact ⟨⟨(j + 1, none), hltj, by show _ = _; rw [ej]; exact hr⟩, 1, ⟨⟨rfl, rfl, rfl, rfl, rfl, rfl, by first | rfl | exact congrArg (fun t => some (PV.v (Value.bool t))) hf.symm, rfl, rfl, rfl, rfl, rfl, look_int (i64_succ (by omega)), trivial⟩, ⟨rfl, trivial⟩, rfl, rfl⟩, rfl, by simp only; omega⟩
          | some q =>
            repeat' ((conv => whnf); first | with_reducible refine CondK.tt ?_ | with_reducible refine CondK.ff ?_ | refine IdxK.mk _ rfl (by omega) (by omega) ?_ | refine LdK.mk _ (by assumption) ?_ | refine DrawN.q (by kernel_rfl) ?_ | refine CallQ.mk _ hha ?_ | fail)
            exact ⟨⟨(j + 1, some q), hltj, by show RowOF M _ _; rw [ej]; exact hr⟩, 1, ⟨⟨rfl, rfl, congrArg (fun t : List GFill => some (PV.s 1 (filTo a l L k ++ t).length q.1 7)) ej.symm, rfl, rfl, rfl, by first | rfl | exact congrArg (fun t => some (PV.v (Value.bool t))) hf.symm, rfl, rfl, rfl, rfl, rfl, look_int (i64_succ (by omega)), trivial⟩, ⟨rfl, rfl, trivial⟩, rfl, rfl⟩, rfl, by simp only; omega⟩
        | false =>
          rw [hq, if_neg (by decide)] at ej
          rw [hq] at hha
          have e2 : filTo a l L k ++ filN l n (k : Int) L (j + 1) = (filTo a l L k ++ filN l n (k : Int) L j) ++ [⟨n, (k : Int), x⟩] := by rw [ej, List.append_assoc]
          have hone : RowR M RFill 7 [(⟨n, (k : Int), x⟩ : GFill)] [.int .i64 n, .int .i64 (k : Int), .string x.Name, .int .i64 x.Ver.Epoch, .int .i64 x.Ver.Seq, .int .i64 x.Size, .int .i64 x.Sum] := RowR.one ⟨rfl, bnx⟩ rfl rfl
          cases o with
          | none =>
            replace hr : filTo a l L k ++ filN l n (k : Int) L j = [] := hr
            repeat' ((conv => whnf); first | with_reducible refine CondK.tt ?_ | with_reducible refine CondK.ff ?_ | refine IdxK.mk _ rfl (by omega) (by omega) ?_ | refine LdK.mk _ (by assumption) ?_ | refine DrawN.q (by kernel_rfl) ?_ | refine CallQ.mk _ hha ?_ | refine AppK.mk (by decide) (by decide) (.inl (by decide)) rfl (fun cap3 hcap3 => ?_) | fail)
            refine ⟨⟨(j + 1, some (cap3, [.int .i64 n, .int .i64 (k : Int), .string x.Name, .int .i64 x.Ver.Epoch, .int .i64 x.Ver.Seq, .int .i64 x.Size, .int .i64 x.Sum])), hltj, ?_⟩, 4, ⟨⟨rfl, rfl, congrArg (fun t => some (PV.s 4 t cap3 7)) ?_, rfl, rfl, rfl, by first | rfl | exact congrArg (fun t => some (PV.v (Value.bool t))) hf.symm, rfl, rfl, rfl, rfl, rfl, look_int (i64_succ (by omega)), trivial⟩, ⟨rfl, rfl, trivial⟩, rfl, rfl⟩, rfl, by simp only; omega⟩
            · show RowOF M (filTo a l L k ++ filN l n (k : Int) L (j + 1)) _
              rw [e2, hr]
              exact ⟨hcap3, hone⟩
            · rw [e2, hr]
              rfl
          | some q =>
            obtain ⟨cap, ds⟩ := q
            obtain ⟨hr1, hr2⟩ := hr
            repeat' ((conv => whnf); first | with_reducible refine CondK.tt ?_ | with_reducible refine CondK.ff ?_ | refine IdxK.mk _ rfl (by omega) (by omega) ?_ | refine LdK.mk _ (by assumption) ?_ | refine DrawN.q (by kernel_rfl) ?_ | refine CallQ.mk _ hha ?_ | refine AppK.mk (by show (2 * _ + 512) * 64 ≤ 281474976710656; omega) (by omega) (.inr rfl) (by first | exact hr2.all | rfl) (fun cap3 hcap3 => ?_) | fail)
            refine ⟨⟨(j + 1, some (cap3, ds ++ [.int .i64 n, .int .i64 (k : Int), .string x.Name, .int .i64 x.Ver.Epoch, .int .i64 x.Ver.Seq, .int .i64 x.Size, .int .i64 x.Sum])), hltj, ?_⟩, 4, ⟨⟨rfl, rfl, congrArg (fun t => some (PV.s 4 t cap3 7)) ?_, rfl, rfl, rfl, by first | rfl | exact congrArg (fun t => some (PV.v (Value.bool t))) hf.symm, rfl, rfl, rfl, rfl, rfl, look_int (i64_succ (by omega)), trivial⟩, ⟨rfl, rfl, trivial⟩, rfl, rfl⟩, rfl, by simp only; omega⟩
            · show RowOF M (filTo a l L k ++ filN l n (k : Int) L (j + 1)) _
              rw [e2]
              exact ⟨by rw [List.length_append]; exact hcap3, hr2.app hone⟩
            · rw [e2]
              simp only [List.length_append, List.length_singleton]
    · have he : j = L.length := by have : ¬ j < L.length := by simpa using h2
                                   omega
      subst he
      cases o with
      | none => exact ⟨⟨((k + 1, none), N1), hlt, by show _ = _; rw [e]; exact hr, hle.trans hl1⟩, 1, ⟨⟨rfl, rfl, rfl, rfl, rfl, look_int (i64_succ (by omega)), trivial⟩, ⟨rfl, trivial⟩, rfl, rfl⟩, rfl, by simp only; omega⟩
      | some q => exact ⟨⟨((k + 1, some q), N1), hlt, by show RowOF M _ _; rw [e]; exact hr, hle.trans hl1⟩, 1, ⟨⟨rfl, rfl, congrArg (fun t : List GFill => some (PV.s 1 t.length q.1 7)) e.symm, rfl, rfl, look_int (i64_succ (by omega)), trivial⟩, ⟨rfl, rfl, trivial⟩, rfl, rfl⟩, rfl, by simp only; omega⟩
  · have he : k = a.length := by have : ¬ k < a.length := by simpa using h1
                                 omega
    subst he
    cases o with
    | none =>
      replace hr : filTo a l L a.length = [] := hr
      exact RetK.mk fun g M' hl hg => ⟨none, 0, slice_eq (by rw [hr]; rfl), slR_eq SlR.nil hr.symm⟩
    | some q =>
      obtain ⟨cap, ds⟩ := q
      obtain ⟨hr1, hr2⟩ := hr
      exact RetK.fr fun g M' hl hg => ⟨_, _, rfl, row_new (RowR.mono (M' := N) hr2 (fun _ _ h => h)) rfl (fun _ _ h => h) hle (hg 1 _ rfl) hr1 (by omega)⟩
theorem l23Fills_a (M : Mem) (a : List Int) (A : Option Addr) (c : Nat) (ha : SlR M RInt 1 8 A c a) (hal : a.length ≤ 7) (s : GPgState) (cs : List Value) (h : RPgState M s cs) (hok : stateOkF s = true) (l : List GNotice) (B : Option Addr) (d : Nat) (hl : SlR M RNotice 13 168 B d l) : AnsR Tryz.prog M 62 #[.slice A a.length c, .agg cs.toArray, .slice B l.length d] (fun M' v => ∃ A' c', v = .slice A' (filTo a l (hdsTo s s.Log.length) a.length).length c' ∧ SlR M' RFill 7 64 A' c' (filTo a l (hdsTo s s.Log.length) a.length)) := by
  have hh := l23All_a M s cs h hok
  have hlen := hds_len hok (Nat.le_refl s.Log.length)
  obtain ⟨A0, c0, A1, c1, A2, c2, A3, c3, rfl, hb, s0, s1, s2, s3⟩ := h
  have hll := hl.len
  refine ansR_of T (l := [.slice A a.length c, .agg (List.toArray _), .slice B l.length d]) mixed Tryz.func62 rfl (by kernel_rfl) (Nat.le_of_ble_eq_true rfl) ?_
  generalize hdsTo s s.Log.length = L at hh hlen
  repeat' ((conv => whnf); first | (refine CallK.mr _ hh (fun u N1 hl1 hv => ?_); obtain ⟨Ag, cg, rfl, hsL⟩ := hv) | fail)
  have hl2 := hl.mono hl1 (RNotice.mono hl1)
  refine LoopK.sw 1 2 {q : Nat × Nat × List Value // q.1 ≤ a.length ∧ (filTo a l L q.1).length ≤ q.2.1 ∧ RowR N1 RFill 7 (filTo a l L q.1) q.2.2} (fun ⟨⟨k, cap, ds⟩, _⟩ => [(0, .v (.slice A a.length c)), (2, .v (.slice B l.length d)), (7, .s 1 (filTo a l L k).length cap 7), (8, .v (.slice Ag L.length cg)), (9, .v (.int .i64 (k : Int)))]) (fun ⟨⟨k, cap, ds⟩, _⟩ => [(1, ds)]) (fun _ => N1) (fun q => a.length - q.1.1) ⟨(0, 0, []), Nat.zero_le _, Nat.le_refl _, RowR.nil⟩ 1 ⟨⟨⟨rfl, rfl, rfl, rfl, rfl, trivial⟩, ⟨rfl, trivial⟩, rfl, rfl⟩, rfl⟩ ?_
  rintro ⟨⟨k, cap, ds⟩, hk, hcap, hr⟩
  simp only at hk hcap hr
  have hsl := filTo_len a l L k
  have hsl2 : (filTo a l L k).length ≤ 7 * 16 := Nat.le_trans hsl (Nat.mul_le_mul (by omega) hlen)
  (conv => whnf)
  refine CondK.mk (fun h1 => ?_) (fun h1 => ?_)
  · have hlt : k < a.length := by simpa using h1
    obtain ⟨n, hnk⟩ : ∃ n, a[k] = n := ⟨_, rfl⟩
    have hy : a[k]? = some n := by rw [List.getElem?_eq_getElem hlt, hnk]
    obtain ⟨ad, rfl, _, x0⟩ := at_Int (ha.mono hl1 (fun _ _ h => h)) hy
    repeat' ((conv => whnf); first | refine IdxK.mk _ rfl (by omega) (by omega) ?_ | refine LdK.mk _ (by assumption) ?_ | refine CallK.mk _ (l22From_a _ l B d hl2 n) ?_ | fail)
    have h00 : filTo a l L k ++ filN l n (k : Int) L 0 = filTo a l L k := by simp [filN]
    refine LoopK.sw 1 2 {q : Nat × Nat × List Value // q.1 ≤ L.length ∧ (0 ≤ n ∨ q.1 = 0) ∧ (filTo a l L k ++ filN l n (k : Int) L q.1).length ≤ q.2.1 ∧ RowR N1 RFill 7 (filTo a l L k ++ filN l n (k : Int) L q.1) q.2.2} (fun ⟨⟨j, cap, ds⟩, _⟩ => [(0, .v (.slice (some ad) a.length c)), (2, .v (.slice B l.length d)), (7, .s 1 (filTo a l L k ++ filN l n (k : Int) L j).length cap 7), (8, .v (.slice Ag L.length cg)), (9, .v (.int .i64 (k : Int))), (10, .v (.int .i64 (ixF (fun y => decide (y.From = n)) l))), (11, .v (.int .i64 (j : Int)))]) (fun ⟨⟨j, cap, ds⟩, _⟩ => [(1, ds)]) (fun _ => N1) (fun q => L.length - q.1.1) ⟨(0, cap, ds), Nat.zero_le _, .inr rfl, by simp only; rw [h00]; exact hcap, by simp only; rw [h00]; exact hr⟩ 1 ⟨⟨⟨rfl, rfl, congrArg (fun t : List GFill => some (PV.s 1 t.length cap 7)) h00.symm, rfl, rfl, rfl, rfl, trivial⟩, ⟨rfl, trivial⟩, rfl, rfl⟩, rfl⟩ ?_

    rintro ⟨⟨j, cap, ds⟩, hj, hj0, hcap, hr⟩
    simp only at hj hj0 hcap hr
    have hfl := filN_len l n (k : Int) L j
    have hlen2 : (filTo a l L k ++ filN l n (k : Int) L j).length ≤ 200 := by rw [List.length_append]; omega
    repeat' ((conv => whnf); first | refine IdxK.mk _ rfl (by omega) (by omega) ?_ | refine LdK.mk _ (by assumption) ?_ | fail)
    (conv => whnf)
    by_cases hneg : n < 0
    · have hj0 : j = 0 := by rcases hj0 with h | h; omega; exact h
      subst hj0
      have e : filTo a l L (k + 1) = filTo a l L k := by show filTo a l L k ++ _ = _; rw [hy]; simp only [if_pos hneg, List.append_nil]
      rw [show decide (n ≥ 0) = false from decide_eq_false (by omega)]
      repeat' ((conv => whnf); first | with_reducible refine CondK.ff ?_ | fail)
      refine ⟨⟨(k + 1, cap, ds), hlt, by simp only; rw [e, ← h00]; exact hcap, by simp only; rw [e, ← h00]; exact hr⟩, 1, ⟨⟨rfl, rfl, congrArg (fun t : List GFill => some (PV.s 1 t.length cap 7)) (e.trans h00.symm).symm, rfl, look_int (i64_succ (by omega)), trivial⟩, ⟨rfl, trivial⟩, rfl, rfl⟩, rfl, by simp only; omega⟩
    have e : filTo a l L (k + 1) = filTo a l L k ++ filN l n (k : Int) L L.length := by show filTo a l L k ++ _ = _; rw [hy]; simp only [if_neg hneg]
    rw [show decide (n ≥ 0) = true from decide_eq_true (by omega)]
    (conv => whnf)
    refine CondK.mk (fun h2 => ?_) (fun h2 => ?_)
    · have hltj : j < L.length := by simpa using h2
      obtain ⟨x, hxk⟩ : ∃ x, L[j] = x := ⟨_, rfl⟩
      have hx : L[j]? = some x := by rw [List.getElem?_eq_getElem hltj, hxk]
      obtain ⟨hd, rfl, bnx, g0, g1, g2, g3, g4⟩ := at_Head hsL hx
      have ej := filN_step (l := l) (n := n) (pos := (k : Int)) hltj
      rw [hxk] at ej
      rcases find_ix l n with ⟨hf, hfn⟩ | ⟨i, y, hf, hyi, hfn⟩
      · have hol : holdN l n x (k : Int) = false := by unfold holdN; rw [hfn]
        rw [hol, if_neg (by decide)] at ej
        rw [hf]
        have e2 : filTo a l L k ++ filN l n (k : Int) L (j + 1) = (filTo a l L k ++ filN l n (k : Int) L j) ++ [⟨n, (k : Int), x⟩] := by rw [ej, List.append_assoc]
        have hone : RowR N1 RFill 7 [(⟨n, (k : Int), x⟩ : GFill)] [.int .i64 n, .int .i64 (k : Int), .string x.Name, .int .i64 x.Ver.Epoch, .int .i64 x.Ver.Seq, .int .i64 x.Size, .int .i64 x.Sum] := RowR.one ⟨rfl, bnx⟩ rfl rfl
        (conv => whnf)
        refine DrawN.q (by kernel_rfl) ?_
        repeat' ((conv => whnf); first | with_reducible refine CondK.tt ?_ | with_reducible refine CondK.ff ?_ | refine IdxK.mk _ rfl (by omega) (by omega) ?_ | refine LdK.mk _ (by assumption) ?_ | refine AppK.mk (by show (2 * _ + 512) * 64 ≤ 281474976710656; omega) (by omega) (.inr rfl) (by first | exact hr.all | rfl) (fun cap3 hcap3 => ?_) | fail)
        (conv => whnf)
        refine DrawN.w [1] {cap3 : Nat // (filTo a l L k ++ filN l n (k : Int) L j).length + 1 ≤ cap3} (fun ⟨cap3, _⟩ => [(0, .v (.slice (some ad) a.length c)), (2, .v (.slice B l.length d)), (7, .s 3 ((filTo a l L k ++ filN l n (k : Int) L j).length + 1) cap3 7), (8, .v (.slice (some hd) L.length cg)), (9, .v (.int .i64 (k : Int))), (10, .v (.int .i64 (-1))), (11, .v (.int .i64 (j : Int)))]) (fun _ => [(3, ds ++ [.int .i64 n, .int .i64 (k : Int), .string x.Name, .int .i64 x.Ver.Epoch, .int .i64 x.Ver.Seq, .int .i64 x.Size, .int .i64 x.Sum])]) 4 (fun _ => N1) (by kernel_rfl) ?_ ?_
        · repeat' ((conv => whnf); first | refine AndK.mk ?_ ?_ | refine HeldK.mk (by kernel_rfl) ?_ | refine IdxK.mk _ rfl (by omega) (by omega) ?_ | refine LdK.mk _ (by assumption) ?_ | refine AppK.mk (by show (2 * _ + 512) * 64 ≤ 281474976710656; omega) (by omega) (.inr rfl) (by first | exact hr.all | rfl) (fun cap3 hcap3 => ?_) | fail)
          all_goals first | exact ⟨⟨cap3, hcap3⟩, ⟨⟨rfl, rfl, rfl, rfl, rfl, rfl, rfl, trivial⟩, ⟨rfl, trivial⟩, rfl, rfl⟩, rfl⟩ | trace_state
        rintro ⟨cap3, hcap3⟩
        (conv => whnf)
        refine ⟨⟨(j + 1, cap3, ds ++ [.int .i64 n, .int .i64 (k : Int), .string x.Name, .int .i64 x.Ver.Epoch, .int .i64 x.Ver.Seq, .int .i64 x.Size, .int .i64 x.Sum]), hltj, .inl (by omega), ?_, ?_⟩, 3, ⟨⟨rfl, rfl, congrArg (fun t => some (PV.s 3 t cap3 7)) ?_, rfl, rfl, by first | rfl | exact congrArg (fun t => some (PV.v (Value.int .i64 t))) hf.symm, look_int (i64_succ (by omega)), trivial⟩, ⟨rfl, trivial⟩, rfl, rfl⟩, rfl, by simp only; omega⟩
        · simp only
          rw [e2, List.length_append]
          exact hcap3
        · simp only
          rw [e2]
          exact hr.app hone
        · rw [e2]
          simp only [List.length_append, List.length_singleton]
      · obtain ⟨hixl, _⟩ := List.getElem?_eq_some_iff.1 hyi
        obtain ⟨nd, rfl, B0, d0, B1, d1, B2, d2, B3, d3, bny, ⟨t0, t1, t2, t3⟩, y0, y1, y2, y3, y4, y5, y6, y7, y8, y9, y10, y11, y12⟩ := at_Notice hl2 hyi
        have hol : holdN l n x (k : Int) = hasAt y.State x (k : Int) := by unfold holdN; rw [hfn]
        have hha := l23Has_a N1 y.State _ ⟨_, _, _, _, _, _, _, _, rfl, trivial, t0, t1, t2, t3⟩ x (k : Int)
        rw [← hol] at hha
        rw [hf]
        cases hq : holdN l n x (k : Int) with
        | true =>
          rw [hq, if_pos rfl, List.append_nil] at ej
          rw [hq] at hha
          repeat' ((conv => whnf); first | with_reducible refine CondK.tt ?_ | with_reducible refine CondK.ff ?_ | refine IdxK.mk _ rfl (by omega) (by omega) ?_ | refine LdK.mk _ (by assumption) ?_ | refine DrawN.q (by kernel_rfl) ?_ | refine CallQ.mk _ hha ?_ | fail)
          exact ⟨⟨(j + 1, cap, ds), hltj, .inl (by omega), by simp only; rw [ej]; exact hcap, by simp only; rw [ej]; exact hr⟩, 1, ⟨⟨rfl, rfl, congrArg (fun t : List GFill => some (PV.s 1 (filTo a l L k ++ t).length cap 7)) ej.symm, rfl, rfl, by first | rfl | exact congrArg (fun t => some (PV.v (Value.int .i64 t))) hf.symm, look_int (i64_succ (by omega)), trivial⟩, ⟨rfl, trivial⟩, rfl, rfl⟩, rfl, by simp only; omega⟩
        | false =>
          rw [hq, if_neg (by decide)] at ej
          rw [hq] at hha
          have e2 : filTo a l L k ++ filN l n (k : Int) L (j + 1) = (filTo a l L k ++ filN l n (k : Int) L j) ++ [⟨n, (k : Int), x⟩] := by rw [ej, List.append_assoc]
          have hone : RowR N1 RFill 7 [(⟨n, (k : Int), x⟩ : GFill)] [.int .i64 n, .int .i64 (k : Int), .string x.Name, .int .i64 x.Ver.Epoch, .int .i64 x.Ver.Seq, .int .i64 x.Size, .int .i64 x.Sum] := RowR.one ⟨rfl, bnx⟩ rfl rfl
          (conv => whnf)
          refine DrawN.q (by kernel_rfl) ?_
          repeat' ((conv => whnf); first | with_reducible refine CondK.tt ?_ | with_reducible refine CondK.ff ?_ | refine IdxK.mk _ rfl (by omega) (by omega) ?_ | refine LdK.mk _ (by assumption) ?_ | refine CallQ.mk _ hha ?_ | refine AppK.mk (by show (2 * _ + 512) * 64 ≤ 281474976710656; omega) (by omega) (.inr rfl) (by first | exact hr.all | rfl) (fun cap3 hcap3 => ?_) | fail)
          (conv => whnf)
          refine DrawN.w [1] {cap3 : Nat // (filTo a l L k ++ filN l n (k : Int) L j).length + 1 ≤ cap3} (fun ⟨cap3, _⟩ => [(0, .v (.slice (some ad) a.length c)), (2, .v (.slice (some nd) l.length d)), (7, .s 3 ((filTo a l L k ++ filN l n (k : Int) L j).length + 1) cap3 7), (8, .v (.slice (some hd) L.length cg)), (9, .v (.int .i64 (k : Int))), (10, .v (.int .i64 ((i : Int)))), (11, .v (.int .i64 (j : Int)))]) (fun _ => [(3, ds ++ [.int .i64 n, .int .i64 (k : Int), .string x.Name, .int .i64 x.Ver.Epoch, .int .i64 x.Ver.Seq, .int .i64 x.Size, .int .i64 x.Sum])]) 4 (fun _ => N1) (by kernel_rfl) ?_ ?_
          · repeat' ((conv => whnf); first | refine AndK.mk ?_ ?_ | refine HeldK.mk (by kernel_rfl) ?_ | refine IdxK.mk _ rfl (by omega) (by omega) ?_ | refine LdK.mk _ (by assumption) ?_ | refine AppK.mk (by show (2 * _ + 512) * 64 ≤ 281474976710656; omega) (by omega) (.inr rfl) (by first | exact hr.all | rfl) (fun cap3 hcap3 => ?_) | fail)
            all_goals first | exact ⟨⟨cap3, hcap3⟩, ⟨⟨rfl, rfl, rfl, rfl, rfl, rfl, rfl, trivial⟩, ⟨rfl, trivial⟩, rfl, rfl⟩, rfl⟩ | trace_state
          rintro ⟨cap3, hcap3⟩
          (conv => whnf)
          refine ⟨⟨(j + 1, cap3, ds ++ [.int .i64 n, .int .i64 (k : Int), .string x.Name, .int .i64 x.Ver.Epoch, .int .i64 x.Ver.Seq, .int .i64 x.Size, .int .i64 x.Sum]), hltj, .inl (by omega), ?_, ?_⟩, 3, ⟨⟨rfl, rfl, congrArg (fun t => some (PV.s 3 t cap3 7)) ?_, rfl, rfl, by first | rfl | exact congrArg (fun t => some (PV.v (Value.int .i64 t))) hf.symm, look_int (i64_succ (by omega)), trivial⟩, ⟨rfl, trivial⟩, rfl, rfl⟩, rfl, by simp only; omega⟩
          · simp only
            rw [e2, List.length_append]
            exact hcap3
          · simp only
            rw [e2]
            exact hr.app hone
          · rw [e2]
            simp only [List.length_append, List.length_singleton]
    · have he : j = L.length := by have : ¬ j < L.length := by simpa using h2
                                   omega
      subst he
      refine ⟨⟨(k + 1, cap, ds), hlt, by simp only; rw [e]; exact hcap, by simp only; rw [e]; exact hr⟩, 1, ⟨⟨rfl, rfl, congrArg (fun t : List GFill => some (PV.s 1 t.length cap 7)) e.symm, rfl, look_int (i64_succ (by omega)), trivial⟩, ⟨rfl, trivial⟩, rfl, rfl⟩, rfl, by simp only; omega⟩
  · have he : k = a.length := by have : ¬ k < a.length := by simpa using h1
                                 omega
    subst he
    exact RetK.mk fun g M' hl hg => ⟨_, _, rfl, row_out hr rfl (fun _ _ h => h) (hg 1 _ rfl) hcap (by omega)⟩
def fofF (a : List Int) (s : GPgState) (l : List GNotice) : Bool := actingF a && (stateOkF s && belF l s.Pg)
def folF (a : List Int) (s : GPgState) (l : List GNotice) : List GFill := if fofF a s l = true then filTo a l (hdsTo s s.Log.length) a.length else []
theorem acting_len {a : List Int} (h : actingF a = true) : a.length ≤ 7 := by
  unfold actingF inR at h
  simp only [Bool.and_eq_true, decide_eq_true_eq] at h
  omega
theorem folF_len (a : List Int) (s : GPgState) (l : List GNotice) : (folF a s l).length ≤ 112 := by
  unfold folF
  split
  · rename_i h
    unfold fofF at h
    simp only [Bool.and_eq_true] at h
    have h1 := acting_len h.1
    have h2 := hds_len h.2.1 (Nat.le_refl s.Log.length)
    exact Nat.le_trans (filTo_len _ _ _ _) (Nat.mul_le_mul h1 h2)
  · simp
theorem fof_cases (a : List Int) (s : GPgState) (l : List GNotice) : (actingF a = false ∧ fofF a s l = false ∧ folF a s l = []) ∨ (actingF a = true ∧ stateOkF s = false ∧ fofF a s l = false ∧ folF a s l = []) ∨ (actingF a = true ∧ stateOkF s = true ∧ belF l s.Pg = false ∧ fofF a s l = false ∧ folF a s l = []) ∨ (actingF a = true ∧ stateOkF s = true ∧ belF l s.Pg = true ∧ fofF a s l = true ∧ folF a s l = filTo a l (hdsTo s s.Log.length) a.length) := by
  unfold folF fofF
  cases actingF a <;> cases stateOkF s <;> cases belF l s.Pg <;> simp
theorem iFillsOf_f (M : Mem) (a : List Int) (A : Option Addr) (c : Nat) (ha : SlR M RInt 1 8 A c a) (s : GPgState) (cs : List Value) (h : RPgState M s cs) (l : List GNotice) (B : Option Addr) (d : Nat) (hl : SlR M RNotice 13 168 B d l) : AnsR Tryz.prog M 21 #[.slice A a.length c, .agg cs.toArray, .slice B l.length d] (fun M' v => ∃ A' c', v = .tuple #[.slice A' (folF a s l).length c', .bool (fofF a s l)] ∧ SlR (sub M' M) RFill 7 64 A' c' (folF a s l)) := by
  have hac := actingOk_a M a A c ha
  have hso := stateOk_a M s cs h
  have hbe := belong_a M l B d hl s.Pg
  have hfi := fun h1 h2 h3 => fills_f M a A c ha h1 s cs h h2 l B d hl h3
  obtain ⟨A0, c0, A1, c1, A2, c2, A3, c3, rfl, hb, s0, s1, s2, s3⟩ := h
  refine ansR_of T (l := [.slice A a.length c, .agg (List.toArray _), .slice B l.length d]) mixed Tryz.func21 rfl (by kernel_rfl) (Nat.le_of_ble_eq_true rfl) ?_
  rcases fof_cases a s l with ⟨h1, e1, e2⟩ | ⟨h1, h2, e1, e2⟩ | ⟨h1, h2, h3, e1, e2⟩ | ⟨h1, h2, h3, e1, e2⟩
  · rw [e1, e2]
    repeat' ((conv => whnf); first | with_reducible refine CondK.tt ?_ | with_reducible refine CondK.ff ?_ | refine CallK.mk (.bool false) (h1 ▸ hac) ?_ | fail)
    exact RetK.mk fun g M' hl hg => ⟨none, 0, rfl, SlR.nil⟩
  · rw [e1, e2]
    repeat' ((conv => whnf); first | with_reducible refine CondK.tt ?_ | with_reducible refine CondK.ff ?_ | refine CallK.mk (.bool true) (h1 ▸ hac) ?_ | refine CallK.mk (.bool false) (h2 ▸ hso) ?_ | fail)
    exact RetK.mk fun g M' hl hg => ⟨none, 0, rfl, SlR.nil⟩
  · rw [e1, e2]
    repeat' ((conv => whnf); first | with_reducible refine CondK.tt ?_ | with_reducible refine CondK.ff ?_ | refine CallK.mk (.bool true) (h1 ▸ hac) ?_ | refine CallK.mk (.bool true) (h2 ▸ hso) ?_ | refine CallK.mk (.bool false) (h3 ▸ hbe) ?_ | fail)
    exact RetK.mk fun g M' hl hg => ⟨none, 0, rfl, SlR.nil⟩
  · rw [e1, e2]
    have h4 : noticesOkF l = true := by unfold belF at h3; simp only [Bool.and_eq_true] at h3; exact h3.1
    have hfi := hfi (acting_len h1) h2 h4
    repeat' ((conv => whnf); first | with_reducible refine CondK.tt ?_ | with_reducible refine CondK.ff ?_ | refine CallK.mk (.bool true) (h1 ▸ hac) ?_ | refine CallK.mk (.bool true) (h2 ▸ hso) ?_ | refine CallK.mk (.bool true) (h3 ▸ hbe) ?_ | (refine CallK.mr _ hfi (fun u N1 hl1 hv => ?_); obtain ⟨Ag, cg, rfl, hsL⟩ := hv) | fail)
    exact RetK.mk fun g M' hl hg => ⟨Ag, cg, rfl, hsL.mono (sub_mono _ hl) (fun _ _ h => h)⟩
theorem sFillsOf_a (M : Mem) (a : List Int) (A : Option Addr) (c : Nat) (ha : SlR M RInt 1 8 A c a) (s : GPgState) (cs : List Value) (h : RPgState M s cs) (l : List GNotice) (B : Option Addr) (d : Nat) (hl : SlR M RNotice 13 168 B d l) : AnsR Tryz.prog M 19 #[.slice A a.length c, .agg cs.toArray, .slice B l.length d] (fun M' v => ∃ A' c', v = .tuple #[.slice A' (folF a s l).length c', .bool (fofF a s l)] ∧ SlR M' RFill 7 64 A' c' (folF a s l)) := by
  have hac := l12Ok_a M a A c ha
  have hof := l23Of_a M s cs h l B d hl
  have hfi := fun h1 h2 => l23Fills_a M a A c ha h1 s cs h h2 l B d hl
  obtain ⟨A0, c0, A1, c1, A2, c2, A3, c3, rfl, hb, s0, s1, s2, s3⟩ := h
  refine ansR_of T (l := [.slice A a.length c, .agg (List.toArray _), .slice B l.length d]) mixed Tryz.func19 rfl (by kernel_rfl) (Nat.le_of_ble_eq_true rfl) ?_
  rcases fof_cases a s l with ⟨h1, e1, e2⟩ | ⟨h1, h2, e1, e2⟩ | ⟨h1, h2, h3, e1, e2⟩ | ⟨h1, h2, h3, e1, e2⟩
  · rw [e1, e2]
    repeat' ((conv => whnf); first | with_reducible refine CondK.tt ?_ | with_reducible refine CondK.ff ?_ | refine CallK.mk (.bool false) (h1 ▸ hac) ?_ | fail)
    exact RetK.mk fun g M' hl hg => ⟨_, _, rfl, SlR.nil⟩
  · rw [e1, e2]
    rw [h2] at hof
    repeat' ((conv => whnf); first | with_reducible refine CondK.tt ?_ | with_reducible refine CondK.ff ?_ | refine CallK.mk (.bool true) (h1 ▸ hac) ?_ | refine CallK.mk (.bool false) hof ?_ | fail)
    exact RetK.mk fun g M' hl hg => ⟨_, _, rfl, SlR.nil⟩
  · rw [e1, e2]
    rw [h2, h3] at hof
    repeat' ((conv => whnf); first | with_reducible refine CondK.tt ?_ | with_reducible refine CondK.ff ?_ | refine CallK.mk (.bool true) (h1 ▸ hac) ?_ | refine CallK.mk (.bool false) hof ?_ | fail)
    exact RetK.mk fun g M' hl hg => ⟨_, _, rfl, SlR.nil⟩
  · rw [e1, e2]
    rw [h2, h3] at hof
    have hfi := hfi (acting_len h1) h2
    repeat' ((conv => whnf); first | with_reducible refine CondK.tt ?_ | with_reducible refine CondK.ff ?_ | refine CallK.mk (.bool true) (h1 ▸ hac) ?_ | refine CallK.mk (.bool true) hof ?_ | (refine CallK.mr _ hfi (fun u N1 hl1 hv => ?_); obtain ⟨Ag, cg, rfl, hsL⟩ := hv) | fail)
    exact RetK.mk fun g M' hl hg => ⟨Ag, cg, rfl, hsL.mono hl (fun _ _ h => h)⟩
end Go.Proofs.YtpkphcgipkmiaaaGreat.Hlp
