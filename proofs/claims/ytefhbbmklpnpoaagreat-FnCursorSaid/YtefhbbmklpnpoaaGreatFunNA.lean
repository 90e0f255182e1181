/- The next heads behind a cursor: both doors. -/
import Derived.Test.YtefhbbmklpnpoaaGreatFunHE
import Derived.Test.YtefhbbmklpnpoaaGreatHlpE
namespace Go.Proofs.YtefhbbmklpnpoaaGreat.Hlp
open Go Go.RowKit Go.Proofs Go.Proofs.YtefhbbmklpnpoaaGreat.Lw
set_option linter.unusedVariables false
set_option linter.unusedSimpArgs false
set_option maxRecDepth 100000
set_option maxHeartbeats 4000000
theorem RowN.base {M0 M1 N : Mem} {z n cap : Nat} {A : Option Addr} {ds : List Value} (h : RowN M0 N z A n cap ds) (hl : Le M1 M0) : RowN M1 N z A n cap ds := by
  rcases h with h | ⟨ad, h1, h2, h3⟩
  · exact .inl h
  · exact .inr ⟨ad, h1, h2, fun a u hu => h3 a u (hl a u hu)⟩
theorem SlR.takeN {α : Type} {M : Mem} {R : Mem → α → List Value → Prop} {z by_ cap : Nat} {A : Option Addr} {l : List α} (h : SlR M R z by_ A cap l) (k : Nat) : SlR M R z by_ A cap (l.take k) := by
  refine ⟨Nat.le_trans (by rw [List.length_take]; exact Nat.min_le_right _ _) h.cap, Nat.le_trans (by rw [List.length_take]; exact Nat.min_le_right _ _) h.len, fun i x hx => ?_⟩
  rw [List.getElem?_take] at hx
  split at hx
  · exact h.el i x hx
  · cases hx
def curOkF (u : GCursor) : Bool := (u.Name.toList == (ByteArray.mk #[]).toList) || nameOkF u.Name
theorem cursorOk_a (M : Mem) (u : GCursor) (hb : u.Name.size ≤ 9223372036854775807) : Ans Tryz.prog M 42 #[.agg #[.bool u.Done, .string u.Name]] (.bool (curOkF u)) := by
  have h1 := nameOk_a M u.Name hb
  refine ans_of T (l := [.agg #[.bool u.Done, .string u.Name]]) mixed Tryz.func42 rfl (by kernel_rfl) (Nat.le_of_ble_eq_true rfl) ?_
  unfold curOkF
  (conv => whnf)
  generalize (u.Name.toList == (ByteArray.mk #[]).toList) = t
  cases t
  all_goals (repeat' ((conv => whnf); first | with_reducible refine CondK.tt ?_ | with_reducible refine CondK.ff ?_ | refine CallK.mk _ h1 ?_ | fail))
  all_goals exact ret_bool rfl
theorem lastHead_a (M : Mem) (l : List GHead) (A : Option Addr) (c : Nat) (h : SlR M RHead 5 48 A c l) (x : GHead) (hx : l[l.length - 1]? = some x) : Ans Tryz.prog M 96 #[.slice A l.length c] (.agg #[.string x.Name, .int .i64 x.Ver.Epoch, .int .i64 x.Ver.Seq, .int .i64 x.Size, .int .i64 x.Sum]) := by
  have hl := h.len
  obtain ⟨p, hp⟩ : ∃ p, p = l.length - 1 := ⟨_, rfl⟩
  rw [← hp] at hx
  have hpl : p < l.length := by
    rcases Nat.lt_or_ge p l.length with h | h
    · exact h
    · rw [List.getElem?_eq_none h] at hx; cases hx
  obtain ⟨ad, rfl, bnx, x0, x1, x2, x3, x4⟩ := at_Head h hx
  refine ans_of T (l := [.slice (some ad) l.length c]) mixed Tryz.func96 rfl (by kernel_rfl) (Nat.le_of_ble_eq_true rfl) ?_
  repeat' ((conv => whnf); first | with_reducible refine CondK.tt ?_ | with_reducible refine CondK.ff ?_ | refine LdK.mk _ (by assumption) ?_ | refine IdxK.at p _ (i64_pred hp (by omega) (by omega)) rfl hpl ?_ | refine DrawN.q (by kernel_rfl) ?_ | fail)
  exact rfl
def leS (a b : ByteArray) : Bool := Op.bytesLess a.toList b.toList || a.toList == b.toList
theorem nextRange1_a (M : Mem) (x : GHead) (u : GCursor) (a : Addr) (h0 : M (a.add 0) = some (.bool u.Done)) (h1 : M (a.add 1) = some (.string u.Name)) : Ans Tryz.prog M 95 #[.agg #[.string x.Name, .int .i64 x.Ver.Epoch, .int .i64 x.Ver.Seq, .int .i64 x.Size, .int .i64 x.Sum], .pointer (some a)] (.bool (leS x.Name u.Name)) := by
  refine ansC_of T (l := [.agg #[.string x.Name, .int .i64 x.Ver.Epoch, .int .i64 x.Ver.Seq, .int .i64 x.Size, .int .i64 x.Sum], .pointer (some a)]) mixed Tryz.func95 rfl (by kernel_rfl) (Nat.le_of_ble_eq_true rfl) ?_
  repeat' ((conv => whnf); first | refine LdK.mk _ (by assumption) ?_ | refine DrawN.q (by kernel_rfl) ?_ | fail)
  exact ret_bool rfl
def nxA (s : GPgState) (u : GCursor) : List GHead := (hdsTo s s.Log.length).filter (fun x => !leS x.Name u.Name)
def nxD (u : GCursor) (n : Int) : Int := if inR n 1 16 = true then (if u.Done = true then 5 else 0) else 2
def nxC (s : GPgState) (u : GCursor) (n : Int) : Int := if stateOkF s = true then (if curOkF u = true then nxD u n else 1) else 1
def nxO (s : GPgState) (u : GCursor) (n : Int) : List GHead := (nxA s u).take n.toNat
def lastNm (l : List GHead) (d : ByteArray) : ByteArray := match l[l.length - 1]? with | some x => x.Name | none => d
def nxU (s : GPgState) (u : GCursor) (n : Int) : GCursor := ⟨decide ((nxO s u n).length = (nxA s u).length), lastNm (nxO s u n) u.Name⟩
def nxRL (s : GPgState) (u : GCursor) (n : Int) : List GHead := if nxC s u n = 0 then nxO s u n else []
def nxRU (s : GPgState) (u : GCursor) (n : Int) : GCursor := if nxC s u n = 0 then nxU s u n else ⟨false, ⟨#[]⟩⟩
theorem nxRL_len (s : GPgState) (u : GCursor) (n : Int) : (nxRL s u n).length ≤ 16 := by
  unfold nxRL
  split
  · rename_i h
    unfold nxC at h
    split at h
    · rename_i h1
      have h2 := hds_len h1 (Nat.le_refl s.Log.length)
      have h3 := List.length_filter_le (fun x : GHead => !leS x.Name u.Name) (hdsTo s s.Log.length)
      unfold nxO nxA
      rw [List.length_take]; omega
    · cases h
  · simp
theorem lastNm_b {l : List GHead} {d : ByteArray} (h : ∀ x ∈ l, x.Name.size ≤ 9223372036854775807) (hd : d.size ≤ 9223372036854775807) : (lastNm l d).size ≤ 9223372036854775807 := by
  unfold lastNm
  split
  · rename_i x hx; exact h x (List.mem_of_getElem? hx)
  · exact hd
theorem nextRange_f (M : Mem) (s : GPgState) (cs : List Value) (h : RPgState M s cs) (hok : stateOkF s = true) (u : GCursor) (n : Int) : AnsR Tryz.prog M 43 #[.agg cs.toArray, .agg #[.bool u.Done, .string u.Name], .int .i64 n] (fun M' r => ∃ A' cap', r = .tuple #[.slice A' (if nxD u n = 0 then nxO s u n else []).length cap', .agg #[.bool (if nxD u n = 0 then nxU s u n else ⟨false, ⟨#[]⟩⟩).Done, .string (if nxD u n = 0 then nxU s u n else ⟨false, ⟨#[]⟩⟩).Name], .int .i64 (nxD u n)] ∧ SlR (sub M' M) RHead 5 48 A' cap' (if nxD u n = 0 then nxO s u n else [])) := by
  have hh := heads_n M s cs h hok
  have hlen := hds_len hok (Nat.le_refl s.Log.length)
  obtain ⟨A0, c0, A1, c1, A2, c2, A3, c3, rfl, hb, s0, s1, s2, s3⟩ := h
  refine ansR_of (T.at M) (l := [.agg (List.toArray _), .agg #[.bool u.Done, .string u.Name], .int .i64 n]) mixed Tryz.func43 rfl (by kernel_rfl) (Nat.le_of_ble_eq_true rfl) ?_ (fun _ ad u h1 h2 => by rw [show M ad = none from h1] at h2; cases h2)
  have hbt := between_a M n 1 16
  cases hn : inR n 1 16 with
  | false =>
    rw [hn] at hbt
    have e : nxD u n = 2 := by unfold nxD; rw [hn]; rfl
    rw [e]
    repeat' ((conv => whnf); first | with_reducible refine CondK.tt ?_ | with_reducible refine CondK.ff ?_ | refine CallK.mk _ hbt ?_ | fail)
    exact RetK.mk fun g M' hl hg => ⟨none, 0, rfl, SlR.nil⟩
  | true =>
  rw [hn] at hbt
  cases hu : u.Done with
  | true =>
    have e : nxD u n = 5 := by unfold nxD; rw [hn, hu]; rfl
    rw [e]
    repeat' ((conv => whnf); first | with_reducible refine CondK.tt ?_ | with_reducible refine CondK.ff ?_ | refine CallK.mk _ hbt ?_ | fail)
    exact RetK.mk fun g M' hl hg => ⟨none, 0, rfl, SlR.nil⟩
  | false =>
    have e : nxD u n = 0 := by unfold nxD; rw [hn, hu]; rfl
    rw [e, if_pos rfl, if_pos rfl]
    have hn1 : 1 ≤ n ∧ n ≤ 16 := by unfold inR at hn; simpa using hn
    unfold nxU nxO nxA
    generalize hdsTo s s.Log.length = l at hh hlen
    repeat' ((conv => whnf); first | with_reducible refine CondK.tt ?_ | with_reducible refine CondK.ff ?_ | refine CallK.mk _ hbt ?_ | (refine CallK.mr _ hh (fun u M1 hl1 hv => ?_); obtain ⟨Ag, cg, dg, rfl, hr, hn⟩ := hv) | fail)
    refine PubK.fr fun av N2 hl2 hc2 hroom hfresh hdom => ?_
    (conv => whnf)
    have hn2 := hn.mono hl2
    refine delFHead_k rfl hn2 hr (hl1.trans hl2) (by omega) _ av (fun x => leS x.Name u.Name) [.bool u.Done, .string u.Name] (hu ▸ hc2) (fun b u hu => hfresh b u (hl1 b u hu)) (fun ad had hpos => ?_) (fun M1 hM1 x => nextRange1_a M1 x u av (hM1 0 _ rfl) (hM1 1 _ rfl)) (fun N' ds' hN' hrow' hr' hcp => ?_)
    · rcases hn with ⟨h3, h4, _⟩ | ⟨ad1, h3, hrc, _⟩
      · omega
      · rw [had] at h3
        cases h3
        obtain ⟨u, hu⟩ := hrc.room 0 (by have := hrc.le; omega)
        have := hfresh _ u hu
        rwa [add_block] at this
    have hfl := List.length_filter_le (fun x : GHead => !leS x.Name u.Name) l
    generalize l.filter (fun x => !leS x.Name u.Name) = L at hrow' hr' hfl
    have hsl : SlR N' RHead 5 48 Ag cg L := hrow'.sl hr' (fun _ _ h => h) (by omega)
    have hlc := hsl.cap
    obtain ⟨k, hk⟩ : ∃ k, k = (L.take n.toNat).length := ⟨_, rfl⟩
    have hk2 : (k : Int) = if (L.length : Int) < n then (L.length : Int) else n := by
      rw [hk, List.length_take]
      split <;> omega
    have hkl : k ≤ L.length := by rw [hk, List.length_take]; omega
    (conv => whnf)
    refine SlN.mk 0 k Ag k cg rfl hk2.symm (Nat.zero_le _) (by omega) (by split; rfl; cases Ag with | none => rfl | some a => simp [add0]) (by omega) (by omega) ?_
    (conv => whnf)
    have hso : SlR N' RHead 5 48 Ag cg (L.take n.toNat) := SlR.takeN hsl _
    generalize hLt : L.take n.toNat = O at hso hk
    have hdl : ((k : Int) == (L.length : Int)) = decide (O.length = L.length) := by rw [hk, Bool.eq_iff_iff]; simp; omega
    have hd1 := hcp 1 _ rfl
    subst hk
    by_cases h0 : O.length = 0
    · have hO : O = [] := List.eq_nil_of_length_eq_zero (by omega)
      have hln : lastNm O u.Name = u.Name := by rw [hO]; rfl
      repeat' ((conv => whnf); first | refine LdK.mk _ (by assumption) ?_ | refine CondK.no' (show decide ((0 : Int) < (O.length : Int)) = false from decide_eq_false (by omega)) ?_ | fail)
      refine DrawN.w [2] {q : Mem × Option Addr × Nat × List Value // Le N' q.1 ∧ RowR N' RHead 5 O q.2.2.2 ∧ RowN N' q.1 5 q.2.1 O.length q.2.2.1 q.2.2.2} (fun ⟨(_, A', c', _), _⟩ => [(6, .v (.slice A' O.length c')), (7, .p 2 0), (8, .v (.int .i64 0))]) (fun _ => [(2, [.bool (decide (O.length = L.length)), .string (lastNm O u.Name)])]) 9 (fun q => q.1.1) (by kernel_rfl) ?_ ?_
      · repeat' ((conv => whnf); first | refine AndK.mk ?_ ?_ | refine HeldK.mk (by kernel_rfl) ?_ | (refine CallK.mr _ (cloneHead_f N' O Ag cg hso (by omega)) (fun v N3 hl3 hv => ?_); obtain ⟨A4, c4, d4, rfl, r4, n4⟩ := hv) | fail)
        all_goals exact ⟨⟨(_, _, _, _), hl3, r4, n4⟩, ⟨⟨rfl, rfl, rfl, trivial⟩, ⟨by rw [← hdl, hln]; rfl, trivial⟩, rfl, rfl⟩, rfl⟩
      rintro ⟨⟨N4, A4, c4, d4⟩, hl4, r4, n4⟩
      simp only at hl4 r4 n4
      exact RetK.mk fun g M' hl hg => ⟨A4, c4, rfl, ((n4.mono hl).base hN').slS r4 (fun _ _ h => h) (by omega)⟩
    · obtain ⟨x, hx⟩ : ∃ x, O[O.length - 1]? = some x := ⟨_, List.getElem?_eq_getElem (by omega)⟩
      have hln : lastNm O u.Name = x.Name := by unfold lastNm; rw [hx]
      have hla := lastHead_a N' O Ag cg hso x hx
      repeat' ((conv => whnf); first | refine LdK.mk _ (by assumption) ?_ | refine CallK.mk _ hla ?_ | refine CondK.yes' (show decide ((0 : Int) < (O.length : Int)) = true from decide_eq_true (by omega)) ?_ | fail)
      refine DrawN.w [2] {q : Mem × Option Addr × Nat × List Value // Le N' q.1 ∧ RowR N' RHead 5 O q.2.2.2 ∧ RowN N' q.1 5 q.2.1 O.length q.2.2.1 q.2.2.2} (fun ⟨(_, A', c', _), _⟩ => [(6, .v (.slice A' O.length c')), (7, .p 2 0), (8, .v (.int .i64 0))]) (fun _ => [(2, [.bool (decide (O.length = L.length)), .string (lastNm O u.Name)])]) 9 (fun q => q.1.1) (by kernel_rfl) ?_ ?_
      · repeat' ((conv => whnf); first | refine AndK.mk ?_ ?_ | refine HeldK.mk (by kernel_rfl) ?_ | (refine CallK.mr _ (cloneHead_f N' O Ag cg hso (by omega)) (fun v N3 hl3 hv => ?_); obtain ⟨A4, c4, d4, rfl, r4, n4⟩ := hv) | fail)
        all_goals exact ⟨⟨(_, _, _, _), hl3, r4, n4⟩, ⟨⟨rfl, rfl, rfl, trivial⟩, ⟨by rw [← hdl, hln]; rfl, trivial⟩, rfl, rfl⟩, rfl⟩
      rintro ⟨⟨N4, A4, c4, d4⟩, hl4, r4, n4⟩
      simp only at hl4 r4 n4
      exact RetK.mk fun g M' hl hg => ⟨A4, c4, rfl, ((n4.mono hl).base hN').slS r4 (fun _ _ h => h) (by omega)⟩
theorem nxC_cases (s : GPgState) (u : GCursor) (n : Int) : (stateOkF s = false ∧ nxC s u n = 1) ∨ (stateOkF s = true ∧ curOkF u = false ∧ nxC s u n = 1) ∨ (stateOkF s = true ∧ curOkF u = true ∧ nxC s u n = nxD u n) := by
  unfold nxC
  cases h : stateOkF s with
  | false => exact .inl ⟨rfl, by simp⟩
  | true =>
    cases h2 : curOkF u with
    | false => exact .inr (.inl ⟨rfl, rfl, by simp⟩)
    | true => exact .inr (.inr ⟨rfl, rfl, by simp⟩)
theorem iNextRange_f (M : Mem) (s : GPgState) (cs : List Value) (h : RPgState M s cs) (u : GCursor) (hb : u.Name.size ≤ 9223372036854775807) (n : Int) : AnsR Tryz.prog M 14 #[.agg cs.toArray, .agg #[.bool u.Done, .string u.Name], .int .i64 n] (fun M' r => ∃ A' cap', r = .tuple #[.slice A' (nxRL s u n).length cap', .agg #[.bool (nxRU s u n).Done, .string (nxRU s u n).Name], .int .i64 (nxC s u n)] ∧ SlR (sub M' M) RHead 5 48 A' cap' (nxRL s u n)) := by
  have hso := stateOk_a M s cs h
  have hnr := nextRange_f M s cs h
  have hcu := cursorOk_a M u hb
  obtain ⟨A0, c0, A1, c1, A2, c2, A3, c3, rfl, hbb, s0, s1, s2, s3⟩ := h
  refine ansR_of T (l := [.agg (List.toArray _), .agg #[.bool u.Done, .string u.Name], .int .i64 n]) mixed Tryz.func14 rfl (by kernel_rfl) (Nat.le_of_ble_eq_true rfl) ?_
  unfold nxRL nxRU
  rcases nxC_cases s u n with ⟨h1, e⟩ | ⟨h1, h2, e⟩ | ⟨h1, h2, e⟩
  · rw [e, if_neg (by decide), if_neg (by decide)]
    repeat' ((conv => whnf); first | with_reducible refine CondK.tt ?_ | with_reducible refine CondK.ff ?_ | refine CallK.mk (.bool false) (h1 ▸ hso) ?_ | refine GuardK.mk (fun h => ?_) (fun h => ?_) | fail)
    all_goals first | (exfalso; simp_all; done) | exact RetK.mk fun g M' hl hg => ⟨none, 0, rfl, SlR.nil⟩
  · rw [e, if_neg (by decide), if_neg (by decide)]
    repeat' ((conv => whnf); first | with_reducible refine CondK.tt ?_ | with_reducible refine CondK.ff ?_ | refine CallK.mk (.bool true) (h1 ▸ hso) ?_ | refine CallK.mk (.bool false) (h2 ▸ hcu) ?_ | refine GuardK.mk (fun h => ?_) (fun h => ?_) | fail)
    all_goals first | (exfalso; simp_all; done) | exact RetK.mk fun g M' hl hg => ⟨none, 0, rfl, SlR.nil⟩
  · rw [e]
    have hnr := hnr h1 u n
    repeat' ((conv => whnf); first | with_reducible refine CondK.tt ?_ | with_reducible refine CondK.ff ?_ | refine CallK.mk (.bool true) (h1 ▸ hso) ?_ | refine CallK.mk (.bool true) (h2 ▸ hcu) ?_ | (refine CallK.mr _ hnr (fun v M3 hl3 hv => ?_); obtain ⟨A4, c4, rfl, r4⟩ := hv) | refine GuardK.mk (fun h => ?_) (fun h => ?_) | fail)
    exact RetK.mk fun g M' hl hg => ⟨A4, c4, rfl, r4.mono (sub_mono _ hl) (fun _ _ h => h)⟩
end Go.Proofs.YtefhbbmklpnpoaaGreat.Hlp
