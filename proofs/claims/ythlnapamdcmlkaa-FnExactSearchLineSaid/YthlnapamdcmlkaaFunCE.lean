/- SearchLine: the program's search for an order of some calls. -/
import Derived.Test.YthlnapamdcmlkaaFunCD
import Derived.Test.YthlnapamdcmlkaaIns
import Derived.Test.YthlnapamdcmlkaaPlS
namespace Go.Proofs.Ythlnapamdcmlkaa.Hlp
open Go Go.RowKit Go.Proofs Go.Proofs.Ythlnapamdcmlkaa.Lw Go.Proofs.Ythlnapamdcmlkaa.SL
set_option linter.unusedVariables false
set_option linter.unusedSimpArgs false
set_option maxRecDepth 100000
set_option maxHeartbeats 4000000
theorem RowN.base {M N1 N2 : Mem} {z n cap : Nat} {A : Option Addr} {ds : List Value} (h : RowN N1 N2 z A n cap ds) (hl : Le M N1) : RowN M N2 z A n cap ds := by
  rcases h with h | ⟨ad, h1, h2, h3⟩
  · exact .inl h
  · exact .inr ⟨ad, h1, h2, fun a u hu => h3 a u (hl _ _ hu)⟩
theorem sequence1_a (M : Mem) (o x : GCall) (a : Addr) (ha : ∀ j u, ([.int .i64 x.Client, .int .i64 x.No, .int .i64 x.Pg.Pool, .int .i64 x.Pg.No, .string x.Name, .int .i64 x.Op.Kind, .int .i64 x.Op.At, .string x.Op.Bytes, .int .i64 x.Begin, .int .i64 x.End, .int .i64 x.Code, .int .i64 x.Ver.Epoch, .int .i64 x.Ver.Seq, .string x.Body] : List Value)[j]? = some u → M (a.add j) = some u) : Ans Try.prog M 43 #[.agg (List.toArray [.int .i64 o.Client, .int .i64 o.No, .int .i64 o.Pg.Pool, .int .i64 o.Pg.No, .string o.Name, .int .i64 o.Op.Kind, .int .i64 o.Op.At, .string o.Op.Bytes, .int .i64 o.Begin, .int .i64 o.End, .int .i64 o.Code, .int .i64 o.Ver.Epoch, .int .i64 o.Ver.Seq, .string o.Body]), .pointer (some a)] (.bool (befF o x)) := by
  refine ansC_of T (l := [.agg (List.toArray [.int .i64 o.Client, .int .i64 o.No, .int .i64 o.Pg.Pool, .int .i64 o.Pg.No, .string o.Name, .int .i64 o.Op.Kind, .int .i64 o.Op.At, .string o.Op.Bytes, .int .i64 o.Begin, .int .i64 o.End, .int .i64 o.Code, .int .i64 o.Ver.Epoch, .int .i64 o.Ver.Seq, .string o.Body]), .pointer (some a)]) mixed Try.func43 rfl (by kernel_rfl) (Nat.le_of_ble_eq_true rfl) ?_
  have x0 := ha 0 _ rfl
  have x1 := ha 1 _ rfl
  have x2 := ha 2 _ rfl
  have x3 := ha 3 _ rfl
  have x4 := ha 4 _ rfl
  have x5 := ha 5 _ rfl
  have x6 := ha 6 _ rfl
  have x7 := ha 7 _ rfl
  have x8 := ha 8 _ rfl
  have x9 := ha 9 _ rfl
  have x10 := ha 10 _ rfl
  have x11 := ha 11 _ rfl
  have x12 := ha 12 _ rfl
  have x13 := ha 13 _ rfl
  repeat' ((conv => whnf); first | refine LdK.mk _ (by assumption) ?_ | refine CallK.mk _ (before_a _ o x) ?_ | fail)
  (conv => whnf)
  exact rfl
theorem sequence_r : ∀ (n : Nat) (M : Mem) (l : List GCall) (A : Option Addr) (c : Nat) (h : SlR M RCall 14 136 A c l) (hn : l.length = n) (h6 : n ≤ 6) (hk : ∀ x ∈ l, kindOk x) (body : ByteArray) (there : Bool), AnsR Try.prog M 28 #[.slice A l.length c, .string body, .bool there] (fun _ v => ∃ b, v = .bool b ∧ (b = true ↔ SeqI befF stepC l (body, there)))
  | 0, M, l, A, c, h, hn, h6, hk, body, there => by
    have hl : l = [] := List.eq_nil_of_length_eq_zero hn
    subst hl
    refine ansR_of (T.at M) (l := [.slice A ([] : List GCall).length c, .string body, .bool there]) mixed Try.func28 rfl (by kernel_rfl) (Nat.le_of_ble_eq_true rfl) ?_ (fun _ ad u h1 h2 => by rw [show M ad = none from h1] at h2; cases h2)
    repeat' ((conv => whnf); first | with_reducible refine CondK.tt ?_ | with_reducible refine CondK.ff ?_ | refine CondK.yes' rfl ?_ | fail)
    (conv => whnf)
    exact RetK.mk fun g M' hl hg => ⟨true, rfl, by simp; exact .nil _⟩
  | n + 1, M, l, A, c, h, hn, h6, hk, body, there => by
    have hlen := h.len
    refine ansR_of (T.at M) (l := [.slice A l.length c, .string body, .bool there]) mixed Try.func28 rfl (by kernel_rfl) (Nat.le_of_ble_eq_true rfl) ?_ (fun _ ad u h1 h2 => by rw [show M ad = none from h1] at h2; cases h2)
    (conv => whnf)
    refine CondK.no' (by rw [hn]; rfl) ?_
    (conv => whnf)
    obtain ⟨W, hW⟩ : ∃ W : Nat → Prop, W = fun j => ∀ (hj : j < l.length), ¬ ((∀ o ∈ l, befF o (l[j]'hj) = false) ∧ ∃ s', stepC (l[j]'hj) (body, there) = some s' ∧ SeqI befF stepC (l.eraseIdx j) s') := ⟨_, rfl⟩
    refine LoopK.mk {q : Nat × Mem // q.1 ≤ l.length ∧ Le M q.2 ∧ ∀ j, j < q.1 → W j} (fun ⟨⟨k, _⟩, _⟩ => [(0, .v (.slice A l.length c)), (1, .v (.string body)), (2, .v (.bool there)), (15, .v (.slice A l.length c)), (16, .v (.int .i64 (l.length : Int))), (17, .v (.int .i64 (k : Int)))]) (fun _ => []) (fun q => q.1.2) (fun q => l.length - q.1.1) ⟨(0, M), Nat.zero_le _, Le.refl M, fun j hj => absurd hj (by simp)⟩ ⟨⟨⟨rfl, rfl, rfl, rfl, rfl, rfl, trivial⟩, trivial, rfl, rfl⟩, rfl⟩ ?_
    rintro ⟨⟨k, N⟩, hkl, hN, hp⟩
    replace hkl : k ≤ l.length := hkl
    replace hN : Le M N := hN
    replace hp : ∀ j, j < k → W j := hp
    replace h := h.mono hN (RCall.mono hN)
    (conv => whnf)
    refine CondK.mk (fun h1 => ?_) (fun h1 => ?_)
    · have hlt : k < l.length := by simpa using h1
      have hx := List.getElem?_eq_getElem hlt
      obtain ⟨ad, rfl, bnx, x0, x1, x2, x3, x4, x5, x6, x7, x8, x9, x10, x11, x12, x13⟩ := at_Call h hx
      repeat' ((conv => whnf); first | with_reducible refine CondK.tt ?_ | with_reducible refine CondK.ff ?_ | refine IdxK.mk _ rfl (by omega) (by omega) ?_ | refine LdK.mk _ (by assumption) ?_ | fail)
      (conv => whnf)
      refine PubK.mk fun a M1 hl1 hc1 => ?_
      have g3 := hasCall_a M1 l _ c (h.mono hl1 (RCall.mono hl1)) 43 a (fun o => befF o l[k]) (fun x hx => sequence1_a M1 x l[k] a (fun j u hu => hc1 j u hu))
      have xa : ∀ j u, ([.int .i64 l[k].Client, .int .i64 l[k].No, .int .i64 l[k].Pg.Pool, .int .i64 l[k].Pg.No, .string l[k].Name, .int .i64 l[k].Op.Kind, .int .i64 l[k].Op.At, .string l[k].Op.Bytes, .int .i64 l[k].Begin, .int .i64 l[k].End, .int .i64 l[k].Code, .int .i64 l[k].Ver.Epoch, .int .i64 l[k].Ver.Seq, .string l[k].Body] : List Value)[j]? = some u → M1 (a.add j) = some u := fun j u hu => hc1 j u hu
      cases q : l.any (fun o => befF o l[k]) with
      | true =>
        rw [q] at g3
        repeat' ((conv => whnf); first | with_reducible refine CondK.tt ?_ | with_reducible refine CondK.ff ?_ | refine CallK.mk _ g3 ?_ | fail)
        (conv => whnf)
        refine ⟨⟨(k + 1, M1), hlt, hN.trans hl1, fun j hj => ?_⟩, ⟨⟨rfl, rfl, rfl, rfl, rfl, look_int (i64_succ (by omega)), trivial⟩, trivial, rfl, rfl⟩, rfl, by simp; omega⟩
        rcases Nat.lt_succ_iff_lt_or_eq.mp hj with hj | rfl
        · exact hp j hj
        · rw [hW]
          rintro hj ⟨hb, _⟩
          obtain ⟨o, ho, hb'⟩ := List.any_eq_true.1 q
          rw [hb o ho] at hb'
          cases hb'
      | false =>
        rw [q] at g3
        have hb : ∀ o ∈ l, befF o l[k] = false := fun o ho => by
          have := List.any_eq_false.1 q o ho
          simpa using this
        have g4 := fits_a M1 l[k] body there (hk _ (List.getElem_mem hlt))
        have z0 := xa 0 _ rfl
        have z1 := xa 1 _ rfl
        have z2 := xa 2 _ rfl
        have z3 := xa 3 _ rfl
        have z4 := xa 4 _ rfl
        have z5 := xa 5 _ rfl
        have z6 := xa 6 _ rfl
        have z7 := xa 7 _ rfl
        have z8 := xa 8 _ rfl
        have z9 := xa 9 _ rfl
        have z10 := xa 10 _ rfl
        have z11 := xa 11 _ rfl
        have z12 := xa 12 _ rfl
        have z13 := xa 13 _ rfl
        have hst : stepC l[k] (body, there) = if (fitsV l[k] body there).2.2 then some ((fitsV l[k] body there).1, (fitsV l[k] body there).2.1) else none := rfl
        generalize fitsV l[k] body there = r at g4 hst
        obtain ⟨b2, t2, ok⟩ := r
        simp only at g4 hst
        cases ok with
        | false =>
          repeat' ((conv => whnf); first | with_reducible refine CondK.tt ?_ | with_reducible refine CondK.ff ?_ | refine LdK.mk _ (by assumption) ?_ | refine CallK.mk _ g3 ?_ | refine CallK.mk _ g4 ?_ | fail)
          (conv => whnf)
          refine ⟨⟨(k + 1, M1), hlt, hN.trans hl1, fun j hj => ?_⟩, ⟨⟨rfl, rfl, rfl, rfl, rfl, look_int (i64_succ (by omega)), trivial⟩, trivial, rfl, rfl⟩, rfl, by simp; omega⟩
          rcases Nat.lt_succ_iff_lt_or_eq.mp hj with hj | rfl
          · exact hp j hj
          · rw [hW]
            rintro hj ⟨_, s', hs, _⟩
            rw [hst] at hs
            cases hs
        | true =>
          repeat' ((conv => whnf); first | with_reducible refine CondK.tt ?_ | with_reducible refine CondK.ff ?_ | refine LdK.mk _ (by assumption) ?_ | refine CallK.mk _ g3 ?_ | refine CallK.mk _ g4 ?_ | fail)
          (conv => whnf)
          have hM1 : Le M M1 := hN.trans hl1
          have h2 := h.mono hl1 (RCall.mono hl1)
          refine CallK.mr _ (cloneCall_f M1 l _ c h2 (by omega)) (fun v M2 hl2 hv => ?_)
          obtain ⟨A', cap', ds, rfl, hr, hrow⟩ := hv
          repeat' ((conv => whnf); first | with_reducible refine CondK.tt ?_ | with_reducible refine CondK.ff ?_ | fail)
          (conv => whnf)
          refine delCall_k (i64_succ (by omega)) rfl (hrow.base hM1) (hM1.trans hl2) hr.all hlt (by omega) (fun N3 hN3 hrow' => ?_)
          have he : (l.eraseIdx k).length = l.length - 1 := List.length_eraseIdx_of_lt hlt
          have hr3 : RowR N3 RCall 14 (l.eraseIdx k) (ds.take (k * 14) ++ ds.drop ((k + 1) * 14)) := by
            rw [List.eraseIdx_eq_take_drop_succ]
            exact ((RowR.take hr k).app (RowR.drop hr (k + 1))).mono fun x cs hx => hx
          have hsl : SlR N3 RCall 14 136 A' cap' (l.eraseIdx k) := (he ▸ hrow' : RowN M N3 14 A' (l.eraseIdx k).length cap' _).sl hr3 (fun _ _ h => h) (by omega)
          have ih := sequence_r n N3 (l.eraseIdx k) A' cap' hsl (by omega) (by omega) (fun x hx => hk x (List.mem_of_mem_eraseIdx hx)) b2 t2
          rw [he] at ih
          repeat' ((conv => whnf); first | with_reducible refine CondK.tt ?_ | with_reducible refine CondK.ff ?_ | fail)
          (conv => whnf)
          refine CallK.mr _ ih (fun v M4 hl4 hv => ?_)
          obtain ⟨b, rfl, hb4⟩ := hv
          cases b with
          | true =>
            repeat' ((conv => whnf); first | with_reducible refine CondK.tt ?_ | with_reducible refine CondK.ff ?_ | fail)
            (conv => whnf)
            exact RetK.mk fun g M' hl hg => ⟨true, rfl, by simp; exact .step l _ (b2, t2) k hlt hb hst (hb4.1 rfl)⟩
          | false =>
            repeat' ((conv => whnf); first | with_reducible refine CondK.tt ?_ | with_reducible refine CondK.ff ?_ | fail)
            (conv => whnf)
            refine ⟨⟨(k + 1, M4), hlt, hN3.trans hl4, fun j hj => ?_⟩, ⟨⟨rfl, rfl, rfl, rfl, rfl, look_int (i64_succ (by omega)), trivial⟩, trivial, rfl, rfl⟩, rfl, by simp; omega⟩
            rcases Nat.lt_succ_iff_lt_or_eq.mp hj with hj | rfl
            · exact hp j hj
            · rw [hW]
              rintro hj ⟨_, s', hs, h5⟩
              rw [hst] at hs
              cases hs
              exact absurd (hb4.2 h5) (by decide)
    · have he : ¬ k < l.length := by simpa using h1
      repeat' ((conv => whnf); first | with_reducible refine CondK.tt ?_ | with_reducible refine CondK.ff ?_ | fail)
      (conv => whnf)
      refine RetK.mk fun g M' hl hg => ⟨false, rfl, ?_⟩
      simp only [Bool.false_eq_true, false_iff]
      intro hs
      cases hs with
      | nil => simp at hn
      | step _ _ s' i hi hb h1 h2 =>
        have := hp i (by omega)
        rw [hW] at this
        exact this hi ⟨hb, s', h1, h2⟩
end Go.Proofs.Ythlnapamdcmlkaa.Hlp
