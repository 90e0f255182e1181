/- SearchLine: the program's choice of calls. -/
import Derived.Test.YthlnapamdcmlkaaFunCE
namespace Go.Proofs.Ythlnapamdcmlkaa.Hlp
open Go Go.RowKit Go.Proofs Go.Proofs.Ythlnapamdcmlkaa.Lw Go.Proofs.Ythlnapamdcmlkaa.SL
set_option linter.unusedVariables false
set_option linter.unusedSimpArgs false
set_option maxRecDepth 100000
set_option maxHeartbeats 4000000
theorem RowN.w {M N N1 : Mem} {z len cap : Nat} {ad : Addr} {ds vs : List Value} (h : RowN M N z (some ad) len cap ds) (hv : vs.length = z) (hle : len + 1 ≤ cap) (k1 : ∀ o u, vs[o]? = some u → N1 ((ad.add (len * z)).add o) = some u) (k2 : ∀ a, (∀ o, o < vs.length → a ≠ (ad.add (len * z)).add o) → N1 a = N a) : RowN M N1 z (some ad) (len + 1) cap (ds ++ vs) := by
  rcases h with ⟨h, _⟩ | ⟨ad', h1, h2, h3⟩
  · cases h
  · cases h1
    have hl := h2.len
    refine .inr ⟨ad, rfl, RowC.wr h2 k1 k2 (by rw [List.length_append, hl, hv, Nat.add_mul, Nat.one_mul]) hle (fun o u hu => ?_), h3⟩
    rcases Nat.lt_or_ge o ds.length with ho | ho
    · rw [List.getElem?_append_left ho] at hu
      exact .inr ⟨.inl (by omega), h2.el o u hu⟩
    · rw [List.getElem?_append_right ho] at hu
      exact .inl ⟨by omega, by rw [← hl]; exact hu⟩
theorem RowN.kept {M N N1 : Mem} {z len cap q : Nat} {ad : Addr} {ds vs : List Value} (h : RowN M N z (some ad) len cap ds) (hl : Le M N) (k2 : ∀ a, (∀ o, o < vs.length → a ≠ (ad.add q).add o) → N1 a = N a) : Le M N1 := fun a u hu => by
  rcases h with ⟨h, _⟩ | ⟨ad', h1, h2, h3⟩
  · cases h
  · cases h1
    rw [k2 a fun o _ he => h3 a u hu (by rw [he, add_block, add_block])]
    exact hl a u hu
theorem RowN.pub {M N N1 : Mem} {z len cap m : Nat} {ad : Addr} {ds : List Value} (hMN : Le M N) (hlen : ds.length = len * z) (hle : len ≤ cap) (hc : ∀ o u, ds[o]? = some u → N1 (ad.add o) = some u) (hroom : ∀ o, o < cap * z → ∃ u, N1 (ad.add o) = some u) (hf : ∀ a u, N a = some u → a.block ≠ ad.block) : RowN M N1 z (some ad) len cap ds :=
  .inr ⟨ad, rfl, ⟨hlen, hle, hc, hroom⟩, fun a u hu => hf a u (hMN a u hu)⟩
theorem freshA (M : Mem) {ad : Addr} (h : ∀ a u, M a = some u → a.block ≠ ad.block) (p q : Nat) : M ((ad.add p).add q) = none := by
  cases hm : M ((ad.add p).add q) with
  | none => rfl
  | some u => exact absurd (by rw [add_block, add_block]) (h _ u hm)
theorem slApp {M N : Mem} {ad : Addr} {cap : Nat} {ch : List GCall} {y : GCall} {ds : List Value} (hr : RowR M RCall 14 ch ds) (hb : y.Name.size ≤ 9223372036854775807 ∧ y.Op.Bytes.size ≤ 9223372036854775807 ∧ y.Body.size ≤ 9223372036854775807) (h6 : ch.length ≤ 6) (h : RowC N ad 14 (ch.length + 1) cap (ds ++ [.int .i64 y.Client, .int .i64 y.No, .int .i64 y.Pg.Pool, .int .i64 y.Pg.No, .string y.Name, .int .i64 y.Op.Kind, .int .i64 y.Op.At, .string y.Op.Bytes, .int .i64 y.Begin, .int .i64 y.End, .int .i64 y.Code, .int .i64 y.Ver.Epoch, .int .i64 y.Ver.Seq, .string y.Body])) : SlR N RCall 14 136 (some ad) cap (ch ++ [y]) := by
  have e : (ch ++ [y]).length = ch.length + 1 := by simp
  refine RowC.sl (M' := M) (ds := ds ++ [.int .i64 y.Client, .int .i64 y.No, .int .i64 y.Pg.Pool, .int .i64 y.Pg.No, .string y.Name, .int .i64 y.Op.Kind, .int .i64 y.Op.At, .string y.Op.Bytes, .int .i64 y.Begin, .int .i64 y.End, .int .i64 y.Code, .int .i64 y.Ver.Epoch, .int .i64 y.Ver.Seq, .string y.Body]) (by rw [e]; exact h) (hr.app (RowR.one ⟨rfl, hb⟩ rfl rfl)) (fun x cs hx => hx) (by rw [e]; omega)
theorem SlR.tail {M : Mem} {A : Option Addr} {c : Nat} {y : GCall} {r : List GCall} (h : SlR M RCall 14 136 A c (y :: r)) : SlR M RCall 14 136 (if c = 1 then A else A.map (·.add (1 * 14))) (c - 1) r := by
  have := h.sub (lo := 1) (hi := (y :: r).length) (by simp) (Nat.le_refl _)
  simpa using this
theorem cho_put {ch : List GCall} {y : GCall} {r : List GCall} {s : ByteArray × Bool} (q : countsF y = true) : ChoI befF rdF countsF stepC s (ch ++ [y]) r ↔ ChoI befF rdF countsF stepC s ch (y :: r) :=
  ⟨fun h => .put ch y r (.inl q) h, fun h => by
    cases h with
    | put _ _ _ _ h => exact h
    | skip _ _ _ hc h => rw [q] at hc; cases hc⟩
theorem cho_or {ch : List GCall} {y : GCall} {r : List GCall} {s : ByteArray × Bool} (q : countsF y = false) (q2 : rdF y = false) : ChoI befF rdF countsF stepC s ch (y :: r) ↔ (ChoI befF rdF countsF stepC s (ch ++ [y]) r ∨ ChoI befF rdF countsF stepC s ch r) :=
  ⟨fun h => by
    cases h with
    | put _ _ _ _ h => exact .inl h
    | skip _ _ _ hc h => exact .inr h, fun h => by
    rcases h with h | h
    · exact .put ch y r (.inr q2) h
    · exact .skip ch y r q h⟩
theorem cho_skip {ch : List GCall} {y : GCall} {r : List GCall} {s : ByteArray × Bool} (q : countsF y = false) (q2 : rdF y = true) : ChoI befF rdF countsF stepC s ch (y :: r) ↔ ChoI befF rdF countsF stepC s ch r :=
  ⟨fun h => by
    cases h with
    | put _ _ _ hc h => rw [q, q2] at hc; rcases hc with hc | hc <;> cases hc
    | skip _ _ _ hc h => exact h, fun h => .skip ch y r q h⟩
theorem choose_r : ∀ (l : List GCall) (M : Mem) (ch : List GCall) (A0 : Option Addr) (c0 : Nat) (A1 : Option Addr) (c1 : Nat) (h0 : SlR M RCall 14 136 A0 c0 ch) (h1 : SlR M RCall 14 136 A1 c1 l) (h6 : ch.length + l.length ≤ 6) (hk0 : ∀ x ∈ ch, kindOk x) (hk1 : ∀ x ∈ l, kindOk x), AnsR Try.prog M 14 #[.slice A0 ch.length c0, .slice A1 l.length c1] (fun _ v => ∃ b, v = .bool b ∧ (b = true ↔ ChoI befF rdF countsF stepC (eB, false) ch l))
  | [], M, ch, A0, c0, A1, c1, h0, h1, h6, hk0, hk1 => by
    refine ansR_of (T.at M) (l := [.slice A0 ch.length c0, .slice A1 ([] : List GCall).length c1]) mixed Try.func14 rfl (by kernel_rfl) (Nat.le_of_ble_eq_true rfl) ?_ (fun _ ad u h1 h2 => by rw [show M ad = none from h1] at h2; cases h2)
    (conv => whnf)
    refine CallK.mr _ (sequence_r ch.length M ch A0 c0 h0 rfl (by simp at h6; omega) hk0 eB false) (fun v M1 hl1 hv => ?_)
    obtain ⟨b, rfl, hb⟩ := hv
    (conv => whnf)
    refine RetK.mk fun g M' hl hg => ⟨b, rfl, hb.trans ⟨fun h => .nil ch h, fun h => ?_⟩⟩
    cases h with
    | nil _ h => exact h
  | y :: r, M, ch, A0, c0, A1, c1, h0, h1, h6, hk0, hk1 => by
    have hlen := h1.len
    have hcap := h1.cap
    have h6' : ch.length + (r.length + 1) ≤ 6 := h6
    have hkr : ∀ x ∈ r, kindOk x := fun x hx => hk1 x (List.mem_cons_of_mem _ hx)
    have hky : kindOk y := hk1 y (List.mem_cons_self ..)
    refine ansR_of (T.at M) (l := [.slice A0 ch.length c0, .slice A1 (y :: r).length c1]) mixed Try.func14 rfl (by kernel_rfl) (Nat.le_of_ble_eq_true rfl) ?_ (fun _ ad u h1 h2 => by rw [show M ad = none from h1] at h2; cases h2)
    (conv => whnf)
    have ht := SlR.tail h1
    obtain ⟨ad, rfl, bnx, x0, x1, x2, x3, x4, x5, x6, x7, x8, x9, x10, x11, x12, x13⟩ := at_Call h1 (i := 0) (x := y) rfl
    (conv => whnf)
    refine DrawN.h Unit (fun _ => [(0, .v (.slice A0 ch.length c0)), (5, .p 0 0), (6, .v (.slice (if c1 = 1 then some ad else (some ad).map (·.add (1 * 14))) r.length (c1 - 1)))]) (fun _ => [(0, [.int .i64 y.Client, .int .i64 y.No, .int .i64 y.Pg.Pool, .int .i64 y.Pg.No, .string y.Name, .int .i64 y.Op.Kind, .int .i64 y.Op.At, .string y.Op.Bytes, .int .i64 y.Begin, .int .i64 y.End, .int .i64 y.Code, .int .i64 y.Ver.Epoch, .int .i64 y.Ver.Seq, .string y.Body])]) 9 (fun _ => M) (by kernel_rfl) ?_ ?_
    · repeat' ((conv => whnf); first | refine AndK.mk ?_ ?_ | refine HeldK.mk (by kernel_rfl) ?_ | refine IdxK.mk _ rfl (by omega) (by show (0 : Int) < ((r.length + 1 : Nat) : Int); omega) ?_ | refine LdK.mk _ (by assumption) ?_ | refine SlK.mk 1 (y :: r).length rfl rfl (by simp) hcap ?_ | fail)
      all_goals exact ⟨(), ⟨⟨rfl, rfl, rfl, trivial⟩, ⟨rfl, trivial⟩, rfl, rfl⟩, rfl⟩
    · rintro _
      generalize (if c1 = 1 then some ad else (some ad).map (·.add (1 * 14))) = A2 at ht
      generalize c1 - 1 = c2 at ht
      have g1 := counts_a M y
      have ihp := fun (N : Mem) (A : Option Addr) (c : Nat) (hl : Le M N) (h : SlR N RCall 14 136 A c (ch ++ [y])) => choose_r r N (ch ++ [y]) A c A2 c2 h (ht.mono hl (RCall.mono hl)) (by simp; omega) (fun x hx => by rcases List.mem_append.1 hx with hx | hx; exact hk0 x hx; rw [List.mem_singleton.1 hx]; exact hky) hkr
      cases q : countsF y with
      | true =>
        rw [q] at g1
        repeat' ((conv => whnf); first | with_reducible refine CondK.tt ?_ | with_reducible refine CondK.ff ?_ | refine LdK.mk _ (by assumption) ?_ | refine CallK.mk _ g1 ?_ | fail)
        (conv => whnf)
        refine DrawN.b [] {z : Bool × Mem // z.1 = true ↔ ChoI befF rdF countsF stepC (eB, false) ch (y :: r)} (fun ⟨⟨b, N⟩, _⟩ => [(4, .v (.bool b))]) (fun _ => []) 20 (fun ⟨⟨b, N⟩, _⟩ => N) rfl (by kernel_rfl) ?_ ?_
        · repeat' ((conv => whnf); first | refine AndK.mk ?_ ?_ | refine HeldK.mk (by kernel_rfl) ?_ | refine LdK.mk _ (by assumption) ?_ | (refine CallB.mr _ (cloneCall_f M ch A0 c0 h0 (by omega)) (fun v N1 hl1 hv => ?_); obtain ⟨A', cap', ds, rfl, hr, hrow⟩ := hv; rcases hrow with ⟨rfl, hz, rfl, rfl⟩ | ⟨ad', rfl, hrc, hfr⟩; (obtain rfl : ch = [] := List.eq_nil_of_length_eq_zero hz); rotate_left; (have hsome : ∀ o, ch.length + 1 ≤ cap' → o < 14 → (N1 ((ad'.add (ch.length * 14)).add o)).isSome = true := fun o hle ho => by obtain ⟨u, hu⟩ := hrc.room (ch.length * 14 + o) (by omega); rw [add_add, hu]; rfl); by_cases hle : ch.length + 1 ≤ cap') | refine AppK.mk (by show (2 * (0 + 1) + 512) * 136 ≤ 281474976710656; omega) (by omega) (.inl (by omega)) rfl (fun cap3 hcap3 => ?_) | (refine PubK.fr (fun ad3 N3 hl3 hc3 hroom3 hf3 _ => ?_); have hM3 : Le M N3 := hl1.trans hl3) | refine AppX.w hle (WrL.mk rfl (fun o ho => hsome o hle ho) (fun o _ => freshA M (fun a u hu => hfr a u hu) _ o) rfl (fun N2 k1 k2 => ?_)) | refine AppX.g hle ds hrc.len hrc.el (allOne_append hr.all rfl) (by omega) (by show (2 * (ch.length + 1) + 512) * 136 ≤ 281474976710656; omega) (fun cap3 hcap3 => ?_) | fail)
          all_goals (conv => whnf)
          all_goals first
            | (have hrow2 := RowN.w (M := M) (.inr ⟨ad', rfl, hrc, hfr⟩) rfl hle k1 k2
               have hM2 : Le M N2 := RowN.kept (.inr ⟨ad', rfl, hrc, hfr⟩) hl1 k2
               have hrc2 : RowC N2 ad' 14 (ch.length + 1) cap' (ds ++ [.int .i64 y.Client, .int .i64 y.No, .int .i64 y.Pg.Pool, .int .i64 y.Pg.No, .string y.Name, .int .i64 y.Op.Kind, .int .i64 y.Op.At, .string y.Op.Bytes, .int .i64 y.Begin, .int .i64 y.End, .int .i64 y.Code, .int .i64 y.Ver.Epoch, .int .i64 y.Ver.Seq, .string y.Body]) := by
                 rcases hrow2 with ⟨h, _⟩ | ⟨ad2, h, h2, _⟩
                 · cases h
                 · cases h; exact h2
               have ih := ihp N2 (some ad') cap' hM2 (slApp hr bnx (by omega) hrc2)
               rw [List.length_append] at ih
               refine CallB.mr _ ih (fun v N4 hl4 hv => ?_)
               obtain ⟨b, rfl, hb⟩ := hv
               repeat' ((conv => whnf); first | refine HeldK.mk (by kernel_rfl) ?_ | refine AndK.mk ?_ ?_ | fail)
               exact ⟨⟨(b, N4), hb.trans (cho_put q)⟩, ⟨⟨rfl, trivial⟩, trivial, rfl, rfl⟩, rfl⟩)
            | (have hrc2 : RowC N3 ad3 14 (ch.length + 1) cap3 (ds ++ [.int .i64 y.Client, .int .i64 y.No, .int .i64 y.Pg.Pool, .int .i64 y.Pg.No, .string y.Name, .int .i64 y.Op.Kind, .int .i64 y.Op.At, .string y.Op.Bytes, .int .i64 y.Begin, .int .i64 y.End, .int .i64 y.Code, .int .i64 y.Ver.Epoch, .int .i64 y.Ver.Seq, .string y.Body]) := ⟨by rw [List.length_append, hr.len]; show _ = (ch.length + 1) * 14; rw [Nat.add_mul, Nat.one_mul]; rfl, hcap3, hc3, hroom3⟩
               have ih := ihp N3 (some ad3) cap3 hM3 (slApp hr bnx (by omega) hrc2)
               rw [List.length_append] at ih
               refine CallB.mr _ ih (fun v N4 hl4 hv => ?_)
               obtain ⟨b, rfl, hb⟩ := hv
               repeat' ((conv => whnf); first | refine HeldK.mk (by kernel_rfl) ?_ | refine AndK.mk ?_ ?_ | fail)
               exact ⟨⟨(b, N4), hb.trans (cho_put q)⟩, ⟨⟨rfl, trivial⟩, trivial, rfl, rfl⟩, rfl⟩)
            | (have hrc2 : RowC N3 ad3 14 (0 + 1) cap3 ([] ++ [.int .i64 y.Client, .int .i64 y.No, .int .i64 y.Pg.Pool, .int .i64 y.Pg.No, .string y.Name, .int .i64 y.Op.Kind, .int .i64 y.Op.At, .string y.Op.Bytes, .int .i64 y.Begin, .int .i64 y.End, .int .i64 y.Code, .int .i64 y.Ver.Epoch, .int .i64 y.Ver.Seq, .string y.Body]) := ⟨rfl, hcap3, hc3, hroom3⟩
               have ih := ihp N3 (some ad3) cap3 hM3 (slApp (M := M) RowR.nil bnx (by simp) hrc2)
               refine CallB.mr _ ih (fun v N4 hl4 hv => ?_)
               obtain ⟨b, rfl, hb⟩ := hv
               repeat' ((conv => whnf); first | refine HeldK.mk (by kernel_rfl) ?_ | refine AndK.mk ?_ ?_ | fail)
               exact ⟨⟨(b, N4), hb.trans (cho_put q)⟩, ⟨⟨rfl, trivial⟩, trivial, rfl, rfl⟩, rfl⟩)
        · rintro ⟨⟨b, N⟩, hb⟩
          (conv => whnf)
          exact RetK.mk fun g M' hl hg => ⟨b, rfl, hb⟩
      | false =>
        rw [q] at g1
        have g2 := reads_a M y.Op
        have iho := fun (N : Mem) (hl : Le M N) => choose_r r N ch A0 c0 A2 c2 (h0.mono hl (RCall.mono hl)) (ht.mono hl (RCall.mono hl)) (by omega) hk0 hkr
        cases q2 : rdF y with
        | true =>
          have hq : decide (y.Op.Kind = 1) = true := q2
          rw [hq] at g2
          repeat' ((conv => whnf); first | with_reducible refine CondK.tt ?_ | with_reducible refine CondK.ff ?_ | refine LdK.mk _ (by assumption) ?_ | refine CallK.mk _ g1 ?_ | fail)
          (conv => whnf)
          refine DrawN.b [] Unit (fun _ => [(0, .v (.slice A0 ch.length c0)), (6, .v (.slice A2 r.length c2)), (38, .v (.bool false))]) (fun _ => []) 20 (fun _ => M) rfl (by kernel_rfl) ?_ ?_
          · repeat' ((conv => whnf); first | refine AndK.mk ?_ ?_ | refine HeldK.mk (by kernel_rfl) ?_ | refine LdK.mk _ (by assumption) ?_ | refine CallB.mk _ g2 ?_ | fail)
            all_goals exact ⟨(), ⟨⟨rfl, rfl, rfl, trivial⟩, trivial, rfl, rfl⟩, rfl⟩
          · rintro _
            repeat' ((conv => whnf); first | with_reducible refine CondK.tt ?_ | with_reducible refine CondK.ff ?_ | fail)
            (conv => whnf)
            refine CallK.mr _ (iho M (Le.refl M)) (fun v N4 hl4 hv => ?_)
            obtain ⟨b, rfl, hb4⟩ := hv
            (conv => whnf)
            exact RetK.mk fun g M' hl hg => ⟨b, rfl, hb4.trans (cho_skip q q2).symm⟩
        | false =>
          have hq : decide (y.Op.Kind = 1) = false := q2
          rw [hq] at g2
          repeat' ((conv => whnf); first | with_reducible refine CondK.tt ?_ | with_reducible refine CondK.ff ?_ | refine LdK.mk _ (by assumption) ?_ | refine CallK.mk _ g1 ?_ | fail)
          (conv => whnf)
          refine DrawN.b [] {z : Bool × Mem // (z.1 = true ↔ ChoI befF rdF countsF stepC (eB, false) (ch ++ [y]) r) ∧ Le M z.2} (fun ⟨⟨b, N⟩, _⟩ => [(0, .v (.slice A0 ch.length c0)), (6, .v (.slice A2 r.length c2)), (38, .v (.bool b))]) (fun _ => []) 20 (fun ⟨⟨b, N⟩, _⟩ => N) rfl (by kernel_rfl) ?_ ?_
          · repeat' ((conv => whnf); first | refine AndK.mk ?_ ?_ | refine HeldK.mk (by kernel_rfl) ?_ | refine LdK.mk _ (by assumption) ?_ | refine CallB.mk _ g2 ?_ | (refine CallB.mr _ (cloneCall_f M ch A0 c0 h0 (by omega)) (fun v N1 hl1 hv => ?_); obtain ⟨A', cap', ds, rfl, hr, hrow⟩ := hv; rcases hrow with ⟨rfl, hz, rfl, rfl⟩ | ⟨ad', rfl, hrc, hfr⟩; (obtain rfl : ch = [] := List.eq_nil_of_length_eq_zero hz); rotate_left; (have hsome : ∀ o, ch.length + 1 ≤ cap' → o < 14 → (N1 ((ad'.add (ch.length * 14)).add o)).isSome = true := fun o hle ho => by obtain ⟨u, hu⟩ := hrc.room (ch.length * 14 + o) (by omega); rw [add_add, hu]; rfl); by_cases hle : ch.length + 1 ≤ cap') | refine AppK.mk (by show (2 * (0 + 1) + 512) * 136 ≤ 281474976710656; omega) (by omega) (.inl (by omega)) rfl (fun cap3 hcap3 => ?_) | (refine PubK.fr (fun ad3 N3 hl3 hc3 hroom3 hf3 _ => ?_); have hM3 : Le M N3 := hl1.trans hl3) | refine AppX.w hle (WrL.mk rfl (fun o ho => hsome o hle ho) (fun o _ => freshA M (fun a u hu => hfr a u hu) _ o) rfl (fun N2 k1 k2 => ?_)) | refine AppX.g hle ds hrc.len hrc.el (allOne_append hr.all rfl) (by omega) (by show (2 * (ch.length + 1) + 512) * 136 ≤ 281474976710656; omega) (fun cap3 hcap3 => ?_) | fail)
            all_goals (conv => whnf)
            all_goals first
              | (have hrow2 := RowN.w (M := M) (.inr ⟨ad', rfl, hrc, hfr⟩) rfl hle k1 k2
                 have hM2 : Le M N2 := RowN.kept (.inr ⟨ad', rfl, hrc, hfr⟩) hl1 k2
                 have hrc2 : RowC N2 ad' 14 (ch.length + 1) cap' (ds ++ [.int .i64 y.Client, .int .i64 y.No, .int .i64 y.Pg.Pool, .int .i64 y.Pg.No, .string y.Name, .int .i64 y.Op.Kind, .int .i64 y.Op.At, .string y.Op.Bytes, .int .i64 y.Begin, .int .i64 y.End, .int .i64 y.Code, .int .i64 y.Ver.Epoch, .int .i64 y.Ver.Seq, .string y.Body]) := by
                   rcases hrow2 with ⟨h, _⟩ | ⟨ad2, h, h2, _⟩
                   · cases h
                   · cases h; exact h2
                 have ih := ihp N2 (some ad') cap' hM2 (slApp hr bnx (by omega) hrc2)
                 rw [List.length_append] at ih
                 refine CallB.mr _ ih (fun v N4 hl4 hv => ?_)
                 obtain ⟨b, rfl, hb⟩ := hv
                 repeat' ((conv => whnf); first | refine HeldK.mk (by kernel_rfl) ?_ | refine AndK.mk ?_ ?_ | fail)
                 exact ⟨⟨(b, N4), hb, hM2.trans hl4⟩, ⟨⟨rfl, rfl, rfl, trivial⟩, trivial, rfl, rfl⟩, rfl⟩)
              | (have hrc2 : RowC N3 ad3 14 (ch.length + 1) cap3 (ds ++ [.int .i64 y.Client, .int .i64 y.No, .int .i64 y.Pg.Pool, .int .i64 y.Pg.No, .string y.Name, .int .i64 y.Op.Kind, .int .i64 y.Op.At, .string y.Op.Bytes, .int .i64 y.Begin, .int .i64 y.End, .int .i64 y.Code, .int .i64 y.Ver.Epoch, .int .i64 y.Ver.Seq, .string y.Body]) := ⟨by rw [List.length_append, hr.len]; show _ = (ch.length + 1) * 14; rw [Nat.add_mul, Nat.one_mul]; rfl, hcap3, hc3, hroom3⟩
                 have ih := ihp N3 (some ad3) cap3 hM3 (slApp hr bnx (by omega) hrc2)
                 rw [List.length_append] at ih
                 refine CallB.mr _ ih (fun v N4 hl4 hv => ?_)
                 obtain ⟨b, rfl, hb⟩ := hv
                 repeat' ((conv => whnf); first | refine HeldK.mk (by kernel_rfl) ?_ | refine AndK.mk ?_ ?_ | fail)
                 exact ⟨⟨(b, N4), hb, hM3.trans hl4⟩, ⟨⟨rfl, rfl, rfl, trivial⟩, trivial, rfl, rfl⟩, rfl⟩)
              | (have hrc2 : RowC N3 ad3 14 (0 + 1) cap3 ([] ++ [.int .i64 y.Client, .int .i64 y.No, .int .i64 y.Pg.Pool, .int .i64 y.Pg.No, .string y.Name, .int .i64 y.Op.Kind, .int .i64 y.Op.At, .string y.Op.Bytes, .int .i64 y.Begin, .int .i64 y.End, .int .i64 y.Code, .int .i64 y.Ver.Epoch, .int .i64 y.Ver.Seq, .string y.Body]) := ⟨rfl, hcap3, hc3, hroom3⟩
                 have ih := ihp N3 (some ad3) cap3 hM3 (slApp (M := M) RowR.nil bnx (by simp) hrc2)
                 refine CallB.mr _ ih (fun v N4 hl4 hv => ?_)
                 obtain ⟨b, rfl, hb⟩ := hv
                 repeat' ((conv => whnf); first | refine HeldK.mk (by kernel_rfl) ?_ | refine AndK.mk ?_ ?_ | fail)
                 exact ⟨⟨(b, N4), hb, hM3.trans hl4⟩, ⟨⟨rfl, rfl, rfl, trivial⟩, trivial, rfl, rfl⟩, rfl⟩)
          · rintro ⟨⟨b, N⟩, hb, hMN⟩
            cases b with
            | true =>
              repeat' ((conv => whnf); first | with_reducible refine CondK.tt ?_ | with_reducible refine CondK.ff ?_ | fail)
              (conv => whnf)
              exact RetK.mk fun g M' hl hg => ⟨true, rfl, by simp; exact (cho_or q q2).2 (.inl (hb.1 rfl))⟩
            | false =>
              repeat' ((conv => whnf); first | with_reducible refine CondK.tt ?_ | with_reducible refine CondK.ff ?_ | fail)
              (conv => whnf)
              refine CallK.mr _ (iho N hMN) (fun v N4 hl4 hv => ?_)
              obtain ⟨b, rfl, hb4⟩ := hv
              (conv => whnf)
              refine RetK.mk fun g M' hl hg => ⟨b, rfl, hb4.trans ⟨fun h => (cho_or q q2).2 (.inr h), fun h => ?_⟩⟩
              rcases (cho_or q q2).1 h with h | h
              · exact absurd (hb.2 h) (by simp)
              · exact h
end Go.Proofs.Ythlnapamdcmlkaa.Hlp
