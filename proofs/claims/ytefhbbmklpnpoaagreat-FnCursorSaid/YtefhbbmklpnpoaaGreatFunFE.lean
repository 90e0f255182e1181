/- Worlds of nodes, drawn: notices put in order, places taken. -/
import Derived.Test.YtefhbbmklpnpoaaGreatFunFD
namespace Go.Proofs.YtefhbbmklpnpoaaGreat.Hlp
open Go Go.RowKit Go.Proofs Go.Proofs.YtefhbbmklpnpoaaGreat.Lw
set_option linter.unusedVariables false
set_option linter.unusedSimpArgs false
set_option maxRecDepth 100000
set_option maxHeartbeats 4000000
def RAddN (M M' : Mem) (l : List GNotice) (n : GNotice) (v : Value) : Prop := ∃ (l' : List GNotice) (ad : Addr) (c' : Nat), v = .slice (some ad) l'.length c' ∧ l'.length ≤ l.length + 1 ∧ l'.length ≤ c' ∧ (∀ x ∈ l', x ∈ l ∨ x = n) ∧ (∀ a u, M a = some u → a.block ≠ ad.block) ∧ ∀ i x, l'[i]? = some x → ∃ cs : List Value, RNotice M x cs ∧ cs.length = 13 ∧ ∀ j u, cs[j]? = some u → M' ((ad.add (i * 13)).add j) = some u
theorem raddn_of {M M' : Mem} {l l' : List GNotice} {n : GNotice} {ds : List Value} {g c' : Nat} (h1 : l'.length ≤ l.length + 1) (h0 : l'.length ≤ c') (h2 : ∀ x ∈ l', x ∈ l ∨ x = n) (hr : RowR M RNotice 13 l' ds) (hf : ∀ a u, M a = some u → a.block ≠ g) (hc : ∀ o u, ds[o]? = some u → M' ⟨g, o, none⟩ = some u) : RAddN M M' l n (.slice (some ⟨g, 0, none⟩) l'.length c') := by
  obtain ⟨css, rfl, k1, k2, k3⟩ := hr.ex
  refine ⟨l', ⟨g, 0, none⟩, c', rfl, h1, h0, h2, hf, fun i x hx => ?_⟩
  obtain ⟨cs, g1, g2⟩ := k3 i x hx
  refine ⟨cs, g2, (k2 cs (List.mem_of_getElem? g1)).1, fun j u hu => ?_⟩
  rw [add_add, addr0]
  exact hc _ u (flat_get (fun c hc => (k2 c hc).1) g1 hu)
theorem l22Add_r (M : Mem) (l : List GNotice) (A : Option Addr) (c : Nat) (h : SlR M RNotice 13 168 A c l) (hl : l.length ≤ 1000) (n : GNotice) (ncs : List Value) (hn : RNotice M n ncs) : AnsR Tryz.prog M 88 #[.slice A l.length c, .agg ncs.toArray] (fun M' v => RAddN M M' l n v) := by
  have hn' := hn
  obtain ⟨A4, c4, A5, c5, A6, c6, A7, c7, rfl, _, _⟩ := hn'
  obtain ⟨ncs, hncs⟩ : ∃ ncs : List Value, ncs = [.int .i64 n.From, .int .i64 n.State.Pg.Pool, .int .i64 n.State.Pg.No, .int .i64 n.State.Seen, .int .i64 n.State.Started, .int .i64 n.State.Tail.Epoch, .int .i64 n.State.Tail.Seq, .slice A4 n.State.Base.length c4, .slice A5 n.State.Clients.length c5, .slice A6 n.State.Log.length c6, .int .i64 n.State.Firm.Epoch, .int .i64 n.State.Firm.Seq, .slice A7 n.State.Chunks.length c7] := ⟨_, rfl⟩
  have hone : allOne ncs = true := by rw [hncs]; exact (RNotice.one _ _ hn).1
  have hrn : RowR M RNotice 13 [n] ncs := by rw [hncs]; exact RowR.one hn rfl rfl
  refine ansR_of T (l := [.slice A l.length c, .agg (List.toArray [.int .i64 n.From, .int .i64 n.State.Pg.Pool, .int .i64 n.State.Pg.No, .int .i64 n.State.Seen, .int .i64 n.State.Started, .int .i64 n.State.Tail.Epoch, .int .i64 n.State.Tail.Seq, .slice A4 n.State.Base.length c4, .slice A5 n.State.Clients.length c5, .slice A6 n.State.Log.length c6, .int .i64 n.State.Firm.Epoch, .int .i64 n.State.Firm.Seq, .slice A7 n.State.Chunks.length c7])]) mixed Tryz.func88 rfl (by kernel_rfl) (Nat.le_of_ble_eq_true rfl) ?_
  (conv => whnf)
  refine LoopK.sw 1 2 {q : Nat × Bool × List GNotice × List Value × Nat // q.1 ≤ l.length ∧ q.2.2.1.length = q.1 + (if q.2.1 = true then 1 else 0) ∧ q.2.2.1.length ≤ q.2.2.2.2 ∧ RowR M RNotice 13 q.2.2.1 q.2.2.2.1 ∧ ∀ x ∈ q.2.2.1, x ∈ l ∨ x = n} (fun ⟨⟨k, dn, l', ds, cap⟩, _⟩ => [(0, .v (.slice A l.length c)), (3, .p 0 0), (5, .s 1 l'.length cap 13), (6, .v (.bool dn)), (7, .v (.int .i64 (k : Int)))]) (fun ⟨⟨k, dn, l', ds, cap⟩, _⟩ => [(1, ds), (0, [.int .i64 n.From, .int .i64 n.State.Pg.Pool, .int .i64 n.State.Pg.No, .int .i64 n.State.Seen, .int .i64 n.State.Started, .int .i64 n.State.Tail.Epoch, .int .i64 n.State.Tail.Seq, .slice A4 n.State.Base.length c4, .slice A5 n.State.Clients.length c5, .slice A6 n.State.Log.length c6, .int .i64 n.State.Firm.Epoch, .int .i64 n.State.Firm.Seq, .slice A7 n.State.Chunks.length c7])]) (fun _ => M) (fun q => l.length - q.1.1) ⟨(0, false, [], [], 0), Nat.zero_le _, rfl, Nat.le_refl _, RowR.nil, fun x hx => by cases hx⟩ 1 ⟨⟨⟨rfl, rfl, rfl, rfl, rfl, trivial⟩, ⟨rfl, rfl, trivial⟩, rfl, rfl⟩, rfl⟩ ?_
  rintro ⟨⟨k, dn, l', ds, cap⟩, hk, hlen, hcap, hrow, hmem⟩
  replace hk : k ≤ l.length := hk
  replace hlen : l'.length = k + (if dn = true then 1 else 0) := hlen
  replace hcap : l'.length ≤ cap := hcap
  replace hrow : RowR M RNotice 13 l' ds := hrow
  replace hmem : ∀ x ∈ l', x ∈ l ∨ x = n := hmem
  have hlb : l'.length ≤ k + 1 := by rw [hlen]; split <;> omega
  by_cases hlt : k < l.length
  · obtain ⟨y, hy⟩ : ∃ y, l[k]? = some y := ⟨_, List.getElem?_eq_getElem hlt⟩
    obtain ⟨ycs, hycs⟩ : ∃ ycs, RNotice M y ycs := by obtain ⟨_, cs, _, h2, _⟩ := h.el k y hy; exact ⟨cs, h2⟩
    obtain ⟨ad, rfl, A0, c0, A1, c1, A2, c2, A3, c3, bnx, ⟨s0, s1, s2, s3⟩, x0, x1, x2, x3, x4, x5, x6, x7, x8, x9, x10, x11, x12⟩ := at_Notice h hy
    have hyr : RowR M RNotice 13 [y] [.int .i64 y.From, .int .i64 y.State.Pg.Pool, .int .i64 y.State.Pg.No, .int .i64 y.State.Seen, .int .i64 y.State.Started, .int .i64 y.State.Tail.Epoch, .int .i64 y.State.Tail.Seq, .slice A0 y.State.Base.length c0, .slice A1 y.State.Clients.length c1, .slice A2 y.State.Log.length c2, .int .i64 y.State.Firm.Epoch, .int .i64 y.State.Firm.Seq, .slice A3 y.State.Chunks.length c3] := RowR.one ⟨A0, c0, A1, c1, A2, c2, A3, c3, rfl, trivial, s0, s1, s2, s3⟩ rfl rfl
    have hy1 : ∀ x ∈ l' ++ [y], x ∈ l ∨ x = n := fun x hx => by
      rcases List.mem_append.mp hx with hx | hx
      · exact hmem x hx
      · rw [List.mem_singleton.mp hx]; exact .inl (List.mem_of_getElem? hy)
    have hy2 : ∀ x ∈ (l' ++ [n]) ++ [y], x ∈ l ∨ x = n := fun x hx => by
      rcases List.mem_append.mp hx with hx | hx
      · rcases List.mem_append.mp hx with hx | hx
        · exact hmem x hx
        · exact .inr (List.mem_singleton.mp hx)
      · rw [List.mem_singleton.mp hx]; exact .inl (List.mem_of_getElem? hy)
    (conv => whnf)
    refine CondK.yes' (decide_eq_true (by omega)) ?_
    (conv => whnf)
    refine DrawN.q (by kernel_rfl) ?_
    cases dn with
    | true =>
      replace hlen : l'.length = k + 1 := hlen
      repeat' ((conv => whnf); first | refine IdxK.mk _ rfl (by omega) (by omega) ?_ | refine LdK.mk _ (by assumption) ?_ | fail)
      (conv => whnf)
      refine AppK.mk (by show (2 * (l'.length + 1) + 512) * 168 ≤ 281474976710656; omega) (by omega) (.inr rfl) rfl (fun cap3 hcap3 => ?_)
      exact ⟨⟨(k + 1, true, l' ++ [y], ds ++ [.int .i64 y.From, .int .i64 y.State.Pg.Pool, .int .i64 y.State.Pg.No, .int .i64 y.State.Seen, .int .i64 y.State.Started, .int .i64 y.State.Tail.Epoch, .int .i64 y.State.Tail.Seq, .slice A0 y.State.Base.length c0, .slice A1 y.State.Clients.length c1, .slice A2 y.State.Log.length c2, .int .i64 y.State.Firm.Epoch, .int .i64 y.State.Firm.Seq, .slice A3 y.State.Chunks.length c3], cap3), hlt, by show (l' ++ [y]).length = k + 1 + 1; simp [hlen], by show (l' ++ [y]).length ≤ cap3; simpa using hcap3, RowR.app hrow hyr, hy1⟩, 3, ⟨⟨rfl, rfl, congrArg (fun t => some (PV.s 3 t cap3 13)) (by simp), rfl, look_int (i64_succ (by omega)), trivial⟩, ⟨rfl, rfl, trivial⟩, rfl, rfl⟩, rfl, by show l.length - (k + 1) < l.length - k; omega⟩
    | false =>
      replace hlen : l'.length = k := hlen
      repeat' ((conv => whnf); first | refine IdxK.mk _ rfl (by omega) (by omega) ?_ | refine LdK.mk _ (by assumption) ?_ | fail)
      (conv => whnf)
      refine CondK.mk (fun hq => ?_) (fun hq => ?_)
      · (conv => whnf)
        refine AppK.mk (by show (2 * (l'.length + 1) + 512) * 168 ≤ 281474976710656; omega) (by omega) (.inr rfl) rfl (fun cap3 hcap3 => ?_)
        repeat' ((conv => whnf); first | refine IdxK.mk _ rfl (by omega) (by omega) ?_ | refine LdK.mk _ (by assumption) ?_ | fail)
        (conv => whnf)
        refine AppK.mk (by show (2 * (l'.length + 1 + 1) + 512) * 168 ≤ 281474976710656; omega) (by omega) (.inr rfl) rfl (fun cap4 hcap4 => ?_)
        exact ⟨⟨(k + 1, true, (l' ++ [n]) ++ [y], (ds ++ [.int .i64 n.From, .int .i64 n.State.Pg.Pool, .int .i64 n.State.Pg.No, .int .i64 n.State.Seen, .int .i64 n.State.Started, .int .i64 n.State.Tail.Epoch, .int .i64 n.State.Tail.Seq, .slice A4 n.State.Base.length c4, .slice A5 n.State.Clients.length c5, .slice A6 n.State.Log.length c6, .int .i64 n.State.Firm.Epoch, .int .i64 n.State.Firm.Seq, .slice A7 n.State.Chunks.length c7]) ++ [.int .i64 y.From, .int .i64 y.State.Pg.Pool, .int .i64 y.State.Pg.No, .int .i64 y.State.Seen, .int .i64 y.State.Started, .int .i64 y.State.Tail.Epoch, .int .i64 y.State.Tail.Seq, .slice A0 y.State.Base.length c0, .slice A1 y.State.Clients.length c1, .slice A2 y.State.Log.length c2, .int .i64 y.State.Firm.Epoch, .int .i64 y.State.Firm.Seq, .slice A3 y.State.Chunks.length c3], cap4), hlt, by show ((l' ++ [n]) ++ [y]).length = k + 1 + 1; simp [hlen], by show ((l' ++ [n]) ++ [y]).length ≤ cap4; simpa using hcap4, RowR.app (RowR.app hrow (hncs ▸ hrn)) hyr, hy2⟩, 5, ⟨⟨rfl, rfl, congrArg (fun t => some (PV.s 5 t cap4 13)) (by simp), rfl, look_int (i64_succ (by omega)), trivial⟩, ⟨rfl, rfl, trivial⟩, rfl, rfl⟩, rfl, by show l.length - (k + 1) < l.length - k; omega⟩
      · repeat' ((conv => whnf); first | refine IdxK.mk _ rfl (by omega) (by omega) ?_ | refine LdK.mk _ (by assumption) ?_ | fail)
        (conv => whnf)
        refine AppK.mk (by show (2 * (l'.length + 1) + 512) * 168 ≤ 281474976710656; omega) (by omega) (.inr rfl) rfl (fun cap3 hcap3 => ?_)
        exact ⟨⟨(k + 1, false, l' ++ [y], ds ++ [.int .i64 y.From, .int .i64 y.State.Pg.Pool, .int .i64 y.State.Pg.No, .int .i64 y.State.Seen, .int .i64 y.State.Started, .int .i64 y.State.Tail.Epoch, .int .i64 y.State.Tail.Seq, .slice A0 y.State.Base.length c0, .slice A1 y.State.Clients.length c1, .slice A2 y.State.Log.length c2, .int .i64 y.State.Firm.Epoch, .int .i64 y.State.Firm.Seq, .slice A3 y.State.Chunks.length c3], cap3), hlt, by show (l' ++ [y]).length = k + 1 + 0; simp [hlen], by show (l' ++ [y]).length ≤ cap3; simpa using hcap3, RowR.app hrow hyr, hy1⟩, 3, ⟨⟨rfl, rfl, congrArg (fun t => some (PV.s 3 t cap3 13)) (by simp), rfl, look_int (i64_succ (by omega)), trivial⟩, ⟨rfl, rfl, trivial⟩, rfl, rfl⟩, rfl, by show l.length - (k + 1) < l.length - k; omega⟩
  · (conv => whnf)
    refine CondK.no' (decide_eq_false (by omega)) ?_
    cases dn with
    | true =>
      replace hlen : l'.length = k + 1 := hlen
      (conv => whnf)
      exact RetK.fr fun g M' hl2 hg => raddn_of (by omega) hcap hmem hrow (hg 1 _ rfl).1 (hg 1 _ rfl).2
    | false =>
      replace hlen : l'.length = k := hlen
      (conv => whnf)
      refine AppK.mk (by show (2 * (l'.length + 1) + 512) * 168 ≤ 281474976710656; omega) (by omega) (.inr rfl) rfl (fun cap3 hcap3 => ?_)
      (conv => whnf)
      refine RetK.fr fun g M' hl2 hg => ?_
      have := raddn_of (M := M) (M' := M') (l := l) (l' := l' ++ [n]) (n := n) (c' := cap3) (g := g 3) (by rw [List.length_append, hlen]; show k + 1 ≤ _; omega) (by rw [List.length_append]; exact hcap3) (fun x hx => by
        rcases List.mem_append.mp hx with hx | hx
        · exact hmem x hx
        · exact .inr (List.mem_singleton.mp hx)) (RowR.app hrow (hncs ▸ hrn)) (hg 3 _ rfl).1 (hg 3 _ rfl).2
      rw [List.length_append] at this
      exact this
end Go.Proofs.YtefhbbmklpnpoaaGreat.Hlp
