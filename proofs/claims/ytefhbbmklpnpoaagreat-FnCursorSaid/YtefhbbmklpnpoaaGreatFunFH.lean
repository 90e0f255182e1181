/- Worlds of nodes, drawn: a body put into the log and its pieces to the nodes. -/
import Derived.Test.YtefhbbmklpnpoaaGreatFunFG
namespace Go.Proofs.YtefhbbmklpnpoaaGreat.Hlp
open Go Go.RowKit Go.Proofs Go.Proofs.YtefhbbmklpnpoaaGreat.Lw
set_option linter.unusedVariables false
set_option linter.unusedSimpArgs false
set_option maxRecDepth 100000
set_option maxHeartbeats 4000000
/-- What a put leaves: the source further on, a world. -/
def RPut23 (X : Mem) (ad aw : Addr) (rb : Nat) (b' : Int) (M' : Mem) : Prop := Src X M' ad b' ∧ ∃ (K m : Int) (acting : List Int) (A : Option Addr) (c : Nat) (s : GPgState) (pcs : List Value) (l : List GNotice) (B : Option Addr) (cap : Nat), W23 M' ad.block aw rb K m acting A c s pcs l B cap
theorem callAdd {P : Program} {wr : Bool} {base M : Mem} {f : FuncId} {args : Array Value} {K : Value → Mem → Prop} (hc : AnsR P M f args (fun M' v => RAdd (sub M' M) v)) (k : ∀ (y : GPgState) A0 c0 A1 c1 A2 c2 A3 c3 (c : Int) M', RPgState (sub M' M) y [.int .i64 y.Pg.Pool, .int .i64 y.Pg.No, .int .i64 y.Seen, .int .i64 y.Started, .int .i64 y.Tail.Epoch, .int .i64 y.Tail.Seq, .slice A0 y.Base.length c0, .slice A1 y.Clients.length c1, .slice A2 y.Log.length c2, .int .i64 y.Firm.Epoch, .int .i64 y.Firm.Seq, .slice A3 y.Chunks.length c3] → (c = 0 → stateOkF y = true) → Le M M' → Fr M M' → K (.tuple #[.agg (List.toArray [.int .i64 y.Pg.Pool, .int .i64 y.Pg.No, .int .i64 y.Seen, .int .i64 y.Started, .int .i64 y.Tail.Epoch, .int .i64 y.Tail.Seq, .slice A0 y.Base.length c0, .slice A1 y.Clients.length c1, .slice A2 y.Log.length c2, .int .i64 y.Firm.Epoch, .int .i64 y.Firm.Seq, .slice A3 y.Chunks.length c3]), .int .i64 c]) M') : CallK P wr base M f args K :=
  CallK.mf _ hc fun v M' hl hf hv => by
    obtain ⟨y, cs', c, rfl, hy, hok⟩ := hv
    obtain ⟨A0, c0, A1, c1, A2, c2, A3, c3, rfl, hb, s0, s1, s2, s3⟩ := hy
    exact k y A0 c0 A1 c1 A2 c2 A3 c3 c M' ⟨A0, c0, A1, c1, A2, c2, A3, c3, rfl, hb, s0, s1, s2, s3⟩ hok hl hf
theorem callPut {P : Program} {wr : Bool} {base M : Mem} {f : FuncId} {args : Array Value} {K : Value → Mem → Prop} (hc : AnsR P M f args (fun M' v => RPut (sub M' M) v)) (k : ∀ (y : GPgState) A0 c0 A1 c1 A2 c2 A3 c3 (c : Int) M', RPgState (sub M' M) y [.int .i64 y.Pg.Pool, .int .i64 y.Pg.No, .int .i64 y.Seen, .int .i64 y.Started, .int .i64 y.Tail.Epoch, .int .i64 y.Tail.Seq, .slice A0 y.Base.length c0, .slice A1 y.Clients.length c1, .slice A2 y.Log.length c2, .int .i64 y.Firm.Epoch, .int .i64 y.Firm.Seq, .slice A3 y.Chunks.length c3] → SmallS y → Le M M' → Fr M M' → K (.tuple #[.agg (List.toArray [.int .i64 y.Pg.Pool, .int .i64 y.Pg.No, .int .i64 y.Seen, .int .i64 y.Started, .int .i64 y.Tail.Epoch, .int .i64 y.Tail.Seq, .slice A0 y.Base.length c0, .slice A1 y.Clients.length c1, .slice A2 y.Log.length c2, .int .i64 y.Firm.Epoch, .int .i64 y.Firm.Seq, .slice A3 y.Chunks.length c3]), .int .i64 c]) M') : CallK P wr base M f args K :=
  CallK.mf _ hc fun v M' hl hf hv => by
    obtain ⟨y, cs', c, rfl, hy, hsm⟩ := hv
    obtain ⟨A0, c0, A1, c1, A2, c2, A3, c3, rfl, hb, s0, s1, s2, s3⟩ := hy
    exact k y A0 c0 A1 c1 A2 c2 A3 c3 c M' ⟨A0, c0, A1, c1, A2, c2, A3, c3, rfl, hb, s0, s1, s2, s3⟩ hsm hl hf
theorem callEx {P : Program} {wr : Bool} {base M : Mem} {f : FuncId} {args : Array Value} {R : Int → Prop} {K : Value → Mem → Prop} (h : AnsR P M f args (fun _ v => ∃ x : Int, v = .int .i64 x ∧ R x)) (k : ∀ x M', R x → Le M M' → K (.int .i64 x) M') : CallK P wr base M f args K :=
  CallK.mr _ h fun v M' hl hv => by obtain ⟨x, rfl, hx⟩ := hv; exact k x M' hx hl
theorem callCh {P : Program} {wr : Bool} {base M : Mem} {f : FuncId} {args : Array Value} {K : Value → Mem → Prop} {nm s : ByteArray} {a b p : Int} (h : AnsR P M f args (fun _ u => ∃ x : Int, u = .agg #[.string nm, .int .i64 a, .int .i64 b, .int .i64 p, .int .i64 x, .string s] ∧ True)) (k : ∀ (x : Int) M', Le M M' → K (.agg #[.string nm, .int .i64 a, .int .i64 b, .int .i64 p, .int .i64 x, .string s]) M') : CallK P wr base M f args K :=
  CallK.mr _ h fun v M' hl hv => by obtain ⟨x, rfl, _⟩ := hv; exact k x M' hl
theorem callIntB {P : Program} {base M : Mem} {f : FuncId} {args : Array Value} {K : Value → Mem → Prop} (h : AnsR P M f args (fun _ v => ∃ x : Int, v = .int .i64 x)) (k : ∀ (x : Int) M', Le M M' → K (.int .i64 x) M') : CallB P base M f args K :=
  CallB.mr _ h fun v M' hl hv => by obtain ⟨x, rfl⟩ := hv; exact k x M' hl
theorem W23.pk {N : Mem} {sb rb : Nat} {aw : Addr} {K m : Int} {acting : List Int} {A : Option Addr} {c : Nat} {s : GPgState} {l : List GNotice} {B : Option Addr} {cap : Nat} {A0 A1 A2 A3 : Option Addr} {c0 c1 c2 c3 : Nat} (h : W23 N sb aw rb K m acting A c s [.int .i64 s.Pg.Pool, .int .i64 s.Pg.No, .int .i64 s.Seen, .int .i64 s.Started, .int .i64 s.Tail.Epoch, .int .i64 s.Tail.Seq, .slice A0 s.Base.length c0, .slice A1 s.Clients.length c1, .slice A2 s.Log.length c2, .int .i64 s.Firm.Epoch, .int .i64 s.Firm.Seq, .slice A3 s.Chunks.length c3] l B cap) : N (aw.add 3) = some (.int .i64 s.Pg.Pool) ∧ N (aw.add 4) = some (.int .i64 s.Pg.No) ∧ N (aw.add 5) = some (.int .i64 s.Seen) ∧ N (aw.add 6) = some (.int .i64 s.Started) ∧ N (aw.add 7) = some (.int .i64 s.Tail.Epoch) ∧ N (aw.add 8) = some (.int .i64 s.Tail.Seq) ∧ N (aw.add 9) = some (.slice A0 s.Base.length c0) ∧ N (aw.add 10) = some (.slice A1 s.Clients.length c1) ∧ N (aw.add 11) = some (.slice A2 s.Log.length c2) ∧ N (aw.add 12) = some (.int .i64 s.Firm.Epoch) ∧ N (aw.add 13) = some (.int .i64 s.Firm.Seq) ∧ N (aw.add 14) = some (.slice A3 s.Chunks.length c3) :=
  ⟨h.cp 0 _ rfl, h.cp 1 _ rfl, h.cp 2 _ rfl, h.cp 3 _ rfl, h.cp 4 _ rfl, h.cp 5 _ rfl, h.cp 6 _ rfl, h.cp 7 _ rfl, h.cp 8 _ rfl, h.cp 9 _ rfl, h.cp 10 _ rfl, h.cp 11 _ rfl⟩
theorem l23Put_b {X M : Mem} {ad aw : Addr} {rb : Nat} {b : Int} (h : Src X M ad b) (hb : b ≤ 4611686018427300000) {K m : Int} {acting : List Int} {A : Option Addr} {c : Nat} {s : GPgState} {pcs : List Value} {l : List GNotice} {B : Option Addr} {cap : Nat} (hw : W23 M ad.block aw rb K m acting A c s pcs l B cap) (hX : ∀ a u, X a = some u → a.block ≠ aw.block ∧ a.block ≠ rb) (ep sq : Int) : AnsB Tryz.prog (offX M ad.block aw.block rb) M 89 #[.pointer (some ad), .pointer (some aw), .agg #[.int .i64 ep, .int .i64 sq]] (fun v M' => v = .tuple #[] ∧ RPut23 X ad aw rb (b + 10000) M') := by
  refine ansB_of T.cuts (l := [.pointer (some ad), .pointer (some aw), .agg #[.int .i64 ep, .int .i64 sq]]) (Mb := offX M ad.block aw.block rb) mixed Tryz.func89 rfl (by kernel_rfl) (Nat.le_of_ble_eq_true rfl) (offX_le _ _ _ _) (offX_dj _ _ _ _) ?_
  have hno : ∀ a : Addr, a.block = ad.block → offX M ad.block aw.block rb a = none := fun a h => offX_no (.inl h)
  (conv => whnf)
  refine gcall (word_b h (by omega) (by decide)) hno (fun body M1 hbody hS1 hlb1 => ?_)
  have hw1 := hw.mono hlb1
  obtain ⟨A0, c0, A1, c1, A2, c2, A3, c3, rfl, hbb, s0, s1, s2, s3⟩ := hw1.sp
  have hsp1 : RPgState M1 s [.int .i64 s.Pg.Pool, .int .i64 s.Pg.No, .int .i64 s.Seen, .int .i64 s.Started, .int .i64 s.Tail.Epoch, .int .i64 s.Tail.Seq, .slice A0 s.Base.length c0, .slice A1 s.Clients.length c1, .slice A2 s.Log.length c2, .int .i64 s.Firm.Epoch, .int .i64 s.Firm.Seq, .slice A3 s.Chunks.length c3] := RPgState.mono (offX_le _ _ _ _) _ _ hw1.sp
  have hnm1 : ∀ nm : ByteArray, nm ∈ strsOf [Value.string ⟨#[97]⟩, .string ⟨#[98]⟩, .string ⟨#[99]⟩, .string ⟨#[100]⟩, .string ⟨#[97]⟩] → nm.size ≤ 1000 := fun nm h => shortS_mem rfl nm h
  obtain ⟨p0, p1, p2, p3, p4, p5, p6, p7, p8, p9, p10, p11⟩ := hw1.pk
  (conv => whnf)
  refine DrawN.b [] {q : GEntry × Bool × Mem // q.1.Name.size ≤ 1000 ∧ Src X q.2.2 ad (b + 2100) ∧ W23 q.2.2 ad.block aw rb K m acting A c s [.int .i64 s.Pg.Pool, .int .i64 s.Pg.No, .int .i64 s.Seen, .int .i64 s.Started, .int .i64 s.Tail.Epoch, .int .i64 s.Tail.Seq, .slice A0 s.Base.length c0, .slice A1 s.Clients.length c1, .slice A2 s.Log.length c2, .int .i64 s.Firm.Epoch, .int .i64 s.Firm.Seq, .slice A3 s.Chunks.length c3] l B cap} (fun ⟨⟨e, f, N⟩, _⟩ => [(0, .v (.pointer (some ad))), (1, .v (.pointer (some aw))), (5, .p 0 0), (6, .v (.string body)), (7, .p (bif f then 1 else 2) 0)]) (fun ⟨⟨e, f, N⟩, _⟩ => [((bif f then 1 else 2), [.int .i64 e.Ver.Epoch, .int .i64 e.Ver.Seq, .int .i64 e.Prior.Epoch, .int .i64 e.Prior.Seq, .string e.Name, .bool e.Gone, .int .i64 e.Size, .int .i64 e.Sum, .int .i64 e.Req.Client, .int .i64 e.Req.No]), (0, [.int .i64 ep, .int .i64 sq])]) 20 (fun ⟨⟨e, f, N⟩, _⟩ => N) rfl (by kernel_rfl) ?_ ?_
  · repeat' ((conv => whnf); first | refine AndK.mk ?_ ?_ | refine HeldK.mk (by kernel_rfl) ?_ | refine LdK.mk _ (by assumption) ?_ | refine CallB.mk _ (l17LastOf_a M1 s _ hsp1) ?_ | refine gpubS hS1 rfl (by decide) rfl (fun ad2 M2 hl2 hS2 hr2 => ?_) | refine gcallB (text_b hS2 (by omega) hr2 rfl (by decide)) hno (fun nm M3 hnm hS3 hlb3 => ?_) | refine callIntB (l01Crc_r _ body (by omega)) (fun x M4 hl4 => ?_) | fail)
    all_goals first
      | exact ⟨⟨(⟨⟨ep, sq⟩, lastVerF s, nm, false, (body.size : Int), x, ⟨0, 0⟩⟩, true, M4), hnm1 nm hnm, hS3.mono hl4 (by omega), ((hw1.up hl2).mono hlb3).up hl4⟩, ⟨⟨rfl, rfl, rfl, rfl, rfl, trivial⟩, ⟨rfl, rfl, trivial⟩, rfl, rfl⟩, rfl⟩
      | exact ⟨⟨(⟨⟨ep, sq⟩, lastVerF s, nm, false, (body.size : Int), x, ⟨0, 0⟩⟩, false, M4), hnm1 nm hnm, hS3.mono hl4 (by omega), ((hw1.up hl2).mono hlb3).up hl4⟩, ⟨⟨rfl, rfl, rfl, rfl, rfl, trivial⟩, ⟨rfl, rfl, trivial⟩, rfl, rfl⟩, rfl⟩
  · rintro ⟨⟨e, f, N2⟩, hen, hS2, hw2⟩
    replace hen : e.Name.size ≤ 1000 := hen
    replace hS2 : Src X N2 ad (b + 2100) := hS2
    replace hw2 : W23 N2 ad.block aw rb K m acting A c s [.int .i64 s.Pg.Pool, .int .i64 s.Pg.No, .int .i64 s.Seen, .int .i64 s.Started, .int .i64 s.Tail.Epoch, .int .i64 s.Tail.Seq, .slice A0 s.Base.length c0, .slice A1 s.Clients.length c1, .slice A2 s.Log.length c2, .int .i64 s.Firm.Epoch, .int .i64 s.Firm.Seq, .slice A3 s.Chunks.length c3] l B cap := hw2
    cases f
    all_goals (conv => whnf)
    · refine JoinK.cut {q : GEntry × Mem // q.1.Name.size ≤ 1000 ∧ Src X q.2 ad (b + 2200) ∧ W23 q.2 ad.block aw rb K m acting A c s [.int .i64 s.Pg.Pool, .int .i64 s.Pg.No, .int .i64 s.Seen, .int .i64 s.Started, .int .i64 s.Tail.Epoch, .int .i64 s.Tail.Seq, .slice A0 s.Base.length c0, .slice A1 s.Clients.length c1, .slice A2 s.Log.length c2, .int .i64 s.Firm.Epoch, .int .i64 s.Firm.Seq, .slice A3 s.Chunks.length c3] l B cap} (fun ⟨⟨e, N⟩, _⟩ => [(0, .v (.pointer (some ad))), (1, .v (.pointer (some aw))), (5, .p 0 0), (6, .v (.string body)), (7, .p 2 0)]) (fun ⟨⟨e, N⟩, _⟩ => [(2, [.int .i64 e.Ver.Epoch, .int .i64 e.Ver.Seq, .int .i64 e.Prior.Epoch, .int .i64 e.Prior.Seq, .string e.Name, .bool e.Gone, .int .i64 e.Size, .int .i64 e.Sum, .int .i64 e.Req.Client, .int .i64 e.Req.No]), (0, [.int .i64 ep, .int .i64 sq])]) 20 (fun ⟨⟨e, N⟩, _⟩ => N) ?_ ?_
      · (conv => whnf)
        refine gcall (one_b hS2 (by omega)) hno (fun g N3 _ hS3 hlb3 => ?_)
        (conv => whnf)
        refine CondK.mk (fun hg => ?_) (fun hg => ?_)
        · (conv => whnf)
          exact ⟨⟨(⟨e.Ver, e.Prior, e.Name, true, 0, 0, e.Req⟩, N3), hen, hS3.mono (fun _ _ h => h) (by omega), hw2.mono hlb3⟩, ⟨⟨rfl, rfl, rfl, rfl, rfl, trivial⟩, ⟨rfl, rfl, trivial⟩, rfl, rfl⟩, rfl⟩
        · (conv => whnf)
          exact ⟨⟨(e, N3), hen, hS3.mono (fun _ _ h => h) (by omega), hw2.mono hlb3⟩, ⟨⟨rfl, rfl, rfl, rfl, rfl, trivial⟩, ⟨rfl, rfl, trivial⟩, rfl, rfl⟩, rfl⟩
      · clear hen hS2 hw2
        rintro ⟨⟨e, N2⟩, hen, hS2, hw2⟩
        replace hen : e.Name.size ≤ 1000 := hen
        replace hS2 : Src X N2 ad (b + 2200) := hS2
        replace hw2 : W23 N2 ad.block aw rb K m acting A c s [.int .i64 s.Pg.Pool, .int .i64 s.Pg.No, .int .i64 s.Seen, .int .i64 s.Started, .int .i64 s.Tail.Epoch, .int .i64 s.Tail.Seq, .slice A0 s.Base.length c0, .slice A1 s.Clients.length c1, .slice A2 s.Log.length c2, .int .i64 s.Firm.Epoch, .int .i64 s.Firm.Seq, .slice A3 s.Chunks.length c3] l B cap := hw2
        have hsp2 : RPgState N2 s [.int .i64 s.Pg.Pool, .int .i64 s.Pg.No, .int .i64 s.Seen, .int .i64 s.Started, .int .i64 s.Tail.Epoch, .int .i64 s.Tail.Seq, .slice A0 s.Base.length c0, .slice A1 s.Clients.length c1, .slice A2 s.Log.length c2, .int .i64 s.Firm.Epoch, .int .i64 s.Firm.Seq, .slice A3 s.Chunks.length c3] := RPgState.mono (offX_le _ _ _ _) _ _ hw2.sp
        clear p0 p1 p2 p3 p4 p5 p6 p7 p8 p9 p10 p11
        obtain ⟨p0, p1, p2, p3, p4, p5, p6, p7, p8, p9, p10, p11⟩ := hw2.pk
        (conv => whnf)
        refine DrawN.h {q : GPgState × Option Addr × Nat × Option Addr × Nat × Option Addr × Nat × Option Addr × Nat × Int × Mem // ∃ y A0 c0 A1 c1 A2 c2 A3 c3 c N3, q = (y, A0, c0, A1, c1, A2, c2, A3, c3, c, N3) ∧ RPgState (sub N3 N2) y [.int .i64 y.Pg.Pool, .int .i64 y.Pg.No, .int .i64 y.Seen, .int .i64 y.Started, .int .i64 y.Tail.Epoch, .int .i64 y.Tail.Seq, .slice A0 y.Base.length c0, .slice A1 y.Clients.length c1, .slice A2 y.Log.length c2, .int .i64 y.Firm.Epoch, .int .i64 y.Firm.Seq, .slice A3 y.Chunks.length c3] ∧ (c = 0 → stateOkF y = true) ∧ Le N2 N3 ∧ Fr N2 N3} (fun ⟨⟨y, A0, c0, A1, c1, A2, c2, A3, c3, cc, N3⟩, _⟩ => [(0, .v (.pointer (some ad))), (1, .v (.pointer (some aw))), (5, .p 0 0), (6, .v (.string body)), (7, .p 2 0), (8, .p 20 0), (9, .v (.int .i64 cc))]) (fun ⟨⟨y, A0, c0, A1, c1, A2, c2, A3, c3, cc, N3⟩, _⟩ => [(20, [.int .i64 y.Pg.Pool, .int .i64 y.Pg.No, .int .i64 y.Seen, .int .i64 y.Started, .int .i64 y.Tail.Epoch, .int .i64 y.Tail.Seq, .slice A0 y.Base.length c0, .slice A1 y.Clients.length c1, .slice A2 y.Log.length c2, .int .i64 y.Firm.Epoch, .int .i64 y.Firm.Seq, .slice A3 y.Chunks.length c3]), (2, [.int .i64 e.Ver.Epoch, .int .i64 e.Ver.Seq, .int .i64 e.Prior.Epoch, .int .i64 e.Prior.Seq, .string e.Name, .bool e.Gone, .int .i64 e.Size, .int .i64 e.Sum, .int .i64 e.Req.Client, .int .i64 e.Req.No]), (0, [.int .i64 ep, .int .i64 sq])]) 30 (fun ⟨⟨y, A0, c0, A1, c1, A2, c2, A3, c3, cc, N3⟩, _⟩ => N3) (by kernel_rfl) ?_ ?_
        · repeat' ((conv => whnf); first | refine AndK.mk ?_ ?_ | refine HeldK.mk (by kernel_rfl) ?_ | refine LdK.mk _ (by assumption) ?_ | refine callAdd (addEntry_r _ s _ hsp2 e hen) (fun y A0 c0 A1 c1 A2 c2 A3 c3 cc N3 hy hok hl3 hf3 => ?_) | fail)
          all_goals exact ⟨⟨(y, A0, c0, A1, c1, A2, c2, A3, c3, cc, N3), _, _, _, _, _, _, _, _, _, _, _, rfl, hy, hok, hl3, hf3⟩, ⟨⟨rfl, rfl, rfl, rfl, rfl, rfl, rfl, trivial⟩, ⟨rfl, rfl, rfl, trivial⟩, rfl, rfl⟩, rfl⟩
        · rintro ⟨_, y, B0, d0, B1, d1, B2, d2, B3, d3, cc, N3, rfl, hy, hok, hl3, hf3⟩
          clear p0 p1 p2 p3 p4 p5 p6 p7 p8 p9 p10 p11
          have hw3 := hw2.up hl3
          have hS3 := hS2.mono hl3 (Int.le_refl _)
          have hyX : RPgState (offX N3 ad.block aw.block rb) y [.int .i64 y.Pg.Pool, .int .i64 y.Pg.No, .int .i64 y.Seen, .int .i64 y.Started, .int .i64 y.Tail.Epoch, .int .i64 y.Tail.Seq, .slice B0 y.Base.length d0, .slice B1 y.Clients.length d1, .slice B2 y.Log.length d2, .int .i64 y.Firm.Epoch, .int .i64 y.Firm.Seq, .slice B3 y.Chunks.length d3] := RPgState.mono (hw2.new hS2 hf3) _ _ hy
          by_cases hcc : cc = 0
          · subst hcc
            replace hok := hok rfl
            (conv => whnf)
            refine JoinK.go ?_
            (conv => whnf)
            refine WrL.mk rfl (fun o ho => ?_) (fun o _ => offX_no (.inr (.inl (by rw [add_blk, add_blk])))) rfl (fun N4 k1 k2 => ?_)
            · rw [add_add]
              obtain ⟨u, hu⟩ : ∃ u, [Value.int .i64 s.Pg.Pool, .int .i64 s.Pg.No, .int .i64 s.Seen, .int .i64 s.Started, .int .i64 s.Tail.Epoch, .int .i64 s.Tail.Seq, .slice A0 s.Base.length c0, .slice A1 s.Clients.length c1, .slice A2 s.Log.length c2, .int .i64 s.Firm.Epoch, .int .i64 s.Firm.Seq, .slice A3 s.Chunks.length c3][o]? = some u := ⟨_, List.getElem?_eq_getElem (show o < 12 from ho)⟩
              have := hw3.cp o u hu
              exact Option.isSome_iff_exists.mpr ⟨u, this⟩
            obtain ⟨hw4, hx4, out4⟩ := hw3.pick hyX hok rfl k1 k2
            have hS4 : Src X N4 ad (b + 2200) := hS3.keep (fun a u hu => out4 a u (hX a u hu).1 (hS3.sx a u hu).1) (fun a u ha hu => out4 a u (by rw [ha]; exact Ne.symm hw3.ne) hu)
            clear hw3 hS3 hyX k1 k2 hx4 out4
            have q0 := hw4.c0
            have q1 := hw4.c1
            (conv => whnf)
            refine LdK.mk _ q0 ?_
            (conv => whnf)
            refine LdK.mk _ q1 ?_
            (conv => whnf)
            refine CallK.mf _ (l04Shards_r N4 K m body hw4.km.1 hw4.km.2.1 hw4.km.2.2.1 hw4.km.2.2.2.1 hbody) (fun v N5 hl5 hf5 hv => ?_)
            obtain ⟨ps, Ap, cap5, rfl, hpl, hps, hsh⟩ := hv
            have hshX := strUp hsh (hw4.new hS4 hf5)
            have hw5 := hw4.up hl5
            have hS5 := hS4.mono hl5 (Int.le_refl _)
            clear hw4 hS4 hsh q0 q1
            have hnA : acting.length ≤ 5 := by have := hw5.km; omega
            (conv => whnf)
            refine LoopK.mk {q : Nat × List GNotice × Mem // q.1 ≤ acting.length ∧ Src X q.2.2 ad (b + 2300 + 10 * q.1) ∧ W23 q.2.2 ad.block aw rb K m acting A c y [.int .i64 y.Pg.Pool, .int .i64 y.Pg.No, .int .i64 y.Seen, .int .i64 y.Started, .int .i64 y.Tail.Epoch, .int .i64 y.Tail.Seq, .slice B0 y.Base.length d0, .slice B1 y.Clients.length d1, .slice B2 y.Log.length d2, .int .i64 y.Firm.Epoch, .int .i64 y.Firm.Seq, .slice B3 y.Chunks.length d3] q.2.1 B cap ∧ SlR (offX q.2.2 ad.block aw.block rb) RStr 1 16 Ap cap5 ps} (fun ⟨⟨i, l, N⟩, _⟩ => [(0, .v (.pointer (some ad))), (1, .v (.pointer (some aw))), (5, .p 0 0), (6, .v (.string body)), (7, .p 2 0), (10, .v (.slice Ap ps.length cap5)), (11, .v (.int .i64 (i : Int)))]) (fun _ => [(2, [.int .i64 e.Ver.Epoch, .int .i64 e.Ver.Seq, .int .i64 e.Prior.Epoch, .int .i64 e.Prior.Seq, .string e.Name, .bool e.Gone, .int .i64 e.Size, .int .i64 e.Sum, .int .i64 e.Req.Client, .int .i64 e.Req.No]), (0, [.int .i64 ep, .int .i64 sq])]) (fun ⟨⟨i, l, N⟩, _⟩ => N) (fun q => acting.length - q.1.1) ⟨(0, l, N5), Nat.zero_le _, hS5.mono (fun _ _ h => h) (by show _ ≤ b + 2300 + 10 * ((0 : Nat) : Int); omega), hw5, hshX⟩ ⟨⟨⟨rfl, rfl, rfl, rfl, rfl, rfl, rfl, trivial⟩, ⟨rfl, rfl, trivial⟩, rfl, rfl⟩, rfl⟩ ?_
            clear hS5 hw5 hshX
            rintro ⟨⟨i, l, N⟩, hi, hS6, hw6, hsh6⟩
            replace hi : i ≤ acting.length := hi
            replace hS6 : Src X N ad (b + 2300 + 10 * i) := hS6
            replace hw6 : W23 N ad.block aw rb K m acting A c y [.int .i64 y.Pg.Pool, .int .i64 y.Pg.No, .int .i64 y.Seen, .int .i64 y.Started, .int .i64 y.Tail.Epoch, .int .i64 y.Tail.Seq, .slice B0 y.Base.length d0, .slice B1 y.Clients.length d1, .slice B2 y.Log.length d2, .int .i64 y.Firm.Epoch, .int .i64 y.Firm.Seq, .slice B3 y.Chunks.length d3] l B cap := hw6
            replace hsh6 : SlR (offX N ad.block aw.block rb) RStr 1 16 Ap cap5 ps := hsh6
            have q2 := hw6.c2
            have q15 := hw6.c15
            (conv => whnf)
            refine JoinK.go ?_
            by_cases hlt : i < acting.length
            · (conv => whnf)
              refine LdK.mk _ q2 ?_
              (conv => whnf)
              refine CondK.yes' (decide_eq_true (by omega)) ?_
              obtain ⟨x, hx⟩ : ∃ x, acting[i]? = some x := ⟨_, List.getElem?_eq_getElem hlt⟩
              obtain ⟨A9, cs9, hA9, hcs9, _, hel9⟩ := hw6.sa.el i x hx
              replace hcs9 : cs9 = [.int .i64 x] := hcs9
              subst hcs9
              have hel := (offX_out (hel9 0 _ rfl)).1
              clear hel9
              obtain ⟨w9, hw9⟩ : ∃ w9, ps[i]? = some w9 := ⟨_, List.getElem?_eq_getElem (by have := hw6.km; omega)⟩
              obtain ⟨Ap0, cs8, hAp, hcs8, _, hel8⟩ := hsh6.el i w9 hw9
              obtain ⟨rfl, _⟩ := hcs8
              have hstr := (offX_out (hel8 0 _ rfl)).1
              clear hel8
              have hw9s := hps w9 (List.mem_of_getElem? hw9)
              subst hAp
              have hsl := hw6.sl
              (conv => whnf)
              refine JoinK.go ?_
              (conv => whnf)
              refine DrawN.h {q : Int × Mem // (q.1 < 0 ∨ 0 ≤ q.1 ∧ q.1 < l.length) ∧ Le N q.2} (fun ⟨⟨k, N⟩, _⟩ => [(0, .v (.pointer (some ad))), (1, .v (.pointer (some aw))), (5, .p 0 0), (6, .v (.string body)), (7, .p 2 0), (10, .v (.slice (some Ap0) ps.length cap5)), (11, .v (.int .i64 (i : Int))), (12, .v (.int .i64 k))]) (fun _ => [(2, [.int .i64 e.Ver.Epoch, .int .i64 e.Ver.Seq, .int .i64 e.Prior.Epoch, .int .i64 e.Prior.Seq, .string e.Name, .bool e.Gone, .int .i64 e.Size, .int .i64 e.Sum, .int .i64 e.Req.Client, .int .i64 e.Req.No]), (0, [.int .i64 ep, .int .i64 sq])]) 60 (fun ⟨⟨k, N⟩, _⟩ => N) (by kernel_rfl) ?_ ?_
              · repeat' ((conv => whnf); first | refine AndK.mk ?_ ?_ | refine HeldK.mk (by kernel_rfl) ?_ | refine LdK.mk _ (by assumption) ?_ | refine IdxK.at i _ rfl hA9 hlt ?_ | refine callEx (l22FromW_a _ l B cap hsl x) (fun k N1 hk hl1 => ?_) | fail)
                all_goals exact ⟨⟨(k, N1), hk, hl1⟩, ⟨⟨rfl, rfl, rfl, rfl, rfl, rfl, rfl, rfl, trivial⟩, ⟨rfl, rfl, trivial⟩, rfl, rfl⟩, rfl⟩
              · rintro ⟨⟨k, N1⟩, hk, hl1⟩
                replace hk : k < 0 ∨ 0 ≤ k ∧ k < l.length := hk
                replace hl1 : Le N N1 := hl1
                have hS7 := hS6.mono hl1 (Int.le_refl _)
                have hw7 := hw6.up hl1
                have hsh7 : SlR (offX N1 ad.block aw.block rb) RStr 1 16 (some Ap0) cap5 ps := strUp hsh6 (offX_mono (fun z u hu => hl1 _ _ (off_le _ _ _ _ hu)))
                by_cases hk0 : k < 0
                · repeat' ((conv => whnf); first | refine JoinK.go ?_ | refine CondK.yes' (decide_eq_true hk0) ?_ | fail)
                  exact ⟨⟨(i + 1, l, N1), by show i + 1 ≤ acting.length; omega, hS7.mono (fun _ _ h => h) (by show _ ≤ b + 2300 + 10 * ((i + 1 : Nat) : Int); omega), hw7, hsh7⟩, ⟨⟨rfl, rfl, rfl, rfl, rfl, rfl, look_int (i64_succ (by omega)), trivial⟩, ⟨rfl, rfl, trivial⟩, rfl, rfl⟩, rfl, by show acting.length - (i + 1) < acting.length - i; omega⟩
                · obtain ⟨kn, rfl⟩ : ∃ kn : Nat, k = kn := ⟨k.toNat, by omega⟩
                  have hkl : kn < l.length := by omega
                  obtain ⟨x0, hx0⟩ : ∃ x0, l[kn]? = some x0 := ⟨_, List.getElem?_eq_getElem hkl⟩
                  rcases Bool.eq_false_or_eq_true e.Gone with hG | hG
                  · repeat' ((conv => whnf); first | refine JoinK.go ?_ | refine CondK.no' (decide_eq_false hk0) ?_ | refine CondK.yes' hG ?_ | fail)
                    exact ⟨⟨(i + 1, l, N1), by show i + 1 ≤ acting.length; omega, hS7.mono (fun _ _ h => h) (by show _ ≤ b + 2300 + 10 * ((i + 1 : Nat) : Int); omega), hw7, hsh7⟩, ⟨⟨rfl, rfl, rfl, rfl, rfl, rfl, look_int (i64_succ (by omega)), trivial⟩, ⟨rfl, rfl, trivial⟩, rfl, rfl⟩, rfl, by show acting.length - (i + 1) < acting.length - i; omega⟩
                  · repeat' ((conv => whnf); first | refine JoinK.go ?_ | refine CondK.no' (decide_eq_false hk0) ?_ | refine CondK.no' hG ?_ | fail)
                    (conv => whnf)
                    refine gcall (one_b hS7 (by omega)) hno (fun g N2 _ hS8 hlb8 => ?_)
                    have hw8 := hw7.mono hlb8
                    have hsh8 : SlR (offX N2 ad.block aw.block rb) RStr 1 16 (some Ap0) cap5 ps := strUp hsh7 (offX_mono hlb8)
                    have hel8 : N2 ((A9.add (i * 1)).add 0) = some (.int .i64 x) := by
                      obtain ⟨A9', cs9, hA9', hcs9, _, hel9⟩ := hw8.sa.el i x hx
                      replace hcs9 : cs9 = [.int .i64 x] := hcs9
                      subst hcs9
                      rw [hA9] at hA9'
                      cases hA9'
                      exact (offX_out (hel9 0 _ rfl)).1
                    have hstr8 : N2 ((Ap0.add (i * 1)).add 0) = some (.string w9) := by
                      obtain ⟨Ap1, cs8, hAp, hcs8, _, hel8⟩ := hsh8.el i w9 hw9
                      obtain ⟨rfl, _⟩ := hcs8
                      cases hAp
                      exact (offX_out (hel8 0 _ rfl)).1
                    have q15' := hw8.c15
                    obtain ⟨hrw, ar, xcs, hB, hrb, hRN, hxl, hxs, hcells⟩ := hw8.st kn x0 hx0
                    subst hB
                    obtain ⟨A4, c4, A5, c5, A6, c6, A7, c7, rfl, _, z0, z1, z2, z3⟩ := hRN
                    have hst : RPgState (offX N2 ad.block aw.block rb) x0.State [.int .i64 x0.State.Pg.Pool, .int .i64 x0.State.Pg.No, .int .i64 x0.State.Seen, .int .i64 x0.State.Started, .int .i64 x0.State.Tail.Epoch, .int .i64 x0.State.Tail.Seq, .slice A4 x0.State.Base.length c4, .slice A5 x0.State.Clients.length c5, .slice A6 x0.State.Log.length c6, .int .i64 x0.State.Firm.Epoch, .int .i64 x0.State.Firm.Seq, .slice A7 x0.State.Chunks.length c7] := ⟨A4, c4, A5, c5, A6, c6, A7, c7, rfl, trivial, z0, z1, z2, z3⟩
                    have t1 : N2 ((ar.add (kn * 13)).add 1) = some _ := hcells 1 _ rfl
                    have t2 : N2 ((ar.add (kn * 13)).add 2) = some _ := hcells 2 _ rfl
                    have t3 : N2 ((ar.add (kn * 13)).add 3) = some _ := hcells 3 _ rfl
                    have t4 : N2 ((ar.add (kn * 13)).add 4) = some _ := hcells 4 _ rfl
                    have t5 : N2 ((ar.add (kn * 13)).add 5) = some _ := hcells 5 _ rfl
                    have t6 : N2 ((ar.add (kn * 13)).add 6) = some _ := hcells 6 _ rfl
                    have t7 : N2 ((ar.add (kn * 13)).add 7) = some _ := hcells 7 _ rfl
                    have t8 : N2 ((ar.add (kn * 13)).add 8) = some _ := hcells 8 _ rfl
                    have t9 : N2 ((ar.add (kn * 13)).add 9) = some _ := hcells 9 _ rfl
                    have t10 : N2 ((ar.add (kn * 13)).add 10) = some _ := hcells 10 _ rfl
                    have t11 : N2 ((ar.add (kn * 13)).add 11) = some _ := hcells 11 _ rfl
                    have t12 : N2 ((ar.add (kn * 13)).add 12) = some _ := hcells 12 _ rfl
                    (conv => whnf)
                    refine CondK.mk (fun hg => ?_) (fun hg => ?_)
                    · (conv => whnf)
                      exact ⟨⟨(i + 1, l, N2), by show i + 1 ≤ acting.length; omega, hS8.mono (fun _ _ h => h) (by show _ ≤ b + 2300 + 10 * ((i + 1 : Nat) : Int); omega), hw8, hsh8⟩, ⟨⟨rfl, rfl, rfl, rfl, rfl, rfl, look_int (i64_succ (by omega)), trivial⟩, ⟨rfl, rfl, trivial⟩, rfl, rfl⟩, rfl, by show acting.length - (i + 1) < acting.length - i; omega⟩
                    · (conv => whnf)
                      refine DrawN.h {q : GPgState × Option Addr × Nat × Option Addr × Nat × Option Addr × Nat × Option Addr × Nat × Int × Mem // ∃ y A0 c0 A1 c1 A2 c2 A3 c3 c Na N3, q = (y, A0, c0, A1, c1, A2, c2, A3, c3, c, N3) ∧ RPgState (sub N3 Na) y [.int .i64 y.Pg.Pool, .int .i64 y.Pg.No, .int .i64 y.Seen, .int .i64 y.Started, .int .i64 y.Tail.Epoch, .int .i64 y.Tail.Seq, .slice A0 y.Base.length c0, .slice A1 y.Clients.length c1, .slice A2 y.Log.length c2, .int .i64 y.Firm.Epoch, .int .i64 y.Firm.Seq, .slice A3 y.Chunks.length c3] ∧ SmallS y ∧ Le N2 Na ∧ Le Na N3 ∧ Fr Na N3} (fun ⟨⟨y, A0, c0, A1, c1, A2, c2, A3, c3, cc, N3⟩, _⟩ => [(0, .v (.pointer (some ad))), (1, .v (.pointer (some aw))), (5, .p 0 0), (6, .v (.string body)), (7, .p 2 0), (10, .v (.slice (some Ap0) ps.length cap5)), (11, .v (.int .i64 (i : Int))), (12, .v (.int .i64 (kn : Int))), (13, .p 60 0), (14, .v (.int .i64 cc))]) (fun ⟨⟨y, A0, c0, A1, c1, A2, c2, A3, c3, cc, N3⟩, _⟩ => [(60, [.int .i64 y.Pg.Pool, .int .i64 y.Pg.No, .int .i64 y.Seen, .int .i64 y.Started, .int .i64 y.Tail.Epoch, .int .i64 y.Tail.Seq, .slice A0 y.Base.length c0, .slice A1 y.Clients.length c1, .slice A2 y.Log.length c2, .int .i64 y.Firm.Epoch, .int .i64 y.Firm.Seq, .slice A3 y.Chunks.length c3]), (2, [.int .i64 e.Ver.Epoch, .int .i64 e.Ver.Seq, .int .i64 e.Prior.Epoch, .int .i64 e.Prior.Seq, .string e.Name, .bool e.Gone, .int .i64 e.Size, .int .i64 e.Sum, .int .i64 e.Req.Client, .int .i64 e.Req.No]), (0, [.int .i64 ep, .int .i64 sq])]) 70 (fun ⟨⟨y, A0, c0, A1, c1, A2, c2, A3, c3, cc, N3⟩, _⟩ => N3) (by kernel_rfl) ?_ ?_
                      · repeat' ((conv => whnf); first | refine AndK.mk ?_ ?_ | refine HeldK.mk (by kernel_rfl) ?_ | refine LdK.mk _ (by assumption) ?_ | refine IdxK.at kn _ rfl rfl hkl ?_ | refine IdxK.at i _ rfl rfl (by have := hw8.km; omega) ?_ | refine callCh (l23Chunk_r _ e.Name ⟨ep, sq⟩ 0 0 (i : Int) w9 hw9s) (fun xs Na hla => ?_) | refine callPut (putChunk_r _ x0.State _ (RPgState.mono hla _ _ (RPgState.mono (offX_le _ _ _ _) _ _ hst)) ⟨e.Name, ⟨ep, sq⟩, (i : Int), xs, w9⟩ hen hw9s) (fun y2 E0 g0 E1 g1 E2 g2 E3 g3 cc N3 hy2 hsm2 hl3 hf3 => ?_) | fail)
                        all_goals exact ⟨⟨(y2, E0, g0, E1, g1, E2, g2, E3, g3, cc, N3), _, _, _, _, _, _, _, _, _, _, _, _, rfl, hy2, hsm2, hla, hl3, hf3⟩, ⟨⟨rfl, rfl, rfl, rfl, rfl, rfl, rfl, rfl, rfl, rfl, trivial⟩, ⟨rfl, rfl, rfl, trivial⟩, rfl, rfl⟩, rfl⟩
                      · rintro ⟨_, y2, E0, g0, E1, g1, E2, g2, E3, g3, cc, Na, N3, rfl, hy2, hsm2, hla, hl3, hf3⟩
                        have hw10 := (hw8.up hla).up hl3
                        have hS10 := (hS8.mono hla (Int.le_refl _)).mono hl3 (Int.le_refl _)
                        have hyX2 := RPgState.mono ((hw8.up hla).new (hS8.mono hla (Int.le_refl _)) hf3) _ _ hy2
                        have hsh10 : SlR (offX N3 ad.block aw.block rb) RStr 1 16 (some Ap0) cap5 ps := strUp hsh8 (offX_mono (fun z u hu => hl3 _ _ (hla _ _ (off_le _ _ _ _ hu))))
                        have hx10 : RowAt N3 (offX N3 ad.block aw.block rb) (some ar) aw.block rb kn x0 := hw10.st kn x0 hx0
                        have q15n := hw10.c15
                        by_cases hc0 : cc = 0
                        · subst hc0
                          repeat' ((conv => whnf); first | refine JoinK.go ?_ | refine DrawN.t 8 (by kernel_rfl) ?_ | refine LdK.mk _ q15n ?_ | refine IdxK.at kn _ rfl rfl hkl ?_ | fail)
                          refine WrL.mk rfl (fun o ho => ?_) (fun o _ => offX_no (.inr (.inr (by rw [add_blk, add_blk, add_blk, hrb])))) rfl (fun N4 k1 k2 => ?_)
                          · obtain ⟨_, ar', cs', h1, h2, h3, h4, h5, h6⟩ := hx10
                            cases h1
                            show (N3 (((ar.add (kn * 13)).add 1).add o)).isSome = true
                            rw [add_add _ 1 o]
                            exact Option.isSome_iff_exists.mpr ⟨_, h6 (1 + o) _ (List.getElem?_eq_getElem (by rw [h4]; have : o < 12 := ho; omega))⟩
                          obtain ⟨hw11, hx11, out11⟩ := hw10.node hx0 rfl hyX2 hsm2 rfl k1 k2
                          have hS11 : Src X N4 ad (b + 2300 + 10 * i + 2) := hS10.keep (fun a u hu => out11 a u (hX a u hu).2 (hS10.sx a u hu).1) (fun a u ha hu => out11 a u (by rw [ha]; exact Ne.symm hw10.nr) hu)
                          exact ⟨⟨(i + 1, l.set kn ⟨x0.From, y2⟩, N4), by show i + 1 ≤ acting.length; omega, hS11.mono (fun _ _ h => h) (by show _ ≤ b + 2300 + 10 * ((i + 1 : Nat) : Int); omega), hw11, strUp hsh10 hx11⟩, ⟨⟨rfl, rfl, rfl, rfl, rfl, rfl, look_int (i64_succ (by omega)), trivial⟩, ⟨rfl, rfl, trivial⟩, rfl, rfl⟩, rfl, by show acting.length - (i + 1) < acting.length - i; omega⟩
                        · repeat' ((conv => whnf); first | refine JoinK.go ?_ | refine CondK.no' (by simpa using hc0) ?_ | fail)
                          exact ⟨⟨(i + 1, l, N3), by show i + 1 ≤ acting.length; omega, hS10.mono (fun _ _ h => h) (by show _ ≤ b + 2300 + 10 * ((i + 1 : Nat) : Int); omega), hw10, hsh10⟩, ⟨⟨rfl, rfl, rfl, rfl, rfl, rfl, look_int (i64_succ (by omega)), trivial⟩, ⟨rfl, rfl, trivial⟩, rfl, rfl⟩, rfl, by show acting.length - (i + 1) < acting.length - i; omega⟩
            · (conv => whnf)
              refine LdK.mk _ q2 ?_
              (conv => whnf)
              refine CondK.no' (decide_eq_false (by omega)) ?_
              (conv => whnf)
              exact RetK.mk fun g M' hl _ => ⟨rfl, hS6.mono hl (by omega), _, _, _, _, _, _, _, _, _, _, hw6.up hl⟩
          · (conv => whnf)
            refine JoinK.go ?_
            (conv => whnf)
            refine CondK.yes' (by simpa using hcc) ?_
            (conv => whnf)
            exact RetK.mk fun g M' hl _ => ⟨rfl, hS3.mono hl (by omega), _, _, _, _, _, _, _, _, _, _, hw3.up hl⟩
    · refine JoinK.cut {q : GEntry × Mem // q.1.Name.size ≤ 1000 ∧ Src X q.2 ad (b + 2200) ∧ W23 q.2 ad.block aw rb K m acting A c s [.int .i64 s.Pg.Pool, .int .i64 s.Pg.No, .int .i64 s.Seen, .int .i64 s.Started, .int .i64 s.Tail.Epoch, .int .i64 s.Tail.Seq, .slice A0 s.Base.length c0, .slice A1 s.Clients.length c1, .slice A2 s.Log.length c2, .int .i64 s.Firm.Epoch, .int .i64 s.Firm.Seq, .slice A3 s.Chunks.length c3] l B cap} (fun ⟨⟨e, N⟩, _⟩ => [(0, .v (.pointer (some ad))), (1, .v (.pointer (some aw))), (5, .p 0 0), (6, .v (.string body)), (7, .p 1 0)]) (fun ⟨⟨e, N⟩, _⟩ => [(1, [.int .i64 e.Ver.Epoch, .int .i64 e.Ver.Seq, .int .i64 e.Prior.Epoch, .int .i64 e.Prior.Seq, .string e.Name, .bool e.Gone, .int .i64 e.Size, .int .i64 e.Sum, .int .i64 e.Req.Client, .int .i64 e.Req.No]), (0, [.int .i64 ep, .int .i64 sq])]) 20 (fun ⟨⟨e, N⟩, _⟩ => N) ?_ ?_
      · (conv => whnf)
        refine gcall (one_b hS2 (by omega)) hno (fun g N3 _ hS3 hlb3 => ?_)
        (conv => whnf)
        refine CondK.mk (fun hg => ?_) (fun hg => ?_)
        · (conv => whnf)
          exact ⟨⟨(⟨e.Ver, e.Prior, e.Name, true, 0, 0, e.Req⟩, N3), hen, hS3.mono (fun _ _ h => h) (by omega), hw2.mono hlb3⟩, ⟨⟨rfl, rfl, rfl, rfl, rfl, trivial⟩, ⟨rfl, rfl, trivial⟩, rfl, rfl⟩, rfl⟩
        · (conv => whnf)
          exact ⟨⟨(e, N3), hen, hS3.mono (fun _ _ h => h) (by omega), hw2.mono hlb3⟩, ⟨⟨rfl, rfl, rfl, rfl, rfl, trivial⟩, ⟨rfl, rfl, trivial⟩, rfl, rfl⟩, rfl⟩
      · clear hen hS2 hw2
        rintro ⟨⟨e, N2⟩, hen, hS2, hw2⟩
        replace hen : e.Name.size ≤ 1000 := hen
        replace hS2 : Src X N2 ad (b + 2200) := hS2
        replace hw2 : W23 N2 ad.block aw rb K m acting A c s [.int .i64 s.Pg.Pool, .int .i64 s.Pg.No, .int .i64 s.Seen, .int .i64 s.Started, .int .i64 s.Tail.Epoch, .int .i64 s.Tail.Seq, .slice A0 s.Base.length c0, .slice A1 s.Clients.length c1, .slice A2 s.Log.length c2, .int .i64 s.Firm.Epoch, .int .i64 s.Firm.Seq, .slice A3 s.Chunks.length c3] l B cap := hw2
        have hsp2 : RPgState N2 s [.int .i64 s.Pg.Pool, .int .i64 s.Pg.No, .int .i64 s.Seen, .int .i64 s.Started, .int .i64 s.Tail.Epoch, .int .i64 s.Tail.Seq, .slice A0 s.Base.length c0, .slice A1 s.Clients.length c1, .slice A2 s.Log.length c2, .int .i64 s.Firm.Epoch, .int .i64 s.Firm.Seq, .slice A3 s.Chunks.length c3] := RPgState.mono (offX_le _ _ _ _) _ _ hw2.sp
        clear p0 p1 p2 p3 p4 p5 p6 p7 p8 p9 p10 p11
        obtain ⟨p0, p1, p2, p3, p4, p5, p6, p7, p8, p9, p10, p11⟩ := hw2.pk
        (conv => whnf)
        refine DrawN.h {q : GPgState × Option Addr × Nat × Option Addr × Nat × Option Addr × Nat × Option Addr × Nat × Int × Mem // ∃ y A0 c0 A1 c1 A2 c2 A3 c3 c N3, q = (y, A0, c0, A1, c1, A2, c2, A3, c3, c, N3) ∧ RPgState (sub N3 N2) y [.int .i64 y.Pg.Pool, .int .i64 y.Pg.No, .int .i64 y.Seen, .int .i64 y.Started, .int .i64 y.Tail.Epoch, .int .i64 y.Tail.Seq, .slice A0 y.Base.length c0, .slice A1 y.Clients.length c1, .slice A2 y.Log.length c2, .int .i64 y.Firm.Epoch, .int .i64 y.Firm.Seq, .slice A3 y.Chunks.length c3] ∧ (c = 0 → stateOkF y = true) ∧ Le N2 N3 ∧ Fr N2 N3} (fun ⟨⟨y, A0, c0, A1, c1, A2, c2, A3, c3, cc, N3⟩, _⟩ => [(0, .v (.pointer (some ad))), (1, .v (.pointer (some aw))), (5, .p 0 0), (6, .v (.string body)), (7, .p 1 0), (8, .p 20 0), (9, .v (.int .i64 cc))]) (fun ⟨⟨y, A0, c0, A1, c1, A2, c2, A3, c3, cc, N3⟩, _⟩ => [(20, [.int .i64 y.Pg.Pool, .int .i64 y.Pg.No, .int .i64 y.Seen, .int .i64 y.Started, .int .i64 y.Tail.Epoch, .int .i64 y.Tail.Seq, .slice A0 y.Base.length c0, .slice A1 y.Clients.length c1, .slice A2 y.Log.length c2, .int .i64 y.Firm.Epoch, .int .i64 y.Firm.Seq, .slice A3 y.Chunks.length c3]), (1, [.int .i64 e.Ver.Epoch, .int .i64 e.Ver.Seq, .int .i64 e.Prior.Epoch, .int .i64 e.Prior.Seq, .string e.Name, .bool e.Gone, .int .i64 e.Size, .int .i64 e.Sum, .int .i64 e.Req.Client, .int .i64 e.Req.No]), (0, [.int .i64 ep, .int .i64 sq])]) 30 (fun ⟨⟨y, A0, c0, A1, c1, A2, c2, A3, c3, cc, N3⟩, _⟩ => N3) (by kernel_rfl) ?_ ?_
        · repeat' ((conv => whnf); first | refine AndK.mk ?_ ?_ | refine HeldK.mk (by kernel_rfl) ?_ | refine LdK.mk _ (by assumption) ?_ | refine callAdd (addEntry_r _ s _ hsp2 e hen) (fun y A0 c0 A1 c1 A2 c2 A3 c3 cc N3 hy hok hl3 hf3 => ?_) | fail)
          all_goals exact ⟨⟨(y, A0, c0, A1, c1, A2, c2, A3, c3, cc, N3), _, _, _, _, _, _, _, _, _, _, _, rfl, hy, hok, hl3, hf3⟩, ⟨⟨rfl, rfl, rfl, rfl, rfl, rfl, rfl, trivial⟩, ⟨rfl, rfl, rfl, trivial⟩, rfl, rfl⟩, rfl⟩
        · rintro ⟨_, y, B0, d0, B1, d1, B2, d2, B3, d3, cc, N3, rfl, hy, hok, hl3, hf3⟩
          clear p0 p1 p2 p3 p4 p5 p6 p7 p8 p9 p10 p11
          have hw3 := hw2.up hl3
          have hS3 := hS2.mono hl3 (Int.le_refl _)
          have hyX : RPgState (offX N3 ad.block aw.block rb) y [.int .i64 y.Pg.Pool, .int .i64 y.Pg.No, .int .i64 y.Seen, .int .i64 y.Started, .int .i64 y.Tail.Epoch, .int .i64 y.Tail.Seq, .slice B0 y.Base.length d0, .slice B1 y.Clients.length d1, .slice B2 y.Log.length d2, .int .i64 y.Firm.Epoch, .int .i64 y.Firm.Seq, .slice B3 y.Chunks.length d3] := RPgState.mono (hw2.new hS2 hf3) _ _ hy
          by_cases hcc : cc = 0
          · subst hcc
            replace hok := hok rfl
            (conv => whnf)
            refine JoinK.go ?_
            (conv => whnf)
            refine WrL.mk rfl (fun o ho => ?_) (fun o _ => offX_no (.inr (.inl (by rw [add_blk, add_blk])))) rfl (fun N4 k1 k2 => ?_)
            · rw [add_add]
              obtain ⟨u, hu⟩ : ∃ u, [Value.int .i64 s.Pg.Pool, .int .i64 s.Pg.No, .int .i64 s.Seen, .int .i64 s.Started, .int .i64 s.Tail.Epoch, .int .i64 s.Tail.Seq, .slice A0 s.Base.length c0, .slice A1 s.Clients.length c1, .slice A2 s.Log.length c2, .int .i64 s.Firm.Epoch, .int .i64 s.Firm.Seq, .slice A3 s.Chunks.length c3][o]? = some u := ⟨_, List.getElem?_eq_getElem (show o < 12 from ho)⟩
              have := hw3.cp o u hu
              exact Option.isSome_iff_exists.mpr ⟨u, this⟩
            obtain ⟨hw4, hx4, out4⟩ := hw3.pick hyX hok rfl k1 k2
            have hS4 : Src X N4 ad (b + 2200) := hS3.keep (fun a u hu => out4 a u (hX a u hu).1 (hS3.sx a u hu).1) (fun a u ha hu => out4 a u (by rw [ha]; exact Ne.symm hw3.ne) hu)
            clear hw3 hS3 hyX k1 k2 hx4 out4
            have q0 := hw4.c0
            have q1 := hw4.c1
            (conv => whnf)
            refine LdK.mk _ q0 ?_
            (conv => whnf)
            refine LdK.mk _ q1 ?_
            (conv => whnf)
            refine CallK.mf _ (l04Shards_r N4 K m body hw4.km.1 hw4.km.2.1 hw4.km.2.2.1 hw4.km.2.2.2.1 hbody) (fun v N5 hl5 hf5 hv => ?_)
            obtain ⟨ps, Ap, cap5, rfl, hpl, hps, hsh⟩ := hv
            have hshX := strUp hsh (hw4.new hS4 hf5)
            have hw5 := hw4.up hl5
            have hS5 := hS4.mono hl5 (Int.le_refl _)
            clear hw4 hS4 hsh q0 q1
            have hnA : acting.length ≤ 5 := by have := hw5.km; omega
            (conv => whnf)
            refine LoopK.mk {q : Nat × List GNotice × Mem // q.1 ≤ acting.length ∧ Src X q.2.2 ad (b + 2300 + 10 * q.1) ∧ W23 q.2.2 ad.block aw rb K m acting A c y [.int .i64 y.Pg.Pool, .int .i64 y.Pg.No, .int .i64 y.Seen, .int .i64 y.Started, .int .i64 y.Tail.Epoch, .int .i64 y.Tail.Seq, .slice B0 y.Base.length d0, .slice B1 y.Clients.length d1, .slice B2 y.Log.length d2, .int .i64 y.Firm.Epoch, .int .i64 y.Firm.Seq, .slice B3 y.Chunks.length d3] q.2.1 B cap ∧ SlR (offX q.2.2 ad.block aw.block rb) RStr 1 16 Ap cap5 ps} (fun ⟨⟨i, l, N⟩, _⟩ => [(0, .v (.pointer (some ad))), (1, .v (.pointer (some aw))), (5, .p 0 0), (6, .v (.string body)), (7, .p 1 0), (10, .v (.slice Ap ps.length cap5)), (11, .v (.int .i64 (i : Int)))]) (fun _ => [(1, [.int .i64 e.Ver.Epoch, .int .i64 e.Ver.Seq, .int .i64 e.Prior.Epoch, .int .i64 e.Prior.Seq, .string e.Name, .bool e.Gone, .int .i64 e.Size, .int .i64 e.Sum, .int .i64 e.Req.Client, .int .i64 e.Req.No]), (0, [.int .i64 ep, .int .i64 sq])]) (fun ⟨⟨i, l, N⟩, _⟩ => N) (fun q => acting.length - q.1.1) ⟨(0, l, N5), Nat.zero_le _, hS5.mono (fun _ _ h => h) (by show _ ≤ b + 2300 + 10 * ((0 : Nat) : Int); omega), hw5, hshX⟩ ⟨⟨⟨rfl, rfl, rfl, rfl, rfl, rfl, rfl, trivial⟩, ⟨rfl, rfl, trivial⟩, rfl, rfl⟩, rfl⟩ ?_
            clear hS5 hw5 hshX
            rintro ⟨⟨i, l, N⟩, hi, hS6, hw6, hsh6⟩
            replace hi : i ≤ acting.length := hi
            replace hS6 : Src X N ad (b + 2300 + 10 * i) := hS6
            replace hw6 : W23 N ad.block aw rb K m acting A c y [.int .i64 y.Pg.Pool, .int .i64 y.Pg.No, .int .i64 y.Seen, .int .i64 y.Started, .int .i64 y.Tail.Epoch, .int .i64 y.Tail.Seq, .slice B0 y.Base.length d0, .slice B1 y.Clients.length d1, .slice B2 y.Log.length d2, .int .i64 y.Firm.Epoch, .int .i64 y.Firm.Seq, .slice B3 y.Chunks.length d3] l B cap := hw6
            replace hsh6 : SlR (offX N ad.block aw.block rb) RStr 1 16 Ap cap5 ps := hsh6
            have q2 := hw6.c2
            have q15 := hw6.c15
            (conv => whnf)
            refine JoinK.go ?_
            by_cases hlt : i < acting.length
            · (conv => whnf)
              refine LdK.mk _ q2 ?_
              (conv => whnf)
              refine CondK.yes' (decide_eq_true (by omega)) ?_
              obtain ⟨x, hx⟩ : ∃ x, acting[i]? = some x := ⟨_, List.getElem?_eq_getElem hlt⟩
              obtain ⟨A9, cs9, hA9, hcs9, _, hel9⟩ := hw6.sa.el i x hx
              replace hcs9 : cs9 = [.int .i64 x] := hcs9
              subst hcs9
              have hel := (offX_out (hel9 0 _ rfl)).1
              clear hel9
              obtain ⟨w9, hw9⟩ : ∃ w9, ps[i]? = some w9 := ⟨_, List.getElem?_eq_getElem (by have := hw6.km; omega)⟩
              obtain ⟨Ap0, cs8, hAp, hcs8, _, hel8⟩ := hsh6.el i w9 hw9
              obtain ⟨rfl, _⟩ := hcs8
              have hstr := (offX_out (hel8 0 _ rfl)).1
              clear hel8
              have hw9s := hps w9 (List.mem_of_getElem? hw9)
              subst hAp
              have hsl := hw6.sl
              (conv => whnf)
              refine JoinK.go ?_
              (conv => whnf)
              refine DrawN.h {q : Int × Mem // (q.1 < 0 ∨ 0 ≤ q.1 ∧ q.1 < l.length) ∧ Le N q.2} (fun ⟨⟨k, N⟩, _⟩ => [(0, .v (.pointer (some ad))), (1, .v (.pointer (some aw))), (5, .p 0 0), (6, .v (.string body)), (7, .p 1 0), (10, .v (.slice (some Ap0) ps.length cap5)), (11, .v (.int .i64 (i : Int))), (12, .v (.int .i64 k))]) (fun _ => [(1, [.int .i64 e.Ver.Epoch, .int .i64 e.Ver.Seq, .int .i64 e.Prior.Epoch, .int .i64 e.Prior.Seq, .string e.Name, .bool e.Gone, .int .i64 e.Size, .int .i64 e.Sum, .int .i64 e.Req.Client, .int .i64 e.Req.No]), (0, [.int .i64 ep, .int .i64 sq])]) 60 (fun ⟨⟨k, N⟩, _⟩ => N) (by kernel_rfl) ?_ ?_
              · repeat' ((conv => whnf); first | refine AndK.mk ?_ ?_ | refine HeldK.mk (by kernel_rfl) ?_ | refine LdK.mk _ (by assumption) ?_ | refine IdxK.at i _ rfl hA9 hlt ?_ | refine callEx (l22FromW_a _ l B cap hsl x) (fun k N1 hk hl1 => ?_) | fail)
                all_goals exact ⟨⟨(k, N1), hk, hl1⟩, ⟨⟨rfl, rfl, rfl, rfl, rfl, rfl, rfl, rfl, trivial⟩, ⟨rfl, rfl, trivial⟩, rfl, rfl⟩, rfl⟩
              · rintro ⟨⟨k, N1⟩, hk, hl1⟩
                replace hk : k < 0 ∨ 0 ≤ k ∧ k < l.length := hk
                replace hl1 : Le N N1 := hl1
                have hS7 := hS6.mono hl1 (Int.le_refl _)
                have hw7 := hw6.up hl1
                have hsh7 : SlR (offX N1 ad.block aw.block rb) RStr 1 16 (some Ap0) cap5 ps := strUp hsh6 (offX_mono (fun z u hu => hl1 _ _ (off_le _ _ _ _ hu)))
                by_cases hk0 : k < 0
                · repeat' ((conv => whnf); first | refine JoinK.go ?_ | refine CondK.yes' (decide_eq_true hk0) ?_ | fail)
                  exact ⟨⟨(i + 1, l, N1), by show i + 1 ≤ acting.length; omega, hS7.mono (fun _ _ h => h) (by show _ ≤ b + 2300 + 10 * ((i + 1 : Nat) : Int); omega), hw7, hsh7⟩, ⟨⟨rfl, rfl, rfl, rfl, rfl, rfl, look_int (i64_succ (by omega)), trivial⟩, ⟨rfl, rfl, trivial⟩, rfl, rfl⟩, rfl, by show acting.length - (i + 1) < acting.length - i; omega⟩
                · obtain ⟨kn, rfl⟩ : ∃ kn : Nat, k = kn := ⟨k.toNat, by omega⟩
                  have hkl : kn < l.length := by omega
                  obtain ⟨x0, hx0⟩ : ∃ x0, l[kn]? = some x0 := ⟨_, List.getElem?_eq_getElem hkl⟩
                  rcases Bool.eq_false_or_eq_true e.Gone with hG | hG
                  · repeat' ((conv => whnf); first | refine JoinK.go ?_ | refine CondK.no' (decide_eq_false hk0) ?_ | refine CondK.yes' hG ?_ | fail)
                    exact ⟨⟨(i + 1, l, N1), by show i + 1 ≤ acting.length; omega, hS7.mono (fun _ _ h => h) (by show _ ≤ b + 2300 + 10 * ((i + 1 : Nat) : Int); omega), hw7, hsh7⟩, ⟨⟨rfl, rfl, rfl, rfl, rfl, rfl, look_int (i64_succ (by omega)), trivial⟩, ⟨rfl, rfl, trivial⟩, rfl, rfl⟩, rfl, by show acting.length - (i + 1) < acting.length - i; omega⟩
                  · repeat' ((conv => whnf); first | refine JoinK.go ?_ | refine CondK.no' (decide_eq_false hk0) ?_ | refine CondK.no' hG ?_ | fail)
                    (conv => whnf)
                    refine gcall (one_b hS7 (by omega)) hno (fun g N2 _ hS8 hlb8 => ?_)
                    have hw8 := hw7.mono hlb8
                    have hsh8 : SlR (offX N2 ad.block aw.block rb) RStr 1 16 (some Ap0) cap5 ps := strUp hsh7 (offX_mono hlb8)
                    have hel8 : N2 ((A9.add (i * 1)).add 0) = some (.int .i64 x) := by
                      obtain ⟨A9', cs9, hA9', hcs9, _, hel9⟩ := hw8.sa.el i x hx
                      replace hcs9 : cs9 = [.int .i64 x] := hcs9
                      subst hcs9
                      rw [hA9] at hA9'
                      cases hA9'
                      exact (offX_out (hel9 0 _ rfl)).1
                    have hstr8 : N2 ((Ap0.add (i * 1)).add 0) = some (.string w9) := by
                      obtain ⟨Ap1, cs8, hAp, hcs8, _, hel8⟩ := hsh8.el i w9 hw9
                      obtain ⟨rfl, _⟩ := hcs8
                      cases hAp
                      exact (offX_out (hel8 0 _ rfl)).1
                    have q15' := hw8.c15
                    obtain ⟨hrw, ar, xcs, hB, hrb, hRN, hxl, hxs, hcells⟩ := hw8.st kn x0 hx0
                    subst hB
                    obtain ⟨A4, c4, A5, c5, A6, c6, A7, c7, rfl, _, z0, z1, z2, z3⟩ := hRN
                    have hst : RPgState (offX N2 ad.block aw.block rb) x0.State [.int .i64 x0.State.Pg.Pool, .int .i64 x0.State.Pg.No, .int .i64 x0.State.Seen, .int .i64 x0.State.Started, .int .i64 x0.State.Tail.Epoch, .int .i64 x0.State.Tail.Seq, .slice A4 x0.State.Base.length c4, .slice A5 x0.State.Clients.length c5, .slice A6 x0.State.Log.length c6, .int .i64 x0.State.Firm.Epoch, .int .i64 x0.State.Firm.Seq, .slice A7 x0.State.Chunks.length c7] := ⟨A4, c4, A5, c5, A6, c6, A7, c7, rfl, trivial, z0, z1, z2, z3⟩
                    have t1 : N2 ((ar.add (kn * 13)).add 1) = some _ := hcells 1 _ rfl
                    have t2 : N2 ((ar.add (kn * 13)).add 2) = some _ := hcells 2 _ rfl
                    have t3 : N2 ((ar.add (kn * 13)).add 3) = some _ := hcells 3 _ rfl
                    have t4 : N2 ((ar.add (kn * 13)).add 4) = some _ := hcells 4 _ rfl
                    have t5 : N2 ((ar.add (kn * 13)).add 5) = some _ := hcells 5 _ rfl
                    have t6 : N2 ((ar.add (kn * 13)).add 6) = some _ := hcells 6 _ rfl
                    have t7 : N2 ((ar.add (kn * 13)).add 7) = some _ := hcells 7 _ rfl
                    have t8 : N2 ((ar.add (kn * 13)).add 8) = some _ := hcells 8 _ rfl
                    have t9 : N2 ((ar.add (kn * 13)).add 9) = some _ := hcells 9 _ rfl
                    have t10 : N2 ((ar.add (kn * 13)).add 10) = some _ := hcells 10 _ rfl
                    have t11 : N2 ((ar.add (kn * 13)).add 11) = some _ := hcells 11 _ rfl
                    have t12 : N2 ((ar.add (kn * 13)).add 12) = some _ := hcells 12 _ rfl
                    (conv => whnf)
                    refine CondK.mk (fun hg => ?_) (fun hg => ?_)
                    · (conv => whnf)
                      exact ⟨⟨(i + 1, l, N2), by show i + 1 ≤ acting.length; omega, hS8.mono (fun _ _ h => h) (by show _ ≤ b + 2300 + 10 * ((i + 1 : Nat) : Int); omega), hw8, hsh8⟩, ⟨⟨rfl, rfl, rfl, rfl, rfl, rfl, look_int (i64_succ (by omega)), trivial⟩, ⟨rfl, rfl, trivial⟩, rfl, rfl⟩, rfl, by show acting.length - (i + 1) < acting.length - i; omega⟩
                    · (conv => whnf)
                      refine DrawN.h {q : GPgState × Option Addr × Nat × Option Addr × Nat × Option Addr × Nat × Option Addr × Nat × Int × Mem // ∃ y A0 c0 A1 c1 A2 c2 A3 c3 c Na N3, q = (y, A0, c0, A1, c1, A2, c2, A3, c3, c, N3) ∧ RPgState (sub N3 Na) y [.int .i64 y.Pg.Pool, .int .i64 y.Pg.No, .int .i64 y.Seen, .int .i64 y.Started, .int .i64 y.Tail.Epoch, .int .i64 y.Tail.Seq, .slice A0 y.Base.length c0, .slice A1 y.Clients.length c1, .slice A2 y.Log.length c2, .int .i64 y.Firm.Epoch, .int .i64 y.Firm.Seq, .slice A3 y.Chunks.length c3] ∧ SmallS y ∧ Le N2 Na ∧ Le Na N3 ∧ Fr Na N3} (fun ⟨⟨y, A0, c0, A1, c1, A2, c2, A3, c3, cc, N3⟩, _⟩ => [(0, .v (.pointer (some ad))), (1, .v (.pointer (some aw))), (5, .p 0 0), (6, .v (.string body)), (7, .p 1 0), (10, .v (.slice (some Ap0) ps.length cap5)), (11, .v (.int .i64 (i : Int))), (12, .v (.int .i64 (kn : Int))), (13, .p 60 0), (14, .v (.int .i64 cc))]) (fun ⟨⟨y, A0, c0, A1, c1, A2, c2, A3, c3, cc, N3⟩, _⟩ => [(60, [.int .i64 y.Pg.Pool, .int .i64 y.Pg.No, .int .i64 y.Seen, .int .i64 y.Started, .int .i64 y.Tail.Epoch, .int .i64 y.Tail.Seq, .slice A0 y.Base.length c0, .slice A1 y.Clients.length c1, .slice A2 y.Log.length c2, .int .i64 y.Firm.Epoch, .int .i64 y.Firm.Seq, .slice A3 y.Chunks.length c3]), (1, [.int .i64 e.Ver.Epoch, .int .i64 e.Ver.Seq, .int .i64 e.Prior.Epoch, .int .i64 e.Prior.Seq, .string e.Name, .bool e.Gone, .int .i64 e.Size, .int .i64 e.Sum, .int .i64 e.Req.Client, .int .i64 e.Req.No]), (0, [.int .i64 ep, .int .i64 sq])]) 70 (fun ⟨⟨y, A0, c0, A1, c1, A2, c2, A3, c3, cc, N3⟩, _⟩ => N3) (by kernel_rfl) ?_ ?_
                      · repeat' ((conv => whnf); first | refine AndK.mk ?_ ?_ | refine HeldK.mk (by kernel_rfl) ?_ | refine LdK.mk _ (by assumption) ?_ | refine IdxK.at kn _ rfl rfl hkl ?_ | refine IdxK.at i _ rfl rfl (by have := hw8.km; omega) ?_ | refine callCh (l23Chunk_r _ e.Name ⟨ep, sq⟩ 0 0 (i : Int) w9 hw9s) (fun xs Na hla => ?_) | refine callPut (putChunk_r _ x0.State _ (RPgState.mono hla _ _ (RPgState.mono (offX_le _ _ _ _) _ _ hst)) ⟨e.Name, ⟨ep, sq⟩, (i : Int), xs, w9⟩ hen hw9s) (fun y2 E0 g0 E1 g1 E2 g2 E3 g3 cc N3 hy2 hsm2 hl3 hf3 => ?_) | fail)
                        all_goals exact ⟨⟨(y2, E0, g0, E1, g1, E2, g2, E3, g3, cc, N3), _, _, _, _, _, _, _, _, _, _, _, _, rfl, hy2, hsm2, hla, hl3, hf3⟩, ⟨⟨rfl, rfl, rfl, rfl, rfl, rfl, rfl, rfl, rfl, rfl, trivial⟩, ⟨rfl, rfl, rfl, trivial⟩, rfl, rfl⟩, rfl⟩
                      · rintro ⟨_, y2, E0, g0, E1, g1, E2, g2, E3, g3, cc, Na, N3, rfl, hy2, hsm2, hla, hl3, hf3⟩
                        have hw10 := (hw8.up hla).up hl3
                        have hS10 := (hS8.mono hla (Int.le_refl _)).mono hl3 (Int.le_refl _)
                        have hyX2 := RPgState.mono ((hw8.up hla).new (hS8.mono hla (Int.le_refl _)) hf3) _ _ hy2
                        have hsh10 : SlR (offX N3 ad.block aw.block rb) RStr 1 16 (some Ap0) cap5 ps := strUp hsh8 (offX_mono (fun z u hu => hl3 _ _ (hla _ _ (off_le _ _ _ _ hu))))
                        have hx10 : RowAt N3 (offX N3 ad.block aw.block rb) (some ar) aw.block rb kn x0 := hw10.st kn x0 hx0
                        have q15n := hw10.c15
                        by_cases hc0 : cc = 0
                        · subst hc0
                          repeat' ((conv => whnf); first | refine JoinK.go ?_ | refine DrawN.t 8 (by kernel_rfl) ?_ | refine LdK.mk _ q15n ?_ | refine IdxK.at kn _ rfl rfl hkl ?_ | fail)
                          refine WrL.mk rfl (fun o ho => ?_) (fun o _ => offX_no (.inr (.inr (by rw [add_blk, add_blk, add_blk, hrb])))) rfl (fun N4 k1 k2 => ?_)
                          · obtain ⟨_, ar', cs', h1, h2, h3, h4, h5, h6⟩ := hx10
                            cases h1
                            show (N3 (((ar.add (kn * 13)).add 1).add o)).isSome = true
                            rw [add_add _ 1 o]
                            exact Option.isSome_iff_exists.mpr ⟨_, h6 (1 + o) _ (List.getElem?_eq_getElem (by rw [h4]; have : o < 12 := ho; omega))⟩
                          obtain ⟨hw11, hx11, out11⟩ := hw10.node hx0 rfl hyX2 hsm2 rfl k1 k2
                          have hS11 : Src X N4 ad (b + 2300 + 10 * i + 2) := hS10.keep (fun a u hu => out11 a u (hX a u hu).2 (hS10.sx a u hu).1) (fun a u ha hu => out11 a u (by rw [ha]; exact Ne.symm hw10.nr) hu)
                          exact ⟨⟨(i + 1, l.set kn ⟨x0.From, y2⟩, N4), by show i + 1 ≤ acting.length; omega, hS11.mono (fun _ _ h => h) (by show _ ≤ b + 2300 + 10 * ((i + 1 : Nat) : Int); omega), hw11, strUp hsh10 hx11⟩, ⟨⟨rfl, rfl, rfl, rfl, rfl, rfl, look_int (i64_succ (by omega)), trivial⟩, ⟨rfl, rfl, trivial⟩, rfl, rfl⟩, rfl, by show acting.length - (i + 1) < acting.length - i; omega⟩
                        · repeat' ((conv => whnf); first | refine JoinK.go ?_ | refine CondK.no' (by simpa using hc0) ?_ | fail)
                          exact ⟨⟨(i + 1, l, N3), by show i + 1 ≤ acting.length; omega, hS10.mono (fun _ _ h => h) (by show _ ≤ b + 2300 + 10 * ((i + 1 : Nat) : Int); omega), hw10, hsh10⟩, ⟨⟨rfl, rfl, rfl, rfl, rfl, rfl, look_int (i64_succ (by omega)), trivial⟩, ⟨rfl, rfl, trivial⟩, rfl, rfl⟩, rfl, by show acting.length - (i + 1) < acting.length - i; omega⟩
            · (conv => whnf)
              refine LdK.mk _ q2 ?_
              (conv => whnf)
              refine CondK.no' (decide_eq_false (by omega)) ?_
              (conv => whnf)
              exact RetK.mk fun g M' hl _ => ⟨rfl, hS6.mono hl (by omega), _, _, _, _, _, _, _, _, _, _, hw6.up hl⟩
          · (conv => whnf)
            refine JoinK.go ?_
            (conv => whnf)
            refine CondK.yes' (by simpa using hcc) ?_
            (conv => whnf)
            exact RetK.mk fun g M' hl _ => ⟨rfl, hS3.mono hl (by omega), _, _, _, _, _, _, _, _, _, _, hw3.up hl⟩
end Go.Proofs.YtefhbbmklpnpoaaGreat.Hlp
