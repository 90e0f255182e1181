/- The generator of replies, and what the laws draw. -/
import Derived.Test.YtphnjgeejifcfaaGreatFunGC
namespace Go.Proofs.YtphnjgeejifcfaaGreat.Hlp
open Go Go.RowKit Go.Proofs Go.Proofs.YtphnjgeejifcfaaGreat.Lw
set_option linter.unusedVariables false
set_option linter.unusedSimpArgs false
set_option maxRecDepth 100000
set_option maxHeartbeats 4000000
def vReply (m : GMsg) : Value := .agg (List.toArray [.int .i64 m.Kind, .int .i64 m.From, .int .i64 m.To, .int .i64 m.Pg.Pool, .int .i64 m.Pg.No, .int .i64 m.Epoch, .string ⟨#[]⟩, .int .i64 m.Ver.Epoch, .int .i64 m.Ver.Seq, .int .i64 0, .int .i64 0, .int .i64 0, .int .i64 0, .int .i64 0, .int .i64 0, .int .i64 0, .int .i64 0, .slice none 0 0, .slice none 0 0, .slice none 0 0, .int .i64 0, .int .i64 0, .slice none 0 0, .int .i64 0, .int .i64 0, .int .i64 0, .int .i64 0, .string ⟨#[]⟩, .bool false, .int .i64 0, .int .i64 0, .int .i64 0, .int .i64 0, .string ⟨#[]⟩, .int .i64 0, .int .i64 0, .int .i64 0, .int .i64 0, .string ⟨#[]⟩, .int .i64 0, .int .i64 0, .string ⟨#[]⟩, .int .i64 m.Req.Client, .int .i64 m.Req.No, .int .i64 m.Code, .string m.Body])
theorem l28Reply_b {M : Mem} {ad : Addr} {b : Int} (h : Src M ad b) (hb : b ≤ 4611686018427340000) (c : GClient) : AnsB Tryz.prog (off M ad.block) M 24 #[.pointer (some ad), .agg (List.toArray [.int .i64 c.Id, .int .i64 c.No, .bool c.Busy, .int .i64 c.Pg.Pool, .int .i64 c.Pg.No, .string c.Name, .int .i64 c.Op.Kind, .int .i64 c.Op.At, .string c.Op.Bytes, .int .i64 c.Tries])] (GR vReply (fun m => m.Body.size ≤ 1000) ad (b + 5000)) := by
  refine ansB_of T.cuts (l := [.pointer (some ad), .agg (List.toArray [.int .i64 c.Id, .int .i64 c.No, .bool c.Busy, .int .i64 c.Pg.Pool, .int .i64 c.Pg.No, .string c.Name, .int .i64 c.Op.Kind, .int .i64 c.Op.At, .string c.Op.Bytes, .int .i64 c.Tries])]) (Mb := off M ad.block) mixed Tryz.func24 rfl (by kernel_rfl) (Nat.le_of_ble_eq_true rfl) (off_le _ _) (off_dj _ _) ?_
  have hno : ∀ a : Addr, a.block = ad.block → off M ad.block a = none := fun a h => off_none h
  (conv => whnf)
  refine DrawN.b [] {q : GMsg × Mem // q.1.Body.size ≤ 1000 ∧ Src q.2 ad (b + 4000)} (fun ⟨⟨m, N⟩, _⟩ => [(0, .v (.pointer (some ad))), (4, .p 1 0), (5, .p 2 0)]) (fun ⟨⟨m, N⟩, _⟩ => [(2, [.int .i64 m.Kind, .int .i64 m.From, .int .i64 m.To, .int .i64 m.Pg.Pool, .int .i64 m.Pg.No, .int .i64 m.Epoch, .string ⟨#[]⟩, .int .i64 m.Ver.Epoch, .int .i64 m.Ver.Seq, .int .i64 0, .int .i64 0, .int .i64 0, .int .i64 0, .int .i64 0, .int .i64 0, .int .i64 0, .int .i64 0, .slice none 0 0, .slice none 0 0, .slice none 0 0, .int .i64 0, .int .i64 0, .slice none 0 0, .int .i64 0, .int .i64 0, .int .i64 0, .int .i64 0, .string ⟨#[]⟩, .bool false, .int .i64 0, .int .i64 0, .int .i64 0, .int .i64 0, .string ⟨#[]⟩, .int .i64 0, .int .i64 0, .int .i64 0, .int .i64 0, .string ⟨#[]⟩, .int .i64 0, .int .i64 0, .string ⟨#[]⟩, .int .i64 m.Req.Client, .int .i64 m.Req.No, .int .i64 m.Code, .string m.Body]), (1, [.int .i64 0, .int .i64 0, .int .i64 0, .int .i64 0, .int .i64 0, .int .i64 0, .string ⟨#[]⟩, .int .i64 0, .int .i64 0, .int .i64 0, .int .i64 0, .int .i64 0, .int .i64 0, .int .i64 0, .int .i64 0, .int .i64 0, .int .i64 0, .slice none 0 0, .slice none 0 0, .slice none 0 0, .int .i64 0, .int .i64 0, .slice none 0 0, .int .i64 0, .int .i64 0, .int .i64 0, .int .i64 0, .string ⟨#[]⟩, .bool false, .int .i64 0, .int .i64 0, .int .i64 0, .int .i64 0, .string ⟨#[]⟩, .int .i64 0, .int .i64 0, .int .i64 0, .int .i64 0, .string ⟨#[]⟩, .int .i64 0, .int .i64 0, .string ⟨#[]⟩, .int .i64 0, .int .i64 0, .int .i64 0, .string ⟨#[]⟩])]) 9 (fun ⟨⟨m, N⟩, _⟩ => N) rfl (by kernel_rfl) ?_ ?_
  · repeat' ((conv => whnf); first | refine AndK.mk ?_ ?_ | refine HeldK.mk (by kernel_rfl) ?_ | refine gcallB (pick_b (by assumption) (by omega)) hno (fun x M1 hq hS hlb => ?_) | refine gcallB (word_b (by assumption) (by omega) (by omega)) hno (fun x M1 hqw hS hlb => ?_) | fail)
    all_goals (repeat' ((conv => whnf); first | refine AndK.mk ?_ ?_ | refine HeldK.mk (by kernel_rfl) ?_ | fail))
    all_goals exact ⟨⟨(⟨_, _, _, ⟨_, _⟩, _, eB, ⟨_, _⟩, ⟨0, 0⟩, zS, zE, zC, zO, ⟨_, _⟩, _, _⟩, _), hqw, Src.mono (by assumption) (fun _ _ h => h) (by omega)⟩, ⟨⟨rfl, rfl, rfl, trivial⟩, ⟨rfl, rfl, trivial⟩, rfl, rfl⟩, rfl⟩
  · rintro ⟨⟨m, N⟩, hm, hS⟩
    replace hS : Src N ad (b + 4000) := hS
    replace hm : m.Body.size ≤ 1000 := hm
    repeat' ((conv => whnf); first | refine gcall (pick_b (by assumption) (by omega)) hno (fun x M1 hq hS hlb => ?_) | refine CondK.mk (fun h => ?_) (fun h => ?_) | refine JoinK.go ?_ | exact RetK.mk fun g M' hl hg => ⟨({ m with Req := ⟨m.Req.Client, IntKind.i64.wrap (m.Req.No + 1)⟩ } : GMsg), rfl, hm, Src.mono (by assumption) hl (by omega)⟩ | exact RetK.mk fun g M' hl hg => ⟨({ m with To := IntKind.i64.wrap (100 + x) } : GMsg), rfl, hm, Src.mono (by assumption) hl (by omega)⟩ | exact RetK.mk fun g M' hl hg => ⟨({ m with Kind := IntKind.i64.wrap (1 + x) } : GMsg), rfl, hm, Src.mono (by assumption) hl (by omega)⟩ | exact RetK.mk fun g M' hl hg => ⟨({ m with Pg := ⟨m.Pg.Pool, IntKind.i64.wrap (m.Pg.No + 1)⟩ } : GMsg), rfl, hm, Src.mono (by assumption) hl (by omega)⟩ | exact RetK.mk fun g M' hl hg => ⟨({ m with Code := 3, Body := eB } : GMsg), rfl, z1000, Src.mono (by assumption) hl (by omega)⟩ | exact RetK.mk fun g M' hl hg => ⟨m, rfl, hm, Src.mono (by assumption) hl (by omega)⟩ | fail)
theorem drawSendTo_r {M : Mem} {A : Option Addr} {c : Nat} {l : List Int} (h : SlR M RByte 1 1 A c l) : AnsR Tryz.prog M 5 #[.slice A l.length c] (fun _ v => ∃ (x : GClient) (k : Int), v = .tuple #[vClient x, .int .i64 k] ∧ smallC x) := by
  refine ansR_of (T.at M) (l := [.slice A l.length c]) mixed Tryz.func5 rfl (by kernel_rfl) (Nat.le_of_ble_eq_true rfl) ?_ (fun _ a u h1 h2 => by rw [show M a = none from h1] at h2; cases h2)
  (conv => whnf)
  refine CallK.mr _ (l00From_r h) (fun v M0 hl0 hv => ?_)
  obtain ⟨ad, rfl, hS0, hfr⟩ := hv
  have hno : ∀ a : Addr, a.block = ad.block → M a = none := fun a ha => by
    cases hm : M a with
    | none => rfl
    | some u => exact absurd ha (hfr a u hm)
  repeat' ((conv => whnf); first | refine gcall (among_b (by assumption) (by omega) (by assumption) rfl (by decide)) hno (fun x M1 hq hS hlb => ?_) | refine gpubI (by assumption) rfl (by decide) (fun ad2 M1 hl hS hr => ?_) | refine gcall (l28Client_b (by assumption) (by omega)) hno (fun x M1 hqc hS hlb => ?_) | exact RetK.mk fun g M' hl hg => ⟨x, _, rfl, hqc⟩ | fail)
theorem drawHearReply_r {M : Mem} {A : Option Addr} {c : Nat} {l : List Int} (h : SlR M RByte 1 1 A c l) : AnsR Tryz.prog M 10 #[.slice A l.length c] (fun _ v => ∃ (x : GClient) (m : GMsg), v = .tuple #[vClient x, vReply m] ∧ smallC x ∧ m.Body.size ≤ 1000) := by
  refine ansR_of (T.at M) (l := [.slice A l.length c]) mixed Tryz.func10 rfl (by kernel_rfl) (Nat.le_of_ble_eq_true rfl) ?_ (fun _ a u h1 h2 => by rw [show M a = none from h1] at h2; cases h2)
  (conv => whnf)
  refine CallK.mr _ (l00From_r h) (fun v M0 hl0 hv => ?_)
  obtain ⟨ad, rfl, hS0, hfr⟩ := hv
  have hno : ∀ a : Addr, a.block = ad.block → M a = none := fun a ha => by
    cases hm : M a with
    | none => rfl
    | some u => exact absurd ha (hfr a u hm)
  (conv => whnf)
  refine gcall (l28Client_b (by assumption) (by omega)) hno (fun x M1 hqc hS hlb => ?_)
  (conv => whnf)
  refine DrawN.b [0, 1] {q : GMsg × Mem // q.1.Body.size ≤ 1000} (fun ⟨⟨m, N⟩, _⟩ => [(2, .p 0 0), (3, .p 1 0)]) (fun ⟨⟨m, N⟩, _⟩ => [(0, [.int .i64 x.Id, .int .i64 x.No, .bool x.Busy, .int .i64 x.Pg.Pool, .int .i64 x.Pg.No, .string x.Name, .int .i64 x.Op.Kind, .int .i64 x.Op.At, .string x.Op.Bytes, .int .i64 x.Tries]), (1, [.int .i64 m.Kind, .int .i64 m.From, .int .i64 m.To, .int .i64 m.Pg.Pool, .int .i64 m.Pg.No, .int .i64 m.Epoch, .string ⟨#[]⟩, .int .i64 m.Ver.Epoch, .int .i64 m.Ver.Seq, .int .i64 0, .int .i64 0, .int .i64 0, .int .i64 0, .int .i64 0, .int .i64 0, .int .i64 0, .int .i64 0, .slice none 0 0, .slice none 0 0, .slice none 0 0, .int .i64 0, .int .i64 0, .slice none 0 0, .int .i64 0, .int .i64 0, .int .i64 0, .int .i64 0, .string ⟨#[]⟩, .bool false, .int .i64 0, .int .i64 0, .int .i64 0, .int .i64 0, .string ⟨#[]⟩, .int .i64 0, .int .i64 0, .int .i64 0, .int .i64 0, .string ⟨#[]⟩, .int .i64 0, .int .i64 0, .string ⟨#[]⟩, .int .i64 m.Req.Client, .int .i64 m.Req.No, .int .i64 m.Code, .string m.Body])]) 9 (fun ⟨⟨m, N⟩, _⟩ => N) rfl (by kernel_rfl) ?_ ?_
  · repeat' ((conv => whnf); first | refine AndK.mk ?_ ?_ | refine HeldK.mk (by kernel_rfl) ?_ | refine gcallB (l28Reply_b (by assumption) (by omega) x) hno (fun m M1 hqm hS hlb => ?_) | exact ⟨⟨(m, _), hqm⟩, ⟨⟨rfl, rfl, trivial⟩, ⟨rfl, rfl, trivial⟩, rfl, rfl⟩, rfl⟩ | fail)
  · rintro ⟨⟨m, N⟩, hm⟩
    (conv => whnf)
    exact RetK.mk fun g M' hl hg => ⟨x, m, rfl, hqc, hm⟩
