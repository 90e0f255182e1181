/- Generators of codes, bytes, ops, pools: something of its kind comes out, whatever the source says. -/
import Derived.Test.YtphnjgeejifcfaaFunGA
--PLQ
namespace Go.Proofs.Ytphnjgeejifcfaa.Hlp
open Go Go.RowKit Go.Proofs Go.Proofs.Ytphnjgeejifcfaa.Lw
set_option linter.unusedVariables false
set_option linter.unusedSimpArgs false
set_option maxRecDepth 100000
set_option maxHeartbeats 4000000
def vCode (c : GCode) : Value := .agg #[.int .i64 c.K, .int .i64 c.M]
def vOp (o : GOp) : Value := .agg #[.int .i64 o.Kind, .int .i64 o.At, .string o.Bytes]
theorem l16Code_b {M : Mem} {ad : Addr} {b : Int} (h : Src M ad b) (hb : b ≤ 4611686018427380000) : AnsB Try.prog (off M ad.block) M 33 #[.pointer (some ad)] (GR vCode (fun _ => True) ad (b + 10)) := by
  refine ansB_of T (l := [.pointer (some ad)]) (Mb := off M ad.block) mixed Try.func33 rfl (by kernel_rfl) (Nat.le_of_ble_eq_true rfl) (off_le _ _) (off_dj _ _) ?_
  have hno : ∀ a : Addr, a.block = ad.block → off M ad.block a = none := fun a h => off_none h
  repeat' ((conv => whnf); first | refine gcall (one_b (by assumption) (by omega)) hno (fun x M1 hq hS hlb => ?_) | refine gcall (pick_b (by assumption) (by omega)) hno (fun x M1 hq hS hlb => ?_) | refine CondK.mk (fun h => ?_) (fun h => ?_) | exact RetK.mk fun g M' hl hg => ⟨⟨_, _⟩, rfl, trivial, Src.mono (by assumption) hl (by omega)⟩ | fail)
theorem bytesL_rep : ∀ (m : Nat), bytesL (List.replicate m [Value.int .u8 0]).flatten = some (List.replicate m 0)
  | 0 => rfl
  | m + 1 => by simp only [List.replicate_succ, List.flatten_cons, List.singleton_append, bytesL, bytesL_rep m]
theorem l16Bytes_b {M : Mem} {ad : Addr} {b : Int} (h : Src M ad b) (hb : b ≤ 4611686018427370000) : AnsB Try.prog (off M ad.block) M 34 #[.pointer (some ad)] (GR Value.string (fun x => x.size ≤ 1000) ad (b + 3000)) := by
  refine ansB_of T (l := [.pointer (some ad)]) (Mb := off M ad.block) mixed Try.func34 rfl (by kernel_rfl) (Nat.le_of_ble_eq_true rfl) (off_le _ _) (off_dj _ _) ?_
  have hno : ∀ a : Addr, a.block = ad.block → off M ad.block a = none := fun a h => off_none h
  (conv => whnf)
  refine gcall (one_b (by assumption) (by omega)) hno (fun x M1 hq hS hlb => ?_)
  (conv => whnf)
  refine CondK.mk (fun hx => ?_) (fun hx => ?_)
  · (conv => whnf)
    refine gcall (pick_b (by assumption) (by omega)) hno (fun y M2 hq2 hS2 hlb2 => ?_)
    have hy := hq2.2 (by decide)
    have hw : IntKind.i64.wrap (63 + y) = 63 + y := i64_id (by omega) (by omega)
    (conv => whnf)
    refine MkK.mk rfl (by show 0 ≤ IntKind.i64.wrap (63 + y); omega) (by show IntKind.i64.wrap (63 + y) ≤ _; omega) (by show 1 * IntKind.i64.wrap (63 + y) ≤ _; omega) ?_
    (conv => whnf)
    refine StrK.mk _ (bytesL_rep _) ?_
    (conv => whnf)
    exact RetK.mk fun g M' hl hg => ⟨_, rfl, by show ByteArray.size _ ≤ 1000; rw [bytes_size, List.length_replicate]; show 0 + (IntKind.i64.wrap (63 + y)).toNat ≤ 1000; omega, hS2.mono hl (by omega)⟩
  · (conv => whnf)
    refine gcall (word_b (by assumption) (by omega) (by omega)) hno (fun y M2 hq2 hS2 hlb2 => ?_)
    (conv => whnf)
    exact RetK.mk fun g M' hl hg => ⟨_, rfl, hq2, hS2.mono hl (by omega)⟩
theorem l16Op_b {M : Mem} {ad : Addr} {b : Int} (h : Src M ad b) (hb : b ≤ 4611686018427360000) (c : GCode) : AnsB Try.prog (off M ad.block) M 17 #[.pointer (some ad), .agg #[.int .i64 c.K, .int .i64 c.M]] (GR vOp (fun o => o.Bytes.size ≤ 1000) ad (b + 4000)) := by
  refine ansB_of T.cuts (l := [.pointer (some ad), .agg #[.int .i64 c.K, .int .i64 c.M]]) (Mb := off M ad.block) mixed Try.func17 rfl (by kernel_rfl) (Nat.le_of_ble_eq_true rfl) (off_le _ _) (off_dj _ _) ?_
  have hno : ∀ a : Addr, a.block = ad.block → off M ad.block a = none := fun a h => off_none h
  repeat' ((conv => whnf); first | refine gcall (one_b (by assumption) (by omega)) hno (fun x M1 hq hS hlb => ?_) | refine gcall (pick_b (by assumption) (by omega)) hno (fun x M1 hq hS hlb => ?_) | refine gcall (among_b (by assumption) (by omega) (by assumption) rfl (by decide)) hno (fun x M1 hq hS hlb => ?_) | refine gpubI (by assumption) rfl (by decide) (fun ad2 M1 hl hS hr => ?_) | fail)
  refine JoinK.cut {q : Int × Mem // Src q.2 ad (b + 20)} (fun ⟨⟨k, N⟩, _⟩ => [(0, .v (.pointer (some ad))), (4, .p 1 0), (5, .v (.int .i64 k))]) (fun ⟨⟨k, N⟩, _⟩ => [(1, [.int .i64 0, .int .i64 0, .string ⟨#[]⟩])]) 9 (fun ⟨⟨k, N⟩, _⟩ => N) ?_ ?_
  · repeat' ((conv => whnf); first | refine gcall (one_b (by assumption) (by omega)) hno (fun x M1 hq hS hlb => ?_) | refine gcall (pick_b (by assumption) (by omega)) hno (fun x M1 hq hS hlb => ?_) | refine gcall (among_b (by assumption) (by omega) (by assumption) rfl (by decide)) hno (fun x M1 hq hS hlb => ?_) | refine gpubI (by assumption) rfl (by decide) (fun ad2 M1 hl hS hr => ?_) | refine GuardK.mk (fun h => ?_) (fun h => ?_) | refine CondK.mk (fun h => ?_) (fun h => ?_) | fail)
    all_goals exact ⟨⟨(_, _), Src.mono (by assumption) (fun _ _ h => h) (by omega)⟩, ⟨⟨rfl, rfl, rfl, trivial⟩, ⟨rfl, trivial⟩, rfl, rfl⟩, rfl⟩
  rintro ⟨⟨k, N⟩, hS⟩
  replace hS : Src N ad (b + 20) := hS
  (conv => whnf)
  refine JoinK.cut {q : Int × Int × Mem // Src q.2.2 ad (b + 40)} (fun ⟨⟨k, p, N⟩, _⟩ => [(0, .v (.pointer (some ad))), (4, .p 1 0), (5, .v (.int .i64 k)), (6, .p 9 0)]) (fun ⟨⟨k, p, N⟩, _⟩ => [(9, [.int .i64 k, .int .i64 p, .string ⟨#[]⟩]), (1, [.int .i64 0, .int .i64 0, .string ⟨#[]⟩])]) 10 (fun ⟨⟨k, p, N⟩, _⟩ => N) ?_ ?_
  · repeat' ((conv => whnf); first | refine gcall (one_b (by assumption) (by omega)) hno (fun x M1 hq hS hlb => ?_) | refine gcall (pick_b (by assumption) (by omega)) hno (fun x M1 hq hS hlb => ?_) | refine gcall (among_b (by assumption) (by omega) (by assumption) rfl (by decide)) hno (fun x M1 hq hS hlb => ?_) | refine gpubI (by assumption) rfl (by decide) (fun ad2 M1 hl hS hr => ?_) | refine GuardK.mk (fun h => ?_) (fun h => ?_) | refine CondK.mk (fun h => ?_) (fun h => ?_) | refine JoinK.go ?_ | fail)
    all_goals exact ⟨⟨(_, _, _), Src.mono (by assumption) (fun _ _ h => h) (by omega)⟩, ⟨⟨rfl, rfl, rfl, rfl, trivial⟩, ⟨rfl, rfl, trivial⟩, rfl, rfl⟩, rfl⟩
  rintro ⟨⟨k, p, N⟩, hS⟩
  replace hS : Src N ad (b + 40) := hS
  (conv => whnf)
  refine JoinK.cut {q : Int × Int × ByteArray × Mem // q.2.2.1.size ≤ 1000 ∧ Src q.2.2.2 ad (b + 3050)} (fun ⟨⟨k, p, o, N⟩, _⟩ => [(0, .v (.pointer (some ad))), (4, .p 1 0), (6, .p 9 0)]) (fun ⟨⟨k, p, o, N⟩, _⟩ => [(9, [.int .i64 k, .int .i64 p, .string o]), (1, [.int .i64 0, .int .i64 0, .string ⟨#[]⟩])]) 10 (fun ⟨⟨k, p, o, N⟩, _⟩ => N) ?_ ?_
  · repeat' ((conv => whnf); first | refine gcall (one_b (by assumption) (by omega)) hno (fun x M1 hq hS hlb => ?_) | refine gcall (pick_b (by assumption) (by omega)) hno (fun x M1 hq hS hlb => ?_) | refine gcall (among_b (by assumption) (by omega) (by assumption) rfl (by decide)) hno (fun x M1 hq hS hlb => ?_) | refine gpubI (by assumption) rfl (by decide) (fun ad2 M1 hl hS hr => ?_) | refine GuardK.mk (fun h => ?_) (fun h => ?_) | refine CondK.mk (fun h => ?_) (fun h => ?_) | refine JoinK.go ?_ | refine gcall (l16Bytes_b (by assumption) (by omega)) hno (fun x M1 hq hS hlb => ?_) | fail)
    all_goals exact ⟨⟨(_, _, _, _), by first | assumption | (show (0 : Nat) ≤ 1000; omega), Src.mono (by assumption) (fun _ _ h => h) (by omega)⟩, ⟨⟨rfl, rfl, rfl, trivial⟩, ⟨rfl, rfl, trivial⟩, rfl, rfl⟩, rfl⟩
  rintro ⟨⟨k, p, o, N⟩, ho, hS⟩
  replace hS : Src N ad (b + 3050) := hS
  replace ho : o.size ≤ 1000 := ho
  (conv => whnf)
  refine JoinK.cut {q : Int × Int × ByteArray × Mem // q.2.2.1.size ≤ 1000 ∧ Src q.2.2.2 ad (b + 3100)} (fun ⟨⟨k, p, o, N⟩, _⟩ => [(0, .v (.pointer (some ad))), (4, .p 1 0), (6, .p 9 0)]) (fun ⟨⟨k, p, o, N⟩, _⟩ => [(9, [.int .i64 k, .int .i64 p, .string o]), (1, [.int .i64 0, .int .i64 0, .string ⟨#[]⟩])]) 10 (fun ⟨⟨k, p, o, N⟩, _⟩ => N) ?_ ?_
  · repeat' ((conv => whnf); first | refine gcall (one_b (by assumption) (by omega)) hno (fun x M1 hq hS hlb => ?_) | refine gcall (pick_b (by assumption) (by omega)) hno (fun x M1 hq hS hlb => ?_) | refine gcall (among_b (by assumption) (by omega) (by assumption) rfl (by decide)) hno (fun x M1 hq hS hlb => ?_) | refine gpubI (by assumption) rfl (by decide) (fun ad2 M1 hl hS hr => ?_) | refine GuardK.mk (fun h => ?_) (fun h => ?_) | refine CondK.mk (fun h => ?_) (fun h => ?_) | refine JoinK.go ?_ | fail)
    · (conv => whnf)
      refine DrawN.b [9] {q : Int × Int × ByteArray × Mem // q.2.2.1.size ≤ 1000 ∧ Src q.2.2.2 ad (b + 3100)} (fun ⟨⟨k, p, o, N⟩, _⟩ => [(0, .v (.pointer (some ad))), (4, .p 1 0), (6, .p 9 0)]) (fun ⟨⟨k, p, o, N⟩, _⟩ => [(9, [.int .i64 k, .int .i64 p, .string o]), (1, [.int .i64 0, .int .i64 0, .string ⟨#[]⟩])]) 10 (fun ⟨⟨k, p, o, N⟩, _⟩ => N) rfl (by kernel_rfl) ?_ ?_
      · repeat' ((conv => whnf); first | refine AndK.mk ?_ ?_ | refine HeldK.mk (by kernel_rfl) ?_ | refine gcallB (pick_b (by assumption) (by omega)) hno (fun x M1 hq hS hlb => ?_) | fail)
        all_goals exact ⟨⟨(_, _, _, _), by first | assumption | (show (1 : Nat) ≤ 1000; omega), Src.mono (by assumption) (fun _ _ h => h) (by omega)⟩, ⟨⟨rfl, rfl, rfl, trivial⟩, ⟨rfl, rfl, trivial⟩, rfl, rfl⟩, rfl⟩
      · rintro ⟨⟨k, p, o, N⟩, ho, hS⟩
        (conv => whnf)
        exact ⟨⟨(_, _, _, _), by first | assumption | (show (1 : Nat) ≤ 1000; omega), Src.mono (by assumption) (fun _ _ h => h) (by omega)⟩, ⟨⟨rfl, rfl, rfl, trivial⟩, ⟨rfl, rfl, trivial⟩, rfl, rfl⟩, rfl⟩
    all_goals exact ⟨⟨(_, _, _, _), by first | assumption | (show (1 : Nat) ≤ 1000; omega), Src.mono (by assumption) (fun _ _ h => h) (by omega)⟩, ⟨⟨rfl, rfl, rfl, trivial⟩, ⟨rfl, rfl, trivial⟩, rfl, rfl⟩, rfl⟩
  rintro ⟨⟨k, p, o, N⟩, ho, hS⟩
  replace hS : Src N ad (b + 3100) := hS
  replace ho : o.size ≤ 1000 := ho
  (conv => whnf)
  exact RetK.mk fun g M' hl hg => ⟨⟨_, _, _⟩, rfl, ho, hS.mono hl (by omega)⟩
