/- Clients: what spec and impl ask of one; generators of pools, clients, replies. -/
import Derived.Test.YtphnjgeejifcfaaFunGB
import Derived.Test.YtphnjgeejifcfaaPlQ
namespace Go.Proofs.Ytphnjgeejifcfaa.Hlp
open Go Go.RowKit Go.Proofs Go.Proofs.Ytphnjgeejifcfaa.Lw
set_option linter.unusedVariables false
set_option linter.unusedSimpArgs false
set_option maxRecDepth 100000
set_option maxHeartbeats 4000000
def vClient (x : GClient) : Value := .agg (List.toArray [.int .i64 x.Id, .int .i64 x.No, .bool x.Busy, .int .i64 x.Pg.Pool, .int .i64 x.Pg.No, .string x.Name, .int .i64 x.Op.Kind, .int .i64 x.Op.At, .string x.Op.Bytes, .int .i64 x.Tries])
def vPool (x : GPool) : Value := .agg (List.toArray [.int .i64 x.Id, .int .i64 x.Code.K, .int .i64 x.Code.M, .int .i64 x.Min, .int .i64 x.Pgs, .int .i64 x.Rule])
def smallC (x : GClient) : Prop := x.Name.size ≤ 1000 ∧ x.Op.Bytes.size ≤ 1000
def callerF (x : GClient) : Bool := isClientF x.Id && inR x.No 0 1000 && inR x.Tries 0 1000 && (if x.Busy = true then decide (1 ≤ x.No) && pgOkF x.Pg && nameOkF x.Name && opOkF ⟨1, 0⟩ x.Op else decide (x.Pg = ⟨0, 0⟩) && decide (x.Name = eB) && decide (x.Op = zO) && decide (x.Tries = 0))
theorem callerOk_a (M : Mem) (x : GClient) (hn : x.Name.size ≤ 9223372036854775807) : Ans Try.prog M 23 #[.agg (List.toArray [.int .i64 x.Id, .int .i64 x.No, .bool x.Busy, .int .i64 x.Pg.Pool, .int .i64 x.Pg.No, .string x.Name, .int .i64 x.Op.Kind, .int .i64 x.Op.At, .string x.Op.Bytes, .int .i64 x.Tries])] (.bool (callerF x)) := by
  have hx : (x.Op = zO) ↔ (x.Op.Kind = 0 ∧ x.Op.At = 0 ∧ x.Op.Bytes.toList = []) := by
    have e2 := eqv_Op x.Op zO
    rw [Bool.eq_iff_iff, decide_eq_true_iff] at e2
    rw [← e2]
    simp [zO, eB]
  have hp : (x.Pg = ⟨0, 0⟩) ↔ (x.Pg.Pool = 0 ∧ x.Pg.No = 0) := by
    have e2 := eqv_Pg x.Pg ⟨0, 0⟩
    rw [Bool.eq_iff_iff, decide_eq_true_iff] at e2
    rw [← e2]
    simp
  have hb : (x.Name = eB) ↔ (x.Name.toList = []) := by
    have e2 := ba_eq x.Name eB
    rw [Bool.eq_iff_iff, decide_eq_true_iff] at e2
    rw [← e2]
    simp [eB]
  have e := eqv_Client x ⟨x.Id, x.No, false, ⟨0, 0⟩, eB, zO, 0⟩
  have e' : (x = ⟨x.Id, x.No, false, ⟨0, 0⟩, eB, zO, 0⟩) ↔ (x.Busy = false ∧ x.Pg = ⟨0, 0⟩ ∧ x.Name = eB ∧ x.Op = zO ∧ x.Tries = 0) := by
    constructor
    · intro h; rw [h]; exact ⟨rfl, rfl, rfl, rfl, rfl⟩
    · intro ⟨h0, h1, h2, h3, h4⟩; cases x; simp_all
  refine ans_of T (l := [.agg (List.toArray [.int .i64 x.Id, .int .i64 x.No, .bool x.Busy, .int .i64 x.Pg.Pool, .int .i64 x.Pg.No, .string x.Name, .int .i64 x.Op.Kind, .int .i64 x.Op.At, .string x.Op.Bytes, .int .i64 x.Tries])]) mixed Try.func23 rfl (by kernel_rfl) (Nat.le_of_ble_eq_true rfl) ?_
  repeat' ((conv => whnf); first | with_reducible refine CondK.tt ?_ | with_reducible refine CondK.ff ?_ | with_reducible refine CondK.not ?_ | refine CallK.mk _ (isClient_a _ _) ?_ | refine CallK.mk _ (between_a _ _ _ _) ?_ | refine CallQ.mk _ (pgOk_a _ x.Pg) ?_ | refine CallQ.mk _ (nameOk_a _ x.Name hn) ?_ | refine CallQ.mk _ (plainCode_a _) ?_ | refine CallQ.mk _ (opOk_a _ ⟨1, 0⟩ x.Op) ?_ | refine DrawN.q (by kernel_rfl) ?_ | refine GuardK.mk (fun h => ?_) (fun h => ?_) | refine CondK.mk (fun h => ?_) (fun h => ?_) | fail)
  all_goals refine ret_bool ?_
  all_goals first
    | (clear e e' hx hp hb; unfold callerF; simp_all; done)
    | (clear e e' hx hp hb; unfold callerF; simp_all; intros; omega)
    | (refine Eq.trans e ?_
       unfold callerF
       clear e
       generalize hq : decide (x = ⟨x.Id, x.No, false, ⟨0, 0⟩, eB, zO, 0⟩) = q
       rw [Bool.eq_iff_iff, ← hq, decide_eq_true_iff, e']
       clear e' hq
       simp_all [and_assoc])
theorem sCallerOk_a (M : Mem) (x : GClient) (hn : x.Name.size ≤ 9223372036854775807) : Ans Try.prog M 51 #[.agg (List.toArray [.int .i64 x.Id, .int .i64 x.No, .bool x.Busy, .int .i64 x.Pg.Pool, .int .i64 x.Pg.No, .string x.Name, .int .i64 x.Op.Kind, .int .i64 x.Op.At, .string x.Op.Bytes, .int .i64 x.Tries])] (.bool (callerF x)) := by
  have hx : (x.Op = zO) ↔ (x.Op.Kind = 0 ∧ x.Op.At = 0 ∧ x.Op.Bytes.toList = []) := by
    have e2 := eqv_Op x.Op zO
    rw [Bool.eq_iff_iff, decide_eq_true_iff] at e2
    rw [← e2]
    simp [zO, eB]
  have hp : (x.Pg = ⟨0, 0⟩) ↔ (x.Pg.Pool = 0 ∧ x.Pg.No = 0) := by
    have e2 := eqv_Pg x.Pg ⟨0, 0⟩
    rw [Bool.eq_iff_iff, decide_eq_true_iff] at e2
    rw [← e2]
    simp
  have hb : (x.Name = eB) ↔ (x.Name.toList = []) := by
    have e2 := ba_eq x.Name eB
    rw [Bool.eq_iff_iff, decide_eq_true_iff] at e2
    rw [← e2]
    simp [eB]
  refine ans_of T (l := [.agg (List.toArray [.int .i64 x.Id, .int .i64 x.No, .bool x.Busy, .int .i64 x.Pg.Pool, .int .i64 x.Pg.No, .string x.Name, .int .i64 x.Op.Kind, .int .i64 x.Op.At, .string x.Op.Bytes, .int .i64 x.Tries])]) mixed Try.func51 rfl (by kernel_rfl) (Nat.le_of_ble_eq_true rfl) ?_
  repeat' ((conv => whnf); first | with_reducible refine CondK.tt ?_ | with_reducible refine CondK.ff ?_ | with_reducible refine CondK.not ?_ | refine CallK.mk _ (l17Client_a _ _) ?_ | refine CallK.mk _ (l00In_a _ _ _ _) ?_ | refine CallQ.mk _ (l17Pg_a _ x.Pg) ?_ | refine CallQ.mk _ (sNameOk_a _ x.Name hn) ?_ | refine CallQ.mk _ (l16Plain_a _) ?_ | refine CallQ.mk _ (sOpOk_a _ ⟨1, 0⟩ x.Op) ?_ | refine DrawN.q (by kernel_rfl) ?_ | refine GuardK.mk (fun h => ?_) (fun h => ?_) | refine CondK.mk (fun h => ?_) (fun h => ?_) | fail)
  all_goals refine ret_bool ?_
  all_goals first | (clear hx hp hb; unfold callerF; simp_all; done) | (clear hx hp hb; unfold callerF; simp_all; intros; omega) | (unfold callerF; simp_all; done) | (unfold callerF; simp_all; grind)
def newCF (n : Int) : GClient × Int := if isClientF n = true then (⟨n, 0, false, ⟨0, 0⟩, eB, zO, 0⟩, 0) else (⟨0, 0, false, ⟨0, 0⟩, eB, zO, 0⟩, 2)
theorem sNewClient_a (M : Mem) (n : Int) : Ans Try.prog M 20 #[.int .i64 n] (.tuple #[vClient (newCF n).1, .int .i64 (newCF n).2]) := by
  rcases Bool.eq_false_or_eq_true (isClientF n) with hc | hc
  · rw [show newCF n = (⟨n, 0, false, ⟨0, 0⟩, eB, zO, 0⟩, 0) from if_pos hc]
    refine ans_of T (l := [.int .i64 n]) mixed Try.func20 rfl (by kernel_rfl) (Nat.le_of_ble_eq_true rfl) ?_
    repeat' ((conv => whnf); first | with_reducible refine CondK.not ?_ | refine CallK.mk _ (l17Client_a _ _) ?_ | refine CondK.no' (by rw [hc]; rfl) ?_ | fail)
    exact rfl
  · rw [show newCF n = (⟨0, 0, false, ⟨0, 0⟩, eB, zO, 0⟩, 2) from if_neg (by rw [hc]; exact Bool.false_ne_true)]
    refine ans_of T (l := [.int .i64 n]) mixed Try.func20 rfl (by kernel_rfl) (Nat.le_of_ble_eq_true rfl) ?_
    repeat' ((conv => whnf); first | with_reducible refine CondK.not ?_ | refine CallK.mk _ (l17Client_a _ _) ?_ | refine CondK.yes' (by rw [hc]; rfl) ?_ | fail)
    exact rfl
theorem iNewClient_a (M : Mem) (n : Int) : Ans Try.prog M 5 #[.int .i64 n] (.tuple #[vClient (newCF n).1, .int .i64 (newCF n).2]) := by
  rcases Bool.eq_false_or_eq_true (isClientF n) with hc | hc
  · rw [show newCF n = (⟨n, 0, false, ⟨0, 0⟩, eB, zO, 0⟩, 0) from if_pos hc]
    refine ans_of T (l := [.int .i64 n]) mixed Try.func5 rfl (by kernel_rfl) (Nat.le_of_ble_eq_true rfl) ?_
    repeat' ((conv => whnf); first | with_reducible refine CondK.not ?_ | refine CallK.mk _ (isClient_a _ _) ?_ | refine CondK.no' (by rw [hc]; rfl) ?_ | fail)
    exact rfl
  · rw [show newCF n = (⟨0, 0, false, ⟨0, 0⟩, eB, zO, 0⟩, 2) from if_neg (by rw [hc]; exact Bool.false_ne_true)]
    refine ans_of T (l := [.int .i64 n]) mixed Try.func5 rfl (by kernel_rfl) (Nat.le_of_ble_eq_true rfl) ?_
    repeat' ((conv => whnf); first | with_reducible refine CondK.not ?_ | refine CallK.mk _ (isClient_a _ _) ?_ | refine CondK.yes' (by rw [hc]; rfl) ?_ | fail)
    exact rfl
def poolF (p : GPool) : Bool := inR p.Id 1 4 && codeOkF p.Code && inR p.Min p.Code.K (IntKind.i64.wrap (p.Code.K + p.Code.M)) && inR p.Pgs 1 16 && inR p.Rule 1 4
theorem l09OK_a (M : Mem) (p : GPool) : Ans Try.prog M 28 #[.agg (List.toArray [.int .i64 p.Id, .int .i64 p.Code.K, .int .i64 p.Code.M, .int .i64 p.Min, .int .i64 p.Pgs, .int .i64 p.Rule])] (.bool (poolF p)) := by
  refine ans_of T (l := [.agg (List.toArray [.int .i64 p.Id, .int .i64 p.Code.K, .int .i64 p.Code.M, .int .i64 p.Min, .int .i64 p.Pgs, .int .i64 p.Rule])]) mixed Try.func28 rfl (by kernel_rfl) (Nat.le_of_ble_eq_true rfl) ?_
  repeat' ((conv => whnf); first | with_reducible refine CondK.tt ?_ | with_reducible refine CondK.ff ?_ | refine CallK.mk _ (l00In_a _ _ _ _) ?_ | refine CallK.mk _ (l04Code_a _ p.Code) ?_ | refine GuardK.mk (fun h => ?_) (fun h => ?_) | refine CondK.mk (fun h => ?_) (fun h => ?_) | fail)
  all_goals refine ret_bool ?_
  all_goals (unfold poolF; simp_all)
theorem sPoolOk_a (M : Mem) (p : GPool) : Ans Try.prog M 9 #[.agg (List.toArray [.int .i64 p.Id, .int .i64 p.Code.K, .int .i64 p.Code.M, .int .i64 p.Min, .int .i64 p.Pgs, .int .i64 p.Rule])] (.bool (poolF p)) := by
  refine ans_of T (l := [.agg (List.toArray [.int .i64 p.Id, .int .i64 p.Code.K, .int .i64 p.Code.M, .int .i64 p.Min, .int .i64 p.Pgs, .int .i64 p.Rule])]) mixed Try.func9 rfl (by kernel_rfl) (Nat.le_of_ble_eq_true rfl) ?_
  repeat' ((conv => whnf); first | refine CallK.mk _ (l09OK_a _ p) ?_ | fail)
  exact ret_bool rfl
theorem l01Low_r (M : Mem) (n : Int) : AnsR Try.prog M 88 #[.int .i64 n] (fun _ v => ∃ x : Int, v = .int .i64 x) := by
  refine ansR_of T (l := [.int .i64 n]) mixed Try.func88 rfl (by kernel_rfl) (Nat.le_of_ble_eq_true rfl) ?_
  repeat' ((conv => whnf); first | exact RetK.mk fun g M' hl hg => ⟨_, rfl⟩ | fail)
theorem l01Mix_r (M : Mem) (l : List Int) (A : Option Addr) (c : Nat) (h : SlR M RInt 1 8 A c l) : AnsR Try.prog M 82 #[.slice A l.length c] (fun _ v => ∃ x : Int, v = .int .i64 x) := by
  have hl := h.len
  refine ansR_of T (l := [.slice A l.length c]) mixed Try.func82 rfl (by kernel_rfl) (Nat.le_of_ble_eq_true rfl) ?_
  (conv => whnf)
  refine LoopK.mk {q : Nat × Int × Mem // q.1 ≤ l.length ∧ Le M q.2.2} (fun ⟨⟨k, x, N⟩, _⟩ => [(0, .v (.slice A l.length c)), (3, .v (.int .i64 x)), (4, .v (.int .i64 (k : Int)))]) (fun _ => []) (fun ⟨⟨k, x, N⟩, _⟩ => N) (fun q => l.length - q.1.1) ⟨(0, 2166136261, M), Nat.zero_le _, fun _ _ h => h⟩ ⟨⟨⟨rfl, rfl, rfl, trivial⟩, trivial, rfl, rfl⟩, rfl⟩ ?_
  rintro ⟨⟨k, x, N⟩, hk, hle⟩
  replace hk : k ≤ l.length := hk
  replace hle : Le M N := hle
  (conv => whnf)
  refine CondK.mk (fun h1 => ?_) (fun h1 => ?_)
  · have hlt : k < l.length := by simpa using h1
    obtain ⟨y, hy⟩ : ∃ y, l[k]? = some y := ⟨_, List.getElem?_eq_getElem hlt⟩
    obtain ⟨A0, cs, rfl, hcs, hcl, hel⟩ := h.el k y hy
    replace hcs : cs = [.int .i64 y] := hcs
    subst hcs
    have hel0 := hle _ _ (hel 0 _ rfl)
    (conv => whnf)
    refine IdxK.mk _ rfl (by omega) (by omega) ?_
    rw [Int.toNat_natCast]
    (conv => whnf)
    refine LdK.mk _ hel0 ?_
    (conv => whnf)
    refine CallK.mr _ (l01Low_r _ _) (fun v M1 hl1 hv => ?_)
    obtain ⟨y1, rfl⟩ := hv
    (conv => whnf)
    refine CallK.mr _ (l01Low_r _ _) (fun v M2 hl2 hv => ?_)
    obtain ⟨y2, rfl⟩ := hv
    (conv => whnf)
    refine CallK.mr _ (l01Low_r _ _) (fun v M3 hl3 hv => ?_)
    obtain ⟨y3, rfl⟩ := hv
    (conv => whnf)
    exact ⟨⟨(k + 1, _, M3), by show k + 1 ≤ l.length; omega, ((hle.trans hl1).trans hl2).trans hl3⟩, ⟨⟨rfl, rfl, look_int (i64_succ (by omega)), trivial⟩, trivial, rfl, rfl⟩, rfl, by show l.length - (k + 1) < l.length - k; omega⟩
  · (conv => whnf)
    exact RetK.mk fun g M' hl hg => ⟨_, rfl⟩
theorem slIntsW {M1 : Mem} {ad2 : Addr} {ns : List Int} {cap : Nat} (hcap : ns.length ≤ cap) (hlen : ns.length ≤ 1000000) (hc : ∀ o u, (ns.map (Value.int .i64))[o]? = some u → M1 (ad2.add o) = some u) : SlR M1 RInt 1 8 (some ad2) cap ns :=
  ⟨hcap, by omega, fun i x hx => ⟨ad2, [.int .i64 x], rfl, rfl, rfl, fun j u hu => by
    cases j with
    | succ j => simp at hu
    | zero =>
      simp only [List.getElem?_cons_zero, Option.some.injEq] at hu
      subst hu
      rw [add_add, Nat.mul_one, Nat.add_zero]
      exact hc i _ (by rw [List.getElem?_map, hx]; rfl)⟩⟩
theorem l09No_r (M : Mem) (p : GPool) (s : ByteArray) (hs : s.size ≤ 1000) (hp : p.Pgs ≠ 0) : AnsR Try.prog M 69 #[.agg (List.toArray [.int .i64 p.Id, .int .i64 p.Code.K, .int .i64 p.Code.M, .int .i64 p.Min, .int .i64 p.Pgs, .int .i64 p.Rule]), .string s] (fun _ v => ∃ x : Int, v = .int .i64 x) := by
  refine ansR_of (T.at M) (l := [.agg (List.toArray [.int .i64 p.Id, .int .i64 p.Code.K, .int .i64 p.Code.M, .int .i64 p.Min, .int .i64 p.Pgs, .int .i64 p.Rule]), .string s]) mixed Try.func69 rfl (by kernel_rfl) (Nat.le_of_ble_eq_true rfl) ?_ (fun _ a u h1 h2 => by rw [show M a = none from h1] at h2; cases h2)
  (conv => whnf)
  refine LoopK.sw 1 2 {q : Nat × List Int × Nat // q.1 ≤ s.size ∧ q.2.1.length = q.1 ∧ q.1 ≤ q.2.2} (fun ⟨⟨k, ns, cap⟩, _⟩ => [(1, .v (.string s)), (2, .p 0 0), (5, .s 1 ns.length cap 1), (6, .v (.int .i64 (k : Int)))]) (fun ⟨⟨k, ns, cap⟩, _⟩ => [(1, ns.map (Value.int .i64)), (0, [.int .i64 p.Id, .int .i64 p.Code.K, .int .i64 p.Code.M, .int .i64 p.Min, .int .i64 p.Pgs, .int .i64 p.Rule])]) (fun _ => M) (fun q => s.size - q.1.1) ⟨(0, [], 0), Nat.zero_le _, rfl, Nat.le_refl _⟩ 1 ⟨⟨⟨rfl, rfl, rfl, rfl, trivial⟩, ⟨rfl, rfl, trivial⟩, rfl, rfl⟩, rfl⟩ ?_
  rintro ⟨⟨k, ns, cap⟩, hk, hn, hcap⟩
  replace hk : k ≤ s.size := hk
  replace hn : ns.length = k := hn
  replace hcap : k ≤ cap := hcap
  (conv => whnf)
  refine CondK.mk (fun h1 => ?_) (fun h1 => ?_)
  · have hlt : k < s.size := by simpa using h1
    repeat' ((conv => whnf); first | refine IdxS.mk (by omega) (by omega) ?_ | refine AppK.mk (by show (2 * (ns.length + 1) + 512) * 8 ≤ 281474976710656; omega) (by omega) (.inr rfl) rfl (fun cap3 hcap3 => ?_) | fail)
    refine ⟨⟨(k + 1, ns ++ [IntKind.i64.wrap ((s.data.getD ((k : Int).toNat) 0).toNat : Int)], cap3), by show k + 1 ≤ s.size; omega, by show (ns ++ [_]).length = k + 1; rw [List.length_append, hn]; rfl, by show k + 1 ≤ cap3; omega⟩, 3, ⟨⟨rfl, rfl, congrArg (fun t => some (PV.s 3 t cap3 1)) (by simp), look_int (i64_succ (by omega)), trivial⟩, ⟨congrArg some ?_, rfl, trivial⟩, rfl, rfl⟩, rfl, by show s.size - (k + 1) < s.size - k; omega⟩
    rw [List.map_append]
    rfl
  · (conv => whnf)
    refine DrawN.b [1] {q : Int × Mem // True} (fun ⟨⟨x, N⟩, _⟩ => [(4, .v (.int .i64 x))]) (fun _ => []) 9 (fun ⟨⟨x, N⟩, _⟩ => N) rfl (by kernel_rfl) ?_ ?_
    · repeat' ((conv => whnf); first | refine AndK.mk ?_ ?_ | refine HeldK.mk (by kernel_rfl) ?_ | refine PubK.mk (fun ad2 M1 hl hc => ?_) | refine CallB.mr _ (l01Mix_r _ ns _ _ (slIntsW (by omega) (by omega) (by assumption))) (fun v M2 hl2 hv => ?_) | fail)
      all_goals obtain ⟨y, rfl⟩ := hv
      all_goals (repeat' ((conv => whnf); first | refine AndK.mk ?_ ?_ | refine HeldK.mk (by kernel_rfl) ?_ | refine DivK.mk hp ?_ | exact ⟨⟨(_, _), trivial⟩, ⟨⟨rfl, trivial⟩, trivial, rfl, rfl⟩, rfl⟩ | fail))
    · rintro ⟨⟨x, N⟩, _⟩
      (conv => whnf)
      exact RetK.mk fun g M' hl hg => ⟨_, rfl⟩
theorem sPgOf_r (M : Mem) (p : GPool) (s : ByteArray) (hs : s.size ≤ 1000) : AnsR Try.prog M 54 #[.agg (List.toArray [.int .i64 p.Id, .int .i64 p.Code.K, .int .i64 p.Code.M, .int .i64 p.Min, .int .i64 p.Pgs, .int .i64 p.Rule]), .string s] (fun _ v => ∃ (g : GPg) (k : Bool), v = .tuple #[.agg #[.int .i64 g.Pool, .int .i64 g.No], .bool k]) := by
  refine ansR_of T (l := [.agg (List.toArray [.int .i64 p.Id, .int .i64 p.Code.K, .int .i64 p.Code.M, .int .i64 p.Min, .int .i64 p.Pgs, .int .i64 p.Rule]), .string s]) mixed Try.func54 rfl (by kernel_rfl) (Nat.le_of_ble_eq_true rfl) ?_
  by_cases hp : poolF p = true
  · have hz : p.Pgs ≠ 0 := by
      unfold poolF inR at hp
      simp only [Bool.and_eq_true, decide_eq_true_eq] at hp
      omega
    repeat' ((conv => whnf); first | refine CallK.mk _ (l09OK_a _ p) ?_ | refine CallK.mk _ (l09Name_a _ s (by omega)) ?_ | refine GuardK.no (t := !poolF p) ?_ (by rw [hp]; rfl) | refine GuardK.mk (fun h => ?_) (fun h => ?_) | refine CondK.mk (fun h => ?_) (fun h => ?_) | exact RetK.mk fun g M' hl hg => ⟨⟨_, _⟩, _, rfl⟩ | fail)
    (conv => whnf)
    refine DrawN.w [1] {q : Int × Mem // True} (fun ⟨⟨x, N⟩, _⟩ => [(4, .p 1 0), (5, .v (.bool true))]) (fun ⟨⟨x, N⟩, _⟩ => [(1, [.int .i64 p.Id, .int .i64 x])]) 9 (fun ⟨⟨x, N⟩, _⟩ => N) (by kernel_rfl) ?_ ?_
    · (conv => whnf)
      repeat' ((conv => whnf); first | refine AndK.mk ?_ ?_ | refine HeldK.mk (by kernel_rfl) ?_ | refine CallK.mr _ (l09No_r _ p s hs hz) (fun v M2 hl2 hv => ?_) | fail)
      all_goals obtain ⟨y, rfl⟩ := hv
      all_goals (repeat' ((conv => whnf); first | refine AndK.mk ?_ ?_ | refine HeldK.mk (by kernel_rfl) ?_ | exact ⟨⟨(_, _), trivial⟩, ⟨⟨rfl, rfl, trivial⟩, ⟨rfl, trivial⟩, rfl, rfl⟩, rfl⟩ | fail))
    · rintro ⟨⟨x, N⟩, _⟩
      (conv => whnf)
      exact RetK.mk fun g M' hl hg => ⟨⟨_, _⟩, _, rfl⟩
  · have hp' : poolF p = false := by simpa using hp
    repeat' ((conv => whnf); first | refine CallK.mk _ (l09OK_a _ p) ?_ | refine GuardK.no (t := !poolF p) ?_ (by rw [hp']; rfl) | refine CondK.yes' (by rw [hp']; rfl) ?_ | exact RetK.mk fun g M' hl hg => ⟨⟨_, _⟩, _, rfl⟩ | fail)
theorem z1000 : (0 : Nat) ≤ 1000 := Nat.zero_le _
def zCli : GClient := ⟨0, 0, false, ⟨0, 0⟩, eB, zO, 0⟩
theorem newCF_small (n : Int) : smallC (newCF n).1 := by unfold newCF; split <;> exact ⟨z1000, z1000⟩
theorem sClientAsk_r (M : Mem) (x : GClient) (hx : smallC x) (p : GPool) (s : ByteArray) (hs : s.size ≤ 1000) (o : GOp) (ho : o.Bytes.size ≤ 1000) : AnsR Try.prog M 35 #[.agg (List.toArray [.int .i64 x.Id, .int .i64 x.No, .bool x.Busy, .int .i64 x.Pg.Pool, .int .i64 x.Pg.No, .string x.Name, .int .i64 x.Op.Kind, .int .i64 x.Op.At, .string x.Op.Bytes, .int .i64 x.Tries]), .agg (List.toArray [.int .i64 p.Id, .int .i64 p.Code.K, .int .i64 p.Code.M, .int .i64 p.Min, .int .i64 p.Pgs, .int .i64 p.Rule]), .string s, .agg #[.int .i64 o.Kind, .int .i64 o.At, .string o.Bytes]] (fun _ v => ∃ (c : GClient) (k : Int), v = .tuple #[vClient c, .int .i64 k] ∧ smallC c) := by
  refine ansR_of T (l := [.agg (List.toArray [.int .i64 x.Id, .int .i64 x.No, .bool x.Busy, .int .i64 x.Pg.Pool, .int .i64 x.Pg.No, .string x.Name, .int .i64 x.Op.Kind, .int .i64 x.Op.At, .string x.Op.Bytes, .int .i64 x.Tries]), .agg (List.toArray [.int .i64 p.Id, .int .i64 p.Code.K, .int .i64 p.Code.M, .int .i64 p.Min, .int .i64 p.Pgs, .int .i64 p.Rule]), .string s, .agg #[.int .i64 o.Kind, .int .i64 o.At, .string o.Bytes]]) mixed Try.func35 rfl (by kernel_rfl) (Nat.le_of_ble_eq_true rfl) ?_
  have hx1 := hx.1
  repeat' ((conv => whnf); first | refine CallK.mk _ (sCallerOk_a _ x (by omega)) ?_ | refine CallK.mk _ (sPoolOk_a _ p) ?_ | refine CallK.mk _ (sNameOk_a _ s (by omega)) ?_ | refine CallK.mk _ (sOpOk_a _ p.Code o) ?_ | refine CallK.mr _ (sPgOf_r _ p s hs) (fun v M1 hl hv => ?_) | refine GuardK.mk (fun h => ?_) (fun h => ?_) | refine CondK.mk (fun h => ?_) (fun h => ?_) | exact RetK.mk fun g M' hl hg => ⟨⟨_, _, _, ⟨_, _⟩, _, ⟨_, _, _⟩, _⟩, _, rfl, z1000, z1000⟩ | fail)
  all_goals obtain ⟨g0, k0, rfl⟩ := hv
  all_goals (repeat' ((conv => whnf); first | exact RetK.mk fun g M' hl hg => ⟨⟨_, _, _, ⟨_, _⟩, _, ⟨_, _, _⟩, _⟩, _, rfl, hs, ho⟩ | fail))
theorem l28Pool_b {M : Mem} {ad : Addr} {b : Int} (h : Src M ad b) (hb : b ≤ 4611686018427370000) : AnsB Try.prog (off M ad.block) M 15 #[.pointer (some ad)] (GR vPool (fun _ => True) ad (b + 100)) := by
  refine ansB_of T (l := [.pointer (some ad)]) (Mb := off M ad.block) mixed Try.func15 rfl (by kernel_rfl) (Nat.le_of_ble_eq_true rfl) (off_le _ _) (off_dj _ _) ?_
  have hno : ∀ a : Addr, a.block = ad.block → off M ad.block a = none := fun a h => off_none h
  (conv => whnf)
  refine gcall (l16Code_b h (by omega)) hno (fun c M1 hq hS hlb => ?_)
  (conv => whnf)
  refine DrawN.b [0] {q : GPool × Mem // Src q.2 ad (b + 100)} (fun ⟨⟨p, N⟩, _⟩ => [(2, .p 0 0)]) (fun ⟨⟨p, N⟩, _⟩ => [(0, [.int .i64 p.Id, .int .i64 p.Code.K, .int .i64 p.Code.M, .int .i64 p.Min, .int .i64 p.Pgs, .int .i64 p.Rule])]) 9 (fun ⟨⟨p, N⟩, _⟩ => N) rfl (by kernel_rfl) ?_ ?_
  · repeat' ((conv => whnf); first | refine AndK.mk ?_ ?_ | refine HeldK.mk (by kernel_rfl) ?_ | refine gcallB (pick_b (by assumption) (by omega)) hno (fun x M1 hq hS hlb => ?_) | fail)
    all_goals exact ⟨⟨(⟨_, ⟨_, _⟩, _, _, _⟩, _), Src.mono (by assumption) (fun _ _ h => h) (by omega)⟩, ⟨⟨rfl, trivial⟩, ⟨rfl, trivial⟩, rfl, rfl⟩, rfl⟩
  · rintro ⟨⟨p, N⟩, hS⟩
    (conv => whnf)
    exact RetK.mk fun g M' hl hg => ⟨p, rfl, trivial, Src.mono hS hl (by omega)⟩
theorem l28Client_b {M : Mem} {ad : Addr} {b : Int} (h : Src M ad b) (hb : b ≤ 4611686018427350000) : AnsB Try.prog (off M ad.block) M 18 #[.pointer (some ad)] (GR vClient smallC ad (b + 9000)) := by
  refine ansB_of T.cuts (l := [.pointer (some ad)]) (Mb := off M ad.block) mixed Try.func18 rfl (by kernel_rfl) (Nat.le_of_ble_eq_true rfl) (off_le _ _) (off_dj _ _) ?_
  have hno : ∀ a : Addr, a.block = ad.block → off M ad.block a = none := fun a h => off_none h
  (conv => whnf)
  refine gcall (pick_b h (by omega)) hno (fun x M1 hq hS hlb => ?_)
  (conv => whnf)
  refine CallK.mk _ (sNewClient_a _ _) ?_
  have hc0 := newCF_small (IntKind.i64.wrap (100 + x))
  generalize newCF (IntKind.i64.wrap (100 + x)) = c0 at hc0
  (conv => whnf)
  refine gcall (pick_b hS (by omega)) hno (fun y M2 hq2 hS2 hlb2 => ?_)
  (conv => whnf)
  refine JoinK.cut {q : GClient × Mem // smallC q.1 ∧ Src q.2 ad (b + 8000)} (fun ⟨⟨c, N⟩, _⟩ => [(0, .v (.pointer (some ad))), (2, .p 0 0), (3, .p 1 0)]) (fun ⟨⟨c, N⟩, _⟩ => [(1, [.int .i64 c.Id, .int .i64 c.No, .bool c.Busy, .int .i64 c.Pg.Pool, .int .i64 c.Pg.No, .string c.Name, .int .i64 c.Op.Kind, .int .i64 c.Op.At, .string c.Op.Bytes, .int .i64 c.Tries]), (0, [.int .i64 zCli.Id, .int .i64 zCli.No, .bool zCli.Busy, .int .i64 zCli.Pg.Pool, .int .i64 zCli.Pg.No, .string zCli.Name, .int .i64 zCli.Op.Kind, .int .i64 zCli.Op.At, .string zCli.Op.Bytes, .int .i64 zCli.Tries])]) 20 (fun ⟨⟨c, N⟩, _⟩ => N) ?_ ?_
  · (conv => whnf)
    refine gcall (one_b hS2 (by omega)) hno (fun z M3 hq3 hS3 hlb3 => ?_)
    (conv => whnf)
    refine CondK.mk (fun hz => ?_) (fun hz => ?_)
    · (conv => whnf)
      refine DrawN.b [] {q : GClient × Int × Mem × Bool // smallC q.1 ∧ Src q.2.2.1 ad (b + 8000)} (fun ⟨⟨c, k, N, f⟩, _⟩ => [(0, .v (.pointer (some ad))), (2, .p 0 0), (3, .p 1 0), (5, .p (bif f then 3 else 2) 0), (6, .v (.int .i64 k))]) (fun ⟨⟨c, k, N, f⟩, _⟩ => [((bif f then 3 else 2), [.int .i64 c.Id, .int .i64 c.No, .bool c.Busy, .int .i64 c.Pg.Pool, .int .i64 c.Pg.No, .string c.Name, .int .i64 c.Op.Kind, .int .i64 c.Op.At, .string c.Op.Bytes, .int .i64 c.Tries]), (1, [.int .i64 ({ c0.1 with No := y } : GClient).Id, .int .i64 ({ c0.1 with No := y } : GClient).No, .bool ({ c0.1 with No := y } : GClient).Busy, .int .i64 ({ c0.1 with No := y } : GClient).Pg.Pool, .int .i64 ({ c0.1 with No := y } : GClient).Pg.No, .string ({ c0.1 with No := y } : GClient).Name, .int .i64 ({ c0.1 with No := y } : GClient).Op.Kind, .int .i64 ({ c0.1 with No := y } : GClient).Op.At, .string ({ c0.1 with No := y } : GClient).Op.Bytes, .int .i64 ({ c0.1 with No := y } : GClient).Tries]), (0, [.int .i64 zCli.Id, .int .i64 zCli.No, .bool zCli.Busy, .int .i64 zCli.Pg.Pool, .int .i64 zCli.Pg.No, .string zCli.Name, .int .i64 zCli.Op.Kind, .int .i64 zCli.Op.At, .string zCli.Op.Bytes, .int .i64 zCli.Tries])]) 9 (fun ⟨⟨c, k, N, f⟩, _⟩ => N) rfl (by kernel_rfl) ?_ ?_
      · repeat' ((conv => whnf); first | refine AndK.mk ?_ ?_ | refine HeldK.mk (by kernel_rfl) ?_ | refine gcallB (l28Pool_b (by assumption) (by omega)) hno (fun p M1 hq hS hlb => ?_) | refine gpubS (by assumption) rfl (by decide) rfl (fun ad2 M1 hl hS hr => ?_) | refine gcallB (text_b (by assumption) (by omega) (by assumption) rfl (by decide)) hno (fun s M1 hqs hS hlb => ?_) | refine CallB.mk _ (l16Plain_a _) ?_ | refine gcallB (l16Op_b (by assumption) (by omega) ⟨1, 0⟩) hno (fun o M1 hqo hS hlb => ?_) | refine CallB.mr _ (sClientAsk_r _ ({ c0.1 with No := y } : GClient) hc0 p s (shortS_mem rfl s hqs) o hqo) (fun v M1 hlv hv => ?_) | fail)
        all_goals obtain ⟨c1, k1, rfl, hsc⟩ := hv
        all_goals (repeat' ((conv => whnf); first | refine AndK.mk ?_ ?_ | refine HeldK.mk (by kernel_rfl) ?_ | exact ⟨⟨(_, _, _, true), hsc, Src.mono (by assumption) hlv (by omega)⟩, ⟨⟨rfl, rfl, rfl, rfl, rfl, trivial⟩, ⟨rfl, rfl, rfl, trivial⟩, rfl, rfl⟩, rfl⟩ | exact ⟨⟨(_, _, _, false), hsc, Src.mono (by assumption) hlv (by omega)⟩, ⟨⟨rfl, rfl, rfl, rfl, rfl, trivial⟩, ⟨rfl, rfl, rfl, trivial⟩, rfl, rfl⟩, rfl⟩ | fail))
      · rintro ⟨⟨c, k, N, f⟩, hc, hS⟩
        replace hS : Src N ad (b + 8000) := hS
        replace hc : smallC c := hc
        cases f
        all_goals (repeat' ((conv => whnf); first | refine CondK.mk (fun h => ?_) (fun h => ?_) | refine JoinK.go ?_ | fail))
        all_goals first
          | exact ⟨⟨(c, N), hc, hS⟩, ⟨⟨rfl, rfl, rfl, trivial⟩, ⟨rfl, rfl, trivial⟩, rfl, rfl⟩, rfl⟩
          | exact ⟨⟨(({ c0.1 with No := y } : GClient), N), hc0, hS⟩, ⟨⟨rfl, rfl, rfl, trivial⟩, ⟨rfl, rfl, trivial⟩, rfl, rfl⟩, rfl⟩
    · (conv => whnf)
      exact ⟨⟨(({ c0.1 with No := y } : GClient), M3), hc0, hS3.mono (fun _ _ h => h) (by omega)⟩, ⟨⟨rfl, rfl, rfl, trivial⟩, ⟨rfl, rfl, trivial⟩, rfl, rfl⟩, rfl⟩
  · rintro ⟨⟨c, N⟩, hc, hS⟩
    replace hS : Src N ad (b + 8000) := hS
    replace hc : smallC c := hc
    repeat' ((conv => whnf); first | refine gcall (pick_b (by assumption) (by omega)) hno (fun x M1 hq hS hlb => ?_) | refine gcall (among_b (by assumption) (by omega) (by assumption) rfl (by decide)) hno (fun x M1 hq hS hlb => ?_) | refine gpubI (by assumption) rfl (by decide) (fun ad2 M1 hl hS hr => ?_) | refine CondK.mk (fun h => ?_) (fun h => ?_) | refine JoinK.go ?_ | exact RetK.mk fun g M' hl hg => ⟨({ c with Id := x } : GClient), rfl, ⟨hc.1, hc.2⟩, Src.mono (by assumption) hl (by omega)⟩ | exact RetK.mk fun g M' hl hg => ⟨({ c with No := x } : GClient), rfl, ⟨hc.1, hc.2⟩, Src.mono (by assumption) hl (by omega)⟩ | exact RetK.mk fun g M' hl hg => ⟨({ c with Tries := x } : GClient), rfl, ⟨hc.1, hc.2⟩, Src.mono (by assumption) hl (by omega)⟩ | exact RetK.mk fun g M' hl hg => ⟨({ c with Busy := !c.Busy } : GClient), rfl, ⟨hc.1, hc.2⟩, Src.mono (by assumption) hl (by omega)⟩ | exact RetK.mk fun g M' hl hg => ⟨c, rfl, ⟨hc.1, hc.2⟩, Src.mono (by assumption) hl (by omega)⟩ | fail)
