/- Clients that ask: impl's side, and what spec draws for it. -/
import Derived.Test.YtphnjgeejifcfaaFunGE
import Derived.Test.YtphnjgeejifcfaaFunEC
namespace Go.Proofs.Ytphnjgeejifcfaa.Hlp
open Go Go.RowKit Go.Proofs Go.Proofs.Ytphnjgeejifcfaa.Lw
set_option linter.unusedVariables false
set_option linter.unusedSimpArgs false
set_option maxRecDepth 100000
set_option maxHeartbeats 4000000
theorem callBEx {P : Program} {base M : Mem} {f : FuncId} {args : Array Value} {R : Int → Prop} {K : Value → Mem → Prop} (h : AnsR P M f args (fun _ v => ∃ x : Int, v = .int .i64 x ∧ R x)) (k : ∀ x M', R x → Le M M' → K (.int .i64 x) M') : CallB P base M f args K :=
  CallB.mr _ h fun v M' hl hv => by obtain ⟨x, rfl, hx⟩ := hv; exact k x M' hx hl
theorem u32_in (n : Int) : 0 ≤ IntKind.u32.wrap n ∧ IntKind.u32.wrap n < 4294967296 := by
  unfold IntKind.wrap
  simp only [IntKind.bits, IntKind.signed, Bool.false_and, Bool.false_eq_true, if_false]
  omega
theorem callPg {P : Program} {wr : Bool} {base M : Mem} {f : FuncId} {args : Array Value} {R : GPg → Prop} {K : Value → Mem → Prop} (h : AnsR P M f args (fun _ v => ∃ g : GPg, v = .agg #[.int .i64 g.Pool, .int .i64 g.No] ∧ R g)) (k : ∀ g M', R g → Le M M' → K (.agg #[.int .i64 g.Pool, .int .i64 g.No]) M') : CallK P wr base M f args K :=
  CallK.mr _ h fun v M' hl hv => by obtain ⟨x, rfl, hx⟩ := hv; exact k x M' hx hl
def vCall (l : GCall) : Value := .agg (List.toArray [.int .i64 l.Client, .int .i64 l.No, .int .i64 l.Pg.Pool, .int .i64 l.Pg.No, .string l.Name, .int .i64 l.Op.Kind, .int .i64 l.Op.At, .string l.Op.Bytes, .int .i64 l.Begin, .int .i64 l.End, .int .i64 l.Code, .int .i64 l.Ver.Epoch, .int .i64 l.Ver.Seq, .string l.Body])
theorem mix_r (M : Mem) (l : List Int) (A : Option Addr) (c : Nat) (h : SlR M RInt 1 8 A c l) : AnsR Try.prog M 43 #[.slice A l.length c] (fun _ v => ∃ x : Int, v = .int .i64 x ∧ (0 ≤ x ∧ x < 4294967296)) := by
  have hl := h.len
  refine ansR_of T (l := [.slice A l.length c]) mixed Try.func43 rfl (by kernel_rfl) (Nat.le_of_ble_eq_true rfl) ?_
  (conv => whnf)
  refine LoopK.mk {q : Nat × Int // q.1 ≤ l.length ∧ 0 ≤ q.2 ∧ q.2 < 4294967296} (fun ⟨⟨k, x⟩, _⟩ => [(0, .v (.slice A l.length c)), (3, .v (.int .u32 x)), (6, .v (.slice A l.length c)), (7, .v (.int .i64 (l.length : Int))), (8, .v (.int .i64 (k : Int)))]) (fun _ => []) (fun _ => M) (fun q => l.length - q.1.1) ⟨(0, 2166136261), Nat.zero_le _, by decide, by decide⟩ ⟨⟨⟨rfl, rfl, rfl, rfl, rfl, trivial⟩, trivial, rfl, rfl⟩, rfl⟩ ?_
  rintro ⟨⟨k, x⟩, hk, hx0, hx1⟩
  replace hk : k ≤ l.length := hk
  replace hx0 : 0 ≤ x := hx0
  replace hx1 : x < 4294967296 := hx1
  (conv => whnf)
  refine CondK.mk (fun h1 => ?_) (fun h1 => ?_)
  · have hlt : k < l.length := by simpa using h1
    obtain ⟨y, hy⟩ : ∃ y, l[k]? = some y := ⟨_, List.getElem?_eq_getElem hlt⟩
    obtain ⟨A0, cs, rfl, hcs, hcl, hel⟩ := h.el k y hy
    replace hcs : cs = [.int .i64 y] := hcs
    subst hcs
    have hel0 := hel 0 _ rfl
    repeat' ((conv => whnf); first | refine IdxK.mk _ rfl (by omega) (by omega) ?_ | refine LdK.mk _ hel0 ?_ | fail)
    exact ⟨⟨(k + 1, _), by show k + 1 ≤ l.length; omega, (u32_in _).1, (u32_in _).2⟩, ⟨⟨rfl, rfl, rfl, rfl, look_int (i64_succ (by omega)), trivial⟩, trivial, rfl, rfl⟩, rfl, by show l.length - (k + 1) < l.length - k; omega⟩
  · (conv => whnf)
    refine RetK.mk fun g M' hl hg => ⟨_, rfl, ?_⟩
    show 0 ≤ IntKind.i64.wrap x ∧ IntKind.i64.wrap x < 4294967296
    rw [i64_id (by omega) (by omega)]
    exact ⟨hx0, hx1⟩
theorem codeSize_a (M : Mem) (c : GCode) : Ans Try.prog M 42 #[.agg #[.int .i64 c.K, .int .i64 c.M]] (.int .i64 (IntKind.i64.wrap (c.K + c.M))) := by
  refine ans_of T (l := [.agg #[.int .i64 c.K, .int .i64 c.M]]) mixed Try.func42 rfl (by kernel_rfl) (Nat.le_of_ble_eq_true rfl) ?_
  (conv => whnf)
  rfl
theorem iPoolOk_a (M : Mem) (p : GPool) : Ans Try.prog M 24 #[.agg (List.toArray [.int .i64 p.Id, .int .i64 p.Code.K, .int .i64 p.Code.M, .int .i64 p.Min, .int .i64 p.Pgs, .int .i64 p.Rule])] (.bool (poolF p)) := by
  refine ans_of T (l := [.agg (List.toArray [.int .i64 p.Id, .int .i64 p.Code.K, .int .i64 p.Code.M, .int .i64 p.Min, .int .i64 p.Pgs, .int .i64 p.Rule])]) mixed Try.func24 rfl (by kernel_rfl) (Nat.le_of_ble_eq_true rfl) ?_
  repeat' ((conv => whnf); first | with_reducible refine CondK.tt ?_ | with_reducible refine CondK.ff ?_ | refine CallK.mk _ (between_a _ _ _ _) ?_ | refine CallK.mk _ (codeOk_a _ p.Code) ?_ | refine CallK.mk _ (codeSize_a _ p.Code) ?_ | refine DrawN.q (by kernel_rfl) ?_ | refine CallQ.mk _ (between_a _ _ _ _) ?_ | refine CallQ.mk _ (codeOk_a _ p.Code) ?_ | refine CallQ.mk _ (codeSize_a _ p.Code) ?_ | refine GuardK.mk (fun h => ?_) (fun h => ?_) | refine CondK.mk (fun h => ?_) (fun h => ?_) | fail)
  all_goals refine ret_bool ?_
  all_goals (unfold poolF; simp_all)
theorem pgOf_r (M : Mem) (p : GPool) (hp : poolF p = true) (s : ByteArray) (hs : s.size ≤ 1000) : AnsR Try.prog M 27 #[.agg (List.toArray [.int .i64 p.Id, .int .i64 p.Code.K, .int .i64 p.Code.M, .int .i64 p.Min, .int .i64 p.Pgs, .int .i64 p.Rule]), .string s] (fun _ v => ∃ g : GPg, v = .agg #[.int .i64 g.Pool, .int .i64 g.No] ∧ pgOkF g = true) := by
  have hpp : (1 ≤ p.Id ∧ p.Id ≤ 4) ∧ 1 ≤ p.Pgs ∧ p.Pgs ≤ 16 := by
    unfold poolF inR at hp
    simp only [Bool.and_eq_true, decide_eq_true_eq] at hp
    exact ⟨hp.1.1.1.1, hp.1.2⟩
  refine ansR_of (T.at M) (l := [.agg (List.toArray [.int .i64 p.Id, .int .i64 p.Code.K, .int .i64 p.Code.M, .int .i64 p.Min, .int .i64 p.Pgs, .int .i64 p.Rule]), .string s]) mixed Try.func27 rfl (by kernel_rfl) (Nat.le_of_ble_eq_true rfl) ?_ (fun _ a u h1 h2 => by rw [show M a = none from h1] at h2; cases h2)
  (conv => whnf)
  refine LoopK.sw 2 3 {q : Nat × List Int × Nat // q.1 ≤ s.size ∧ q.2.1.length = q.1 ∧ q.1 ≤ q.2.2} (fun ⟨⟨k, ns, cap⟩, _⟩ => [(1, .v (.string s)), (2, .p 0 0), (4, .p 1 0), (5, match ns with | [] => .v (.slice none 0 0) | _ :: _ => .s 2 ns.length cap 1), (8, .v (.int .i64 (s.size : Int))), (9, .v (.int .i64 (k : Int)))]) (fun ⟨⟨k, ns, cap⟩, _⟩ => match ns with | [] => [(0, [.int .i64 p.Id, .int .i64 p.Code.K, .int .i64 p.Code.M, .int .i64 p.Min, .int .i64 p.Pgs, .int .i64 p.Rule]), (1, [.int .i64 0, .int .i64 0])] | _ :: _ => [(2, ns.map (Value.int .i64)), (0, [.int .i64 p.Id, .int .i64 p.Code.K, .int .i64 p.Code.M, .int .i64 p.Min, .int .i64 p.Pgs, .int .i64 p.Rule]), (1, [.int .i64 0, .int .i64 0])]) (fun _ => M) (fun q => s.size - q.1.1) ⟨(0, [], 0), Nat.zero_le _, rfl, Nat.le_refl _⟩ 2 ⟨⟨⟨rfl, rfl, rfl, rfl, rfl, rfl, trivial⟩, ⟨rfl, rfl, trivial⟩, rfl, rfl⟩, rfl⟩ ?_
  rintro ⟨⟨k, ns, cap⟩, hk, hn, hcap⟩
  replace hk : k ≤ s.size := hk
  replace hn : ns.length = k := hn
  replace hcap : k ≤ cap := hcap
  cases ns with
  | nil =>
    replace hn : 0 = k := hn
    subst hn
    (conv => whnf)
    refine CondK.mk (fun h1 => ?_) (fun h1 => ?_)
    · have hlt : 0 < s.size := by simpa using h1
      repeat' ((conv => whnf); first | refine IdxS.mk (by omega) (by omega) ?_ | refine AppK.mk (by show (2 * (0 + 1) + 512) * 8 ≤ 281474976710656; omega) (by omega) (.inl (by decide)) rfl (fun cap3 hcap3 => ?_) | fail)
      exact ⟨⟨(1, [IntKind.i64.wrap ((s.data.getD ((0 : Nat) : Int).toNat 0).toNat : Int)], cap3), by show 1 ≤ s.size; omega, rfl, by show 1 ≤ cap3; omega⟩, 4, ⟨⟨rfl, rfl, rfl, rfl, rfl, rfl, trivial⟩, ⟨rfl, rfl, rfl, trivial⟩, rfl, rfl⟩, rfl, by show s.size - 1 < s.size - 0; omega⟩
    · (conv => whnf)
      refine DrawN.b [1] {q : Int × Mem // 0 ≤ q.1 ∧ q.1 ≤ 15} (fun ⟨⟨x, N⟩, _⟩ => [(4, .p 1 0)]) (fun ⟨⟨x, N⟩, _⟩ => [(1, [.int .i64 p.Id, .int .i64 x])]) 9 (fun ⟨⟨x, N⟩, _⟩ => N) rfl (by kernel_rfl) ?_ ?_
      · repeat' ((conv => whnf); first | refine AndK.mk ?_ ?_ | refine HeldK.mk (by kernel_rfl) ?_ | refine PubK.mk (fun ad2 M1 hl hc => ?_) | refine callBEx (mix_r _ [] none 0 SlR.nil) (fun x2 M2 hx2 hl2 => ?_) | refine DivK.mk (by omega) ?_ | exact ⟨⟨(_, _), Int.tmod_nonneg _ hx2.1, by have := Int.tmod_lt_of_pos x2 (show 0 < p.Pgs by omega); show x2.tmod p.Pgs ≤ 15; omega⟩, ⟨⟨rfl, trivial⟩, ⟨rfl, trivial⟩, rfl, rfl⟩, rfl⟩ | fail)
      · rintro ⟨⟨x, N⟩, hx0, hx1⟩
        replace hx0 : 0 ≤ x := hx0
        replace hx1 : x ≤ 15 := hx1
        (conv => whnf)
        refine RetK.mk fun g M' hl hg => ⟨⟨p.Id, x⟩, rfl, ?_⟩
        unfold pgOkF inR
        simp only [Bool.and_eq_true, decide_eq_true_eq]
        omega
  | cons a ns =>
    replace hn : ns.length + 1 = k := hn
    (conv => whnf)
    refine CondK.mk (fun h1 => ?_) (fun h1 => ?_)
    · have hlt : k < s.size := by simpa using h1
      repeat' ((conv => whnf); first | refine IdxS.mk (by omega) (by omega) ?_ | refine AppK.mk (by show (2 * ((a :: ns).length + 1) + 512) * 8 ≤ 281474976710656; rw [List.length_cons]; omega) (by show (a :: ns).length + 1 ≤ 1000000000000; rw [List.length_cons]; omega) (.inr rfl) rfl (fun cap3 hcap3 => ?_) | fail)
      refine ⟨⟨(k + 1, a :: (ns ++ [IntKind.i64.wrap ((s.data.getD ((k : Nat) : Int).toNat 0).toNat : Int)]), cap3), by show k + 1 ≤ s.size; omega, by show (a :: (ns ++ [_])).length = k + 1; simp [hn], by show k + 1 ≤ cap3; have hh : (a :: ns).length + 1 ≤ cap3 := hcap3; rw [List.length_cons] at hh; omega⟩, 4, ⟨⟨rfl, rfl, rfl, congrArg (fun t => some (PV.s 4 t cap3 1)) (by simp), rfl, look_int (i64_succ (by omega)), trivial⟩, ⟨congrArg some ?_, rfl, rfl, trivial⟩, rfl, rfl⟩, rfl, by show s.size - (k + 1) < s.size - k; omega⟩
      simp only [List.map_cons, List.map_append, List.cons_append, List.map_nil]
    · (conv => whnf)
      refine DrawN.b [1, 2] {q : Int × Mem // 0 ≤ q.1 ∧ q.1 ≤ 15} (fun ⟨⟨x, N⟩, _⟩ => [(4, .p 1 0)]) (fun ⟨⟨x, N⟩, _⟩ => [(1, [.int .i64 p.Id, .int .i64 x])]) 9 (fun ⟨⟨x, N⟩, _⟩ => N) rfl (by kernel_rfl) ?_ ?_
      · repeat' ((conv => whnf); first | refine AndK.mk ?_ ?_ | refine HeldK.mk (by kernel_rfl) ?_ | refine PubK.mk (fun ad2 M1 hl hc => ?_) | refine callBEx (mix_r _ (a :: ns) _ _ (slIntsW (by rw [List.length_cons]; omega) (by rw [List.length_cons]; omega) (by assumption))) (fun x2 M2 hx2 hl2 => ?_) | refine DivK.mk (by omega) ?_ | exact ⟨⟨(_, _), Int.tmod_nonneg _ hx2.1, by have := Int.tmod_lt_of_pos x2 (show 0 < p.Pgs by omega); show x2.tmod p.Pgs ≤ 15; omega⟩, ⟨⟨rfl, trivial⟩, ⟨rfl, trivial⟩, rfl, rfl⟩, rfl⟩ | fail)
      · rintro ⟨⟨x, N⟩, hx0, hx1⟩
        replace hx0 : 0 ≤ x := hx0
        replace hx1 : x ≤ 15 := hx1
        (conv => whnf)
        refine RetK.mk fun g M' hl hg => ⟨⟨p.Id, x⟩, rfl, ?_⟩
        unfold pgOkF inR
        simp only [Bool.and_eq_true, decide_eq_true_eq]
        omega
def askF (x : GClient) (p : GPool) (s : ByteArray) (o : GOp) (g : GPg) : GClient × Int :=
  if (callerF x && poolF p && nameOkF s && opOkF p.Code o) = true then (if x.Busy = true then (zCli, 5) else if x.No = 1000 then (zCli, 4) else (⟨x.Id, IntKind.i64.wrap (x.No + 1), true, g, s, o, 0⟩, 0)) else (zCli, 1)
theorem iClientAsk_r (M : Mem) (x : GClient) (hx : smallC x) (p : GPool) (s : ByteArray) (hs : s.size ≤ 1000) (o : GOp) : AnsR Try.prog M 8 #[.agg (List.toArray [.int .i64 x.Id, .int .i64 x.No, .bool x.Busy, .int .i64 x.Pg.Pool, .int .i64 x.Pg.No, .string x.Name, .int .i64 x.Op.Kind, .int .i64 x.Op.At, .string x.Op.Bytes, .int .i64 x.Tries]), .agg (List.toArray [.int .i64 p.Id, .int .i64 p.Code.K, .int .i64 p.Code.M, .int .i64 p.Min, .int .i64 p.Pgs, .int .i64 p.Rule]), .string s, .agg #[.int .i64 o.Kind, .int .i64 o.At, .string o.Bytes]] (fun _ v => ∃ g : GPg, pgOkF g = true ∧ v = .tuple #[vClient (askF x p s o g).1, .int .i64 (askF x p s o g).2]) := by
  refine ansR_of T (l := [.agg (List.toArray [.int .i64 x.Id, .int .i64 x.No, .bool x.Busy, .int .i64 x.Pg.Pool, .int .i64 x.Pg.No, .string x.Name, .int .i64 x.Op.Kind, .int .i64 x.Op.At, .string x.Op.Bytes, .int .i64 x.Tries]), .agg (List.toArray [.int .i64 p.Id, .int .i64 p.Code.K, .int .i64 p.Code.M, .int .i64 p.Min, .int .i64 p.Pgs, .int .i64 p.Rule]), .string s, .agg #[.int .i64 o.Kind, .int .i64 o.At, .string o.Bytes]]) mixed Try.func8 rfl (by kernel_rfl) (Nat.le_of_ble_eq_true rfl) ?_
  have hx1 := small_big hx.1
  have g0 : pgOkF ⟨1, 0⟩ = true := by decide
  by_cases hc : (callerF x && poolF p && nameOkF s && opOkF p.Code o) = true
  · have hc' := hc
    simp only [Bool.and_eq_true] at hc'
    obtain ⟨⟨⟨q1, q2⟩, q3⟩, q4⟩ := hc'
    have f0 : ∀ g, askF x p s o g = if x.Busy = true then (zCli, 5) else if x.No = 1000 then (zCli, 4) else (⟨x.Id, IntKind.i64.wrap (x.No + 1), true, g, s, o, 0⟩, 0) := fun g => if_pos hc
    simp only [f0]
    clear f0
    repeat' ((conv => whnf); first | refine CallK.mk _ (callerOk_a _ x hx1) ?_ | refine CallK.mk _ (iPoolOk_a _ p) ?_ | refine CallK.mk _ (nameOk_a _ s (small_big hs)) ?_ | refine CallK.mk _ (opOk_a _ p.Code o) ?_ | rw [q1] | rw [q2] | rw [q3] | rw [q4] | fail)
    by_cases hb : x.Busy = true
    · simp only [if_pos hb]
      repeat' ((conv => whnf); first | refine CondK.yes' hb ?_ | exact RetK.mk fun g M' hl hg => ⟨_, g0, rfl⟩ | fail)
    · simp only [if_neg hb]
      have hb' : x.Busy = false := by simpa using hb
      by_cases hm : x.No = 1000
      · simp only [if_pos hm]
        repeat' ((conv => whnf); first | refine CondK.no' hb' ?_ | refine CondK.yes' (by rw [hm]; rfl) ?_ | exact RetK.mk fun g M' hl hg => ⟨_, g0, rfl⟩ | fail)
      · simp only [if_neg hm]
        repeat' ((conv => whnf); first | refine CondK.no' hb' ?_ | refine CondK.no' (by simpa using hm) ?_ | fail)
        refine DrawN.w [3] {q : GPg × Mem // pgOkF q.1 = true} (fun ⟨⟨g, N⟩, _⟩ => [(8, .p 3 0), (9, .v (.int .i64 0))]) (fun ⟨⟨g, N⟩, _⟩ => [(3, [.int .i64 x.Id, .int .i64 (IntKind.i64.wrap (x.No + 1)), .bool true, .int .i64 g.Pool, .int .i64 g.No, .string s, .int .i64 o.Kind, .int .i64 o.At, .string o.Bytes, .int .i64 0])]) 9 (fun ⟨⟨g, N⟩, _⟩ => N) (by kernel_rfl) ?_ ?_
        · repeat' ((conv => whnf); first | refine AndK.mk ?_ ?_ | refine HeldK.mk (by kernel_rfl) ?_ | refine callPg (pgOf_r _ p q2 s hs) (fun g M1 hg hl => ?_) | exact ⟨⟨(g, _), hg⟩, ⟨⟨rfl, rfl, trivial⟩, ⟨rfl, trivial⟩, rfl, rfl⟩, rfl⟩ | fail)
        · rintro ⟨⟨g, N⟩, hg⟩
          (conv => whnf)
          exact RetK.mk fun _ M' hl _ => ⟨g, hg, rfl⟩
  · have f0 : ∀ g, askF x p s o g = (zCli, 1) := fun g => if_neg hc
    simp only [f0]
    repeat' ((conv => whnf); first | refine CallK.mk _ (callerOk_a _ x hx1) ?_ | refine CallK.mk _ (iPoolOk_a _ p) ?_ | refine CallK.mk _ (nameOk_a _ s (small_big hs)) ?_ | refine CallK.mk _ (opOk_a _ p.Code o) ?_ | refine GuardK.mk (fun h => ?_) (fun h => ?_) | refine CondK.mk (fun h => ?_) (fun h => ?_) | exact RetK.mk fun g M' hl hg => ⟨_, g0, rfl⟩ | fail)
    all_goals (exfalso; simp_all; done)
def callOfF (x : GClient) (b : Int) : GCall := if (callerF x && x.Busy && !decide (b < 1)) = true then ⟨x.Id, x.No, x.Pg, x.Name, x.Op, b, 0, 0, ⟨0, 0⟩, eB⟩ else zCall
theorem callOf_a (M : Mem) (x : GClient) (hx : smallC x) (b : Int) : Ans Try.prog M 10 #[.agg (List.toArray [.int .i64 x.Id, .int .i64 x.No, .bool x.Busy, .int .i64 x.Pg.Pool, .int .i64 x.Pg.No, .string x.Name, .int .i64 x.Op.Kind, .int .i64 x.Op.At, .string x.Op.Bytes, .int .i64 x.Tries]), .int .i64 b] (vCall (callOfF x b)) := by
  have hx1 := small_big hx.1
  by_cases hc : (callerF x && x.Busy && !decide (b < 1)) = true
  · rw [show callOfF x b = ⟨x.Id, x.No, x.Pg, x.Name, x.Op, b, 0, 0, ⟨0, 0⟩, eB⟩ from if_pos hc]
    refine ans_of T (l := [.agg (List.toArray [.int .i64 x.Id, .int .i64 x.No, .bool x.Busy, .int .i64 x.Pg.Pool, .int .i64 x.Pg.No, .string x.Name, .int .i64 x.Op.Kind, .int .i64 x.Op.At, .string x.Op.Bytes, .int .i64 x.Tries]), .int .i64 b]) mixed Try.func10 rfl (by kernel_rfl) (Nat.le_of_ble_eq_true rfl) ?_
    repeat' ((conv => whnf); first | refine CallK.mk _ (callerOk_a _ x hx1) ?_ | refine GuardK.mk (fun h => ?_) (fun h => ?_) | refine CondK.mk (fun h => ?_) (fun h => ?_) | fail)
    all_goals first | exact rfl | (exfalso; simp_all; done) | (exfalso; simp_all; omega)
  · rw [show callOfF x b = zCall from if_neg hc]
    refine ans_of T (l := [.agg (List.toArray [.int .i64 x.Id, .int .i64 x.No, .bool x.Busy, .int .i64 x.Pg.Pool, .int .i64 x.Pg.No, .string x.Name, .int .i64 x.Op.Kind, .int .i64 x.Op.At, .string x.Op.Bytes, .int .i64 x.Tries]), .int .i64 b]) mixed Try.func10 rfl (by kernel_rfl) (Nat.le_of_ble_eq_true rfl) ?_
    repeat' ((conv => whnf); first | refine CallK.mk _ (callerOk_a _ x hx1) ?_ | refine GuardK.mk (fun h => ?_) (fun h => ?_) | refine CondK.mk (fun h => ?_) (fun h => ?_) | fail)
    all_goals first | exact rfl | (exfalso; simp_all; done) | (exfalso; simp_all; omega)
theorem drawClientAsk_r {M : Mem} {A : Option Addr} {c : Nat} {l : List Int} (h : SlR M RByte 1 1 A c l) : AnsR Try.prog M 7 #[.slice A l.length c] (fun _ v => ∃ (x : GClient) (p : GPool) (s : ByteArray) (o : GOp), v = .tuple #[vClient x, vPool p, .string s, vOp o]) := by
  refine ansR_of (T.at M) (l := [.slice A l.length c]) mixed Try.func7 rfl (by kernel_rfl) (Nat.le_of_ble_eq_true rfl) ?_ (fun _ a u h1 h2 => by rw [show M a = none from h1] at h2; cases h2)
  (conv => whnf)
  refine CallK.mr _ (l00From_r h) (fun v M0 hl0 hv => ?_)
  obtain ⟨ad, rfl, hS0, hfr⟩ := hv
  have hno : ∀ a : Addr, a.block = ad.block → M a = none := fun a ha => by
    cases hm : M a with
    | none => rfl
    | some u => exact absurd ha (hfr a u hm)
  (conv => whnf)
  refine gcall (l28Pool_b hS0 (by omega)) hno (fun p M1 _ hS1 hlb1 => ?_)
  (conv => whnf)
  refine gpubS hS1 rfl (by decide) rfl (fun ad2 M2 hl2 hS2 hr2 => ?_)
  (conv => whnf)
  refine gcall (text_b hS2 (by omega) hr2 rfl (by decide)) hno (fun nm M3 hnm hS3 hlb3 => ?_)
  (conv => whnf)
  refine gcall (l16Op_b hS3 (by omega) p.Code) hno (fun o M4 ho hS4 hlb4 => ?_)
  (conv => whnf)
  refine gcall (l28Client_b hS4 (by omega)) hno (fun x M5 hx hS5 hlb5 => ?_)
  (conv => whnf)
  refine gcall (one_b hS5 (by omega)) hno (fun z M6 hz hS6 hlb6 => ?_)
  (conv => whnf)
  refine CondK.mk (fun h1 => ?_) (fun h1 => ?_)
  · (conv => whnf)
    refine gcall (pick_b hS6 (by omega)) hno (fun y M7 hy hS7 hlb7 => ?_)
    (conv => whnf)
    refine CallK.mk _ (sNewClient_a _ _) ?_
    generalize newCF (IntKind.i64.wrap (100 + y)) = c0
    repeat' ((conv => whnf); first | refine gcall (among_b (by assumption) (by omega) (by assumption) rfl (by decide)) hno (fun w M8 hw hS8 hlb8 => ?_) | refine gpubI (by assumption) rfl (by decide) (fun ad2 M8 hl hS hr => ?_) | fail)
    refine DrawN.w [0, 1, 2] Mem (fun _ => [(2, .p 0 0), (3, .p 1 0), (4, .v (.string nm)), (5, .p 2 0)]) (fun _ => [(0, [.int .i64 ({ c0.1 with No := w } : GClient).Id, .int .i64 ({ c0.1 with No := w } : GClient).No, .bool ({ c0.1 with No := w } : GClient).Busy, .int .i64 ({ c0.1 with No := w } : GClient).Pg.Pool, .int .i64 ({ c0.1 with No := w } : GClient).Pg.No, .string ({ c0.1 with No := w } : GClient).Name, .int .i64 ({ c0.1 with No := w } : GClient).Op.Kind, .int .i64 ({ c0.1 with No := w } : GClient).Op.At, .string ({ c0.1 with No := w } : GClient).Op.Bytes, .int .i64 ({ c0.1 with No := w } : GClient).Tries]), (1, [.int .i64 p.Id, .int .i64 p.Code.K, .int .i64 p.Code.M, .int .i64 p.Min, .int .i64 p.Pgs, .int .i64 p.Rule]), (2, [.int .i64 o.Kind, .int .i64 o.At, .string o.Bytes])]) 20 (fun N => N) (by kernel_rfl) ?_ ?_
    · repeat' ((conv => whnf); first | refine AndK.mk ?_ ?_ | refine HeldK.mk (by kernel_rfl) ?_ | exact ⟨_, ⟨⟨rfl, rfl, rfl, rfl, trivial⟩, ⟨rfl, rfl, rfl, trivial⟩, rfl, rfl⟩, rfl⟩ | fail)
    · intro N
      (conv => whnf)
      exact RetK.mk fun g M' hl hg => ⟨({ c0.1 with No := w } : GClient), p, nm, o, rfl⟩
  · (conv => whnf)
    refine DrawN.w [0, 1, 2] Mem (fun _ => [(2, .p 0 0), (3, .p 1 0), (4, .v (.string nm)), (5, .p 2 0)]) (fun _ => [(0, [.int .i64 x.Id, .int .i64 x.No, .bool x.Busy, .int .i64 x.Pg.Pool, .int .i64 x.Pg.No, .string x.Name, .int .i64 x.Op.Kind, .int .i64 x.Op.At, .string x.Op.Bytes, .int .i64 x.Tries]), (1, [.int .i64 p.Id, .int .i64 p.Code.K, .int .i64 p.Code.M, .int .i64 p.Min, .int .i64 p.Pgs, .int .i64 p.Rule]), (2, [.int .i64 o.Kind, .int .i64 o.At, .string o.Bytes])]) 20 (fun N => N) (by kernel_rfl) ?_ ?_
    · repeat' ((conv => whnf); first | refine AndK.mk ?_ ?_ | refine HeldK.mk (by kernel_rfl) ?_ | exact ⟨_, ⟨⟨rfl, rfl, rfl, rfl, trivial⟩, ⟨rfl, rfl, rfl, trivial⟩, rfl, rfl⟩, rfl⟩ | fail)
    · intro N
      (conv => whnf)
      exact RetK.mk fun g M' hl hg => ⟨x, p, nm, o, rfl⟩
end Go.Proofs.Ytphnjgeejifcfaa.Hlp
