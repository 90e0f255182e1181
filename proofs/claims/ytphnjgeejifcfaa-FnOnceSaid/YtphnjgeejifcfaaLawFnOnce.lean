/- FnOnce by the light walk: the law. -/
import Derived.Test.YtphnjgeejifcfaaFunOA
namespace Go.Proofs.Ytphnjgeejifcfaa.Hlp
open Go Go.RowKit Go.Proofs Go.Proofs.Ytphnjgeejifcfaa.Lw
set_option linter.unusedVariables false
set_option linter.unusedSimpArgs false
set_option maxRecDepth 100000
set_option maxHeartbeats 4000000
theorem b10Long_a (M : Mem) (A A2 : Option Addr) (n n2 c c2 : Nat) : Ans Try.prog M 4 #[.slice A n c, .slice A2 n2 c2] (.bool (decide ((n : Int) > 1048576) || decide ((n2 : Int) > 1048576))) := by
  refine ans_of T (l := [.slice A n c, .slice A2 n2 c2]) mixed Try.func4 rfl (by kernel_rfl) (Nat.le_of_ble_eq_true rfl) ?_
  repeat' ((conv => whnf); first | refine GuardK.mk (fun h => ?_) (fun h => ?_) | refine CondK.mk (fun h => ?_) (fun h => ?_) | fail)
  all_goals refine ret_bool ?_
  all_goals first | (simp_all; done) | (simp_all; intros; omega)
theorem b10At_r (M : Mem) (A : Option Addr) (c : Nat) (l : List Int) (hs : SlR M RByte 1 1 A c l) (i : Nat) (hi : i ≤ 1000) (n : Int) (hn : 1 < n) : AnsR Try.prog M 6 #[.slice A l.length c, .int .i64 (i : Int), .int .i64 n] (fun _ v => ∃ x : Int, v = .int .i64 x ∧ 0 ≤ x ∧ x < n) := by
  refine ansR_of T (l := [.slice A l.length c, .int .i64 (i : Int), .int .i64 n]) mixed Try.func6 rfl (by kernel_rfl) (Nat.le_of_ble_eq_true rfl) ?_
  by_cases hl : (i : Int) < (l.length : Int)
  · obtain ⟨y, hy⟩ : ∃ y, l[i]? = some y := ⟨_, List.getElem?_eq_getElem (by omega)⟩
    obtain ⟨A0, cs, rfl, ⟨rfl, hy0, hy1⟩, hcl, hel⟩ := hs.el i y hy
    have hel0 := hel 0 _ rfl
    have hlen := hs.len
    repeat' ((conv => whnf); first | refine CondK.no' (decide_eq_false (by omega)) ?_ | refine CondK.yes' (decide_eq_true hl) ?_ | refine IdxK.mk _ rfl (by omega) (by omega) ?_ | refine LdK.mk _ hel0 ?_ | refine DivK.mk (by omega) ?_ | fail)
    refine RetK.mk fun g M' hl hg => ⟨_, rfl, ?_⟩
    show 0 ≤ (IntKind.i64.wrap y).tmod n ∧ (IntKind.i64.wrap y).tmod n < n
    rw [i64_id (by omega) (by omega)]
    exact ⟨Int.tmod_nonneg _ (by omega), Int.tmod_lt_of_pos _ (by omega)⟩
  · repeat' ((conv => whnf); first | refine CondK.no' (decide_eq_false hl) ?_ | refine CondK.no' (decide_eq_false (by omega)) ?_ | refine DivK.mk (by omega) ?_ | fail)
    refine RetK.mk fun g M' hl hg => ⟨_, rfl, ?_⟩
    show 0 ≤ (IntKind.i64.wrap (IntKind.i64.wrap ((i : Int) * 37) + 11)).tmod n ∧ (IntKind.i64.wrap (IntKind.i64.wrap ((i : Int) * 37) + 11)).tmod n < n
    rw [i64_id (x := (i : Int) * 37) (by omega) (by omega), i64_id (by omega) (by omega)]
    exact ⟨Int.tmod_nonneg _ (by omega), Int.tmod_lt_of_pos _ (by omega)⟩
theorem realReq_ok {a n : Int} (h : isClientF a = true) (h1 : 1 ≤ n) (h2 : n ≤ 1000) : realReqF ⟨a, n⟩ = true := by
  have hz : (⟨a, n⟩ : GReq) ≠ ⟨0, 0⟩ := fun he => by cases he; omega
  unfold realReqF reqOkF
  simp only [h, hz, decide_false, Bool.false_or, Bool.true_and, Bool.not_false, Bool.and_true]
  unfold inR
  simp only [Bool.and_eq_true, decide_eq_true_eq]
  exact ⟨h1, h2⟩
theorem callEx {P : Program} {wr : Bool} {base M : Mem} {f : FuncId} {args : Array Value} {R : Int → Prop} {K : Value → Mem → Prop} (h : AnsR P M f args (fun _ v => ∃ x : Int, v = .int .i64 x ∧ R x)) (k : ∀ x M', R x → Le M M' → K (.int .i64 x) M') : CallK P wr base M f args K :=
  CallK.mr _ h fun v M' hl hv => by obtain ⟨x, rfl, hx⟩ := hv; exact k x M' hx hl
theorem GuardK.is {t want : Bool} {A B : Prop} (ht : t = want) (h : A) : GuardK t want A B := by subst ht; cases t <;> exact h
theorem GuardK.isnt {t want : Bool} {A B : Prop} (ht : t = !want) (h : B) : GuardK t want A B := by subst ht; cases want <;> exact h

def aS : ByteArray := ⟨#[97]⟩
def oR : GOp := ⟨1, 0, eB⟩
def idle (id : Int) (no : Nat) : GClient := ⟨id, no, false, ⟨0, 0⟩, eB, zO, 0⟩
def busy (id : Int) (no : Nat) (g : GPg) : GClient := ⟨id, no, true, g, aS, oR, 0⟩
def opened (id : Int) (no : Nat) (g : GPg) (b : Nat) : GCall := ⟨id, no, g, aS, oR, b, 0, 0, ⟨0, 0⟩, eB⟩
theorem nmOk : nameOkF aS = true := by decide
theorem oROk : opOkF ⟨1, 0⟩ oR = true := by decide
theorem small_idle (id : Int) (no : Nat) : smallC (idle id no) := ⟨z1000, z1000⟩
theorem small_busy (id : Int) (no : Nat) (g : GPg) : smallC (busy id no g) := ⟨show (1 : Nat) ≤ 1000 by omega, z1000⟩
theorem inR_of {n lo hi : Int} (h : lo ≤ n ∧ n ≤ hi) : inR n lo hi = true := by unfold inR; simp only [Bool.and_eq_true, decide_eq_true_eq]; exact h
theorem caller_idle {id : Int} {no : Nat} (h : isClientF id = true) (hn : no ≤ 1000) : callerF (idle id no) = true := by
  have h1 : inR (no : Int) 0 1000 = true := inR_of (by omega)
  have h2 : inR 0 0 1000 = true := by decide
  simp [callerF, idle, h, h1, h2]
theorem caller_busy {id : Int} {no : Nat} {g : GPg} (h : isClientF id = true) (h0 : 1 ≤ no) (hn : no ≤ 1000) (hg : pgOkF g = true) : callerF (busy id no g) = true := by
  have h1 : inR (no : Int) 0 1000 = true := inR_of (by omega)
  have h2 : inR 0 0 1000 = true := by decide
  have h3 : decide (1 ≤ (no : Int)) = true := decide_eq_true (by omega)
  show (isClientF id && inR no 0 1000 && inR 0 0 1000 && (decide (1 ≤ (no : Int)) && pgOkF g && nameOkF aS && opOkF ⟨1, 0⟩ oR)) = true
  rw [h, h1, h2, h3, hg, nmOk, oROk]
  rfl
theorem opOk_pool {p : GPool} (hp : poolF p = true) : opOkF p.Code oR = true := by
  unfold poolF at hp
  simp only [Bool.and_eq_true] at hp
  have hk := hp.1.1.1.2
  unfold opOkF
  rw [hk]
  simp [oR]
theorem ask_idle {id : Int} {no : Nat} {p : GPool} (h : isClientF id = true) (hn : no ≤ 12) (hp : poolF p = true) (g : GPg) : askF (idle id no) p aS oR g = (busy id (no + 1) g, 0) := by
  have hc := caller_idle h (show no ≤ 1000 by omega)
  have ho := opOk_pool hp
  unfold askF
  rw [if_pos (by simp [hc, hp, nmOk, ho])]
  rw [if_neg (show ¬ ((idle id no).Busy = true) from fun h => by cases h), if_neg (show ¬ ((idle id no).No = 1000) from fun h => by have h : (no : Int) = 1000 := h; omega)]
  show (GClient.mk id (IntKind.i64.wrap ((no : Int) + 1)) true g aS oR 0, (0 : Int)) = _
  rw [i64_succ (by omega)]
  rfl
theorem ask_busy {id : Int} {no : Nat} {p : GPool} {gc : GPg} (h : isClientF id = true) (h0 : 1 ≤ no) (hn : no ≤ 12) (hp : poolF p = true) (hg : pgOkF gc = true) (g : GPg) : askF (busy id no gc) p aS oR g = (zCli, 5) := by
  have hc := caller_busy h h0 (show no ≤ 1000 by omega) hg
  have ho := opOk_pool hp
  unfold askF
  rw [if_pos (by simp [hc, hp, nmOk, ho]), if_pos (show (busy id no gc).Busy = true from rfl)]
theorem ask_form {x : GClient} {p : GPool} (hp : poolF p = false) (g : GPg) : askF x p aS oR g = (zCli, 1) := by
  unfold askF
  rw [if_neg (by simp [hp])]
theorem callOf_busy {id : Int} {no b : Nat} {g : GPg} (h : isClientF id = true) (h0 : 1 ≤ no) (hn : no ≤ 1000) (hg : pgOkF g = true) (hb : 1 ≤ b) : callOfF (busy id no g) b = opened id no g b := by
  have hc := caller_busy h h0 hn hg
  unfold callOfF
  rw [if_pos (by rw [hc]; simp [busy]; omega)]
  rfl
def repO (x : GClient) (id : Int) (no : Nat) : GMsg := ⟨14, 0, id, x.Pg, 0, eB, ⟨0, 0⟩, ⟨0, 0⟩, zS, zE, zC, zO, ⟨id, no⟩, 3, eB⟩
theorem repO_ok {x : GClient} {id : Int} {no : Nat} (h : isClientF id = true) (h0 : 1 ≤ no) (hn : no ≤ 1000) (hg : pgOkF x.Pg = true) : (endsF (repO x id no) && hasMsgF (repO x id no)) = true := by
  have f9 := realReq_ok (a := id) (n := no) h (by omega) (by omega)
  have f10 : inR 0 0 60 = true := by decide
  have f11 : inR 3 0 99 = true := by decide
  have f12 : verOkF ⟨0, 0⟩ = true := by decide
  have f13 : inR 0 0 15 = true := by decide
  have f14 : (eB.size : Int) ≤ 64 := by decide
  rw [Bool.and_eq_true]
  constructor
  · simp [endsF, repO, h, hg, f10, f13]
  · simp [hasMsgF, repO, f9, f11, f12, zsOf, rest_rkvb, f14]
theorem hear_busy {id : Int} {no : Nat} {g : GPg} (h : isClientF id = true) (h0 : 1 ≤ no) (hn : no ≤ 1000) (hg : pgOkF g = true) : hearF (busy id no g) (repO (busy id no g) id no) = (idle id no, true) := by
  have hc := caller_busy h h0 hn hg
  have hm := repO_ok (x := busy id no g) h h0 hn hg
  unfold hearF
  rw [if_pos hc, if_pos (by unfold hearC; rw [hm]; simp [busy, repO])]
  rfl
theorem hear_idle {id : Int} {no : Nat} (m : GMsg) (h : isClientF id = true) (hn : no ≤ 1000) : hearF (idle id no) m = (idle id no, false) := by
  unfold hearF
  rw [if_pos (caller_idle h hn), if_neg (by simp [hearC, idle])]
theorem end_open {id : Int} {no b : Nat} {g : GPg} (x : GClient) (hx : x.Pg = g) {e : Nat} (h : isClientF id = true) (h0 : 1 ≤ no) (hn : no ≤ 1000) (hg : pgOkF g = true) (hb : 1 ≤ b) (he : b < e) : endF (opened id no g b) (repO x id no) e = ({ opened id no g b with End := (e : Int), Code := 3, Ver := ⟨0, 0⟩, Body := eB }, 0) := by
  have hm := repO_ok (x := x) h h0 hn (by rw [hx]; exact hg)
  have h1 : inR (no : Int) 1 1000 = true := inR_of (by omega)
  have hco : callOkF (opened id no g b) = true := by
    unfold callOkF callHead callTail
    have : inR 0 0 99 = true := by decide
    have h4 : decide ((b : Int) < 1) = false := decide_eq_false (by omega)
    simp [opened, h, h1, hg, nmOk, oROk, this]
    exact decide_eq_false (by omega)
  unfold endF
  rw [if_neg (by rw [hm, hco]; simp [repO]), if_neg (by simp [opened]), if_neg (by simp [endAns, opened, repO, hx]), if_neg (by show ¬ ((e : Int) ≤ (b : Int)); omega)]
  rfl
theorem callAsk {P : Program} {wr : Bool} {base M : Mem} {f : FuncId} {args : Array Value} {R : GPg → Value → Prop} {K : Value → Mem → Prop} (h : AnsR P M f args (fun _ v => ∃ g : GPg, pgOkF g = true ∧ R g v)) (k : ∀ g v M', pgOkF g = true → R g v → Le M M' → K v M') : CallK P wr base M f args K :=
  CallK.mr _ h fun v M' hl hv => by obtain ⟨g, hg, hr⟩ := hv; exact k g v M' hg hr hl
def InvO (M : Mem) (id : Int) (q : Nat × Nat × GClient × GCall × Mem) : Prop := q.1 ≤ 12 ∧ Le M q.2.2.2.2 ∧ q.2.1 ≤ q.1 ∧ q.2.2.2.1.End ≤ (q.1 : Int) ∧ q.2.2.2.1.Name.size ≤ 1000 ∧ q.2.2.2.1.Body.size ≤ 1000 ∧ (q.2.2.1 = idle id q.2.1 ∨ ∃ g b, pgOkF g = true ∧ 1 ≤ q.2.1 ∧ 1 ≤ b ∧ b ≤ q.1 ∧ q.2.2.1 = busy id q.2.1 g ∧ q.2.2.2.1 = opened id q.2.1 g b)
theorem lawFnOnce_a (M : Mem) (l l2 : List Int) (A : Option Addr) (c : Nat) (A2 : Option Addr) (c2 : Nat) (h0 : SlR M RByte 1 1 A c l) (h1 : SlR M RByte 1 1 A2 c2 l2) : AnsR Try.prog M 3 #[.slice A l.length c, .slice A2 l2.length c2] (fun _ v => v = .bool true) := by
  refine ansR_of T (l := [.slice A l.length c, .slice A2 l2.length c2]) mixed Try.func3 rfl (by kernel_rfl) (Nat.le_of_ble_eq_true rfl) ?_
  (conv => whnf)
  refine CallK.mk _ (b10Long_a _ _ _ _ _ _ _) ?_
  (conv => whnf)
  refine CondK.mk (fun hb => ?_) (fun hb => ?_)
  · (conv => whnf)
    exact RetK.mk fun _ _ _ _ => rfl
  (conv => whnf)
  refine callEx (b10At_r _ _ _ _ h0 0 (by decide) 6 (by decide)) (fun j M1 hj hl1 => ?_)
  obtain ⟨id, hid⟩ : ∃ id, id = IntKind.i64.wrap (100 + j) := ⟨_, rfl⟩
  have hidv : id = 100 + j := by rw [hid]; exact i64_id (by omega) (by omega)
  have hcl : isClientF id = true := inR_of (by omega)
  have hnew : ∀ N, Ans Try.prog N 5 #[.int .i64 id] (.tuple #[vClient (idle id 0), .int .i64 0]) := fun N => by
    have := iNewClient_a N id
    rw [show newCF id = (idle id 0, 0) from if_pos hcl] at this
    exact this
  (conv => whnf)
  refine CallK.mk _ (by have := hnew M1; rw [hid] at this; exact this) ?_
  rw [← hid]
  repeat' ((conv => whnf); first | refine CondK.ff ?_ | fail)
  refine CallK.mr _ (drawClientAsk_r (h0.mono hl1 (fun _ _ h => h))) (fun v M2 hl2 hv => ?_)
  obtain ⟨x0, p, s0, o0, rfl⟩ := hv
  obtain ⟨c0, hc0⟩ : ∃ c0, c0 = idle id 0 := ⟨_, rfl⟩
  have hinit : InvO M2 id (0, 0, idle id 0, zCall, M2) := ⟨Nat.zero_le _, fun _ _ h => h, Nat.le_refl _, Int.le_refl _, Nat.zero_le _, Nat.zero_le _, .inl rfl⟩
  (conv => whnf)
  refine LoopK.mk {q : Nat × Nat × GClient × GCall × Mem // InvO M2 id q} (fun ⟨⟨i, no, c, call, N⟩, _⟩ => [(1, .v (.slice A2 l2.length c2)), (5, .p 0 0), (8, .p 2 0), (11, .v (.int .i64 (i : Int))), (12, .v (.int .i64 (no : Int))), (13, .p 4 0), (14, .v (.int .i64 (i : Int)))]) (fun ⟨⟨i, no, c, call, N⟩, _⟩ => [(0, [.int .i64 c.Id, .int .i64 c.No, .bool c.Busy, .int .i64 c.Pg.Pool, .int .i64 c.Pg.No, .string c.Name, .int .i64 c.Op.Kind, .int .i64 c.Op.At, .string c.Op.Bytes, .int .i64 c.Tries]), (2, [.int .i64 p.Id, .int .i64 p.Code.K, .int .i64 p.Code.M, .int .i64 p.Min, .int .i64 p.Pgs, .int .i64 p.Rule]), (4, [.int .i64 call.Client, .int .i64 call.No, .int .i64 call.Pg.Pool, .int .i64 call.Pg.No, .string call.Name, .int .i64 call.Op.Kind, .int .i64 call.Op.At, .string call.Op.Bytes, .int .i64 call.Begin, .int .i64 call.End, .int .i64 call.Code, .int .i64 call.Ver.Epoch, .int .i64 call.Ver.Seq, .string call.Body])]) (fun ⟨⟨i, no, c, call, N⟩, _⟩ => N) (fun q => 12 - q.1.1) ⟨(0, 0, idle id 0, zCall, M2), hinit⟩ ⟨⟨⟨rfl, rfl, rfl, rfl, rfl, rfl, rfl, trivial⟩, ⟨rfl, rfl, rfl, trivial⟩, rfl, rfl⟩, rfl⟩ ?_
  clear hinit hnew
  rintro ⟨⟨i, no, c, call, N⟩, hi, hlN, hno, hend, hs1, hs2, hcase⟩
  replace hi : i ≤ 12 := hi
  replace hlN : Le M2 N := hlN
  replace hno : no ≤ i := hno
  replace hend : call.End ≤ (i : Int) := hend
  replace hs1 : call.Name.size ≤ 1000 := hs1
  replace hs2 : call.Body.size ≤ 1000 := hs2
  have hwi : IntKind.i64.wrap ((i : Int) + 1) = ((i + 1 : Nat) : Int) := i64_succ (by omega)
  have hwn : IntKind.i64.wrap ((no : Int) + 1) = ((no + 1 : Nat) : Int) := i64_succ (by omega)
  by_cases hlt : i < 12
  · have hltd : decide ((i : Int) < 12) = true := decide_eq_true (by omega)
    have hA2 : SlR N RByte 1 1 A2 c2 l2 := h1.mono (hl1.trans (hl2.trans hlN)) (fun _ _ h => h)
    (conv => whnf)
    refine CondK.yes' hltd ?_
    (conv => whnf)
    refine callEx (b10At_r N A2 c2 l2 hA2 i (by omega) 2 (by decide)) (fun j M3 hj hl3 => ?_)
    by_cases hj0 : j = 0
    · subst hj0
      by_cases hp : poolF p = true
      · replace hcase : c = idle id no ∨ ∃ g b, pgOkF g = true ∧ 1 ≤ no ∧ 1 ≤ b ∧ b ≤ i ∧ c = busy id no g ∧ call = opened id no g b := hcase
        rcases hcase with rfl | ⟨gc, b, hg, hn1, hb1, hb2, rfl, rfl⟩
        · have hAs : ∀ N, AnsR Try.prog N 8 #[.agg (List.toArray [.int .i64 (idle id no).Id, .int .i64 (idle id no).No, .bool (idle id no).Busy, .int .i64 (idle id no).Pg.Pool, .int .i64 (idle id no).Pg.No, .string (idle id no).Name, .int .i64 (idle id no).Op.Kind, .int .i64 (idle id no).Op.At, .string (idle id no).Op.Bytes, .int .i64 (idle id no).Tries]), .agg (List.toArray [.int .i64 p.Id, .int .i64 p.Code.K, .int .i64 p.Code.M, .int .i64 p.Min, .int .i64 p.Pgs, .int .i64 p.Rule]), .string ⟨#[97]⟩, .agg #[.int .i64 1, .int .i64 0, .string ⟨#[]⟩]] (fun _ v => ∃ g : GPg, pgOkF g = true ∧ v = .tuple #[vClient (busy id (no + 1) g), .int .i64 0]) := fun N => (iClientAsk_r N (idle id no) (small_idle _ _) p aS (by decide) oR).imp fun M' v _ ⟨g, hg, hv⟩ => ⟨g, hg, by rw [hv, ask_idle hcl (by omega) hp g]⟩
          have hCo : ∀ N g, pgOkF g = true → Ans Try.prog N 10 #[.agg (List.toArray [.int .i64 (busy id (no + 1) g).Id, .int .i64 (busy id (no + 1) g).No, .bool (busy id (no + 1) g).Busy, .int .i64 (busy id (no + 1) g).Pg.Pool, .int .i64 (busy id (no + 1) g).Pg.No, .string (busy id (no + 1) g).Name, .int .i64 (busy id (no + 1) g).Op.Kind, .int .i64 (busy id (no + 1) g).Op.At, .string (busy id (no + 1) g).Op.Bytes, .int .i64 (busy id (no + 1) g).Tries]), .int .i64 (IntKind.i64.wrap ((i : Int) + 1))] (vCall (opened id (no + 1) g (i + 1))) := fun N g hg => by
            have := callOf_a N (busy id (no + 1) g) (small_busy _ _ _) (IntKind.i64.wrap ((i : Int) + 1))
            rw [hwi, callOf_busy hcl (by omega) (by omega) hg (by omega)] at this
            rw [hwi]
            exact this
          (conv => whnf)
          refine callAsk (hAs _) (fun g v M4 hg hv hl4 => ?_)
          subst hv
          repeat' ((conv => whnf); first | refine CallK.mk _ (hCo _ g hg) ?_ | refine CondK.no' (by rw [hwn]; exact bne_self_eq_false _) ?_ | refine CondK.no' (decide_eq_false (by show ¬ (((i + 1 : Nat) : Int) ≤ call.End); omega)) ?_ | fail)
          exact ⟨⟨(i + 1, no + 1, busy id (no + 1) g, opened id (no + 1) g (i + 1), M4), by show i + 1 ≤ 12; omega, hlN.trans (hl3.trans hl4), by show no + 1 ≤ i + 1; omega, by show (0 : Int) ≤ ((i + 1 : Nat) : Int); omega, by show (1 : Nat) ≤ 1000; omega, Nat.zero_le _, .inr ⟨g, i + 1, hg, by show 1 ≤ no + 1; omega, by omega, Nat.le_refl _, rfl, rfl⟩⟩, ⟨⟨rfl, rfl, rfl, look_int hwi, look_int hwn, rfl, look_int hwi, trivial⟩, ⟨rfl, rfl, rfl, trivial⟩, rfl, rfl⟩, rfl, by show 12 - (i + 1) < 12 - i; omega⟩
        · have hAs : ∀ N, AnsR Try.prog N 8 #[.agg (List.toArray [.int .i64 (busy id no gc).Id, .int .i64 (busy id no gc).No, .bool (busy id no gc).Busy, .int .i64 (busy id no gc).Pg.Pool, .int .i64 (busy id no gc).Pg.No, .string (busy id no gc).Name, .int .i64 (busy id no gc).Op.Kind, .int .i64 (busy id no gc).Op.At, .string (busy id no gc).Op.Bytes, .int .i64 (busy id no gc).Tries]), .agg (List.toArray [.int .i64 p.Id, .int .i64 p.Code.K, .int .i64 p.Code.M, .int .i64 p.Min, .int .i64 p.Pgs, .int .i64 p.Rule]), .string ⟨#[97]⟩, .agg #[.int .i64 1, .int .i64 0, .string ⟨#[]⟩]] (fun _ v => ∃ g : GPg, pgOkF g = true ∧ v = .tuple #[vClient zCli, .int .i64 5]) := fun N => (iClientAsk_r N (busy id no gc) (small_busy _ _ _) p aS (by decide) oR).imp fun M' v _ ⟨g, hg2, hv⟩ => ⟨g, hg2, by rw [hv, ask_busy hcl hn1 (by omega) hp hg g]⟩
          (conv => whnf)
          refine callAsk (hAs _) (fun g v M4 hg4 hv hl4 => ?_)
          subst hv
          (conv => whnf)
          exact ⟨⟨(i + 1, no, busy id no gc, opened id no gc b, M4), by show i + 1 ≤ 12; omega, hlN.trans (hl3.trans hl4), by show no ≤ i + 1; omega, by show (0 : Int) ≤ ((i + 1 : Nat) : Int); omega, hs1, hs2, .inr ⟨gc, b, hg, hn1, hb1, by show b ≤ i + 1; omega, rfl, rfl⟩⟩, ⟨⟨rfl, rfl, rfl, look_int hwi, rfl, rfl, look_int hwi, trivial⟩, ⟨rfl, rfl, rfl, trivial⟩, rfl, rfl⟩, rfl, by show 12 - (i + 1) < 12 - i; omega⟩
      · have hpf : poolF p = false := by simpa using hp
        have hAs : ∀ N, AnsR Try.prog N 8 #[.agg (List.toArray [.int .i64 c.Id, .int .i64 c.No, .bool c.Busy, .int .i64 c.Pg.Pool, .int .i64 c.Pg.No, .string c.Name, .int .i64 c.Op.Kind, .int .i64 c.Op.At, .string c.Op.Bytes, .int .i64 c.Tries]), .agg (List.toArray [.int .i64 p.Id, .int .i64 p.Code.K, .int .i64 p.Code.M, .int .i64 p.Min, .int .i64 p.Pgs, .int .i64 p.Rule]), .string ⟨#[97]⟩, .agg #[.int .i64 1, .int .i64 0, .string ⟨#[]⟩]] (fun _ v => ∃ g : GPg, pgOkF g = true ∧ v = .tuple #[vClient zCli, .int .i64 1]) := fun N => (iClientAsk_r N c (by rcases hcase with h | ⟨g, b, _, _, _, _, h, _⟩ <;> (replace h : c = _ := h; rw [h]; first | exact small_idle _ _ | exact small_busy _ _ _)) p aS (by decide) oR).imp fun M' v _ ⟨g, hg, hv⟩ => ⟨g, hg, by rw [hv, ask_form hpf g]⟩
        have hPk : ∀ N, Ans Try.prog N 9 #[.agg (List.toArray [.int .i64 p.Id, .int .i64 p.Code.K, .int .i64 p.Code.M, .int .i64 p.Min, .int .i64 p.Pgs, .int .i64 p.Rule])] (.bool false) := fun N => by
          have := sPoolOk_a N p
          rw [hpf] at this
          exact this
        (conv => whnf)
        refine callAsk (hAs _) (fun g v M4 hg4 hv hl4 => ?_)
        subst hv
        repeat' ((conv => whnf); first | refine CallK.mk _ (hPk _) ?_ | exact RetK.mk fun _ _ _ _ => rfl | fail)
    · have hj1 : j = 1 := by omega
      subst hj1
      obtain ⟨m, hm⟩ : ∃ m, m = repO c id no := ⟨_, rfl⟩
      replace hcase : c = idle id no ∨ ∃ g b, pgOkF g = true ∧ 1 ≤ no ∧ 1 ≤ b ∧ b ≤ i ∧ c = busy id no g ∧ call = opened id no g b := hcase
      rcases hcase with rfl | ⟨gc, b, hg, hn1, hb1, hb2, rfl, rfl⟩
      · obtain ⟨rep, hrep⟩ : ∃ rep, rep = repO (idle id no) id no := ⟨_, rfl⟩
        have hHe : ∀ N, AnsR Try.prog N 11 #[.agg (List.toArray [.int .i64 (idle id no).Id, .int .i64 (idle id no).No, .bool (idle id no).Busy, .int .i64 (idle id no).Pg.Pool, .int .i64 (idle id no).Pg.No, .string (idle id no).Name, .int .i64 (idle id no).Op.Kind, .int .i64 (idle id no).Op.At, .string (idle id no).Op.Bytes, .int .i64 (idle id no).Tries]), .agg (List.toArray [.int .i64 rep.Kind, .int .i64 rep.From, .int .i64 rep.To, .int .i64 rep.Pg.Pool, .int .i64 rep.Pg.No, .int .i64 rep.Epoch, .string ⟨#[]⟩, .int .i64 rep.Ver.Epoch, .int .i64 rep.Ver.Seq, .int .i64 0, .int .i64 0, .int .i64 0, .int .i64 0, .int .i64 0, .int .i64 0, .int .i64 0, .int .i64 0, .slice none 0 0, .slice none 0 0, .slice none 0 0, .int .i64 0, .int .i64 0, .slice none 0 0, .int .i64 0, .int .i64 0, .int .i64 0, .int .i64 0, .string ⟨#[]⟩, .bool false, .int .i64 0, .int .i64 0, .int .i64 0, .int .i64 0, .string ⟨#[]⟩, .int .i64 0, .int .i64 0, .int .i64 0, .int .i64 0, .string ⟨#[]⟩, .int .i64 0, .int .i64 0, .string ⟨#[]⟩, .int .i64 rep.Req.Client, .int .i64 rep.Req.No, .int .i64 rep.Code, .string rep.Body])] (fun _ v => v = .tuple #[vClient (idle id no), .bool false]) := fun N => by
          have := iHearReply_r N (idle id no) (small_idle _ _) (repM rep) _ (rmsg_rep N rep (by rw [hrep]; exact z1000))
          rw [hear_idle _ hcl (by omega)] at this
          exact this
        subst hrep
        repeat' ((conv => whnf); first | refine callEq (hHe _) (fun M4 hl4 => ?_) | fail)
        exact ⟨⟨(i + 1, no, idle id no, call, M4), by show i + 1 ≤ 12; omega, hlN.trans (hl3.trans hl4), by show no ≤ i + 1; omega, by show call.End ≤ ((i + 1 : Nat) : Int); omega, hs1, hs2, .inl rfl⟩, ⟨⟨rfl, rfl, rfl, look_int hwi, rfl, rfl, look_int hwi, trivial⟩, ⟨rfl, rfl, rfl, trivial⟩, rfl, rfl⟩, rfl, by show 12 - (i + 1) < 12 - i; omega⟩
      · obtain ⟨rep, hrep⟩ : ∃ rep, rep = repO (busy id no gc) id no := ⟨_, rfl⟩
        have hrr : repM rep = repO (busy id no gc) id no := by rw [hrep]; rfl
        have hHe : ∀ N, AnsR Try.prog N 11 #[.agg (List.toArray [.int .i64 (busy id no gc).Id, .int .i64 (busy id no gc).No, .bool (busy id no gc).Busy, .int .i64 (busy id no gc).Pg.Pool, .int .i64 (busy id no gc).Pg.No, .string (busy id no gc).Name, .int .i64 (busy id no gc).Op.Kind, .int .i64 (busy id no gc).Op.At, .string (busy id no gc).Op.Bytes, .int .i64 (busy id no gc).Tries]), .agg (List.toArray [.int .i64 rep.Kind, .int .i64 rep.From, .int .i64 rep.To, .int .i64 rep.Pg.Pool, .int .i64 rep.Pg.No, .int .i64 rep.Epoch, .string ⟨#[]⟩, .int .i64 rep.Ver.Epoch, .int .i64 rep.Ver.Seq, .int .i64 0, .int .i64 0, .int .i64 0, .int .i64 0, .int .i64 0, .int .i64 0, .int .i64 0, .int .i64 0, .slice none 0 0, .slice none 0 0, .slice none 0 0, .int .i64 0, .int .i64 0, .slice none 0 0, .int .i64 0, .int .i64 0, .int .i64 0, .int .i64 0, .string ⟨#[]⟩, .bool false, .int .i64 0, .int .i64 0, .int .i64 0, .int .i64 0, .string ⟨#[]⟩, .int .i64 0, .int .i64 0, .int .i64 0, .int .i64 0, .string ⟨#[]⟩, .int .i64 0, .int .i64 0, .string ⟨#[]⟩, .int .i64 rep.Req.Client, .int .i64 rep.Req.No, .int .i64 rep.Code, .string rep.Body])] (fun _ v => v = .tuple #[vClient (idle id no), .bool true]) := fun N => by
          have := iHearReply_r N (busy id no gc) (small_busy _ _ _) (repM rep) _ (rmsg_rep N rep (by rw [hrep]; exact z1000))
          have h2 := hear_busy (id := id) (no := no) (g := gc) hcl hn1 (by omega) hg
          rw [hrr] at this
          rw [h2] at this
          exact this
        have hEn : ∀ N, AnsR Try.prog N 12 #[.agg (List.toArray [.int .i64 (opened id no gc b).Client, .int .i64 (opened id no gc b).No, .int .i64 (opened id no gc b).Pg.Pool, .int .i64 (opened id no gc b).Pg.No, .string (opened id no gc b).Name, .int .i64 (opened id no gc b).Op.Kind, .int .i64 (opened id no gc b).Op.At, .string (opened id no gc b).Op.Bytes, .int .i64 (opened id no gc b).Begin, .int .i64 (opened id no gc b).End, .int .i64 (opened id no gc b).Code, .int .i64 (opened id no gc b).Ver.Epoch, .int .i64 (opened id no gc b).Ver.Seq, .string (opened id no gc b).Body]), .agg (List.toArray [.int .i64 rep.Kind, .int .i64 rep.From, .int .i64 rep.To, .int .i64 rep.Pg.Pool, .int .i64 rep.Pg.No, .int .i64 rep.Epoch, .string ⟨#[]⟩, .int .i64 rep.Ver.Epoch, .int .i64 rep.Ver.Seq, .int .i64 0, .int .i64 0, .int .i64 0, .int .i64 0, .int .i64 0, .int .i64 0, .int .i64 0, .int .i64 0, .slice none 0 0, .slice none 0 0, .slice none 0 0, .int .i64 0, .int .i64 0, .slice none 0 0, .int .i64 0, .int .i64 0, .int .i64 0, .int .i64 0, .string ⟨#[]⟩, .bool false, .int .i64 0, .int .i64 0, .int .i64 0, .int .i64 0, .string ⟨#[]⟩, .int .i64 0, .int .i64 0, .int .i64 0, .int .i64 0, .string ⟨#[]⟩, .int .i64 0, .int .i64 0, .string ⟨#[]⟩, .int .i64 rep.Req.Client, .int .i64 rep.Req.No, .int .i64 rep.Code, .string rep.Body]), .int .i64 (IntKind.i64.wrap ((i : Int) + 1))] (fun _ v => v = .tuple #[vCall { opened id no gc b with End := ((i + 1 : Nat) : Int), Code := 3, Ver := ⟨0, 0⟩, Body := eB }, .int .i64 0]) := fun N => by
          have := iEndCall_a N (opened id no gc b) (by show (1 : Nat) ≤ _; omega) (by show (0 : Nat) ≤ _; omega) (repM rep) _ (rmsg_rep N rep (by rw [hrep]; exact z1000)) (IntKind.i64.wrap ((i : Int) + 1))
          rw [hrr] at this
          have h2 := end_open (id := id) (no := no) (b := b) (g := gc) (busy id no gc) rfl (e := i + 1) hcl hn1 (by omega) hg hb1 (by omega)
          rw [hwi, h2] at this
          rw [hwi]
          exact this
        clear hrr
        subst hrep
        repeat' ((conv => whnf); first | refine callEq (hHe _) (fun M4 hl4 => ?_) | refine callEq (hEn _) (fun M5 hl5 => ?_) | refine CondK.no' (by rw [hwi]; exact bne_self_eq_false _) ?_ | fail)
        exact ⟨⟨(i + 1, no, idle id no, { opened id no gc b with End := ((i + 1 : Nat) : Int), Code := 3, Ver := ⟨0, 0⟩, Body := eB }, M5), by show i + 1 ≤ 12; omega, hlN.trans (hl3.trans (hl4.trans hl5)), by show no ≤ i + 1; omega, Int.le_refl _, hs1, Nat.zero_le _, .inl rfl⟩, ⟨⟨rfl, rfl, rfl, look_int hwi, rfl, rfl, look_int hwi, trivial⟩, ⟨rfl, rfl, rfl, trivial⟩, rfl, rfl⟩, rfl, by show 12 - (i + 1) < 12 - i; omega⟩
  · have hltd : decide ((i : Int) < 12) = false := decide_eq_false (by omega)
    (conv => whnf)
    refine CondK.no' hltd ?_
    (conv => whnf)
    exact RetK.mk fun _ _ _ _ => rfl
end Go.Proofs.Ytphnjgeejifcfaa.Hlp
