/- FnClient by the light walk: the law. -/
import Derived.Test.YtphnjgeejifcfaaGreatFunGD
import Derived.Test.YtphnjgeejifcfaaGreatFunGE
namespace Go.Proofs.YtphnjgeejifcfaaGreat.Hlp
open Go Go.RowKit Go.Proofs Go.Proofs.YtphnjgeejifcfaaGreat.Lw
set_option linter.unusedVariables false
set_option linter.unusedSimpArgs false
set_option maxRecDepth 100000
set_option maxHeartbeats 4000000
theorem b10Long_a (M : Mem) (A A2 : Option Addr) (n n2 c c2 : Nat) : Ans Tryz.prog M 4 #[.slice A n c, .slice A2 n2 c2] (.bool (decide ((n : Int) > 1048576) || decide ((n2 : Int) > 1048576))) := by
  refine ans_of T (l := [.slice A n c, .slice A2 n2 c2]) mixed Tryz.func4 rfl (by kernel_rfl) (Nat.le_of_ble_eq_true rfl) ?_
  repeat' ((conv => whnf); first | refine GuardK.mk (fun h => ?_) (fun h => ?_) | refine CondK.mk (fun h => ?_) (fun h => ?_) | fail)
  all_goals refine ret_bool ?_
  all_goals first | (simp_all; done) | (simp_all; intros; omega)
theorem b10At_r (M : Mem) (A : Option Addr) (c : Nat) (l : List Int) (hs : SlR M RByte 1 1 A c l) (i : Nat) (hi : i ≤ 1000) (n : Int) (hn : 1 < n) : AnsR Tryz.prog M 8 #[.slice A l.length c, .int .i64 (i : Int), .int .i64 n] (fun _ v => ∃ x : Int, v = .int .i64 x ∧ 0 ≤ x ∧ x < n) := by
  refine ansR_of T (l := [.slice A l.length c, .int .i64 (i : Int), .int .i64 n]) mixed Tryz.func8 rfl (by kernel_rfl) (Nat.le_of_ble_eq_true rfl) ?_
  by_cases hl : (i : Int) < (l.length : Int)
  · obtain ⟨y, hy⟩ : ∃ y, l[i]? = some y := ⟨_, List.getElem?_eq_getElem (by omega)⟩
    obtain ⟨A0, cs, rfl, ⟨rfl, hy0, hy1⟩, hcl, hel⟩ := hs.el i y hy
    have hel0 := hel 0 _ rfl
    have hlen := hs.len
    repeat' ((conv => whnf); first | refine CondK.no' (decide_eq_false (by omega)) ?_ | refine CondK.yes' (decide_eq_true hl) ?_ | refine IdxK.mk _ rfl (by omega) (by omega) ?_ | refine LdK.mk _ hel0 ?_ | refine DivK.mk (by omega) ?_ | fail)
    refine RetK.mk fun g M' hl hg => ⟨_, rfl, ?_⟩
    show 0 ≤ (IntKind.i64.wrap y).tmod n ∧ (IntKind.i64.wrap y).tmod n < n
    rw [i64_id (by omega) (by omega)]
    exact ⟨Int.tmod_nonneg _ (by omega), Int.tmod_lt_of_pos _ (by omega)⟩
  · repeat' ((conv => whnf); first | refine CondK.no' (decide_eq_false hl) ?_ | refine CondK.no' (decide_eq_false (by omega)) ?_ | refine DivK.mk (by omega) ?_ | fail)
    refine RetK.mk fun g M' hl hg => ⟨_, rfl, ?_⟩
    show 0 ≤ (IntKind.i64.wrap (IntKind.i64.wrap ((i : Int) * 37) + 11)).tmod n ∧ (IntKind.i64.wrap (IntKind.i64.wrap ((i : Int) * 37) + 11)).tmod n < n
    rw [i64_id (x := (i : Int) * 37) (by omega) (by omega), i64_id (by omega) (by omega)]
    exact ⟨Int.tmod_nonneg _ (by omega), Int.tmod_lt_of_pos _ (by omega)⟩
theorem client_facts {x : GClient} {k : Int} (hc : callerF x = true) (hs : sendC x k = true) : isClientF x.Id = true ∧ (1 ≤ x.No ∧ x.No ≤ 1000) ∧ (0 ≤ x.Tries ∧ x.Tries < 1000) ∧ pgOkF x.Pg = true ∧ nameOkF x.Name = true ∧ opOkF ⟨1, 0⟩ x.Op = true ∧ x.Busy = true ∧ inR k 0 15 = true := by
  unfold sendC at hs
  simp only [Bool.and_eq_true, Bool.not_eq_true', decide_eq_false_iff_not] at hs
  obtain ⟨⟨h1, h2⟩, h3⟩ := hs
  unfold callerF at hc
  rw [if_pos h1] at hc
  simp only [Bool.and_eq_true, decide_eq_true_eq] at hc
  obtain ⟨⟨⟨h4, h5⟩, h6⟩, ⟨⟨h7, h8⟩, h9⟩, h10⟩ := hc
  unfold inR at h5 h6
  simp only [Bool.and_eq_true, decide_eq_true_eq] at h5 h6
  exact ⟨h4, ⟨h7, h5.2⟩, ⟨h6.1, by omega⟩, h8, h9, h10, h1, h2⟩
theorem realReq_ok {a n : Int} (h : isClientF a = true) (h1 : 1 ≤ n) (h2 : n ≤ 1000) : realReqF ⟨a, n⟩ = true := by
  have hz : (⟨a, n⟩ : GReq) ≠ ⟨0, 0⟩ := fun he => by cases he; omega
  unfold realReqF reqOkF
  simp only [h, hz, decide_false, Bool.false_or, Bool.true_and, Bool.not_false, Bool.and_true]
  unfold inR
  simp only [Bool.and_eq_true, decide_eq_true_eq]
  exact ⟨h1, h2⟩
theorem hasMsg_op (x : GClient) (k : Int) (hc : callerF x = true) (hs : sendC x k = true) : (endsF (opM x k) && hasMsgF (opM x k)) = true := by
  obtain ⟨f1, f2, f3, f4, f5, f6, f7, f8⟩ := client_facts hc hs
  have f9 := realReq_ok f1 f2.1 f2.2
  have f10 : inR 0 0 60 = true := by decide
  rw [Bool.and_eq_true]
  constructor
  · simp [endsF, opM, f1, f8, f4, f10]
  · simp [hasMsgF, opM, f5, f6, f9, zsOf, rest_nor]
theorem hear_ok (x : GClient) (k : Int) (m : GMsg) (hc : callerF x = true) (hs : sendC x k = true) (hm : m = ⟨14, k, x.Id, x.Pg, 0, eB, ⟨0, 0⟩, ⟨0, 0⟩, zS, zE, zC, zO, ⟨x.Id, x.No⟩, 0, eB⟩) : hearF { x with Tries := IntKind.i64.wrap (x.Tries + 1) } m = (⟨x.Id, x.No, false, ⟨0, 0⟩, eB, zO, 0⟩, true) := by
  obtain ⟨f1, f2, f3, f4, f5, f6, f7, f8⟩ := client_facts hc hs
  have f9 := realReq_ok f1 f2.1 f2.2
  have f10 : inR 0 0 60 = true := by decide
  have f11 : inR 0 0 99 = true := by decide
  have f12 : verOkF ⟨0, 0⟩ = true := by decide
  have hw : IntKind.i64.wrap (x.Tries + 1) = x.Tries + 1 := i64_id (by omega) (by omega)
  have f13 : inR (x.Tries + 1) 0 1000 = true := by unfold inR; simp only [Bool.and_eq_true, decide_eq_true_eq]; omega
  have f14 : inR x.No 0 1000 = true := by unfold inR; simp only [Bool.and_eq_true, decide_eq_true_eq]; omega
  rw [hw]
  unfold hearF
  rw [if_pos (by simp [callerF, f1, f13, f14, f7, f2.1, f4, f5, f6])]
  rw [if_pos (by
    subst hm
    have g1 : endsF ⟨14, k, x.Id, x.Pg, 0, eB, ⟨0, 0⟩, ⟨0, 0⟩, zS, zE, zC, zO, ⟨x.Id, x.No⟩, 0, eB⟩ = true := by simp [endsF, f1, f8, f4, f10]
    have g2 : hasMsgF ⟨14, k, x.Id, x.Pg, 0, eB, ⟨0, 0⟩, ⟨0, 0⟩, zS, zE, zC, zO, ⟨x.Id, x.No⟩, 0, eB⟩ = true := by
      have : (eB.size : Int) ≤ 64 := by decide
      simp [hasMsgF, f9, f11, f12, zsOf, rest_rkvb, this]
    simp [hearC, f7, g1, g2])]
theorem hear_not (x : GClient) (m : GMsg) (h : m.Req ≠ ⟨x.Id, x.No⟩) : (hearF x m).2 = false := by
  unfold hearF hearC
  simp [h]
  split <;> rfl
theorem hear_yes (x : GClient) (m : GMsg) (h : (hearF x m).2 = true) : m.Req.No = x.No ∧ m.To = x.Id ∧ (hearF x m).1.Busy = false ∧ (hearF x m).1.No = x.No := by
  unfold hearF at h ⊢
  split at h
  · rename_i hc
    rw [if_pos hc]
    split at h
    · rename_i hh
      rw [if_pos hh]
      unfold hearC at hh
      simp only [Bool.and_eq_true, decide_eq_true_eq] at hh
      exact ⟨by rw [hh.2], hh.1.1.2, rfl, rfl⟩
    · cases h
  · cases h
theorem send_q (x : GClient) (hb : x.Busy = true) (t j : Int) (h : (sendF { x with Tries := t } j).2.2 = true) : (sendF { x with Tries := t } j).1.Busy = true ∧ ∃ j', (sendF { x with Tries := t } j).2.1 = opM x j' := by
  unfold sendF at h ⊢
  split at h
  · rename_i hc
    rw [if_pos hc]
    split at h
    · rename_i hh
      rw [if_pos hh]
      exact ⟨hb, j, rfl⟩
    · cases h
  · cases h
theorem callEx {P : Program} {wr : Bool} {base M : Mem} {f : FuncId} {args : Array Value} {R : Int → Prop} {K : Value → Mem → Prop} (h : AnsR P M f args (fun _ v => ∃ x : Int, v = .int .i64 x ∧ R x)) (k : ∀ x M', R x → Le M M' → K (.int .i64 x) M') : CallK P wr base M f args K :=
  CallK.mr _ h fun v M' hl hv => by obtain ⟨x, rfl, hx⟩ := hv; exact k x M' hx hl
theorem callHear {P : Program} {wr : Bool} {base M : Mem} {f : FuncId} {args : Array Value} {R : GClient → GMsg → Prop} {K : Value → Mem → Prop} (h : AnsR P M f args (fun _ v => ∃ (x : GClient) (m : GMsg), v = .tuple #[vClient x, vReply m] ∧ R x m)) (k : ∀ x m M', R x m → Le M M' → K (.tuple #[vClient x, vReply m]) M') : CallK P wr base M f args K :=
  CallK.mr _ h fun v M' hl hv => by obtain ⟨x, m, rfl, hx⟩ := hv; exact k x m M' hx hl
theorem GuardK.is {t want : Bool} {A B : Prop} (ht : t = want) (h : A) : GuardK t want A B := by subst ht; cases t <;> exact h
theorem GuardK.isnt {t want : Bool} {A B : Prop} (ht : t = !want) (h : B) : GuardK t want A B := by subst ht; cases want <;> exact h
theorem callHR {wr : Bool} {base M : Mem} {K : Value → Mem → Prop} (x : GClient) (hx : smallC x) (m : GMsg) (hm : m.Body.size ≤ 1000) (k : ∀ (r : GClient × Bool) M', (r.2 = true → m.Req.No = x.No ∧ m.To = x.Id ∧ r.1.Busy = false ∧ r.1.No = x.No) → Le M M' → K (.tuple #[vClient r.1, .bool r.2]) M') : CallK Tryz.prog wr base M 11 #[.agg (List.toArray [.int .i64 x.Id, .int .i64 x.No, .bool x.Busy, .int .i64 x.Pg.Pool, .int .i64 x.Pg.No, .string x.Name, .int .i64 x.Op.Kind, .int .i64 x.Op.At, .string x.Op.Bytes, .int .i64 x.Tries]), .agg (List.toArray [.int .i64 m.Kind, .int .i64 m.From, .int .i64 m.To, .int .i64 m.Pg.Pool, .int .i64 m.Pg.No, .int .i64 m.Epoch, .string ⟨#[]⟩, .int .i64 m.Ver.Epoch, .int .i64 m.Ver.Seq, .int .i64 0, .int .i64 0, .int .i64 0, .int .i64 0, .int .i64 0, .int .i64 0, .int .i64 0, .int .i64 0, .slice none 0 0, .slice none 0 0, .slice none 0 0, .int .i64 0, .int .i64 0, .slice none 0 0, .int .i64 0, .int .i64 0, .int .i64 0, .int .i64 0, .string ⟨#[]⟩, .bool false, .int .i64 0, .int .i64 0, .int .i64 0, .int .i64 0, .string ⟨#[]⟩, .int .i64 0, .int .i64 0, .int .i64 0, .int .i64 0, .string ⟨#[]⟩, .int .i64 0, .int .i64 0, .string ⟨#[]⟩, .int .i64 m.Req.Client, .int .i64 m.Req.No, .int .i64 m.Code, .string m.Body])] K :=
  callEq (iHearReply_r M x hx (repM m) _ (rmsg_rep M m hm)) fun M' hl => k (hearF x (repM m)) M' (fun h => hear_yes x (repM m) h) hl
theorem lawFnClient_a (M : Mem) (l l2 : List Int) (A : Option Addr) (c : Nat) (A2 : Option Addr) (c2 : Nat) (h0 : SlR M RByte 1 1 A c l) (h1 : SlR M RByte 1 1 A2 c2 l2) : AnsR Tryz.prog M 3 #[.slice A l.length c, .slice A2 l2.length c2] (fun _ v => v = .bool true) := by
  refine ansR_of T (l := [.slice A l.length c, .slice A2 l2.length c2]) mixed Tryz.func3 rfl (by kernel_rfl) (Nat.le_of_ble_eq_true rfl) ?_
  (conv => whnf)
  refine CallK.mk _ (b10Long_a _ _ _ _ _ _ _) ?_
  (conv => whnf)
  refine CondK.mk (fun hb => ?_) (fun hb => ?_)
  · (conv => whnf)
    exact RetK.mk fun _ _ _ _ => rfl
  (conv => whnf)
  refine CallK.mr _ (drawSendTo_r h0) (fun v M1 hl1 hv => ?_)
  obtain ⟨x, k, rfl, hx⟩ := hv
  by_cases hcs : ¬ (callerF x = true ∧ sendC x k = true)
  · obtain ⟨r1, hf⟩ : ∃ r1, sendF x k = (r1, zM, false) := by
      unfold sendF
      by_cases hc : callerF x = true
      · rw [if_pos hc, if_neg (fun hs => hcs ⟨hc, hs⟩)]; exact ⟨_, rfl⟩
      · rw [if_neg hc]; exact ⟨_, rfl⟩
    have hi := fun M => iSendTo_a M x hx k
    have hsp := fun M => sSendTo_a M x hx k
    rw [hf] at hi hsp
    repeat' ((conv => whnf); first | refine CallK.mk _ (hi _) ?_ | refine CallK.mk _ (hsp _) ?_ | refine CondK.tt ?_ | refine CondK.ff ?_ | exact RetK.mk fun _ _ _ _ => rfl | fail)
  obtain ⟨hc, hs⟩ : callerF x = true ∧ sendC x k = true := by simpa using hcs
  have hf : sendF x k = ({ x with Tries := IntKind.i64.wrap (x.Tries + 1) }, opM x k, true) := (if_pos hc).trans (if_pos hs)
  have hi := fun M => iSendTo_a M x hx k
  have hsp := fun M => sSendTo_a M x hx k
  rw [hf] at hi hsp
  repeat' ((conv => whnf); first | refine CallK.mk _ (hi _) ?_ | refine CallK.mk _ (hsp _) ?_ | refine CondK.tt ?_ | refine CondK.ff ?_ | fail)
  obtain ⟨mo, hmo⟩ : ∃ mo, mo = opM x k := ⟨_, rfl⟩
  (conv => whnf)
  have hx1 : smallC ({ x with Tries := IntKind.i64.wrap (x.Tries + 1) } : GClient) := hx
  refine DrawN.w [] {q : GClient × GMsg × Bool × Mem × Bool // (q.2.2.1 = true → q.1.Busy = true ∧ ∃ j, q.2.1 = opM x j) ∧ Le M q.2.2.2.1} (fun ⟨⟨y, m2, r, N, f⟩, _⟩ => [(1, .v (.slice A2 l2.length c2)), (5, .p 0 0), (6, .v (.int .i64 k)), (7, .p 1 0), (8, .p 2 0), (13, .p (bif f then 5 else 6) 0), (14, .p (bif f then 6 else 5) 0), (15, .v (.bool r))]) (fun ⟨⟨y, m2, r, N, f⟩, _⟩ => [(0, [.int .i64 x.Id, .int .i64 x.No, .bool x.Busy, .int .i64 x.Pg.Pool, .int .i64 x.Pg.No, .string x.Name, .int .i64 x.Op.Kind, .int .i64 x.Op.At, .string x.Op.Bytes, .int .i64 x.Tries]), (1, [.int .i64 ({ x with Tries := IntKind.i64.wrap (x.Tries + 1) } : GClient).Id, .int .i64 ({ x with Tries := IntKind.i64.wrap (x.Tries + 1) } : GClient).No, .bool ({ x with Tries := IntKind.i64.wrap (x.Tries + 1) } : GClient).Busy, .int .i64 ({ x with Tries := IntKind.i64.wrap (x.Tries + 1) } : GClient).Pg.Pool, .int .i64 ({ x with Tries := IntKind.i64.wrap (x.Tries + 1) } : GClient).Pg.No, .string ({ x with Tries := IntKind.i64.wrap (x.Tries + 1) } : GClient).Name, .int .i64 ({ x with Tries := IntKind.i64.wrap (x.Tries + 1) } : GClient).Op.Kind, .int .i64 ({ x with Tries := IntKind.i64.wrap (x.Tries + 1) } : GClient).Op.At, .string ({ x with Tries := IntKind.i64.wrap (x.Tries + 1) } : GClient).Op.Bytes, .int .i64 ({ x with Tries := IntKind.i64.wrap (x.Tries + 1) } : GClient).Tries]), (2, [.int .i64 mo.Kind, .int .i64 mo.From, .int .i64 mo.To, .int .i64 mo.Pg.Pool, .int .i64 mo.Pg.No, .int .i64 mo.Epoch, .string mo.Name, .int .i64 0, .int .i64 0, .int .i64 0, .int .i64 0, .int .i64 0, .int .i64 0, .int .i64 0, .int .i64 0, .int .i64 0, .int .i64 0, .slice none 0 0, .slice none 0 0, .slice none 0 0, .int .i64 0, .int .i64 0, .slice none 0 0, .int .i64 0, .int .i64 0, .int .i64 0, .int .i64 0, .string ⟨#[]⟩, .bool false, .int .i64 0, .int .i64 0, .int .i64 0, .int .i64 0, .string ⟨#[]⟩, .int .i64 0, .int .i64 0, .int .i64 0, .int .i64 0, .string ⟨#[]⟩, .int .i64 mo.Op.Kind, .int .i64 mo.Op.At, .string mo.Op.Bytes, .int .i64 mo.Req.Client, .int .i64 mo.Req.No, .int .i64 0, .string ⟨#[]⟩]), ((bif f then 5 else 6), [.int .i64 y.Id, .int .i64 y.No, .bool y.Busy, .int .i64 y.Pg.Pool, .int .i64 y.Pg.No, .string y.Name, .int .i64 y.Op.Kind, .int .i64 y.Op.At, .string y.Op.Bytes, .int .i64 y.Tries]), ((bif f then 6 else 5), [.int .i64 m2.Kind, .int .i64 m2.From, .int .i64 m2.To, .int .i64 m2.Pg.Pool, .int .i64 m2.Pg.No, .int .i64 m2.Epoch, .string m2.Name, .int .i64 0, .int .i64 0, .int .i64 0, .int .i64 0, .int .i64 0, .int .i64 0, .int .i64 0, .int .i64 0, .int .i64 0, .int .i64 0, .slice none 0 0, .slice none 0 0, .slice none 0 0, .int .i64 0, .int .i64 0, .slice none 0 0, .int .i64 0, .int .i64 0, .int .i64 0, .int .i64 0, .string ⟨#[]⟩, .bool false, .int .i64 0, .int .i64 0, .int .i64 0, .int .i64 0, .string ⟨#[]⟩, .int .i64 0, .int .i64 0, .int .i64 0, .int .i64 0, .string ⟨#[]⟩, .int .i64 m2.Op.Kind, .int .i64 m2.Op.At, .string m2.Op.Bytes, .int .i64 m2.Req.Client, .int .i64 m2.Req.No, .int .i64 0, .string ⟨#[]⟩])]) 9 (fun ⟨⟨y, m2, r, N, f⟩, _⟩ => N) (by kernel_rfl) ?_ ?_
  · have hb1 := (client_facts hc hs).2.2.2.2.2.2.1
    repeat' ((conv => whnf); first | refine AndK.mk ?_ ?_ | refine HeldK.mk (by kernel_rfl) ?_ | refine callEx (b10At_r _ _ _ _ (h1.mono hl1 (fun _ _ h => h)) 0 (by decide) 16 (by decide)) (fun j M2 hj hl2 => ?_) | refine CallK.mk _ (iSendTo_a _ ({ x with Tries := IntKind.i64.wrap (x.Tries + 1) } : GClient) hx1 j) ?_ | (subst hmo; first | exact ⟨⟨((sendF ({ x with Tries := IntKind.i64.wrap (x.Tries + 1) } : GClient) j).1, (sendF ({ x with Tries := IntKind.i64.wrap (x.Tries + 1) } : GClient) j).2.1, (sendF ({ x with Tries := IntKind.i64.wrap (x.Tries + 1) } : GClient) j).2.2, M2, true), send_q x hb1 _ j, hl1.trans hl2⟩, ⟨⟨rfl, rfl, rfl, rfl, rfl, rfl, rfl, rfl, trivial⟩, ⟨rfl, rfl, rfl, rfl, rfl, trivial⟩, rfl, rfl⟩, rfl⟩ | exact ⟨⟨((sendF ({ x with Tries := IntKind.i64.wrap (x.Tries + 1) } : GClient) j).1, (sendF ({ x with Tries := IntKind.i64.wrap (x.Tries + 1) } : GClient) j).2.1, (sendF ({ x with Tries := IntKind.i64.wrap (x.Tries + 1) } : GClient) j).2.2, M2, false), send_q x hb1 _ j, hl1.trans hl2⟩, ⟨⟨rfl, rfl, rfl, rfl, rfl, rfl, rfl, rfl, trivial⟩, ⟨rfl, rfl, rfl, rfl, rfl, trivial⟩, rfl, rfl⟩, rfl⟩) | fail)
  · rintro ⟨⟨y, m2, r, N, f⟩, hq, hlN⟩
    replace hq : r = true → y.Busy = true ∧ ∃ j, m2 = opM x j := hq
    replace hlN : Le M N := hlN
    have hmsg := hasMsg_op x k hc hs
    rw [← hmo] at hmsg
    have hsm : ∀ N, Ans Tryz.prog N 9 #[.agg (List.toArray [.int .i64 mo.Kind, .int .i64 mo.From, .int .i64 mo.To, .int .i64 mo.Pg.Pool, .int .i64 mo.Pg.No, .int .i64 mo.Epoch, .string mo.Name, .int .i64 0, .int .i64 0, .int .i64 0, .int .i64 0, .int .i64 0, .int .i64 0, .int .i64 0, .int .i64 0, .int .i64 0, .int .i64 0, .slice none 0 0, .slice none 0 0, .slice none 0 0, .int .i64 0, .int .i64 0, .slice none 0 0, .int .i64 0, .int .i64 0, .int .i64 0, .int .i64 0, .string ⟨#[]⟩, .bool false, .int .i64 0, .int .i64 0, .int .i64 0, .int .i64 0, .string ⟨#[]⟩, .int .i64 0, .int .i64 0, .int .i64 0, .int .i64 0, .string ⟨#[]⟩, .int .i64 mo.Op.Kind, .int .i64 mo.Op.At, .string mo.Op.Bytes, .int .i64 mo.Req.Client, .int .i64 mo.Req.No, .int .i64 0, .string ⟨#[]⟩])] (.bool true) := fun N => by
      have := sMsgOk_a N mo _ (rmsg_op N x k hx mo hmo)
      rw [hmsg] at this
      exact this
    obtain ⟨rep, hrep⟩ : ∃ rep : GMsg, rep = ⟨14, k, x.Id, x.Pg, 0, eB, ⟨0, 0⟩, ⟨0, 0⟩, zS, zE, zC, zO, ⟨x.Id, x.No⟩, 0, eB⟩ := ⟨_, rfl⟩
    have hA : ∀ N, AnsR Tryz.prog N 11 #[.agg (List.toArray [.int .i64 ({ x with Tries := IntKind.i64.wrap (x.Tries + 1) } : GClient).Id, .int .i64 ({ x with Tries := IntKind.i64.wrap (x.Tries + 1) } : GClient).No, .bool ({ x with Tries := IntKind.i64.wrap (x.Tries + 1) } : GClient).Busy, .int .i64 ({ x with Tries := IntKind.i64.wrap (x.Tries + 1) } : GClient).Pg.Pool, .int .i64 ({ x with Tries := IntKind.i64.wrap (x.Tries + 1) } : GClient).Pg.No, .string ({ x with Tries := IntKind.i64.wrap (x.Tries + 1) } : GClient).Name, .int .i64 ({ x with Tries := IntKind.i64.wrap (x.Tries + 1) } : GClient).Op.Kind, .int .i64 ({ x with Tries := IntKind.i64.wrap (x.Tries + 1) } : GClient).Op.At, .string ({ x with Tries := IntKind.i64.wrap (x.Tries + 1) } : GClient).Op.Bytes, .int .i64 ({ x with Tries := IntKind.i64.wrap (x.Tries + 1) } : GClient).Tries]), .agg (List.toArray [.int .i64 rep.Kind, .int .i64 rep.From, .int .i64 rep.To, .int .i64 rep.Pg.Pool, .int .i64 rep.Pg.No, .int .i64 rep.Epoch, .string ⟨#[]⟩, .int .i64 rep.Ver.Epoch, .int .i64 rep.Ver.Seq, .int .i64 0, .int .i64 0, .int .i64 0, .int .i64 0, .int .i64 0, .int .i64 0, .int .i64 0, .int .i64 0, .slice none 0 0, .slice none 0 0, .slice none 0 0, .int .i64 0, .int .i64 0, .slice none 0 0, .int .i64 0, .int .i64 0, .int .i64 0, .int .i64 0, .string ⟨#[]⟩, .bool false, .int .i64 0, .int .i64 0, .int .i64 0, .int .i64 0, .string ⟨#[]⟩, .int .i64 0, .int .i64 0, .int .i64 0, .int .i64 0, .string ⟨#[]⟩, .int .i64 0, .int .i64 0, .string ⟨#[]⟩, .int .i64 rep.Req.Client, .int .i64 rep.Req.No, .int .i64 rep.Code, .string rep.Body])] (fun _ v => v = .tuple #[vClient ⟨x.Id, x.No, false, ⟨0, 0⟩, eB, zO, 0⟩, .bool true]) := fun N => by
      have := iHearReply_r N ({ x with Tries := IntKind.i64.wrap (x.Tries + 1) } : GClient) hx1 (repM rep) _ (rmsg_rep N rep (by rw [hrep]; exact z1000))
      rw [hear_ok x k (repM rep) hc hs (by rw [hrep]; rfl)] at this
      exact this
    obtain ⟨rep2, hrep2⟩ : ∃ rep2 : GMsg, rep2 = ⟨14, k, x.Id, x.Pg, 0, eB, ⟨0, 0⟩, ⟨0, 0⟩, zS, zE, zC, zO, ⟨x.Id, IntKind.i64.wrap (x.No + 1)⟩, 0, eB⟩ := ⟨_, rfl⟩
    obtain ⟨z, hz⟩ : ∃ z, hearF ({ x with Tries := IntKind.i64.wrap (x.Tries + 1) } : GClient) (repM rep2) = (z, false) := by
      have hne : (repM rep2).Req ≠ ⟨x.Id, x.No⟩ := by
        rw [hrep2]
        intro he
        have he : IntKind.i64.wrap (x.No + 1) = x.No := congrArg GReq.No he
        have := (client_facts hc hs).2.1
        rw [i64_id (by omega) (by omega)] at he
        omega
      exact ⟨_, Prod.ext rfl (hear_not ({ x with Tries := IntKind.i64.wrap (x.Tries + 1) } : GClient) (repM rep2) hne)⟩
    have hB : ∀ N, AnsR Tryz.prog N 11 #[.agg (List.toArray [.int .i64 ({ x with Tries := IntKind.i64.wrap (x.Tries + 1) } : GClient).Id, .int .i64 ({ x with Tries := IntKind.i64.wrap (x.Tries + 1) } : GClient).No, .bool ({ x with Tries := IntKind.i64.wrap (x.Tries + 1) } : GClient).Busy, .int .i64 ({ x with Tries := IntKind.i64.wrap (x.Tries + 1) } : GClient).Pg.Pool, .int .i64 ({ x with Tries := IntKind.i64.wrap (x.Tries + 1) } : GClient).Pg.No, .string ({ x with Tries := IntKind.i64.wrap (x.Tries + 1) } : GClient).Name, .int .i64 ({ x with Tries := IntKind.i64.wrap (x.Tries + 1) } : GClient).Op.Kind, .int .i64 ({ x with Tries := IntKind.i64.wrap (x.Tries + 1) } : GClient).Op.At, .string ({ x with Tries := IntKind.i64.wrap (x.Tries + 1) } : GClient).Op.Bytes, .int .i64 ({ x with Tries := IntKind.i64.wrap (x.Tries + 1) } : GClient).Tries]), .agg (List.toArray [.int .i64 rep2.Kind, .int .i64 rep2.From, .int .i64 rep2.To, .int .i64 rep2.Pg.Pool, .int .i64 rep2.Pg.No, .int .i64 rep2.Epoch, .string ⟨#[]⟩, .int .i64 rep2.Ver.Epoch, .int .i64 rep2.Ver.Seq, .int .i64 0, .int .i64 0, .int .i64 0, .int .i64 0, .int .i64 0, .int .i64 0, .int .i64 0, .int .i64 0, .slice none 0 0, .slice none 0 0, .slice none 0 0, .int .i64 0, .int .i64 0, .slice none 0 0, .int .i64 0, .int .i64 0, .int .i64 0, .int .i64 0, .string ⟨#[]⟩, .bool false, .int .i64 0, .int .i64 0, .int .i64 0, .int .i64 0, .string ⟨#[]⟩, .int .i64 0, .int .i64 0, .int .i64 0, .int .i64 0, .string ⟨#[]⟩, .int .i64 0, .int .i64 0, .string ⟨#[]⟩, .int .i64 rep2.Req.Client, .int .i64 rep2.Req.No, .int .i64 rep2.Code, .string rep2.Body])] (fun _ v => v = .tuple #[vClient z, .bool false]) := fun N => by
      have := iHearReply_r N ({ x with Tries := IntKind.i64.wrap (x.Tries + 1) } : GClient) hx1 (repM rep2) _ (rmsg_rep N rep2 (by rw [hrep2]; exact z1000))
      rw [hz] at this
      exact this
    subst hmo
    subst hrep hrep2
    cases r with
    | false =>
      cases f
      all_goals (repeat' ((conv => whnf); first | refine CallK.mk _ (hsm _) ?_ | refine callHear (drawHearReply_r (h1.mono hlN (fun _ _ h => h))) (fun xh n M3 hxn hl3 => ?_) | refine callEq (hA _) (fun M4 hl4 => ?_) | refine callEq (hB _) (fun M5 hl5 => ?_) | refine callHR xh hxn.1 n hxn.2 (fun rr M4 hrr hl4 => ?_) | exact RetK.mk fun _ _ _ _ => rfl | refine GuardK.is (by first | rfl | (simp; done) | fail) ?_ | refine GuardK.isnt (by first | rfl | (simp; done) | fail) ?_ | refine CondK.yes' (by first | rfl | (simp; done) | fail) ?_ | refine CondK.no' (by first | rfl | (simp; done) | fail) ?_ | refine GuardK.mk (fun h => ?_) (fun h => ?_) | refine CondK.mk (fun h => ?_) (fun h => ?_) | fail))
      all_goals first | (exfalso; simp_all; done) | skip
      all_goals ((conv => whnf); exact RetK.mk fun g M' hl hg => congrArg Value.bool (by simp))
    | true =>
      obtain ⟨hyb, j, rfl⟩ := hq rfl
      replace hyb : y.Busy = true := hyb
      cases f
      all_goals (repeat' ((conv => whnf); first | refine CallK.mk _ (hsm _) ?_ | refine callHear (drawHearReply_r (h1.mono hlN (fun _ _ h => h))) (fun xh n M3 hxn hl3 => ?_) | refine callEq (hA _) (fun M4 hl4 => ?_) | refine callEq (hB _) (fun M5 hl5 => ?_) | refine callHR xh hxn.1 n hxn.2 (fun rr M4 hrr hl4 => ?_) | exact RetK.mk fun _ _ _ _ => rfl | refine GuardK.is (by first | rfl | (simp [hyb, opM]; done) | fail) ?_ | refine GuardK.isnt (by first | rfl | (simp [hyb, opM]; done) | fail) ?_ | refine CondK.yes' (by first | rfl | (simp [hyb, opM]; done) | fail) ?_ | refine CondK.no' (by first | rfl | (simp [hyb, opM]; done) | fail) ?_ | refine GuardK.mk (fun h => ?_) (fun h => ?_) | refine CondK.mk (fun h => ?_) (fun h => ?_) | fail))
      all_goals first | (exfalso; simp_all; done) | skip
      all_goals ((conv => whnf); exact RetK.mk fun g M' hl hg => congrArg Value.bool (by simp [hyb]))
end Go.Proofs.YtphnjgeejifcfaaGreat.Hlp
