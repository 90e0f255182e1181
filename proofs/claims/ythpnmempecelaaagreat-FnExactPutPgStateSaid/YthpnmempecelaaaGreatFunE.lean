/- A pg's state by the light walk. -/
import Derived.Test.YthpnmempecelaaaGreatFunD
import Derived.Test.YthpnmempecelaaaGreatHlpD
namespace Go.Proofs.YthpnmempecelaaaGreat.Hlp
open Go Go.RowKit Go.Proofs Go.Proofs.YthpnmempecelaaaGreat.Lw
set_option linter.unusedVariables false
set_option linter.unusedSimpArgs false
set_option maxRecDepth 100000
set_option maxHeartbeats 4000000
def allR (n : Nat) (f : Nat → Bool) : Bool := (List.range n).all f
theorem allR_yes {n : Nat} {f : Nat → Bool} (h : ∀ j, j < n → f j = true) : allR n f = true := by
  unfold allR
  rw [List.all_eq_true]
  intro j hj
  exact h j (List.mem_range.mp hj)
theorem allR_no {n : Nat} {f : Nat → Bool} {j : Nat} (hj : j < n) (h : f j = false) : allR n f = false := by
  unfold allR
  rw [List.all_eq_false]
  exact ⟨j, List.mem_range.mpr hj, by rw [h]; simp⟩
theorem allR_step {f : Nat → Bool} {k : Nat} (ha : ∀ j, j < k → f j = true) (h : f k = true) : ∀ j, j < k + 1 → f j = true := fun j hj => by
  rcases Nat.lt_succ_iff_lt_or_eq.mp hj with hj | rfl
  · exact ha j hj
  · exact h
theorem i64_pred {k p : Nat} (hp : p = k - 1) (h : 0 < k) (hk : k ≤ 9223372036854775807) : IntKind.i64.wrap ((k : Int) - 1) = (p : Int) := by
  subst hp
  rw [show ((k : Int) - 1) = ((k - 1 : Nat) : Int) by omega]
  exact i64_in (by omega) (by omega)
theorem IdxK.at {base : Option Addr} {len z : Nat} {i : Int} {K : Addr → Prop} (p : Nat) (ad : Addr) (e : i = (p : Int)) (h : base = some ad) (h1 : p < len) (k : K (ad.add (p * z))) : IdxK base len i z K := by
  subst e
  exact ⟨ad, h, by omega, by omega, by simpa using k⟩
def upF (most v : GVer) : Bool := verOkF v && !decide (v = ⟨0, 0⟩) && !verLessF most v
theorem upToTail_a (M : Mem) (s : GPgState) (cs : List Value) (h : RPgState M s cs) (v : GVer) : Ans Tryz.prog M 84 #[.agg cs.toArray, .agg #[.int .i64 v.Epoch, .int .i64 v.Seq]] (.bool (upF s.Tail v)) := by
  obtain ⟨A0, c0, A1, c1, A2, c2, A3, c3, rfl, hb, s0, s1, s2, s3⟩ := h
  refine ans_of T (l := [.agg (List.toArray _), .agg #[.int .i64 v.Epoch, .int .i64 v.Seq]]) mixed Tryz.func84 rfl (by kernel_rfl) (Nat.le_of_ble_eq_true rfl) ?_
  repeat' ((conv => whnf); first | with_reducible refine CondK.tt ?_ | with_reducible refine CondK.ff ?_ | with_reducible refine CondK.not ?_ | refine LdK.mk _ (by assumption) ?_ | refine DrawN.q (by kernel_rfl) ?_ | refine CallK.mk _ (verOk_a _ v) ?_ | refine CallQ.mk _ (verOk_a _ v) ?_ | refine CallK.mk _ (verLess_a _ s.Tail v) ?_ | refine CallQ.mk _ (verLess_a _ s.Tail v) ?_ | refine GuardK.mk (fun h => ?_) (fun h => ?_) | refine CondK.mk (fun h => ?_) (fun h => ?_) | fail)
  all_goals refine ret_bool ?_
  all_goals (unfold upF; rw [← eqv_Ver]; simp_all)
def leB (a b : ByteArray) : Bool := Op.bytesLess a.toList b.toList || a.toList == b.toList
def headF (most : GVer) (l : List GHead) (k : Nat) : Bool :=
  match l[k]? with
  | some x => nameOkF x.Name && upF most x.Ver && sizeOkF x.Size x.Sum && !(decide (0 < k) && match l[k - 1]? with | some y => leB x.Name y.Name | none => false)
  | none => true
theorem headF_at {most : GVer} {l : List GHead} {k : Nat} {x y : GHead} (hx : l[k]? = some x) (hy : l[k - 1]? = some y) : headF most l k = (nameOkF x.Name && upF most x.Ver && sizeOkF x.Size x.Sum && !(decide (0 < k) && leB x.Name y.Name)) := by
  unfold headF
  rw [hx, hy]
def lastF (most : GVer) (l : List GLast) (k : Nat) : Bool :=
  match l[k]? with
  | some x => reqOkF ⟨x.Client, x.No⟩ && !decide ((⟨x.Client, x.No⟩ : GReq) = ⟨0, 0⟩) && upF most x.Ver && !(decide (0 < k) && match l[k - 1]? with | some y => decide (x.Client ≤ y.Client) | none => false)
  | none => true
theorem lastF_at {most : GVer} {l : List GLast} {k : Nat} {x y : GLast} (hx : l[k]? = some x) (hy : l[k - 1]? = some y) : lastF most l k = (reqOkF ⟨x.Client, x.No⟩ && !decide ((⟨x.Client, x.No⟩ : GReq) = ⟨0, 0⟩) && upF most x.Ver && !(decide (0 < k) && decide (x.Client ≤ y.Client))) := by
  unfold lastF
  rw [hx, hy]
theorem eqv_Req' (a b : Int) : decide ((⟨a, b⟩ : GReq) = ⟨0, 0⟩) = (decide (a = 0) && decide (b = 0)) := by
  rw [Bool.eq_iff_iff]
  simp
def baseOkF (s : GPgState) : Bool := allR s.Base.length (headF s.Tail s.Base) && allR s.Clients.length (lastF s.Tail s.Clients) && (decide ((s.Base.length : Int) ≤ 16) && decide ((s.Clients.length : Int) ≤ 6))
theorem baseOk_a (M : Mem) (s : GPgState) (cs : List Value) (h : RPgState M s cs) : Ans Tryz.prog M 53 #[.agg cs.toArray] (.bool (baseOkF s)) := by
  have h0 := h
  obtain ⟨A0, c0, A1, c1, A2, c2, A3, c3, rfl, hb, s0, s1, s2, s3⟩ := h
  have l0 := s0.len
  have l1 := s1.len
  refine ans_of T (l := [.agg (List.toArray _)]) mixed Tryz.func53 rfl (by kernel_rfl) (Nat.le_of_ble_eq_true rfl) ?_
  (conv => whnf)
  refine LoopK.mk {k : Nat // k ≤ s.Base.length ∧ ∀ j, j < k → headF s.Tail s.Base j = true} (fun ⟨k, _⟩ => [(1, .p 0 0), (9, .v (.slice A0 s.Base.length c0)), (10, .v (.int .i64 (s.Base.length : Int))), (11, .v (.int .i64 (k : Int)))]) (fun _ => [(0, _)]) (fun _ => M) (fun k => s.Base.length - k.1) ⟨0, Nat.zero_le _, fun j hj => absurd hj (by omega)⟩ ⟨⟨⟨rfl, rfl, rfl, rfl, trivial⟩, ⟨rfl, trivial⟩, rfl, rfl⟩, rfl⟩ ?_
  rintro ⟨k, hk, ha⟩
  (conv => whnf)
  refine CondK.mk (fun h1 => ?_) (fun h1 => ?_)
  · have hlt : k < s.Base.length := by simpa using h1
    have hx := List.getElem?_eq_getElem hlt
    obtain ⟨ad, rfl, bnx, x0, x1, x2, x3, x4⟩ := at_Head s0 hx
    obtain ⟨p, hp⟩ : ∃ p, p = k - 1 := ⟨_, rfl⟩
    have hpl : p < s.Base.length := by omega
    have hy := List.getElem?_eq_getElem hpl
    obtain ⟨_, hae, bny, y0, y1, y2, y3, y4⟩ := at_Head s0 hy
    cases hae
    have hf := headF_at (most := s.Tail) hx (by rw [← hp]; exact hy)
    repeat' ((conv => whnf); first | with_reducible refine CondK.tt ?_ | with_reducible refine CondK.ff ?_ | with_reducible refine CondK.not ?_ | refine LdK.mk _ (by assumption) ?_ | refine IdxK.mk _ rfl (by omega) (by omega) ?_ | refine IdxK.at p _ (i64_pred hp (by simpa using h) (by omega)) rfl hpl ?_ | refine DrawN.q (by kernel_rfl) ?_ | refine CallQ.mk _ (nameOk_a _ _ bnx) ?_ | refine CallQ.mk _ (upToTail_a _ _ _ h0 (s.Base[k]).Ver) ?_ | refine CallQ.mk _ (sizeOk_a _ _ _) ?_ | refine GuardK.mk (fun h => ?_) (fun h => ?_) | refine CondK.mk (fun h => ?_) (fun h => ?_) | fail)
    all_goals first
      | (have hf : headF s.Tail s.Base k = true := by rw [hf]; clear hf ha; (simp_all [leB, eqv_Req'] <;> (try intro h2 h3) <;> (try simp_all) <;> omega)
         exact ⟨⟨k + 1, hlt, allR_step ha hf⟩, ⟨⟨rfl, rfl, rfl, look_int (i64_succ (by omega)), trivial⟩, ⟨rfl, trivial⟩, rfl, rfl⟩, rfl, by simp; omega⟩)
      | (have hf : headF s.Tail s.Base k = false := by rw [hf]; clear hf ha; (simp_all [leB, eqv_Req'] <;> (try intro h2) <;> (try simp_all) <;> omega)
         refine ret_bool ?_
         rw [baseOkF, allR_no hlt hf]; rfl)
  have e0 : allR s.Base.length (headF s.Tail s.Base) = true := allR_yes fun j hj => ha j (Nat.lt_of_lt_of_le hj (by simpa using h1))
  (conv => whnf)
  refine LoopK.mk {k : Nat // k ≤ s.Clients.length ∧ ∀ j, j < k → lastF s.Tail s.Clients j = true} (fun ⟨k, _⟩ => [(1, .p 0 0), (53, .v (.slice A1 s.Clients.length c1)), (54, .v (.int .i64 (s.Clients.length : Int))), (55, .v (.int .i64 (k : Int)))]) (fun _ => [(0, _)]) (fun _ => M) (fun k => s.Clients.length - k.1) ⟨0, Nat.zero_le _, fun j hj => absurd hj (by omega)⟩ ⟨⟨⟨rfl, rfl, rfl, rfl, trivial⟩, ⟨rfl, trivial⟩, rfl, rfl⟩, rfl⟩ ?_
  rintro ⟨k, hk, ha⟩
  (conv => whnf)
  refine CondK.mk (fun h1 => ?_) (fun h1 => ?_)
  · have hlt : k < s.Clients.length := by simpa using h1
    have hx := List.getElem?_eq_getElem hlt
    obtain ⟨ad, rfl, bnx, x0, x1, x2, x3⟩ := at_Last s1 hx
    obtain ⟨p, hp⟩ : ∃ p, p = k - 1 := ⟨_, rfl⟩
    have hpl : p < s.Clients.length := by omega
    have hy := List.getElem?_eq_getElem hpl
    obtain ⟨_, hae, bny, y0, y1, y2, y3⟩ := at_Last s1 hy
    cases hae
    have hf := lastF_at (most := s.Tail) hx (by rw [← hp]; exact hy)
    repeat' ((conv => whnf); first | with_reducible refine CondK.tt ?_ | with_reducible refine CondK.ff ?_ | with_reducible refine CondK.not ?_ | refine LdK.mk _ (by assumption) ?_ | refine IdxK.mk _ rfl (by omega) (by omega) ?_ | refine IdxK.at p _ (i64_pred hp (by simpa using h) (by omega)) rfl hpl ?_ | refine DrawN.q (by kernel_rfl) ?_ | refine CallQ.mk _ (reqOk_a _ ⟨s.Clients[k].Client, s.Clients[k].No⟩) ?_ | refine CallQ.mk _ (upToTail_a _ _ _ h0 (s.Clients[k]).Ver) ?_ | refine GuardK.mk (fun h => ?_) (fun h => ?_) | refine CondK.mk (fun h => ?_) (fun h => ?_) | fail)
    all_goals first
      | (have hf : lastF s.Tail s.Clients k = true := by rw [hf]; clear hf ha; (simp_all [leB, eqv_Req'] <;> (try intro h2 h3) <;> (try simp_all) <;> omega)
         exact ⟨⟨k + 1, hlt, allR_step ha hf⟩, ⟨⟨rfl, rfl, rfl, look_int (i64_succ (by omega)), trivial⟩, ⟨rfl, trivial⟩, rfl, rfl⟩, rfl, by simp; omega⟩)
      | (have hf : lastF s.Tail s.Clients k = false := by rw [hf]; clear hf ha; (simp_all [leB, eqv_Req'] <;> (try intro h2) <;> (try simp_all) <;> omega)
         refine ret_bool ?_
         rw [baseOkF, e0, allR_no hlt hf]; rfl)
  have e1 : allR s.Clients.length (lastF s.Tail s.Clients) = true := allR_yes fun j hj => ha j (Nat.lt_of_lt_of_le hj (by simpa using h1))
  repeat' ((conv => whnf); first | with_reducible refine CondK.tt ?_ | with_reducible refine CondK.ff ?_ | with_reducible refine CondK.not ?_ | refine LdK.mk _ (by assumption) ?_ | refine DrawN.q (by kernel_rfl) ?_ | refine GuardK.mk (fun h => ?_) (fun h => ?_) | refine CondK.mk (fun h => ?_) (fun h => ?_) | fail)
  all_goals refine ret_bool ?_
  all_goals (rw [baseOkF, e0, e1]; (simp_all <;> (try intro h2) <;> (try simp_all) <;> omega))
end Go.Proofs.YthpnmempecelaaaGreat.Hlp
