/- Calls: what is right of one, by the light walk. -/
import Derived.Test.YthlnapamdcmlkaaHlpC
namespace Go.Proofs.Ythlnapamdcmlkaa.Hlp
open Go Go.RowKit Go.Proofs Go.Proofs.Ythlnapamdcmlkaa.Lw
set_option linter.unusedVariables false
set_option linter.unusedSimpArgs false
set_option maxRecDepth 100000
set_option maxHeartbeats 4000000
def inR (n lo hi : Int) : Bool := decide (lo ≤ n) && decide (n ≤ hi)
theorem between_a (M : Mem) (n lo hi : Int) : Ans Try.prog M 55 #[.int .i64 n, .int .i64 lo, .int .i64 hi] (.bool (inR n lo hi)) := by
  refine ans_of T (l := [.int .i64 n, .int .i64 lo, .int .i64 hi]) mixed Try.func55 rfl (by kernel_rfl) (Nat.le_of_ble_eq_true rfl) ?_
  repeat' ((conv => whnf); first | with_reducible refine CondK.tt ?_ | with_reducible refine CondK.ff ?_ | with_reducible refine CondK.not ?_ | refine GuardK.mk (fun h => ?_) (fun h => ?_) | refine CondK.mk (fun h => ?_) (fun h => ?_) | fail)
  all_goals refine ret_bool ?_
  all_goals ((unfold inR; simp_all) <;> omega)
theorem l00In_a (M : Mem) (n lo hi : Int) : Ans Try.prog M 48 #[.int .i64 n, .int .i64 lo, .int .i64 hi] (.bool (inR n lo hi)) := by
  refine ans_of T (l := [.int .i64 n, .int .i64 lo, .int .i64 hi]) mixed Try.func48 rfl (by kernel_rfl) (Nat.le_of_ble_eq_true rfl) ?_
  repeat' ((conv => whnf); first | with_reducible refine CondK.tt ?_ | with_reducible refine CondK.ff ?_ | with_reducible refine CondK.not ?_ | refine GuardK.mk (fun h => ?_) (fun h => ?_) | refine CondK.mk (fun h => ?_) (fun h => ?_) | fail)
  all_goals refine ret_bool ?_
  all_goals ((unfold inR; simp_all) <;> omega)
def isClientF (n : Int) : Bool := inR n 100 105
theorem isClient_a (M : Mem) (n : Int) : Ans Try.prog M 54 #[.int .i64 n] (.bool (isClientF n)) := by
  refine ans_of T (l := [.int .i64 n]) mixed Try.func54 rfl (by kernel_rfl) (Nat.le_of_ble_eq_true rfl) ?_
  repeat' ((conv => whnf); first | with_reducible refine CondK.tt ?_ | with_reducible refine CondK.ff ?_ | with_reducible refine CondK.not ?_ | refine CallK.mk _ (between_a _ _ _ _) ?_ | refine CondK.mk (fun h => ?_) (fun h => ?_) | fail)
  exact ret_bool rfl
theorem l17Client_a (M : Mem) (n : Int) : Ans Try.prog M 47 #[.int .i64 n] (.bool (isClientF n)) := by
  refine ans_of T (l := [.int .i64 n]) mixed Try.func47 rfl (by kernel_rfl) (Nat.le_of_ble_eq_true rfl) ?_
  repeat' ((conv => whnf); first | with_reducible refine CondK.tt ?_ | with_reducible refine CondK.ff ?_ | with_reducible refine CondK.not ?_ | refine CallK.mk _ (l00In_a _ _ _ _) ?_ | refine CondK.mk (fun h => ?_) (fun h => ?_) | fail)
  exact ret_bool rfl
def verOkF (v : GVer) : Bool := decide (v = ⟨0, 0⟩) || inR v.Epoch 1 60 && inR v.Seq 1 1000
theorem verOk_a (M : Mem) (v : GVer) : Ans Try.prog M 60 #[.agg #[.int .i64 v.Epoch, .int .i64 v.Seq]] (.bool (verOkF v)) := by
  refine ans_of T (l := [.agg #[.int .i64 v.Epoch, .int .i64 v.Seq]]) mixed Try.func60 rfl (by kernel_rfl) (Nat.le_of_ble_eq_true rfl) ?_
  repeat' ((conv => whnf); first | with_reducible refine CondK.tt ?_ | with_reducible refine CondK.ff ?_ | with_reducible refine CondK.not ?_ | refine CallK.mk _ (between_a _ _ _ _) ?_ | refine CallQ.mk _ (between_a _ _ _ _) ?_ | refine GuardK.mk (fun h => ?_) (fun h => ?_) | refine CondK.mk (fun h => ?_) (fun h => ?_) | fail)
  all_goals refine ret_bool ?_
  all_goals (unfold verOkF; rw [← eqv_Ver]; simp_all)
theorem l17Zero_a (M : Mem) (v : GVer) : Ans Try.prog M 51 #[.agg #[.int .i64 v.Epoch, .int .i64 v.Seq]] (.bool (decide (v = ⟨0, 0⟩))) := by
  refine ans_of T (l := [.agg #[.int .i64 v.Epoch, .int .i64 v.Seq]]) mixed Try.func51 rfl (by kernel_rfl) (Nat.le_of_ble_eq_true rfl) ?_
  repeat' ((conv => whnf); first | with_reducible refine CondK.tt ?_ | with_reducible refine CondK.ff ?_ | with_reducible refine CondK.not ?_ | refine LdK.mk _ (by assumption) ?_ | refine DrawN.q (by kernel_rfl) ?_ | refine GuardK.mk (fun h => ?_) (fun h => ?_) | refine CondK.mk (fun h => ?_) (fun h => ?_) | fail)
  all_goals refine ret_bool ?_
  all_goals (rw [← eqv_Ver])
theorem l17Ver_a (M : Mem) (v : GVer) : Ans Try.prog M 52 #[.agg #[.int .i64 v.Epoch, .int .i64 v.Seq]] (.bool (verOkF v)) := by
  refine ans_of T (l := [.agg #[.int .i64 v.Epoch, .int .i64 v.Seq]]) mixed Try.func52 rfl (by kernel_rfl) (Nat.le_of_ble_eq_true rfl) ?_
  repeat' ((conv => whnf); first | with_reducible refine CondK.tt ?_ | with_reducible refine CondK.ff ?_ | with_reducible refine CondK.not ?_ | refine LdK.mk _ (by assumption) ?_ | refine DrawN.q (by kernel_rfl) ?_ | refine CallK.mk _ (l17Zero_a _ _) ?_ | refine CallQ.mk _ (l17Zero_a _ _) ?_ | refine CallK.mk _ (l00In_a _ _ _ _) ?_ | refine CallQ.mk _ (l00In_a _ _ _ _) ?_ | refine GuardK.mk (fun h => ?_) (fun h => ?_) | refine CondK.mk (fun h => ?_) (fun h => ?_) | fail)
  all_goals refine ret_bool ?_
  all_goals (unfold verOkF; simp_all)
def fullF (v : GVer) : Bool := verOkF v && !decide (v = ⟨0, 0⟩)
def pgOkF (g : GPg) : Bool := inR g.Pool 1 4 && inR g.No 0 15
theorem pgOk_a (M : Mem) (g : GPg) : Ans Try.prog M 56 #[.agg #[.int .i64 g.Pool, .int .i64 g.No]] (.bool (pgOkF g)) := by
  refine ans_of T (l := [.agg #[.int .i64 g.Pool, .int .i64 g.No]]) mixed Try.func56 rfl (by kernel_rfl) (Nat.le_of_ble_eq_true rfl) ?_
  repeat' ((conv => whnf); first | with_reducible refine CondK.tt ?_ | with_reducible refine CondK.ff ?_ | with_reducible refine CondK.not ?_ | refine LdK.mk _ (by assumption) ?_ | refine DrawN.q (by kernel_rfl) ?_ | refine CallK.mk _ (between_a _ _ _ _) ?_ | refine CallQ.mk _ (between_a _ _ _ _) ?_ | refine GuardK.mk (fun h => ?_) (fun h => ?_) | refine CondK.mk (fun h => ?_) (fun h => ?_) | fail)
  all_goals refine ret_bool ?_
  all_goals (unfold pgOkF; simp_all)
theorem l17Pg_a (M : Mem) (g : GPg) : Ans Try.prog M 49 #[.agg #[.int .i64 g.Pool, .int .i64 g.No]] (.bool (pgOkF g)) := by
  refine ans_of T (l := [.agg #[.int .i64 g.Pool, .int .i64 g.No]]) mixed Try.func49 rfl (by kernel_rfl) (Nat.le_of_ble_eq_true rfl) ?_
  repeat' ((conv => whnf); first | with_reducible refine CondK.tt ?_ | with_reducible refine CondK.ff ?_ | with_reducible refine CondK.not ?_ | refine LdK.mk _ (by assumption) ?_ | refine DrawN.q (by kernel_rfl) ?_ | refine CallK.mk _ (l00In_a _ _ _ _) ?_ | refine CallQ.mk _ (l00In_a _ _ _ _) ?_ | refine GuardK.mk (fun h => ?_) (fun h => ?_) | refine CondK.mk (fun h => ?_) (fun h => ?_) | fail)
  all_goals refine ret_bool ?_
  all_goals (unfold pgOkF; simp_all)
def sizeOkF (n s : Int) : Bool := inR n 0 64 && inR s 0 4294967295
def cmpI (a b : Int) : Int := if a < b then -1 else if a > b then 1 else 0
def verLessF (a b : GVer) : Bool := decide (a.Epoch < b.Epoch) || decide (a.Epoch = b.Epoch) && decide (a.Seq < b.Seq)
/-- A name's byte: a small letter or a digit. -/
def okB (b : UInt8) : Bool := (decide (97 ≤ (b.toNat : Int)) && decide ((b.toNat : Int) ≤ 122)) || (decide (48 ≤ (b.toNat : Int)) && decide ((b.toNat : Int) ≤ 57))
def nameOkF (s : ByteArray) : Bool := s.data.toList.all okB && inR (s.size : Int) 1 8
theorem name_all {s : ByteArray} (h : ∀ j, j < s.size → okB (s.data.getD j 0) = true) : s.data.toList.all okB = true := by
  rw [List.all_eq_true]
  intro x hx
  obtain ⟨j, hj, rfl⟩ := List.getElem_of_mem hx
  have hj' : j < s.data.size := by simpa using hj
  have := h j hj'
  simpa [Array.getD_eq_getD_getElem?, Array.getElem?_eq_getElem hj'] using this
theorem name_no {s : ByteArray} {j : Nat} (hj : j < s.size) (h : okB (s.data.getD j 0) = false) : s.data.toList.all okB = false := by
  rw [List.all_eq_false]
  have hj' : j < s.data.size := hj
  refine ⟨s.data.getD j 0, ?_, by rw [h]; simp⟩
  rw [Array.getD_eq_getD_getElem?, Array.getElem?_eq_getElem hj']
  simp
theorem nameOk_a (M : Mem) (s : ByteArray) (hb : s.size ≤ 9223372036854775807) : Ans Try.prog M 57 #[.string s] (.bool (nameOkF s)) := by
  refine ans_of T (l := [.string s]) mixed Try.func57 rfl (by kernel_rfl) (Nat.le_of_ble_eq_true rfl) ?_
  (conv => whnf)
  refine LoopK.mk {k : Nat // k ≤ s.size ∧ ∀ j : Nat, j < k → okB (s.data.getD j 0) = true} (fun ⟨k, _⟩ => [(0, .v (.string s)), (6, .v (.int .i64 (s.size : Int))), (7, .v (.int .i64 (k : Int)))]) (fun _ => []) (fun _ => M) (fun k => s.size - k.1) ⟨0, Nat.zero_le _, fun j hj => absurd hj (by omega)⟩ ⟨⟨⟨rfl, rfl, rfl, trivial⟩, trivial, rfl, rfl⟩, rfl⟩ ?_
  rintro ⟨k, hk, ha⟩
  (conv => whnf)
  refine CondK.mk (fun h1 => ?_) (fun h1 => ?_)
  · have hlt : k < s.size := by simpa using h1
    repeat' ((conv => whnf); first | with_reducible refine CondK.tt ?_ | with_reducible refine CondK.ff ?_ | with_reducible refine CondK.not ?_ | refine IdxS.mk (by omega) (by omega) ?_ | refine GuardK.mk (fun h => ?_) (fun h => ?_) | refine CondK.mk (fun h => ?_) (fun h => ?_) | fail)
    all_goals first
      | (have h0 : okB (s.data.getD k 0) = true := by (unfold okB; simp_all) <;> omega
         exact ⟨⟨k + 1, hlt, fun j hj => by rcases Nat.lt_succ_iff_lt_or_eq.mp hj with hj | rfl; exact ha j hj; exact h0⟩, ⟨⟨rfl, rfl, look_int (i64_succ (by omega)), trivial⟩, trivial, rfl, rfl⟩, rfl, by simp; omega⟩)
      | (have h0 : okB (s.data.getD k 0) = false := by (unfold okB; simp_all) <;> omega
         refine ret_bool ?_
         unfold nameOkF
         rw [name_no hlt h0]
         rfl)
  · have he : k = s.size := by have : ¬ k < s.size := by simpa using h1
                               omega
    subst he
    repeat' ((conv => whnf); first | refine CallK.mk _ (between_a _ _ _ _) ?_ | fail)
    refine ret_bool ?_
    unfold nameOkF
    rw [name_all ha]
    rfl
theorem l09Name_a (M : Mem) (s : ByteArray) (hb : s.size ≤ 9223372036854775807) : Ans Try.prog M 62 #[.string s] (.bool (nameOkF s)) := by
  refine ans_of T (l := [.string s]) mixed Try.func62 rfl (by kernel_rfl) (Nat.le_of_ble_eq_true rfl) ?_
  have no : inR (s.size : Int) 1 8 = false → Value.bool false = Value.bool (nameOkF s) := fun h => by unfold nameOkF; rw [h, Bool.and_false]
  repeat' ((conv => whnf); first | with_reducible refine CondK.tt ?_ | with_reducible refine CondK.ff ?_ | with_reducible refine CondK.not ?_ | refine GuardK.mk (fun h => ?_) (fun h => ?_) | refine CondK.mk (fun h => ?_) (fun h => ?_) | fail)
  all_goals first
    | (refine no ?_; (unfold inR; simp_all) <;> omega)
    | skip
  have hr : inR (s.size : Int) 1 8 = true := by (unfold inR; simp_all) <;> omega
  refine LoopK.mk {k : Nat // k ≤ s.size ∧ ∀ j : Nat, j < k → okB (s.data.getD j 0) = true} (fun ⟨k, _⟩ => [(0, .v (.string s)), (3, .v (.int .i64 (k : Int)))]) (fun _ => []) (fun _ => M) (fun k => s.size - k.1) ⟨0, Nat.zero_le _, fun j hj => absurd hj (by omega)⟩ ⟨⟨⟨rfl, rfl, trivial⟩, trivial, rfl, rfl⟩, rfl⟩ ?_
  rintro ⟨k, hk, ha⟩
  (conv => whnf)
  refine CondK.mk (fun h1 => ?_) (fun h1 => ?_)
  · have hlt : k < s.size := by simpa using h1
    repeat' ((conv => whnf); first | with_reducible refine CondK.tt ?_ | with_reducible refine CondK.ff ?_ | with_reducible refine CondK.not ?_ | refine IdxS.mk (by omega) (by omega) ?_ | refine GuardK.mk (fun h => ?_) (fun h => ?_) | refine CondK.mk (fun h => ?_) (fun h => ?_) | fail)
    all_goals first
      | (have h0 : okB (s.data.getD k 0) = true := by (unfold okB; simp_all) <;> omega
         exact ⟨⟨k + 1, hlt, fun j hj => by rcases Nat.lt_succ_iff_lt_or_eq.mp hj with hj | rfl; exact ha j hj; exact h0⟩, ⟨⟨rfl, look_int (i64_succ (by omega)), trivial⟩, trivial, rfl, rfl⟩, rfl, by simp; omega⟩)
      | (have h0 : okB (s.data.getD k 0) = false := by (unfold okB; simp_all) <;> omega
         refine ret_bool ?_
         unfold nameOkF
         rw [name_no hlt h0]
         rfl)
  · have he : k = s.size := by have : ¬ k < s.size := by simpa using h1
                               omega
    subst he
    refine ret_bool ?_
    unfold nameOkF
    rw [name_all ha, hr]
    rfl
theorem sNameOk_a (M : Mem) (s : ByteArray) (hb : s.size ≤ 9223372036854775807) : Ans Try.prog M 50 #[.string s] (.bool (nameOkF s)) := by
  refine ans_of T (l := [.string s]) mixed Try.func50 rfl (by kernel_rfl) (Nat.le_of_ble_eq_true rfl) ?_
  repeat' ((conv => whnf); first | refine CallK.mk _ (l09Name_a _ _ hb) ?_ | fail)
  exact ret_bool rfl
abbrev eB : ByteArray := ⟨#[]⟩
def codeOkF (c : GCode) : Bool := inR c.K 1 4 && inR c.M 0 3
theorem codeOk_a (M : Mem) (c : GCode) : Ans Try.prog M 64 #[.agg #[.int .i64 c.K, .int .i64 c.M]] (.bool (codeOkF c)) := by
  refine ans_of T (l := [.agg #[.int .i64 c.K, .int .i64 c.M]]) mixed Try.func64 rfl (by kernel_rfl) (Nat.le_of_ble_eq_true rfl) ?_
  repeat' ((conv => whnf); first | with_reducible refine CondK.tt ?_ | with_reducible refine CondK.ff ?_ | refine CallK.mk _ (between_a _ _ _ _) ?_ | refine CallQ.mk _ (between_a _ _ _ _) ?_ | refine DrawN.q (by kernel_rfl) ?_ | refine CondK.mk (fun h => ?_) (fun h => ?_) | fail)
  all_goals refine ret_bool ?_
  all_goals (unfold codeOkF; simp_all)
theorem l04Code_a (M : Mem) (c : GCode) : Ans Try.prog M 63 #[.agg #[.int .i64 c.K, .int .i64 c.M]] (.bool (codeOkF c)) := by
  refine ans_of T (l := [.agg #[.int .i64 c.K, .int .i64 c.M]]) mixed Try.func63 rfl (by kernel_rfl) (Nat.le_of_ble_eq_true rfl) ?_
  repeat' ((conv => whnf); first | with_reducible refine CondK.tt ?_ | with_reducible refine CondK.ff ?_ | refine CallK.mk _ (l00In_a _ _ _ _) ?_ | refine CallQ.mk _ (l00In_a _ _ _ _) ?_ | refine DrawN.q (by kernel_rfl) ?_ | refine CondK.mk (fun h => ?_) (fun h => ?_) | fail)
  all_goals refine ret_bool ?_
  all_goals (unfold codeOkF; simp_all)
theorem sCodeOk_a (M : Mem) (c : GCode) : Ans Try.prog M 53 #[.agg #[.int .i64 c.K, .int .i64 c.M]] (.bool (codeOkF c)) := by
  refine ans_of T (l := [.agg #[.int .i64 c.K, .int .i64 c.M]]) mixed Try.func53 rfl (by kernel_rfl) (Nat.le_of_ble_eq_true rfl) ?_
  repeat' ((conv => whnf); first | refine CallK.mk _ (l04Code_a _ _) ?_ | fail)
  exact ret_bool rfl
def opOkF (c : GCode) (o : GOp) : Bool :=
  codeOkF c &&
  (if o.Kind = 1 ∨ o.Kind = 6 then decide (o.At = 0) && decide (o.Bytes = eB)
   else if o.Kind = 2 then decide (o.At = 0) && decide ((o.Bytes.size : Int) ≤ 64)
   else if o.Kind = 3 then decide (c.K = 1) && inR o.At 0 64 && decide ((o.Bytes.size : Int) ≤ 64)
   else if o.Kind = 4 then decide (c.K = 1) && decide (o.At = 0) && decide ((o.Bytes.size : Int) ≤ 64)
   else if o.Kind = 5 then decide (c.K = 1) && inR o.At 0 64 && decide (o.Bytes = eB)
   else false)
theorem opOk_a (M : Mem) (c : GCode) (o : GOp) : Ans Try.prog M 58 #[.agg #[.int .i64 c.K, .int .i64 c.M], .agg #[.int .i64 o.Kind, .int .i64 o.At, .string o.Bytes]] (.bool (opOkF c o)) := by
  refine ans_of T (l := [.agg #[.int .i64 c.K, .int .i64 c.M], .agg #[.int .i64 o.Kind, .int .i64 o.At, .string o.Bytes]]) mixed Try.func58 rfl (by kernel_rfl) (Nat.le_of_ble_eq_true rfl) ?_
  repeat' ((conv => whnf); first | with_reducible refine CondK.tt ?_ | with_reducible refine CondK.ff ?_ | refine CallK.mk _ (codeOk_a _ c) ?_ | refine CallK.mk _ (between_a _ _ _ _) ?_ | refine CallQ.mk _ (between_a _ _ _ _) ?_ | refine DrawN.q (by kernel_rfl) ?_ | refine CondK.mk (fun h => ?_) (fun h => ?_) | fail)
  all_goals refine ret_bool ?_
  all_goals (have eb := ba_eq o.Bytes eB; unfold opOkF; simp_all)
theorem sOpOk_a (M : Mem) (c : GCode) (o : GOp) : Ans Try.prog M 36 #[.agg #[.int .i64 c.K, .int .i64 c.M], .agg #[.int .i64 o.Kind, .int .i64 o.At, .string o.Bytes]] (.bool (opOkF c o)) := by
  refine ans_of T (l := [.agg #[.int .i64 c.K, .int .i64 c.M], .agg #[.int .i64 o.Kind, .int .i64 o.At, .string o.Bytes]]) mixed Try.func36 rfl (by kernel_rfl) (Nat.le_of_ble_eq_true rfl) ?_
  repeat' ((conv => whnf); first | with_reducible refine CondK.tt ?_ | with_reducible refine CondK.ff ?_ | refine CallK.mk _ (sCodeOk_a _ c) ?_ | refine CallK.mk _ (l00In_a _ _ _ _) ?_ | refine CallQ.mk _ (l00In_a _ _ _ _) ?_ | refine DrawN.q (by kernel_rfl) ?_ | refine CondK.mk (fun h => ?_) (fun h => ?_) | fail)
  all_goals refine ret_bool ?_
  all_goals (have eb := ba_eq o.Bytes eB; unfold opOkF; simp_all)
theorem body_nil (b : ByteArray) : (b = eB) ↔ b.toList = [] := by
  have h := ba_eq b eB
  rw [show eB.toList = [] from by first | (simp [eB]; done) | kernel_rfl] at h
  rw [← decide_eq_true_iff (p := b = eB), ← h]
  simp
theorem plainCode_a (M : Mem) : Ans Try.prog M 59 #[] (.agg #[.int .i64 1, .int .i64 0]) := by
  refine ans_of T (l := []) mixed Try.func59 rfl (by kernel_rfl) (Nat.le_of_ble_eq_true rfl) ?_
  (conv => whnf)
  rfl
theorem l16Plain_a (M : Mem) : Ans Try.prog M 37 #[] (.agg #[.int .i64 1, .int .i64 0]) := by
  refine ans_of T (l := []) mixed Try.func37 rfl (by kernel_rfl) (Nat.le_of_ble_eq_true rfl) ?_
  (conv => whnf)
  rfl
theorem body_fin {b : Int} {t : List UInt8} (h : ¬ b < 1) : t.isEmpty = (!decide (b < 1) && decide (t = [])) := by
  rw [decide_eq_false h]
  cases t <;> simp
def callTail (l : GCall) : Bool :=
  if l.End = 0 then decide (l.Code = 0) && decide (l.Ver = ⟨0, 0⟩) && decide (l.Body = eB)
  else decide (l.Begin < l.End) && inR l.Code 0 99 && verOkF l.Ver && decide ((l.Body.size : Int) ≤ 64) && (decide (l.Code = 0) || decide (l.Body = eB))
def callHead (l : GCall) : Bool := isClientF l.Client && inR l.No 1 1000 && pgOkF l.Pg && nameOkF l.Name && opOkF ⟨1, 0⟩ l.Op && !decide (l.Begin < 1)
def callOkF (l : GCall) : Bool := callHead l && callTail l
theorem callOk_a (M : Mem) (l : GCall) (hn : l.Name.size ≤ 9223372036854775807) (hbd : l.Body.size ≤ 9223372036854775807) : Ans Try.prog M 40 #[.agg (List.toArray [.int .i64 l.Client, .int .i64 l.No, .int .i64 l.Pg.Pool, .int .i64 l.Pg.No, .string l.Name, .int .i64 l.Op.Kind, .int .i64 l.Op.At, .string l.Op.Bytes, .int .i64 l.Begin, .int .i64 l.End, .int .i64 l.Code, .int .i64 l.Ver.Epoch, .int .i64 l.Ver.Seq, .string l.Body])] (.bool (callOkF l)) := by
  have g1 := isClient_a M l.Client
  have g2 := between_a M l.No 1 1000
  have g3 := pgOk_a M l.Pg
  have g4 := nameOk_a M l.Name hn
  have g5 := plainCode_a M
  have g6 := opOk_a M ⟨1, 0⟩ l.Op
  have g7 := between_a M l.Code 0 99
  have g8 := verOk_a M l.Ver
  have eb := body_nil l.Body
  have ev := eqv_Ver l.Ver ⟨0, 0⟩
  refine ans_of T (l := [.agg (List.toArray [.int .i64 l.Client, .int .i64 l.No, .int .i64 l.Pg.Pool, .int .i64 l.Pg.No, .string l.Name, .int .i64 l.Op.Kind, .int .i64 l.Op.At, .string l.Op.Bytes, .int .i64 l.Begin, .int .i64 l.End, .int .i64 l.Code, .int .i64 l.Ver.Epoch, .int .i64 l.Ver.Seq, .string l.Body])]) mixed Try.func40 rfl (by kernel_rfl) (Nat.le_of_ble_eq_true rfl) ?_
  cases q1 : isClientF l.Client with
  | false =>
    rw [q1] at g1
    repeat' ((conv => whnf); first | refine DrawN.q (by kernel_rfl) ?_ | with_reducible refine CondK.tt ?_ | with_reducible refine CondK.ff ?_ | refine CallK.mk _ g1 ?_ | refine CallQ.mk _ g1 ?_ | refine CallK.mk _ g2 ?_ | refine CallQ.mk _ g2 ?_ | refine CallK.mk _ g3 ?_ | refine CallQ.mk _ g3 ?_ | refine CallK.mk _ g4 ?_ | refine CallQ.mk _ g4 ?_ | refine CallK.mk _ g5 ?_ | refine CallQ.mk _ g5 ?_ | refine CallK.mk _ g6 ?_ | refine CallQ.mk _ g6 ?_ | refine CallK.mk _ g7 ?_ | refine CallQ.mk _ g7 ?_ | refine CallK.mk _ g8 ?_ | refine CallQ.mk _ g8 ?_ | fail | refine CondK.yes' (by assumption) ?_ | refine CondK.no' (by assumption) ?_ | fail)
    all_goals (refine ret_bool ?_; unfold callOkF callHead callTail; simp_all)
    all_goals first | (intros; omega) | exact body_fin (by omega)
  | true =>
    rw [q1] at g1
    cases q2 : inR l.No 1 1000 with
    | false =>
      rw [q2] at g2
      repeat' ((conv => whnf); first | refine DrawN.q (by kernel_rfl) ?_ | with_reducible refine CondK.tt ?_ | with_reducible refine CondK.ff ?_ | refine CallK.mk _ g1 ?_ | refine CallQ.mk _ g1 ?_ | refine CallK.mk _ g2 ?_ | refine CallQ.mk _ g2 ?_ | refine CallK.mk _ g3 ?_ | refine CallQ.mk _ g3 ?_ | refine CallK.mk _ g4 ?_ | refine CallQ.mk _ g4 ?_ | refine CallK.mk _ g5 ?_ | refine CallQ.mk _ g5 ?_ | refine CallK.mk _ g6 ?_ | refine CallQ.mk _ g6 ?_ | refine CallK.mk _ g7 ?_ | refine CallQ.mk _ g7 ?_ | refine CallK.mk _ g8 ?_ | refine CallQ.mk _ g8 ?_ | fail | refine CondK.yes' (by assumption) ?_ | refine CondK.no' (by assumption) ?_ | fail)
      all_goals (refine ret_bool ?_; unfold callOkF callHead callTail; simp_all)
      all_goals first | (intros; omega) | exact body_fin (by omega)
    | true =>
      rw [q2] at g2
      cases q3 : pgOkF l.Pg with
      | false =>
        rw [q3] at g3
        repeat' ((conv => whnf); first | refine DrawN.q (by kernel_rfl) ?_ | with_reducible refine CondK.tt ?_ | with_reducible refine CondK.ff ?_ | refine CallK.mk _ g1 ?_ | refine CallQ.mk _ g1 ?_ | refine CallK.mk _ g2 ?_ | refine CallQ.mk _ g2 ?_ | refine CallK.mk _ g3 ?_ | refine CallQ.mk _ g3 ?_ | refine CallK.mk _ g4 ?_ | refine CallQ.mk _ g4 ?_ | refine CallK.mk _ g5 ?_ | refine CallQ.mk _ g5 ?_ | refine CallK.mk _ g6 ?_ | refine CallQ.mk _ g6 ?_ | refine CallK.mk _ g7 ?_ | refine CallQ.mk _ g7 ?_ | refine CallK.mk _ g8 ?_ | refine CallQ.mk _ g8 ?_ | fail | refine CondK.yes' (by assumption) ?_ | refine CondK.no' (by assumption) ?_ | fail)
        all_goals (refine ret_bool ?_; unfold callOkF callHead callTail; simp_all)
        all_goals first | (intros; omega) | exact body_fin (by omega)
      | true =>
        rw [q3] at g3
        cases q4 : nameOkF l.Name with
        | false =>
          rw [q4] at g4
          repeat' ((conv => whnf); first | refine DrawN.q (by kernel_rfl) ?_ | with_reducible refine CondK.tt ?_ | with_reducible refine CondK.ff ?_ | refine CallK.mk _ g1 ?_ | refine CallQ.mk _ g1 ?_ | refine CallK.mk _ g2 ?_ | refine CallQ.mk _ g2 ?_ | refine CallK.mk _ g3 ?_ | refine CallQ.mk _ g3 ?_ | refine CallK.mk _ g4 ?_ | refine CallQ.mk _ g4 ?_ | refine CallK.mk _ g5 ?_ | refine CallQ.mk _ g5 ?_ | refine CallK.mk _ g6 ?_ | refine CallQ.mk _ g6 ?_ | refine CallK.mk _ g7 ?_ | refine CallQ.mk _ g7 ?_ | refine CallK.mk _ g8 ?_ | refine CallQ.mk _ g8 ?_ | fail | refine CondK.yes' (by assumption) ?_ | refine CondK.no' (by assumption) ?_ | fail)
          all_goals (refine ret_bool ?_; unfold callOkF callHead callTail; simp_all)
          all_goals first | (intros; omega) | exact body_fin (by omega)
        | true =>
          rw [q4] at g4
          cases q5 : opOkF ⟨1, 0⟩ l.Op with
          | false =>
            rw [q5] at g6
            repeat' ((conv => whnf); first | refine DrawN.q (by kernel_rfl) ?_ | with_reducible refine CondK.tt ?_ | with_reducible refine CondK.ff ?_ | refine CallK.mk _ g1 ?_ | refine CallQ.mk _ g1 ?_ | refine CallK.mk _ g2 ?_ | refine CallQ.mk _ g2 ?_ | refine CallK.mk _ g3 ?_ | refine CallQ.mk _ g3 ?_ | refine CallK.mk _ g4 ?_ | refine CallQ.mk _ g4 ?_ | refine CallK.mk _ g5 ?_ | refine CallQ.mk _ g5 ?_ | refine CallK.mk _ g6 ?_ | refine CallQ.mk _ g6 ?_ | refine CallK.mk _ g7 ?_ | refine CallQ.mk _ g7 ?_ | refine CallK.mk _ g8 ?_ | refine CallQ.mk _ g8 ?_ | fail | refine CondK.yes' (by assumption) ?_ | refine CondK.no' (by assumption) ?_ | fail)
            all_goals (refine ret_bool ?_; unfold callOkF callHead callTail; simp_all)
            all_goals first | (intros; omega) | exact body_fin (by omega)
          | true =>
            rw [q5] at g6
            cases q6 : decide (l.Begin < 1) with
            | false =>
              cases qE : (l.End == 0) with
              | false =>
                cases u1 : decide (l.End > l.Begin) with
                | false =>
                  repeat' ((conv => whnf); first | refine DrawN.q (by kernel_rfl) ?_ | with_reducible refine CondK.tt ?_ | with_reducible refine CondK.ff ?_ | refine CallK.mk _ g1 ?_ | refine CallQ.mk _ g1 ?_ | refine CallK.mk _ g2 ?_ | refine CallQ.mk _ g2 ?_ | refine CallK.mk _ g3 ?_ | refine CallQ.mk _ g3 ?_ | refine CallK.mk _ g4 ?_ | refine CallQ.mk _ g4 ?_ | refine CallK.mk _ g5 ?_ | refine CallQ.mk _ g5 ?_ | refine CallK.mk _ g6 ?_ | refine CallQ.mk _ g6 ?_ | refine CallK.mk _ g7 ?_ | refine CallQ.mk _ g7 ?_ | refine CallK.mk _ g8 ?_ | refine CallQ.mk _ g8 ?_ | rw [q6] | rw [qE] | rw [u1] | refine CondK.yes' (by assumption) ?_ | refine CondK.no' (by assumption) ?_ | fail)
                  all_goals (refine ret_bool ?_; unfold callOkF callHead callTail; simp_all)
                  all_goals first | (intros; omega) | exact body_fin (by omega)
                | true =>
                  cases u2 : inR l.Code 0 99 with
                  | false =>
                    rw [u2] at g7
                    repeat' ((conv => whnf); first | refine DrawN.q (by kernel_rfl) ?_ | with_reducible refine CondK.tt ?_ | with_reducible refine CondK.ff ?_ | refine CallK.mk _ g1 ?_ | refine CallQ.mk _ g1 ?_ | refine CallK.mk _ g2 ?_ | refine CallQ.mk _ g2 ?_ | refine CallK.mk _ g3 ?_ | refine CallQ.mk _ g3 ?_ | refine CallK.mk _ g4 ?_ | refine CallQ.mk _ g4 ?_ | refine CallK.mk _ g5 ?_ | refine CallQ.mk _ g5 ?_ | refine CallK.mk _ g6 ?_ | refine CallQ.mk _ g6 ?_ | refine CallK.mk _ g7 ?_ | refine CallQ.mk _ g7 ?_ | refine CallK.mk _ g8 ?_ | refine CallQ.mk _ g8 ?_ | rw [q6] | rw [qE] | rw [u1] | refine CondK.yes' (by assumption) ?_ | refine CondK.no' (by assumption) ?_ | fail)
                    all_goals (refine ret_bool ?_; unfold callOkF callHead callTail; simp_all)
                    all_goals first | (intros; omega) | exact body_fin (by omega)
                  | true =>
                    rw [u2] at g7
                    cases u3 : verOkF l.Ver with
                    | false =>
                      rw [u3] at g8
                      repeat' ((conv => whnf); first | refine DrawN.q (by kernel_rfl) ?_ | with_reducible refine CondK.tt ?_ | with_reducible refine CondK.ff ?_ | refine CallK.mk _ g1 ?_ | refine CallQ.mk _ g1 ?_ | refine CallK.mk _ g2 ?_ | refine CallQ.mk _ g2 ?_ | refine CallK.mk _ g3 ?_ | refine CallQ.mk _ g3 ?_ | refine CallK.mk _ g4 ?_ | refine CallQ.mk _ g4 ?_ | refine CallK.mk _ g5 ?_ | refine CallQ.mk _ g5 ?_ | refine CallK.mk _ g6 ?_ | refine CallQ.mk _ g6 ?_ | refine CallK.mk _ g7 ?_ | refine CallQ.mk _ g7 ?_ | refine CallK.mk _ g8 ?_ | refine CallQ.mk _ g8 ?_ | rw [q6] | rw [qE] | rw [u1] | refine CondK.yes' (by assumption) ?_ | refine CondK.no' (by assumption) ?_ | fail)
                      all_goals (refine ret_bool ?_; unfold callOkF callHead callTail; simp_all)
                      all_goals first | (intros; omega) | exact body_fin (by omega)
                    | true =>
                      rw [u3] at g8
                      cases u4 : decide ((l.Body.size : Int) ≤ 64) with
                      | false =>
                        repeat' ((conv => whnf); first | refine DrawN.q (by kernel_rfl) ?_ | with_reducible refine CondK.tt ?_ | with_reducible refine CondK.ff ?_ | refine CallK.mk _ g1 ?_ | refine CallQ.mk _ g1 ?_ | refine CallK.mk _ g2 ?_ | refine CallQ.mk _ g2 ?_ | refine CallK.mk _ g3 ?_ | refine CallQ.mk _ g3 ?_ | refine CallK.mk _ g4 ?_ | refine CallQ.mk _ g4 ?_ | refine CallK.mk _ g5 ?_ | refine CallQ.mk _ g5 ?_ | refine CallK.mk _ g6 ?_ | refine CallQ.mk _ g6 ?_ | refine CallK.mk _ g7 ?_ | refine CallQ.mk _ g7 ?_ | refine CallK.mk _ g8 ?_ | refine CallQ.mk _ g8 ?_ | rw [q6] | rw [qE] | rw [u1] | rw [u4] | refine CondK.yes' (by assumption) ?_ | refine CondK.no' (by assumption) ?_ | fail)
                        all_goals (refine ret_bool ?_; unfold callOkF callHead callTail; simp_all)
                        all_goals first | (intros; omega) | exact body_fin (by omega)
                      | true =>
                        cases qC : (l.Code == 0) with
                        | false =>
                          repeat' ((conv => whnf); first | refine DrawN.q (by kernel_rfl) ?_ | with_reducible refine CondK.tt ?_ | with_reducible refine CondK.ff ?_ | refine CallK.mk _ g1 ?_ | refine CallQ.mk _ g1 ?_ | refine CallK.mk _ g2 ?_ | refine CallQ.mk _ g2 ?_ | refine CallK.mk _ g3 ?_ | refine CallQ.mk _ g3 ?_ | refine CallK.mk _ g4 ?_ | refine CallQ.mk _ g4 ?_ | refine CallK.mk _ g5 ?_ | refine CallQ.mk _ g5 ?_ | refine CallK.mk _ g6 ?_ | refine CallQ.mk _ g6 ?_ | refine CallK.mk _ g7 ?_ | refine CallQ.mk _ g7 ?_ | refine CallK.mk _ g8 ?_ | refine CallQ.mk _ g8 ?_ | rw [q6] | rw [qE] | rw [u1] | rw [u4] | rw [qC] | refine CondK.yes' (by assumption) ?_ | refine CondK.no' (by assumption) ?_ | fail)
                          all_goals (refine ret_bool ?_; unfold callOkF callHead callTail; simp_all)
                          all_goals first | (intros; omega) | exact body_fin (by omega)
                        | true =>
                          repeat' ((conv => whnf); first | refine DrawN.q (by kernel_rfl) ?_ | with_reducible refine CondK.tt ?_ | with_reducible refine CondK.ff ?_ | refine CallK.mk _ g1 ?_ | refine CallQ.mk _ g1 ?_ | refine CallK.mk _ g2 ?_ | refine CallQ.mk _ g2 ?_ | refine CallK.mk _ g3 ?_ | refine CallQ.mk _ g3 ?_ | refine CallK.mk _ g4 ?_ | refine CallQ.mk _ g4 ?_ | refine CallK.mk _ g5 ?_ | refine CallQ.mk _ g5 ?_ | refine CallK.mk _ g6 ?_ | refine CallQ.mk _ g6 ?_ | refine CallK.mk _ g7 ?_ | refine CallQ.mk _ g7 ?_ | refine CallK.mk _ g8 ?_ | refine CallQ.mk _ g8 ?_ | rw [q6] | rw [qE] | rw [u1] | rw [u4] | rw [qC] | refine CondK.yes' (by assumption) ?_ | refine CondK.no' (by assumption) ?_ | fail)
                          all_goals (refine ret_bool ?_; unfold callOkF callHead callTail; simp_all)
                          all_goals first | (intros; omega) | exact body_fin (by omega)
              | true =>
                cases qC : (l.Code == 0) with
                | false =>
                  repeat' ((conv => whnf); first | refine DrawN.q (by kernel_rfl) ?_ | with_reducible refine CondK.tt ?_ | with_reducible refine CondK.ff ?_ | refine CallK.mk _ g1 ?_ | refine CallQ.mk _ g1 ?_ | refine CallK.mk _ g2 ?_ | refine CallQ.mk _ g2 ?_ | refine CallK.mk _ g3 ?_ | refine CallQ.mk _ g3 ?_ | refine CallK.mk _ g4 ?_ | refine CallQ.mk _ g4 ?_ | refine CallK.mk _ g5 ?_ | refine CallQ.mk _ g5 ?_ | refine CallK.mk _ g6 ?_ | refine CallQ.mk _ g6 ?_ | refine CallK.mk _ g7 ?_ | refine CallQ.mk _ g7 ?_ | refine CallK.mk _ g8 ?_ | refine CallQ.mk _ g8 ?_ | rw [q6] | rw [qE] | rw [qC] | refine CondK.yes' (by assumption) ?_ | refine CondK.no' (by assumption) ?_ | fail)
                  all_goals (refine ret_bool ?_; unfold callOkF callHead callTail; simp_all)
                  all_goals first | (intros; omega) | exact body_fin (by omega)
                | true =>
                  cases qV : (l.Ver.Epoch == 0 && (l.Ver.Seq == 0 && true)) with
                  | false =>
                    repeat' ((conv => whnf); first | refine DrawN.q (by kernel_rfl) ?_ | with_reducible refine CondK.tt ?_ | with_reducible refine CondK.ff ?_ | refine CallK.mk _ g1 ?_ | refine CallQ.mk _ g1 ?_ | refine CallK.mk _ g2 ?_ | refine CallQ.mk _ g2 ?_ | refine CallK.mk _ g3 ?_ | refine CallQ.mk _ g3 ?_ | refine CallK.mk _ g4 ?_ | refine CallQ.mk _ g4 ?_ | refine CallK.mk _ g5 ?_ | refine CallQ.mk _ g5 ?_ | refine CallK.mk _ g6 ?_ | refine CallQ.mk _ g6 ?_ | refine CallK.mk _ g7 ?_ | refine CallQ.mk _ g7 ?_ | refine CallK.mk _ g8 ?_ | refine CallQ.mk _ g8 ?_ | rw [q6] | rw [qE] | rw [qC] | rw [qV] | refine CondK.yes' (by assumption) ?_ | refine CondK.no' (by assumption) ?_ | fail)
                    all_goals (refine ret_bool ?_; unfold callOkF callHead callTail; simp_all)
                    all_goals first | (intros; omega) | exact body_fin (by omega)
                  | true =>
                    repeat' ((conv => whnf); first | refine DrawN.q (by kernel_rfl) ?_ | with_reducible refine CondK.tt ?_ | with_reducible refine CondK.ff ?_ | refine CallK.mk _ g1 ?_ | refine CallQ.mk _ g1 ?_ | refine CallK.mk _ g2 ?_ | refine CallQ.mk _ g2 ?_ | refine CallK.mk _ g3 ?_ | refine CallQ.mk _ g3 ?_ | refine CallK.mk _ g4 ?_ | refine CallQ.mk _ g4 ?_ | refine CallK.mk _ g5 ?_ | refine CallQ.mk _ g5 ?_ | refine CallK.mk _ g6 ?_ | refine CallQ.mk _ g6 ?_ | refine CallK.mk _ g7 ?_ | refine CallQ.mk _ g7 ?_ | refine CallK.mk _ g8 ?_ | refine CallQ.mk _ g8 ?_ | rw [q6] | rw [qE] | rw [qC] | rw [qV] | refine CondK.yes' (by assumption) ?_ | refine CondK.no' (by assumption) ?_ | fail)
                    all_goals (refine ret_bool ?_; unfold callOkF callHead callTail; simp_all)
                    all_goals first | (intros; omega) | exact body_fin (by omega)
            | true =>
              repeat' ((conv => whnf); first | refine DrawN.q (by kernel_rfl) ?_ | with_reducible refine CondK.tt ?_ | with_reducible refine CondK.ff ?_ | refine CallK.mk _ g1 ?_ | refine CallQ.mk _ g1 ?_ | refine CallK.mk _ g2 ?_ | refine CallQ.mk _ g2 ?_ | refine CallK.mk _ g3 ?_ | refine CallQ.mk _ g3 ?_ | refine CallK.mk _ g4 ?_ | refine CallQ.mk _ g4 ?_ | refine CallK.mk _ g5 ?_ | refine CallQ.mk _ g5 ?_ | refine CallK.mk _ g6 ?_ | refine CallQ.mk _ g6 ?_ | refine CallK.mk _ g7 ?_ | refine CallQ.mk _ g7 ?_ | refine CallK.mk _ g8 ?_ | refine CallQ.mk _ g8 ?_ | rw [q6] | refine CondK.yes' (by assumption) ?_ | refine CondK.no' (by assumption) ?_ | fail)
              all_goals (refine ret_bool ?_; unfold callOkF callHead callTail; simp_all)
              all_goals first | (intros; omega) | exact body_fin (by omega)
theorem l28Call_a (M : Mem) (l : GCall) (hn : l.Name.size ≤ 9223372036854775807) (hbd : l.Body.size ≤ 9223372036854775807) : Ans Try.prog M 35 #[.agg (List.toArray [.int .i64 l.Client, .int .i64 l.No, .int .i64 l.Pg.Pool, .int .i64 l.Pg.No, .string l.Name, .int .i64 l.Op.Kind, .int .i64 l.Op.At, .string l.Op.Bytes, .int .i64 l.Begin, .int .i64 l.End, .int .i64 l.Code, .int .i64 l.Ver.Epoch, .int .i64 l.Ver.Seq, .string l.Body])] (.bool (callOkF l)) := by
  have g1 := l17Client_a M l.Client
  have g2 := l00In_a M l.No 1 1000
  have g3 := l17Pg_a M l.Pg
  have g4 := sNameOk_a M l.Name hn
  have g5 := l16Plain_a M
  have g6 := sOpOk_a M ⟨1, 0⟩ l.Op
  have g7 := l00In_a M l.Code 0 99
  have g8 := l17Ver_a M l.Ver
  have g9 := l17Zero_a M l.Ver
  have eb := body_nil l.Body
  have ev := eqv_Ver l.Ver ⟨0, 0⟩
  refine ans_of T (l := [.agg (List.toArray [.int .i64 l.Client, .int .i64 l.No, .int .i64 l.Pg.Pool, .int .i64 l.Pg.No, .string l.Name, .int .i64 l.Op.Kind, .int .i64 l.Op.At, .string l.Op.Bytes, .int .i64 l.Begin, .int .i64 l.End, .int .i64 l.Code, .int .i64 l.Ver.Epoch, .int .i64 l.Ver.Seq, .string l.Body])]) mixed Try.func35 rfl (by kernel_rfl) (Nat.le_of_ble_eq_true rfl) ?_
  cases q1 : isClientF l.Client with
  | false =>
    rw [q1] at g1
    repeat' ((conv => whnf); first | refine DrawN.q (by kernel_rfl) ?_ | with_reducible refine CondK.tt ?_ | with_reducible refine CondK.ff ?_ | refine CallK.mk _ g1 ?_ | refine CallQ.mk _ g1 ?_ | refine CallK.mk _ g2 ?_ | refine CallQ.mk _ g2 ?_ | refine CallK.mk _ g3 ?_ | refine CallQ.mk _ g3 ?_ | refine CallK.mk _ g4 ?_ | refine CallQ.mk _ g4 ?_ | refine CallK.mk _ g5 ?_ | refine CallQ.mk _ g5 ?_ | refine CallK.mk _ g6 ?_ | refine CallQ.mk _ g6 ?_ | refine CallK.mk _ g7 ?_ | refine CallQ.mk _ g7 ?_ | refine CallK.mk _ g8 ?_ | refine CallQ.mk _ g8 ?_ | refine CallK.mk _ g9 ?_ | refine CallQ.mk _ g9 ?_ | fail | refine CondK.yes' (by assumption) ?_ | refine CondK.no' (by assumption) ?_ | fail)
    all_goals (refine ret_bool ?_; unfold callOkF callHead callTail; simp_all)
    all_goals first | (intros; omega) | exact body_fin (by omega)
  | true =>
    rw [q1] at g1
    cases q2 : inR l.No 1 1000 with
    | false =>
      rw [q2] at g2
      repeat' ((conv => whnf); first | refine DrawN.q (by kernel_rfl) ?_ | with_reducible refine CondK.tt ?_ | with_reducible refine CondK.ff ?_ | refine CallK.mk _ g1 ?_ | refine CallQ.mk _ g1 ?_ | refine CallK.mk _ g2 ?_ | refine CallQ.mk _ g2 ?_ | refine CallK.mk _ g3 ?_ | refine CallQ.mk _ g3 ?_ | refine CallK.mk _ g4 ?_ | refine CallQ.mk _ g4 ?_ | refine CallK.mk _ g5 ?_ | refine CallQ.mk _ g5 ?_ | refine CallK.mk _ g6 ?_ | refine CallQ.mk _ g6 ?_ | refine CallK.mk _ g7 ?_ | refine CallQ.mk _ g7 ?_ | refine CallK.mk _ g8 ?_ | refine CallQ.mk _ g8 ?_ | refine CallK.mk _ g9 ?_ | refine CallQ.mk _ g9 ?_ | fail | refine CondK.yes' (by assumption) ?_ | refine CondK.no' (by assumption) ?_ | fail)
      all_goals (refine ret_bool ?_; unfold callOkF callHead callTail; simp_all)
      all_goals first | (intros; omega) | exact body_fin (by omega)
    | true =>
      rw [q2] at g2
      cases q3 : pgOkF l.Pg with
      | false =>
        rw [q3] at g3
        repeat' ((conv => whnf); first | refine DrawN.q (by kernel_rfl) ?_ | with_reducible refine CondK.tt ?_ | with_reducible refine CondK.ff ?_ | refine CallK.mk _ g1 ?_ | refine CallQ.mk _ g1 ?_ | refine CallK.mk _ g2 ?_ | refine CallQ.mk _ g2 ?_ | refine CallK.mk _ g3 ?_ | refine CallQ.mk _ g3 ?_ | refine CallK.mk _ g4 ?_ | refine CallQ.mk _ g4 ?_ | refine CallK.mk _ g5 ?_ | refine CallQ.mk _ g5 ?_ | refine CallK.mk _ g6 ?_ | refine CallQ.mk _ g6 ?_ | refine CallK.mk _ g7 ?_ | refine CallQ.mk _ g7 ?_ | refine CallK.mk _ g8 ?_ | refine CallQ.mk _ g8 ?_ | refine CallK.mk _ g9 ?_ | refine CallQ.mk _ g9 ?_ | fail | refine CondK.yes' (by assumption) ?_ | refine CondK.no' (by assumption) ?_ | fail)
        all_goals (refine ret_bool ?_; unfold callOkF callHead callTail; simp_all)
        all_goals first | (intros; omega) | exact body_fin (by omega)
      | true =>
        rw [q3] at g3
        cases q4 : nameOkF l.Name with
        | false =>
          rw [q4] at g4
          repeat' ((conv => whnf); first | refine DrawN.q (by kernel_rfl) ?_ | with_reducible refine CondK.tt ?_ | with_reducible refine CondK.ff ?_ | refine CallK.mk _ g1 ?_ | refine CallQ.mk _ g1 ?_ | refine CallK.mk _ g2 ?_ | refine CallQ.mk _ g2 ?_ | refine CallK.mk _ g3 ?_ | refine CallQ.mk _ g3 ?_ | refine CallK.mk _ g4 ?_ | refine CallQ.mk _ g4 ?_ | refine CallK.mk _ g5 ?_ | refine CallQ.mk _ g5 ?_ | refine CallK.mk _ g6 ?_ | refine CallQ.mk _ g6 ?_ | refine CallK.mk _ g7 ?_ | refine CallQ.mk _ g7 ?_ | refine CallK.mk _ g8 ?_ | refine CallQ.mk _ g8 ?_ | refine CallK.mk _ g9 ?_ | refine CallQ.mk _ g9 ?_ | fail | refine CondK.yes' (by assumption) ?_ | refine CondK.no' (by assumption) ?_ | fail)
          all_goals (refine ret_bool ?_; unfold callOkF callHead callTail; simp_all)
          all_goals first | (intros; omega) | exact body_fin (by omega)
        | true =>
          rw [q4] at g4
          cases q5 : opOkF ⟨1, 0⟩ l.Op with
          | false =>
            rw [q5] at g6
            repeat' ((conv => whnf); first | refine DrawN.q (by kernel_rfl) ?_ | with_reducible refine CondK.tt ?_ | with_reducible refine CondK.ff ?_ | refine CallK.mk _ g1 ?_ | refine CallQ.mk _ g1 ?_ | refine CallK.mk _ g2 ?_ | refine CallQ.mk _ g2 ?_ | refine CallK.mk _ g3 ?_ | refine CallQ.mk _ g3 ?_ | refine CallK.mk _ g4 ?_ | refine CallQ.mk _ g4 ?_ | refine CallK.mk _ g5 ?_ | refine CallQ.mk _ g5 ?_ | refine CallK.mk _ g6 ?_ | refine CallQ.mk _ g6 ?_ | refine CallK.mk _ g7 ?_ | refine CallQ.mk _ g7 ?_ | refine CallK.mk _ g8 ?_ | refine CallQ.mk _ g8 ?_ | refine CallK.mk _ g9 ?_ | refine CallQ.mk _ g9 ?_ | fail | refine CondK.yes' (by assumption) ?_ | refine CondK.no' (by assumption) ?_ | fail)
            all_goals (refine ret_bool ?_; unfold callOkF callHead callTail; simp_all)
            all_goals first | (intros; omega) | exact body_fin (by omega)
          | true =>
            rw [q5] at g6
            cases q6 : decide (l.Begin < 1) with
            | false =>
              cases qE : (l.End == 0) with
              | false =>
                cases u1 : decide (l.End > l.Begin) with
                | false =>
                  repeat' ((conv => whnf); first | refine DrawN.q (by kernel_rfl) ?_ | with_reducible refine CondK.tt ?_ | with_reducible refine CondK.ff ?_ | refine CallK.mk _ g1 ?_ | refine CallQ.mk _ g1 ?_ | refine CallK.mk _ g2 ?_ | refine CallQ.mk _ g2 ?_ | refine CallK.mk _ g3 ?_ | refine CallQ.mk _ g3 ?_ | refine CallK.mk _ g4 ?_ | refine CallQ.mk _ g4 ?_ | refine CallK.mk _ g5 ?_ | refine CallQ.mk _ g5 ?_ | refine CallK.mk _ g6 ?_ | refine CallQ.mk _ g6 ?_ | refine CallK.mk _ g7 ?_ | refine CallQ.mk _ g7 ?_ | refine CallK.mk _ g8 ?_ | refine CallQ.mk _ g8 ?_ | refine CallK.mk _ g9 ?_ | refine CallQ.mk _ g9 ?_ | rw [q6] | rw [qE] | rw [u1] | refine CondK.yes' (by assumption) ?_ | refine CondK.no' (by assumption) ?_ | fail)
                  all_goals (refine ret_bool ?_; unfold callOkF callHead callTail; simp_all)
                  all_goals first | (intros; omega) | exact body_fin (by omega)
                | true =>
                  cases u2 : inR l.Code 0 99 with
                  | false =>
                    rw [u2] at g7
                    repeat' ((conv => whnf); first | refine DrawN.q (by kernel_rfl) ?_ | with_reducible refine CondK.tt ?_ | with_reducible refine CondK.ff ?_ | refine CallK.mk _ g1 ?_ | refine CallQ.mk _ g1 ?_ | refine CallK.mk _ g2 ?_ | refine CallQ.mk _ g2 ?_ | refine CallK.mk _ g3 ?_ | refine CallQ.mk _ g3 ?_ | refine CallK.mk _ g4 ?_ | refine CallQ.mk _ g4 ?_ | refine CallK.mk _ g5 ?_ | refine CallQ.mk _ g5 ?_ | refine CallK.mk _ g6 ?_ | refine CallQ.mk _ g6 ?_ | refine CallK.mk _ g7 ?_ | refine CallQ.mk _ g7 ?_ | refine CallK.mk _ g8 ?_ | refine CallQ.mk _ g8 ?_ | refine CallK.mk _ g9 ?_ | refine CallQ.mk _ g9 ?_ | rw [q6] | rw [qE] | rw [u1] | refine CondK.yes' (by assumption) ?_ | refine CondK.no' (by assumption) ?_ | fail)
                    all_goals (refine ret_bool ?_; unfold callOkF callHead callTail; simp_all)
                    all_goals first | (intros; omega) | exact body_fin (by omega)
                  | true =>
                    rw [u2] at g7
                    cases u3 : verOkF l.Ver with
                    | false =>
                      rw [u3] at g8
                      repeat' ((conv => whnf); first | refine DrawN.q (by kernel_rfl) ?_ | with_reducible refine CondK.tt ?_ | with_reducible refine CondK.ff ?_ | refine CallK.mk _ g1 ?_ | refine CallQ.mk _ g1 ?_ | refine CallK.mk _ g2 ?_ | refine CallQ.mk _ g2 ?_ | refine CallK.mk _ g3 ?_ | refine CallQ.mk _ g3 ?_ | refine CallK.mk _ g4 ?_ | refine CallQ.mk _ g4 ?_ | refine CallK.mk _ g5 ?_ | refine CallQ.mk _ g5 ?_ | refine CallK.mk _ g6 ?_ | refine CallQ.mk _ g6 ?_ | refine CallK.mk _ g7 ?_ | refine CallQ.mk _ g7 ?_ | refine CallK.mk _ g8 ?_ | refine CallQ.mk _ g8 ?_ | refine CallK.mk _ g9 ?_ | refine CallQ.mk _ g9 ?_ | rw [q6] | rw [qE] | rw [u1] | refine CondK.yes' (by assumption) ?_ | refine CondK.no' (by assumption) ?_ | fail)
                      all_goals (refine ret_bool ?_; unfold callOkF callHead callTail; simp_all)
                      all_goals first | (intros; omega) | exact body_fin (by omega)
                    | true =>
                      rw [u3] at g8
                      cases u4 : decide ((l.Body.size : Int) ≤ 64) with
                      | false =>
                        repeat' ((conv => whnf); first | refine DrawN.q (by kernel_rfl) ?_ | with_reducible refine CondK.tt ?_ | with_reducible refine CondK.ff ?_ | refine CallK.mk _ g1 ?_ | refine CallQ.mk _ g1 ?_ | refine CallK.mk _ g2 ?_ | refine CallQ.mk _ g2 ?_ | refine CallK.mk _ g3 ?_ | refine CallQ.mk _ g3 ?_ | refine CallK.mk _ g4 ?_ | refine CallQ.mk _ g4 ?_ | refine CallK.mk _ g5 ?_ | refine CallQ.mk _ g5 ?_ | refine CallK.mk _ g6 ?_ | refine CallQ.mk _ g6 ?_ | refine CallK.mk _ g7 ?_ | refine CallQ.mk _ g7 ?_ | refine CallK.mk _ g8 ?_ | refine CallQ.mk _ g8 ?_ | refine CallK.mk _ g9 ?_ | refine CallQ.mk _ g9 ?_ | rw [q6] | rw [qE] | rw [u1] | rw [u4] | refine CondK.yes' (by assumption) ?_ | refine CondK.no' (by assumption) ?_ | fail)
                        all_goals (refine ret_bool ?_; unfold callOkF callHead callTail; simp_all)
                        all_goals first | (intros; omega) | exact body_fin (by omega)
                      | true =>
                        cases qC : (l.Code == 0) with
                        | false =>
                          repeat' ((conv => whnf); first | refine DrawN.q (by kernel_rfl) ?_ | with_reducible refine CondK.tt ?_ | with_reducible refine CondK.ff ?_ | refine CallK.mk _ g1 ?_ | refine CallQ.mk _ g1 ?_ | refine CallK.mk _ g2 ?_ | refine CallQ.mk _ g2 ?_ | refine CallK.mk _ g3 ?_ | refine CallQ.mk _ g3 ?_ | refine CallK.mk _ g4 ?_ | refine CallQ.mk _ g4 ?_ | refine CallK.mk _ g5 ?_ | refine CallQ.mk _ g5 ?_ | refine CallK.mk _ g6 ?_ | refine CallQ.mk _ g6 ?_ | refine CallK.mk _ g7 ?_ | refine CallQ.mk _ g7 ?_ | refine CallK.mk _ g8 ?_ | refine CallQ.mk _ g8 ?_ | refine CallK.mk _ g9 ?_ | refine CallQ.mk _ g9 ?_ | rw [q6] | rw [qE] | rw [u1] | rw [u4] | rw [qC] | refine CondK.yes' (by assumption) ?_ | refine CondK.no' (by assumption) ?_ | fail)
                          all_goals (refine ret_bool ?_; unfold callOkF callHead callTail; simp_all)
                          all_goals first | (intros; omega) | exact body_fin (by omega)
                        | true =>
                          repeat' ((conv => whnf); first | refine DrawN.q (by kernel_rfl) ?_ | with_reducible refine CondK.tt ?_ | with_reducible refine CondK.ff ?_ | refine CallK.mk _ g1 ?_ | refine CallQ.mk _ g1 ?_ | refine CallK.mk _ g2 ?_ | refine CallQ.mk _ g2 ?_ | refine CallK.mk _ g3 ?_ | refine CallQ.mk _ g3 ?_ | refine CallK.mk _ g4 ?_ | refine CallQ.mk _ g4 ?_ | refine CallK.mk _ g5 ?_ | refine CallQ.mk _ g5 ?_ | refine CallK.mk _ g6 ?_ | refine CallQ.mk _ g6 ?_ | refine CallK.mk _ g7 ?_ | refine CallQ.mk _ g7 ?_ | refine CallK.mk _ g8 ?_ | refine CallQ.mk _ g8 ?_ | refine CallK.mk _ g9 ?_ | refine CallQ.mk _ g9 ?_ | rw [q6] | rw [qE] | rw [u1] | rw [u4] | rw [qC] | refine CondK.yes' (by assumption) ?_ | refine CondK.no' (by assumption) ?_ | fail)
                          all_goals (refine ret_bool ?_; unfold callOkF callHead callTail; simp_all)
                          all_goals first | (intros; omega) | exact body_fin (by omega)
              | true =>
                cases qC : (l.Code == 0) with
                | false =>
                  repeat' ((conv => whnf); first | refine DrawN.q (by kernel_rfl) ?_ | with_reducible refine CondK.tt ?_ | with_reducible refine CondK.ff ?_ | refine CallK.mk _ g1 ?_ | refine CallQ.mk _ g1 ?_ | refine CallK.mk _ g2 ?_ | refine CallQ.mk _ g2 ?_ | refine CallK.mk _ g3 ?_ | refine CallQ.mk _ g3 ?_ | refine CallK.mk _ g4 ?_ | refine CallQ.mk _ g4 ?_ | refine CallK.mk _ g5 ?_ | refine CallQ.mk _ g5 ?_ | refine CallK.mk _ g6 ?_ | refine CallQ.mk _ g6 ?_ | refine CallK.mk _ g7 ?_ | refine CallQ.mk _ g7 ?_ | refine CallK.mk _ g8 ?_ | refine CallQ.mk _ g8 ?_ | refine CallK.mk _ g9 ?_ | refine CallQ.mk _ g9 ?_ | rw [q6] | rw [qE] | rw [qC] | refine CondK.yes' (by assumption) ?_ | refine CondK.no' (by assumption) ?_ | fail)
                  all_goals (refine ret_bool ?_; unfold callOkF callHead callTail; simp_all)
                  all_goals first | (intros; omega) | exact body_fin (by omega)
                | true =>
                  cases qV : decide (l.Ver = ⟨0, 0⟩) with
                  | false =>
                    rw [qV] at g9
                    repeat' ((conv => whnf); first | refine DrawN.q (by kernel_rfl) ?_ | with_reducible refine CondK.tt ?_ | with_reducible refine CondK.ff ?_ | refine CallK.mk _ g1 ?_ | refine CallQ.mk _ g1 ?_ | refine CallK.mk _ g2 ?_ | refine CallQ.mk _ g2 ?_ | refine CallK.mk _ g3 ?_ | refine CallQ.mk _ g3 ?_ | refine CallK.mk _ g4 ?_ | refine CallQ.mk _ g4 ?_ | refine CallK.mk _ g5 ?_ | refine CallQ.mk _ g5 ?_ | refine CallK.mk _ g6 ?_ | refine CallQ.mk _ g6 ?_ | refine CallK.mk _ g7 ?_ | refine CallQ.mk _ g7 ?_ | refine CallK.mk _ g8 ?_ | refine CallQ.mk _ g8 ?_ | refine CallK.mk _ g9 ?_ | refine CallQ.mk _ g9 ?_ | rw [q6] | rw [qE] | rw [qC] | rw [qV] | refine CondK.yes' (by assumption) ?_ | refine CondK.no' (by assumption) ?_ | fail)
                    all_goals (refine ret_bool ?_; unfold callOkF callHead callTail; simp_all)
                    all_goals first | (intros; omega) | exact body_fin (by omega)
                  | true =>
                    rw [qV] at g9
                    repeat' ((conv => whnf); first | refine DrawN.q (by kernel_rfl) ?_ | with_reducible refine CondK.tt ?_ | with_reducible refine CondK.ff ?_ | refine CallK.mk _ g1 ?_ | refine CallQ.mk _ g1 ?_ | refine CallK.mk _ g2 ?_ | refine CallQ.mk _ g2 ?_ | refine CallK.mk _ g3 ?_ | refine CallQ.mk _ g3 ?_ | refine CallK.mk _ g4 ?_ | refine CallQ.mk _ g4 ?_ | refine CallK.mk _ g5 ?_ | refine CallQ.mk _ g5 ?_ | refine CallK.mk _ g6 ?_ | refine CallQ.mk _ g6 ?_ | refine CallK.mk _ g7 ?_ | refine CallQ.mk _ g7 ?_ | refine CallK.mk _ g8 ?_ | refine CallQ.mk _ g8 ?_ | refine CallK.mk _ g9 ?_ | refine CallQ.mk _ g9 ?_ | rw [q6] | rw [qE] | rw [qC] | rw [qV] | refine CondK.yes' (by assumption) ?_ | refine CondK.no' (by assumption) ?_ | fail)
                    all_goals (refine ret_bool ?_; unfold callOkF callHead callTail; simp_all)
                    all_goals first | (intros; omega) | exact body_fin (by omega)
            | true =>
              repeat' ((conv => whnf); first | refine DrawN.q (by kernel_rfl) ?_ | with_reducible refine CondK.tt ?_ | with_reducible refine CondK.ff ?_ | refine CallK.mk _ g1 ?_ | refine CallQ.mk _ g1 ?_ | refine CallK.mk _ g2 ?_ | refine CallQ.mk _ g2 ?_ | refine CallK.mk _ g3 ?_ | refine CallQ.mk _ g3 ?_ | refine CallK.mk _ g4 ?_ | refine CallQ.mk _ g4 ?_ | refine CallK.mk _ g5 ?_ | refine CallQ.mk _ g5 ?_ | refine CallK.mk _ g6 ?_ | refine CallQ.mk _ g6 ?_ | refine CallK.mk _ g7 ?_ | refine CallQ.mk _ g7 ?_ | refine CallK.mk _ g8 ?_ | refine CallQ.mk _ g8 ?_ | refine CallK.mk _ g9 ?_ | refine CallQ.mk _ g9 ?_ | rw [q6] | refine CondK.yes' (by assumption) ?_ | refine CondK.no' (by assumption) ?_ | fail)
              all_goals (refine ret_bool ?_; unfold callOkF callHead callTail; simp_all)
              all_goals first | (intros; omega) | exact body_fin (by omega)
end Go.Proofs.Ythlnapamdcmlkaa.Hlp
