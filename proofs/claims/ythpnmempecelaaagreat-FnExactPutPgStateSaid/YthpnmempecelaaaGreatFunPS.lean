/- A state in bytes: the reference's side. -/
import Derived.Test.YthpnmempecelaaaGreatFunPO
namespace Go.Proofs.YthpnmempecelaaaGreat.Hlp
open Go Go.RowKit Go.Proofs Go.Proofs.YthpnmempecelaaaGreat.Lw Go.Proofs.YthpnmempecelaaaGreat.Bld
set_option linter.unusedVariables false
set_option linter.unusedSimpArgs false
set_option maxRecDepth 100000
set_option maxHeartbeats 4000000
theorem ba_ext {a b : ByteArray} (h : a.data.toList = b.data.toList) : a = b := by
  cases a; cases b
  simp only at h
  rw [Array.toList_inj.mp h]
theorem ba_app (a b : ByteArray) : (a ++ b).data.toList = a.data.toList ++ b.data.toList := by
  rw [ByteArray.data_append, Array.toList_append]
theorem ba_assoc (a b c : ByteArray) : a ++ b ++ c = a ++ (b ++ c) := ba_ext (by simp only [ba_app, List.append_assoc])
theorem ba_nil (a : ByteArray) : a ++ numS [] = a := ba_ext (by rw [ba_app]; simp [numS, bytesN])
theorem numS_cons (x : Int) (r : List Int) : numS (x :: r) = varS x ++ numS r := ba_ext (by rw [ba_app]; simp [numS, bytesN])
theorem numS_one (x : Int) : numS [x] = varS x := by rw [numS_cons, ba_nil]
theorem l17PutVer_a (M : Mem) (v : GVer) : Ans Tryz.prog M 42 #[.agg #[.int .i64 v.Epoch, .int .i64 v.Seq]] (.string (numS [v.Epoch, v.Seq])) := by
  refine ans_of T (l := [.agg #[.int .i64 v.Epoch, .int .i64 v.Seq]]) mixed Tryz.func42 rfl (by kernel_rfl) (Nat.le_of_ble_eq_true rfl) ?_
  have h1 := varS_size v.Epoch
  have h2 := varS_size v.Seq
  rw [numS_cons, numS_one]
  repeat' ((conv => whnf); first | refine DrawN.q (by kernel_rfl) ?_ | refine CallQ.mk _ (sPutVar_a M v.Epoch) ?_ | refine CallQ.mk _ (sPutVar_a M v.Seq) ?_ | refine Owe.mk (by omega) ?_ | fail)
  (conv => whnf)
  exact rfl
theorem l17PutEntry_a (M : Mem) (e : GEntry) (hb : e.Name.size ≤ 1048576) : Ans Tryz.prog M 44 #[.agg (List.toArray [.int .i64 e.Ver.Epoch, .int .i64 e.Ver.Seq, .int .i64 e.Prior.Epoch, .int .i64 e.Prior.Seq, .string e.Name, .bool e.Gone, .int .i64 e.Size, .int .i64 e.Sum, .int .i64 e.Req.Client, .int .i64 e.Req.No])] (.string (entryS e)) := by
  refine ans_of T (l := [.agg (List.toArray [.int .i64 e.Ver.Epoch, .int .i64 e.Ver.Seq, .int .i64 e.Prior.Epoch, .int .i64 e.Prior.Seq, .string e.Name, .bool e.Gone, .int .i64 e.Size, .int .i64 e.Sum, .int .i64 e.Req.Client, .int .i64 e.Req.No])]) mixed Tryz.func44 rfl (by kernel_rfl) (Nat.le_of_ble_eq_true rfl) ?_
  have h0 := numS_size [e.Ver.Epoch, e.Ver.Seq]
  simp only [List.length_cons, List.length_nil] at h0
  have h1 := txtS_size e.Name
  have h2 := varS_size (tI e.Gone)
  have h3 := varS_size e.Size
  have h4 := varS_size e.Sum
  have h5 := varS_size e.Req.Client
  have h6 := varS_size e.Req.No
  have hv : entryS e = numS [e.Ver.Epoch, e.Ver.Seq] ++ txtS e.Name ++ varS (tI e.Gone) ++ varS e.Size ++ varS e.Sum ++ varS e.Req.Client ++ varS e.Req.No := by
    unfold entryS
    rw [numS_cons (tI e.Gone), numS_cons e.Size, numS_cons e.Sum, numS_cons e.Req.Client, numS_one]
    simp only [ba_assoc]
  rw [hv]
  cases hg : e.Gone with
  | false =>
    have ht : tI e.Gone = 0 := by unfold tI; rw [hg]; rfl
    rw [ht] at h2
    repeat' ((conv => whnf); first | with_reducible refine CondK.tt ?_ | with_reducible refine CondK.ff ?_ | refine DrawN.q (by kernel_rfl) ?_ | refine CallQ.mk _ (l17PutVer_a M e.Ver) ?_ | refine CallQ.mk _ (sPutText_a M e.Name (by omega)) ?_ | refine CallQ.mk _ (sPutVar_a M _) ?_ | refine Owe.mk (by simp only [ByteArray.size_append]; omega) ?_ | refine Owe.mk (by omega) ?_ | fail)
    (conv => whnf)
    exact rfl
  | true =>
    have ht : tI e.Gone = 1 := by unfold tI; rw [hg]; rfl
    rw [ht] at h2
    repeat' ((conv => whnf); first | with_reducible refine CondK.tt ?_ | with_reducible refine CondK.ff ?_ | refine DrawN.q (by kernel_rfl) ?_ | refine CallQ.mk _ (l17PutVer_a M e.Ver) ?_ | refine CallQ.mk _ (sPutText_a M e.Name (by omega)) ?_ | refine CallQ.mk _ (sPutVar_a M _) ?_ | refine Owe.mk (by simp only [ByteArray.size_append]; omega) ?_ | refine Owe.mk (by omega) ?_ | fail)
    (conv => whnf)
    exact rfl
theorem l17PutChunk_a (M : Mem) (c : GChunk) (hb : c.Name.size ≤ 1048576) (hb2 : c.Bytes.size ≤ 1048576) : Ans Tryz.prog M 45 #[.agg (List.toArray [.string c.Name, .int .i64 c.Ver.Epoch, .int .i64 c.Ver.Seq, .int .i64 c.Pos, .int .i64 c.Sum, .string c.Bytes])] (.string (chunkS c)) := by
  refine ans_of T (l := [.agg (List.toArray [.string c.Name, .int .i64 c.Ver.Epoch, .int .i64 c.Ver.Seq, .int .i64 c.Pos, .int .i64 c.Sum, .string c.Bytes])]) mixed Tryz.func45 rfl (by kernel_rfl) (Nat.le_of_ble_eq_true rfl) ?_
  have h0 := numS_size [c.Ver.Epoch, c.Ver.Seq]
  simp only [List.length_cons, List.length_nil] at h0
  have h1 := txtS_size c.Name
  have h2 := varS_size c.Pos
  have h3 := varS_size c.Sum
  have h4 := txtS_size c.Bytes
  have hv : chunkS c = txtS c.Name ++ numS [c.Ver.Epoch, c.Ver.Seq] ++ varS c.Pos ++ varS c.Sum ++ txtS c.Bytes := by
    unfold chunkS
    rw [numS_cons c.Ver.Epoch, numS_cons c.Ver.Seq, numS_cons c.Pos, numS_one, numS_cons c.Ver.Epoch, numS_one]
    simp only [ba_assoc]
  rw [hv]
  repeat' ((conv => whnf); first | refine DrawN.q (by kernel_rfl) ?_ | refine CallQ.mk _ (l17PutVer_a M c.Ver) ?_ | refine CallQ.mk _ (sPutText_a M c.Name (by omega)) ?_ | refine CallQ.mk _ (sPutText_a M c.Bytes (by omega)) ?_ | refine CallQ.mk _ (sPutVar_a M _) ?_ | refine Owe.mk (by simp only [ByteArray.size_append]; omega) ?_ | refine Owe.mk (by omega) ?_ | fail)
  (conv => whnf)
  exact rfl
def catS {α : Type} (g : α → ByteArray) (l : List α) (k : Nat) : ByteArray := ⟨(bytesT g (l.take k)).toArray⟩
theorem catS_0 {α : Type} (g : α → ByteArray) (l : List α) : catS g l 0 = numS [] := by simp [catS, bytesT, numS, bytesN]
theorem catS_step {α : Type} {g : α → ByteArray} {l : List α} {k : Nat} (h : k < l.length) : catS g l (k + 1) = catS g l k ++ g l[k] := ba_ext (by rw [ba_app]; simp only [catS, bytesT_step h])
theorem catS_all {α : Type} (g : α → ByteArray) (l : List α) : varS (l.length : Int) ++ catS g l l.length = listS g l := ba_ext (by rw [ba_app]; simp only [catS, List.take_length, listS])
theorem catS_size {α : Type} {g : α → ByteArray} {l : List α} (h : ∀ x ∈ l, (g x).size ≤ 4194304) {k : Nat} (hk : k ≤ l.length) : (catS g l k).size ≤ 4194304 * l.length := by
  have h1 := bytesT_len (l := l.take k) (g := g) (m := 4194304) (fun x hx => h x (List.mem_of_mem_take hx))
  have : (catS g l k).size = (bytesT g (l.take k)).length := by simp only [catS, ByteArray.size, List.size_toArray]
  rw [this]
  rw [List.length_take, Nat.min_eq_left hk] at h1
  have := Nat.mul_le_mul_left 4194304 hk
  omega
theorem strC_app (a b : ByteArray) : Go.Lib.strCells a ++ Go.Lib.strCells b = Go.Lib.strCells (a ++ b) := by
  unfold Go.Lib.strCells
  rw [ba_app, List.map_append]
theorem strBack (s : ByteArray) : (s.data.toList.map fun b => (b.toNat : Int)).foldl (fun (r : ByteArray) n => r.push (UInt8.ofNat n.toNat)) ByteArray.empty = s := by
  have : ∀ (l : List UInt8) (r : ByteArray), (l.map fun b => (b.toNat : Int)).foldl (fun (r : ByteArray) n => r.push (UInt8.ofNat n.toNat)) r = ⟨(r.data.toList ++ l).toArray⟩ := by
    intro l
    induction l with
    | nil => intro r; simp
    | cons x t ih =>
      intro r
      simp only [List.map_cons, List.foldl_cons]
      rw [ih]
      simp [ByteArray.push]
  rw [this]
  exact ba_ext (by simp)
theorem bytesL_str (s : ByteArray) : Go.Proofs.YthpnmempecelaaaGreat.Lw.bytesL (Go.Lib.strCells s) = some (s.data.toList.map fun b => (b.toNat : Int)) := by
  rw [show Go.Lib.strCells s = (s.data.toList.map fun b => (b.toNat : Int)).map (Value.int .u8) by simp [Go.Lib.strCells]]
  exact bytesL_map _
def P1 (s : GPgState) : ByteArray := varS s.Pg.Pool ++ varS s.Pg.No ++ varS s.Seen ++ varS s.Started ++ numS [s.Tail.Epoch, s.Tail.Seq] ++ varS (s.Base.length : Int)
def Q1 (s : GPgState) (k : Nat) : ByteArray := P1 s ++ catS headS s.Base k
def P2 (s : GPgState) : ByteArray := Q1 s s.Base.length ++ varS (s.Clients.length : Int)
def Q2 (s : GPgState) (k : Nat) : ByteArray := P2 s ++ catS lastS s.Clients k
def P3 (s : GPgState) : ByteArray := Q2 s s.Clients.length ++ varS (s.Log.length : Int)
def Q3 (s : GPgState) (k : Nat) : ByteArray := P3 s ++ catS entryS s.Log k
def P4 (s : GPgState) : ByteArray := Q3 s s.Log.length ++ (numS [s.Firm.Epoch, s.Firm.Seq] ++ varS (s.Chunks.length : Int))
def Q4 (s : GPgState) (k : Nat) : ByteArray := P4 s ++ catS chunkS s.Chunks k
theorem Q4_state (s : GPgState) : Q4 s s.Chunks.length = stateS s := by
  unfold Q4 P4 Q3 P3 Q2 P2 Q1 P1 stateS
  rw [← catS_all headS, ← catS_all lastS, ← catS_all entryS, ← catS_all chunkS, numS_cons s.Pg.Pool, numS_cons s.Pg.No, numS_cons s.Seen, numS_cons s.Started]
  simp only [ba_assoc]
structure Sizes (s : GPgState) : Prop where
  p1 : (P1 s).size ≤ 1000000000
  q1 : ∀ k, k ≤ s.Base.length → (Q1 s k).size ≤ 2000000000
  p2 : (P2 s).size ≤ 2000000100
  q2 : ∀ k, k ≤ s.Clients.length → (Q2 s k).size ≤ 4000000000
  p3 : (P3 s).size ≤ 4000000100
  q3 : ∀ k, k ≤ s.Log.length → (Q3 s k).size ≤ 6000000000
  p4 : (P4 s).size ≤ 6000000100
  q4 : ∀ k, k ≤ s.Chunks.length → (Q4 s k).size ≤ 8000000000
theorem sizes_of {s : GPgState} (h : Short s) : Sizes s := by
  obtain ⟨n0, n1, n2, n3, t0, t2, t3⟩ := h
  have e1 : (P1 s).size ≤ 1000 := by
    have := varS_size s.Pg.Pool
    have := varS_size s.Pg.No
    have := varS_size s.Seen
    have := varS_size s.Started
    have := numS_size [s.Tail.Epoch, s.Tail.Seq]
    have := varS_size (s.Base.length : Int)
    simp only [List.length_cons, List.length_nil] at *
    unfold P1
    simp only [ByteArray.size_append]
    omega
  have e2 : ∀ k, k ≤ s.Base.length → (Q1 s k).size ≤ 700000000 := fun k hk => by
    have := catS_size (g := headS) (l := s.Base) (fun x hx => headS_size (t0 x hx)) hk
    unfold Q1
    rw [ByteArray.size_append]
    omega
  have e3 : (P2 s).size ≤ 700000009 := by
    have := varS_size (s.Clients.length : Int)
    have := e2 _ (Nat.le_refl _)
    unfold P2
    rw [ByteArray.size_append]
    omega
  have e4 : ∀ k, k ≤ s.Clients.length → (Q2 s k).size ≤ 1400000000 := fun k hk => by
    have := catS_size (g := lastS) (l := s.Clients) (fun x _ => lastS_size x) hk
    unfold Q2
    rw [ByteArray.size_append]
    omega
  have e5 : (P3 s).size ≤ 1400000009 := by
    have := varS_size (s.Log.length : Int)
    have := e4 _ (Nat.le_refl _)
    unfold P3
    rw [ByteArray.size_append]
    omega
  have e6 : ∀ k, k ≤ s.Log.length → (Q3 s k).size ≤ 2100000000 := fun k hk => by
    have := catS_size (g := entryS) (l := s.Log) (fun x hx => entryS_size (t2 x hx)) hk
    unfold Q3
    rw [ByteArray.size_append]
    omega
  have e7 : (P4 s).size ≤ 2100000100 := by
    have := varS_size (s.Chunks.length : Int)
    have := numS_size [s.Firm.Epoch, s.Firm.Seq]
    simp only [List.length_cons, List.length_nil] at *
    have := e6 _ (Nat.le_refl _)
    unfold P4
    simp only [ByteArray.size_append]
    omega
  have e8 : ∀ k, k ≤ s.Chunks.length → (Q4 s k).size ≤ 2800000000 := fun k hk => by
    have := catS_size (g := chunkS) (l := s.Chunks) (fun x hx => chunkS_size (t3 x hx).1 (t3 x hx).2) hk
    unfold Q4
    rw [ByteArray.size_append]
    omega
  exact ⟨by omega, fun k hk => by have := e2 k hk; omega, by omega, fun k hk => by have := e4 k hk; omega, by omega, fun k hk => by have := e6 k hk; omega, by omega, fun k hk => by have := e8 k hk; omega⟩
theorem allOne_str (s : ByteArray) : allOne (Go.Lib.strCells s) = true := by
  unfold Go.Lib.strCells
  induction s.data.toList with
  | nil => rfl
  | cons x r ih => simp only [List.map_cons, allOne, Bool.and_eq_true]; exact ⟨rfl, ih⟩
theorem Q1_0 (s : GPgState) : Q1 s 0 = P1 s := by unfold Q1; rw [catS_0, ba_nil]
theorem Q2_0 (s : GPgState) : Q2 s 0 = P2 s := by unfold Q2; rw [catS_0, ba_nil]
theorem Q3_0 (s : GPgState) : Q3 s 0 = P3 s := by unfold Q3; rw [catS_0, ba_nil]
theorem Q4_0 (s : GPgState) : Q4 s 0 = P4 s := by unfold Q4; rw [catS_0, ba_nil]
theorem Q1_s {s : GPgState} {k : Nat} (h : k < s.Base.length) : Q1 s (k + 1) = Q1 s k ++ headS s.Base[k] := by unfold Q1; rw [catS_step h, ba_assoc]
theorem Q2_s {s : GPgState} {k : Nat} (h : k < s.Clients.length) : Q2 s (k + 1) = Q2 s k ++ lastS s.Clients[k] := by unfold Q2; rw [catS_step h, ba_assoc]
theorem Q3_s {s : GPgState} {k : Nat} (h : k < s.Log.length) : Q3 s (k + 1) = Q3 s k ++ entryS s.Log[k] := by unfold Q3; rw [catS_step h, ba_assoc]
theorem Q4_s {s : GPgState} {k : Nat} (h : k < s.Chunks.length) : Q4 s (k + 1) = Q4 s k ++ chunkS s.Chunks[k] := by unfold Q4; rw [catS_step h, ba_assoc]
theorem headS_spec (x : GHead) : headS x = txtS x.Name ++ numS [x.Ver.Epoch, x.Ver.Seq] ++ varS x.Size ++ varS x.Sum := by
  unfold headS
  rw [numS_cons x.Ver.Epoch, numS_cons x.Ver.Seq, numS_cons x.Size, numS_one, numS_cons x.Ver.Epoch, numS_one]
  simp only [ba_assoc]
theorem lastS_spec (x : GLast) : lastS x = varS x.Client ++ varS x.No ++ numS [x.Ver.Epoch, x.Ver.Seq] := by
  unfold lastS
  rw [numS_cons x.Client, numS_cons x.No]
  simp only [ba_assoc]
theorem l17PutState_a (M : Mem) (s : GPgState) (cs : List Value) (h : RPgState M s cs) (hs : Short s) : Ans Tryz.prog M 14 #[.agg cs.toArray] (.string (stateS s)) := by
  obtain ⟨A0, c0, A1, c1, A2, c2, A3, c3, rfl, hb, s0, s1, s2, s3⟩ := h
  have hz := sizes_of hs
  obtain ⟨n0, n1, n2, n3, t0, t2, t3⟩ := hs
  obtain ⟨zp1, zq1, zp2, zq2, zp3, zq3, zp4, zq4⟩ := hz
  refine ans_of T (l := [.agg (List.toArray _)]) mixed Tryz.func14 rfl (by kernel_rfl) (Nat.le_of_ble_eq_true rfl) ?_
  have z1 := varS_size s.Pg.Pool
  have z2 := varS_size s.Pg.No
  have z3 := varS_size s.Seen
  have z4 := varS_size s.Started
  have z5 := numS_size [s.Tail.Epoch, s.Tail.Seq]
  have z6 := varS_size (s.Base.length : Int)
  simp only [List.length_cons, List.length_nil] at z5
  (conv => whnf)
  refine DrawN.t 26 (by kernel_rfl) ?_
  repeat' ((conv => whnf); first | refine CallQ.mk _ (sPutVar_a M _) ?_ | refine CallQ.mk _ (l17PutVer_a M s.Tail) ?_ | refine Owe.mk (by simp only [ByteArray.size_append]; omega) ?_ | refine Owe.mk (by omega) ?_ | fail)
  (conv => whnf)
  have hP : varS s.Pg.Pool ++ varS s.Pg.No ++ varS s.Seen ++ varS s.Started ++ numS [s.Tail.Epoch, s.Tail.Seq] ++ varS (s.Base.length : Int) = P1 s := rfl
  rw [hP]
  refine ConvK.mk (by omega) (fun cap0 hcap0 => ?_)
  (conv => whnf)
  refine LoopK.sw 1 2 {q : Nat × Nat // q.1 ≤ s.Base.length ∧ (Q1 s q.1).size ≤ q.2} (fun ⟨⟨k, cap⟩, _⟩ => [(1, .p 0 0), (3, .s 1 (Q1 s k).size cap 1), (4, .v (.int .i64 (k : Int)))]) (fun ⟨⟨k, cap⟩, _⟩ => [(1, Go.Lib.strCells (Q1 s k)), (0, [.int .i64 s.Pg.Pool, .int .i64 s.Pg.No, .int .i64 s.Seen, .int .i64 s.Started, .int .i64 s.Tail.Epoch, .int .i64 s.Tail.Seq, .slice A0 s.Base.length c0, .slice A1 s.Clients.length c1, .slice A2 s.Log.length c2, .int .i64 s.Firm.Epoch, .int .i64 s.Firm.Seq, .slice A3 s.Chunks.length c3])]) (fun _ => M) (fun q => s.Base.length - q.1.1) ⟨(0, cap0), Nat.zero_le _, by rw [Q1_0]; exact hcap0⟩ 1 ⟨⟨⟨rfl, congrArg (fun (t : ByteArray) => some (PV.s 1 t.size cap0 1)) (Q1_0 s).symm, rfl, trivial⟩, ⟨congrArg (fun t => some (Go.Lib.strCells t)) (Q1_0 s).symm, rfl, trivial⟩, rfl, rfl⟩, rfl⟩ ?_
  clear hcap0 cap0
  rintro ⟨⟨k, cap⟩, hk, hc⟩
  replace hk : k ≤ s.Base.length := hk
  replace hc : (Q1 s k).size ≤ cap := hc
  (conv => whnf)
  refine CondK.mk (fun h1 => ?_) (fun h1 => ?_)
  · have hlt : k < s.Base.length := by have := of_decide_eq_true h1; omega
    obtain ⟨x, hx⟩ : ∃ x, x = s.Base[k] := ⟨_, rfl⟩
    have hxl : s.Base[k]? = some x := by rw [hx]; exact List.getElem?_eq_getElem hlt
    have hxm : x ∈ s.Base := by rw [hx]; exact List.getElem_mem hlt
    have hstep : Q1 s (k + 1) = Q1 s k ++ headS x := by rw [hx]; exact Q1_s hlt
    have hqk := zq1 (k + 1) hlt
    rw [hstep, ByteArray.size_append] at hqk
    have hxn := t0 x hxm
    have hxs := headS_spec x
    have y0 := txtS_size x.Name
    have y1 := numS_size [x.Ver.Epoch, x.Ver.Seq]
    simp only [List.length_cons, List.length_nil] at y1
    have y2 := varS_size x.Size
    have y3 := varS_size x.Sum
    obtain ⟨ad, rfl, _, x0, x1, x2, x3, x4⟩ := at_Head s0 hxl
    repeat' ((conv => whnf); first | refine IdxK.mk _ rfl (by omega) (by omega) ?_ | refine LdK.mk _ (by assumption) ?_ | refine DrawN.t 16 (by kernel_rfl) ?_ | refine CallQ.mk _ (sPutText_a M x.Name (by omega)) ?_ | refine CallQ.mk _ (l17PutVer_a M x.Ver) ?_ | refine CallQ.mk _ (sPutVar_a M _) ?_ | refine Owe.mk (by simp only [ByteArray.size_append]; omega) ?_ | refine Owe.mk (by omega) ?_ | fail)
    (conv => whnf)
    rw [← hxs]
    refine AppK.mk (by show (2 * ((Q1 s k).size + (headS x).size) + 512) * 1 ≤ 281474976710656; omega) (by omega) (.inr rfl) (allOne_str _) (fun cap' hcap' => ?_)
    (conv => whnf)
    refine ⟨⟨(k + 1, cap'), hlt, by show (Q1 s (k + 1)).size ≤ cap'; rw [hstep, ByteArray.size_append]; exact hcap'⟩, 3, ⟨⟨rfl, congrArg (fun t => some (PV.s 3 t cap' 1)) (by rw [hstep, ByteArray.size_append]), look_int (i64_succ (by omega)), trivial⟩, ⟨?_, rfl, trivial⟩, rfl, rfl⟩, rfl, by simp only; omega⟩
    show some (Go.Lib.strCells (Q1 s k) ++ Go.Lib.strCells (headS x)) = some (Go.Lib.strCells (Q1 s (k + 1)))
    rw [strC_app, hstep]
  have hke : k = s.Base.length := by have := of_decide_eq_false h1; omega
  subst hke
  have hqa := zq1 _ (Nat.le_refl _)
  have yv := varS_size (s.Clients.length : Int)
  repeat' ((conv => whnf); first | refine CallK.mk _ (sPutVar_a M _) ?_ | refine AppK.mk (by show (2 * ((Q1 s s.Base.length).size + (varS (s.Clients.length : Int)).size) + 512) * 1 ≤ 281474976710656; omega) (by omega) (.inr rfl) (allOne_str _) (fun cap0 hcap1 => ?_) | fail)
  have hcap0 : (P2 s).size ≤ cap0 := by unfold P2; rw [ByteArray.size_append]; exact hcap1
  clear hcap1
  (conv => whnf)
  refine LoopK.sw 2 3 {q : Nat × Nat // q.1 ≤ s.Clients.length ∧ (Q2 s q.1).size ≤ q.2} (fun ⟨⟨k, cap⟩, _⟩ => [(1, .p 0 0), (3, .s 2 (Q2 s k).size cap 1), (6, .v (.int .i64 (k : Int)))]) (fun ⟨⟨k, cap⟩, _⟩ => [(2, Go.Lib.strCells (Q2 s k)), (0, [.int .i64 s.Pg.Pool, .int .i64 s.Pg.No, .int .i64 s.Seen, .int .i64 s.Started, .int .i64 s.Tail.Epoch, .int .i64 s.Tail.Seq, .slice A0 s.Base.length c0, .slice A1 s.Clients.length c1, .slice A2 s.Log.length c2, .int .i64 s.Firm.Epoch, .int .i64 s.Firm.Seq, .slice A3 s.Chunks.length c3])]) (fun _ => M) (fun q => s.Clients.length - q.1.1) ⟨(0, cap0), Nat.zero_le _, by rw [Q2_0]; exact hcap0⟩ 2 ⟨⟨⟨rfl, congrArg (fun t => some (PV.s 2 t cap0 1)) (by rw [Q2_0]; exact (ByteArray.size_append).symm), rfl, trivial⟩, ⟨congrArg some ((strC_app _ _).trans (congrArg Go.Lib.strCells (Q2_0 s).symm)), rfl, trivial⟩, rfl, rfl⟩, rfl⟩ ?_
  clear hcap0 cap0
  rintro ⟨⟨k, cap⟩, hk, hc⟩
  replace hk : k ≤ s.Clients.length := hk
  replace hc : (Q2 s k).size ≤ cap := hc
  (conv => whnf)
  refine CondK.mk (fun h1 => ?_) (fun h1 => ?_)
  · have hlt : k < s.Clients.length := by have := of_decide_eq_true h1; omega
    obtain ⟨x, hx⟩ : ∃ x, x = s.Clients[k] := ⟨_, rfl⟩
    have hxl : s.Clients[k]? = some x := by rw [hx]; exact List.getElem?_eq_getElem hlt
    have hxm : x ∈ s.Clients := by rw [hx]; exact List.getElem_mem hlt
    have hstep : Q2 s (k + 1) = Q2 s k ++ lastS x := by rw [hx]; exact Q2_s hlt
    have hqk := zq2 (k + 1) hlt
    rw [hstep, ByteArray.size_append] at hqk
    have hxs := lastS_spec x
    have y1 := numS_size [x.Ver.Epoch, x.Ver.Seq]
    simp only [List.length_cons, List.length_nil] at y1
    have y2 := varS_size x.Client
    have y3 := varS_size x.No
    obtain ⟨ad, rfl, _, x0, x1, x2, x3⟩ := at_Last s1 hxl
    repeat' ((conv => whnf); first | refine IdxK.mk _ rfl (by omega) (by omega) ?_ | refine LdK.mk _ (by assumption) ?_ | refine DrawN.t 12 (by kernel_rfl) ?_ | refine CallQ.mk _ (l17PutVer_a M x.Ver) ?_ | refine CallQ.mk _ (sPutVar_a M _) ?_ | refine Owe.mk (by simp only [ByteArray.size_append]; omega) ?_ | refine Owe.mk (by omega) ?_ | fail)
    (conv => whnf)
    rw [← hxs]
    refine AppK.mk (by show (2 * ((Q2 s k).size + (lastS x).size) + 512) * 1 ≤ 281474976710656; omega) (by omega) (.inr rfl) (allOne_str _) (fun cap' hcap' => ?_)
    (conv => whnf)
    refine ⟨⟨(k + 1, cap'), hlt, by show (Q2 s (k + 1)).size ≤ cap'; rw [hstep, ByteArray.size_append]; exact hcap'⟩, 4, ⟨⟨rfl, congrArg (fun t => some (PV.s 4 t cap' 1)) (by rw [hstep, ByteArray.size_append]), look_int (i64_succ (by omega)), trivial⟩, ⟨?_, rfl, trivial⟩, rfl, rfl⟩, rfl, by simp only; omega⟩
    show some (Go.Lib.strCells (Q2 s k) ++ Go.Lib.strCells (lastS x)) = some (Go.Lib.strCells (Q2 s (k + 1)))
    rw [strC_app, hstep]
  have hke : k = s.Clients.length := by have := of_decide_eq_false h1; omega
  subst hke
  have hqa := zq2 _ (Nat.le_refl _)
  have yv := varS_size (s.Log.length : Int)
  repeat' ((conv => whnf); first | refine CallK.mk _ (sPutVar_a M _) ?_ | refine AppK.mk (by show (2 * ((Q2 s s.Clients.length).size + (varS (s.Log.length : Int)).size) + 512) * 1 ≤ 281474976710656; omega) (by omega) (.inr rfl) (allOne_str _) (fun cap0 hcap1 => ?_) | fail)
  have hcap0 : (P3 s).size ≤ cap0 := by unfold P3; rw [ByteArray.size_append]; exact hcap1
  clear hcap1
  (conv => whnf)
  refine LoopK.sw 3 4 {q : Nat × Nat // q.1 ≤ s.Log.length ∧ (Q3 s q.1).size ≤ q.2} (fun ⟨⟨k, cap⟩, _⟩ => [(1, .p 0 0), (3, .s 3 (Q3 s k).size cap 1), (8, .v (.int .i64 (k : Int)))]) (fun ⟨⟨k, cap⟩, _⟩ => [(3, Go.Lib.strCells (Q3 s k)), (0, [.int .i64 s.Pg.Pool, .int .i64 s.Pg.No, .int .i64 s.Seen, .int .i64 s.Started, .int .i64 s.Tail.Epoch, .int .i64 s.Tail.Seq, .slice A0 s.Base.length c0, .slice A1 s.Clients.length c1, .slice A2 s.Log.length c2, .int .i64 s.Firm.Epoch, .int .i64 s.Firm.Seq, .slice A3 s.Chunks.length c3])]) (fun _ => M) (fun q => s.Log.length - q.1.1) ⟨(0, cap0), Nat.zero_le _, by rw [Q3_0]; exact hcap0⟩ 3 ⟨⟨⟨rfl, congrArg (fun t => some (PV.s 3 t cap0 1)) (by rw [Q3_0]; exact (ByteArray.size_append).symm), rfl, trivial⟩, ⟨congrArg some ((strC_app _ _).trans (congrArg Go.Lib.strCells (Q3_0 s).symm)), rfl, trivial⟩, rfl, rfl⟩, rfl⟩ ?_
  clear hcap0 cap0
  rintro ⟨⟨k, cap⟩, hk, hc⟩
  replace hk : k ≤ s.Log.length := hk
  replace hc : (Q3 s k).size ≤ cap := hc
  (conv => whnf)
  refine CondK.mk (fun h1 => ?_) (fun h1 => ?_)
  · have hlt : k < s.Log.length := by have := of_decide_eq_true h1; omega
    obtain ⟨x, hx⟩ : ∃ x, x = s.Log[k] := ⟨_, rfl⟩
    have hxl : s.Log[k]? = some x := by rw [hx]; exact List.getElem?_eq_getElem hlt
    have hxm : x ∈ s.Log := by rw [hx]; exact List.getElem_mem hlt
    have hstep : Q3 s (k + 1) = Q3 s k ++ entryS x := by rw [hx]; exact Q3_s hlt
    have hqk := zq3 (k + 1) hlt
    rw [hstep, ByteArray.size_append] at hqk
    have hxn := t2 x hxm
    obtain ⟨ad, rfl, _, x0, x1, x2, x3, x4, x5, x6, x7, x8, x9⟩ := at_Entry s2 hxl
    repeat' ((conv => whnf); first | refine IdxK.mk _ rfl (by omega) (by omega) ?_ | refine LdK.mk _ (by assumption) ?_ | refine CallK.mk _ (l17PutEntry_a M x (by omega)) ?_ | fail)
    (conv => whnf)
    refine AppK.mk (by show (2 * ((Q3 s k).size + (entryS x).size) + 512) * 1 ≤ 281474976710656; omega) (by omega) (.inr rfl) (allOne_str _) (fun cap' hcap' => ?_)
    (conv => whnf)
    refine ⟨⟨(k + 1, cap'), hlt, by show (Q3 s (k + 1)).size ≤ cap'; rw [hstep, ByteArray.size_append]; exact hcap'⟩, 4, ⟨⟨rfl, congrArg (fun t => some (PV.s 4 t cap' 1)) (by rw [hstep, ByteArray.size_append]), look_int (i64_succ (by omega)), trivial⟩, ⟨?_, rfl, trivial⟩, rfl, rfl⟩, rfl, by simp only; omega⟩
    show some (Go.Lib.strCells (Q3 s k) ++ Go.Lib.strCells (entryS x)) = some (Go.Lib.strCells (Q3 s (k + 1)))
    rw [strC_app, hstep]
  have hke : k = s.Log.length := by have := of_decide_eq_false h1; omega
  subst hke
  have hqa := zq3 _ (Nat.le_refl _)
  have yv := varS_size (s.Chunks.length : Int)
  have yf := numS_size [s.Firm.Epoch, s.Firm.Seq]
  simp only [List.length_cons, List.length_nil] at yf
  have yt : (numS [s.Firm.Epoch, s.Firm.Seq] ++ varS (s.Chunks.length : Int)).size ≤ 100 := by rw [ByteArray.size_append]; omega
  repeat' ((conv => whnf); first | refine DrawN.t 9 (by kernel_rfl) ?_ | refine CallQ.mk _ (l17PutVer_a M s.Firm) ?_ | refine CallQ.mk _ (sPutVar_a M _) ?_ | refine Owe.mk (by omega) ?_ | refine AppK.mk (by show (2 * ((Q3 s s.Log.length).size + (numS [s.Firm.Epoch, s.Firm.Seq] ++ varS (s.Chunks.length : Int)).size) + 512) * 1 ≤ 281474976710656; omega) (by omega) (.inr rfl) (allOne_str _) (fun cap0 hcap1 => ?_) | fail)
  have hcap0 : (P4 s).size ≤ cap0 := by unfold P4; rw [ByteArray.size_append]; exact hcap1
  clear hcap1
  (conv => whnf)
  refine LoopK.sw 4 5 {q : Nat × Nat // q.1 ≤ s.Chunks.length ∧ (Q4 s q.1).size ≤ q.2} (fun ⟨⟨k, cap⟩, _⟩ => [(1, .p 0 0), (3, .s 4 (Q4 s k).size cap 1), (9, .v (.int .i64 (k : Int)))]) (fun ⟨⟨k, cap⟩, _⟩ => [(4, Go.Lib.strCells (Q4 s k)), (0, [.int .i64 s.Pg.Pool, .int .i64 s.Pg.No, .int .i64 s.Seen, .int .i64 s.Started, .int .i64 s.Tail.Epoch, .int .i64 s.Tail.Seq, .slice A0 s.Base.length c0, .slice A1 s.Clients.length c1, .slice A2 s.Log.length c2, .int .i64 s.Firm.Epoch, .int .i64 s.Firm.Seq, .slice A3 s.Chunks.length c3])]) (fun _ => M) (fun q => s.Chunks.length - q.1.1) ⟨(0, cap0), Nat.zero_le _, by rw [Q4_0]; exact hcap0⟩ 4 ⟨⟨⟨rfl, congrArg (fun t => some (PV.s 4 t cap0 1)) (by rw [Q4_0]; exact (ByteArray.size_append).symm), rfl, trivial⟩, ⟨congrArg some ((strC_app _ _).trans (congrArg Go.Lib.strCells (Q4_0 s).symm)), rfl, trivial⟩, rfl, rfl⟩, rfl⟩ ?_
  clear hcap0 cap0
  rintro ⟨⟨k, cap⟩, hk, hc⟩
  replace hk : k ≤ s.Chunks.length := hk
  replace hc : (Q4 s k).size ≤ cap := hc
  (conv => whnf)
  refine CondK.mk (fun h1 => ?_) (fun h1 => ?_)
  · have hlt : k < s.Chunks.length := by have := of_decide_eq_true h1; omega
    obtain ⟨x, hx⟩ : ∃ x, x = s.Chunks[k] := ⟨_, rfl⟩
    have hxl : s.Chunks[k]? = some x := by rw [hx]; exact List.getElem?_eq_getElem hlt
    have hxm : x ∈ s.Chunks := by rw [hx]; exact List.getElem_mem hlt
    have hstep : Q4 s (k + 1) = Q4 s k ++ chunkS x := by rw [hx]; exact Q4_s hlt
    have hqk := zq4 (k + 1) hlt
    rw [hstep, ByteArray.size_append] at hqk
    have hxn := t3 x hxm
    obtain ⟨ad, rfl, _, x0, x1, x2, x3, x4, x5⟩ := at_Chunk s3 hxl
    repeat' ((conv => whnf); first | refine IdxK.mk _ rfl (by omega) (by omega) ?_ | refine LdK.mk _ (by assumption) ?_ | refine CallK.mk _ (l17PutChunk_a M x (by omega) (by omega)) ?_ | fail)
    (conv => whnf)
    refine AppK.mk (by show (2 * ((Q4 s k).size + (chunkS x).size) + 512) * 1 ≤ 281474976710656; omega) (by omega) (.inr rfl) (allOne_str _) (fun cap' hcap' => ?_)
    (conv => whnf)
    refine ⟨⟨(k + 1, cap'), hlt, by show (Q4 s (k + 1)).size ≤ cap'; rw [hstep, ByteArray.size_append]; exact hcap'⟩, 5, ⟨⟨rfl, congrArg (fun t => some (PV.s 5 t cap' 1)) (by rw [hstep, ByteArray.size_append]), look_int (i64_succ (by omega)), trivial⟩, ⟨?_, rfl, trivial⟩, rfl, rfl⟩, rfl, by simp only; omega⟩
    show some (Go.Lib.strCells (Q4 s k) ++ Go.Lib.strCells (chunkS x)) = some (Go.Lib.strCells (Q4 s (k + 1)))
    rw [strC_app, hstep]
  have hke : k = s.Chunks.length := by have := of_decide_eq_false h1; omega
  subst hke
  have hqa := zq4 _ (Nat.le_refl _)
  (conv => whnf)
  refine StrK.mk _ (bytesL_str _) ?_
  (conv => whnf)
  refine congrArg Value.string ?_
  rw [strBack]
  exact Q4_state s
end Go.Proofs.YthpnmempecelaaaGreat.Hlp
