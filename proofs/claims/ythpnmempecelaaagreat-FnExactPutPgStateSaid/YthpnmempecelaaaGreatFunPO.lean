/- A state in bytes: the program's side. -/
import Derived.Test.YthpnmempecelaaaGreatFunPN
import Derived.Test.YthpnmempecelaaaGreatHlpD
namespace Go.Proofs.YthpnmempecelaaaGreat.Hlp
open Go Go.RowKit Go.Proofs Go.Proofs.YthpnmempecelaaaGreat.Lw Go.Proofs.YthpnmempecelaaaGreat.Bld
set_option linter.unusedVariables false
set_option linter.unusedSimpArgs false
set_option maxRecDepth 100000
set_option maxHeartbeats 4000000
theorem numS_size (ns : List Int) : (numS ns).size ≤ 9 * ns.length := by
  have : (numS ns).size = (bytesN ns).length := by simp [numS, ByteArray.size]
  rw [this]
  exact bytesN_len ns
theorem ints_at {M : Mem} {ad : Addr} {ns : List Int} (h : ∀ (o : Nat) (u : Value), (ns.map (Value.int .i64))[o]? = some u → M (ad.add o) = some u) : ∀ j x, ns[j]? = some x → M (ad.add j) = some (.int .i64 x) := fun j x hx => h j _ (by rw [List.getElem?_map, hx]; rfl)
def headS (x : GHead) : ByteArray := txtS x.Name ++ numS [x.Ver.Epoch, x.Ver.Seq, x.Size, x.Sum]
def lastS (x : GLast) : ByteArray := numS [x.Client, x.No, x.Ver.Epoch, x.Ver.Seq]
def tI (b : Bool) : Int := if b then 1 else 0
def entryS (e : GEntry) : ByteArray := numS [e.Ver.Epoch, e.Ver.Seq] ++ txtS e.Name ++ numS [tI e.Gone, e.Size, e.Sum, e.Req.Client, e.Req.No]
def chunkS (c : GChunk) : ByteArray := txtS c.Name ++ numS [c.Ver.Epoch, c.Ver.Seq, c.Pos, c.Sum] ++ txtS c.Bytes
theorem txtS_size (s : ByteArray) : (txtS s).size ≤ 9 + s.size := by
  have := varS_size (s.size : Int)
  unfold txtS
  rw [ByteArray.size_append]
  omega
theorem truthInt_a (M : Mem) (b : Bool) : Ans Tryz.prog M 96 #[.bool b] (.int .i64 (tI b)) := by
  refine ans_of T (l := [.bool b]) mixed Tryz.func96 rfl (by kernel_rfl) (Nat.le_of_ble_eq_true rfl) ?_
  cases b
  all_goals repeat' ((conv => whnf); first | with_reducible refine CondK.tt ?_ | with_reducible refine CondK.ff ?_ | fail)
  all_goals ((conv => whnf); exact rfl)
theorem putHead_a (M : Mem) (x : GHead) (hb : x.Name.size ≤ 2097152) : Ans Tryz.prog M 60 #[.agg (List.toArray [.string x.Name, .int .i64 x.Ver.Epoch, .int .i64 x.Ver.Seq, .int .i64 x.Size, .int .i64 x.Sum])] (.string (headS x)) := by
  refine ans_of T (l := [.agg (List.toArray [.string x.Name, .int .i64 x.Ver.Epoch, .int .i64 x.Ver.Seq, .int .i64 x.Size, .int .i64 x.Sum])]) mixed Tryz.func60 rfl (by kernel_rfl) (Nat.le_of_ble_eq_true rfl) ?_
  have h1 := txtS_size x.Name
  have h2 := numS_size [x.Ver.Epoch, x.Ver.Seq, x.Size, x.Sum]
  simp only [List.length_cons, List.length_nil] at h2
  (conv => whnf)
  refine DrawN.c Mem (fun _ => [(2, .v (.string (headS x)))]) (fun _ => []) 20 (fun N => N) (by kernel_rfl) ?_ ?_
  · repeat' ((conv => whnf); first | refine AndK.mk ?_ ?_ | refine HeldK.mk (by kernel_rfl) ?_ | refine CallQ.mk _ (putText_a _ x.Name (by omega)) ?_ | refine (PubK.mk fun ad M1 hl1 hc1 => ?_) | refine CallK.mk _ (putNumbers_a _ [x.Ver.Epoch, x.Ver.Seq, x.Size, x.Sum] ad 4 (ints_at hc1) (by simp)) ?_ | refine Owe.mk (by omega) ?_ | fail)
    all_goals exact ⟨_, ⟨⟨rfl, trivial⟩, trivial, rfl, rfl⟩, rfl⟩
  · intro N
    (conv => whnf)
    exact rfl
theorem putLast_a (M : Mem) (x : GLast) : Ans Tryz.prog M 62 #[.agg (List.toArray [.int .i64 x.Client, .int .i64 x.No, .int .i64 x.Ver.Epoch, .int .i64 x.Ver.Seq])] (.string (lastS x)) := by
  refine ans_of T (l := [.agg (List.toArray [.int .i64 x.Client, .int .i64 x.No, .int .i64 x.Ver.Epoch, .int .i64 x.Ver.Seq])]) mixed Tryz.func62 rfl (by kernel_rfl) (Nat.le_of_ble_eq_true rfl) ?_
  (conv => whnf)
  refine PubK.mk fun ad M1 hl1 hc1 => ?_
  repeat' ((conv => whnf); first | refine CallK.mk _ (putNumbers_a M1 [x.Client, x.No, x.Ver.Epoch, x.Ver.Seq] ad 4 (ints_at hc1) (by simp)) ?_ | fail)
  (conv => whnf)
  exact rfl
theorem putLogEntry_a (M : Mem) (e : GEntry) (hb : e.Name.size ≤ 2097152) : Ans Tryz.prog M 64 #[.agg (List.toArray [.int .i64 e.Ver.Epoch, .int .i64 e.Ver.Seq, .int .i64 e.Prior.Epoch, .int .i64 e.Prior.Seq, .string e.Name, .bool e.Gone, .int .i64 e.Size, .int .i64 e.Sum, .int .i64 e.Req.Client, .int .i64 e.Req.No])] (.string (entryS e)) := by
  refine ans_of T (l := [.agg (List.toArray [.int .i64 e.Ver.Epoch, .int .i64 e.Ver.Seq, .int .i64 e.Prior.Epoch, .int .i64 e.Prior.Seq, .string e.Name, .bool e.Gone, .int .i64 e.Size, .int .i64 e.Sum, .int .i64 e.Req.Client, .int .i64 e.Req.No])]) mixed Tryz.func64 rfl (by kernel_rfl) (Nat.le_of_ble_eq_true rfl) ?_
  have h1 := txtS_size e.Name
  have h2 := numS_size [e.Ver.Epoch, e.Ver.Seq]
  have h3 := numS_size [tI e.Gone, e.Size, e.Sum, e.Req.Client, e.Req.No]
  simp only [List.length_cons, List.length_nil] at h2 h3
  (conv => whnf)
  refine DrawN.c Mem (fun _ => [(2, .v (.string (entryS e)))]) (fun _ => []) 20 (fun N => N) (by kernel_rfl) ?_ ?_
  · repeat' ((conv => whnf); first | refine AndK.mk ?_ ?_ | refine HeldK.mk (by kernel_rfl) ?_ | refine CallQ.mk _ (putText_a _ e.Name (by omega)) ?_ | refine CallQ.mk _ (truthInt_a _ e.Gone) ?_ | refine (PubK.mk fun ad M1 hl1 hc1 => ?_) | refine CallK.mk _ (putNumbers_a _ [e.Ver.Epoch, e.Ver.Seq] ad 2 (ints_at hc1) (by simp)) ?_ | refine CallK.mk _ (putNumbers_a _ [tI e.Gone, e.Size, e.Sum, e.Req.Client, e.Req.No] ad 5 (ints_at hc1) (by simp)) ?_ | refine Owe.mk (by omega) ?_ | refine Owe.mk (by rw [ByteArray.size_append]; omega) ?_ | fail)
    all_goals exact ⟨_, ⟨⟨rfl, trivial⟩, trivial, rfl, rfl⟩, rfl⟩
  · intro N
    (conv => whnf)
    exact rfl
theorem putChunk_a (M : Mem) (c : GChunk) (hb : c.Name.size ≤ 1048576) (hb2 : c.Bytes.size ≤ 1048576) : Ans Tryz.prog M 66 #[.agg (List.toArray [.string c.Name, .int .i64 c.Ver.Epoch, .int .i64 c.Ver.Seq, .int .i64 c.Pos, .int .i64 c.Sum, .string c.Bytes])] (.string (chunkS c)) := by
  refine ans_of T (l := [.agg (List.toArray [.string c.Name, .int .i64 c.Ver.Epoch, .int .i64 c.Ver.Seq, .int .i64 c.Pos, .int .i64 c.Sum, .string c.Bytes])]) mixed Tryz.func66 rfl (by kernel_rfl) (Nat.le_of_ble_eq_true rfl) ?_
  have h1 := txtS_size c.Name
  have h2 := numS_size [c.Ver.Epoch, c.Ver.Seq, c.Pos, c.Sum]
  have h3 := txtS_size c.Bytes
  simp only [List.length_cons, List.length_nil] at h2
  (conv => whnf)
  refine DrawN.c Mem (fun _ => [(2, .v (.string (chunkS c)))]) (fun _ => []) 20 (fun N => N) (by kernel_rfl) ?_ ?_
  · repeat' ((conv => whnf); first | refine AndK.mk ?_ ?_ | refine HeldK.mk (by kernel_rfl) ?_ | refine CallQ.mk _ (putText_a _ c.Name (by omega)) ?_ | refine CallQ.mk _ (putText_a _ c.Bytes (by omega)) ?_ | refine (PubK.mk fun ad M1 hl1 hc1 => ?_) | refine CallK.mk _ (putNumbers_a _ [c.Ver.Epoch, c.Ver.Seq, c.Pos, c.Sum] ad 4 (ints_at hc1) (by simp)) ?_ | refine Owe.mk (by omega) ?_ | refine Owe.mk (by rw [ByteArray.size_append]; omega) ?_ | fail)
    all_goals exact ⟨_, ⟨⟨rfl, trivial⟩, trivial, rfl, rfl⟩, rfl⟩
  · intro N
    (conv => whnf)
    exact rfl
theorem headS_size {x : GHead} (h : x.Name.size ≤ 1048576) : (headS x).size ≤ 4194304 := by
  have h1 := txtS_size x.Name
  have h2 := numS_size [x.Ver.Epoch, x.Ver.Seq, x.Size, x.Sum]
  simp only [List.length_cons, List.length_nil] at h2
  unfold headS
  rw [ByteArray.size_append]
  omega
theorem lastS_size (x : GLast) : (lastS x).size ≤ 4194304 := by
  have h2 := numS_size [x.Client, x.No, x.Ver.Epoch, x.Ver.Seq]
  simp only [List.length_cons, List.length_nil] at h2
  unfold lastS
  omega
theorem entryS_size {e : GEntry} (h : e.Name.size ≤ 1048576) : (entryS e).size ≤ 4194304 := by
  have h1 := txtS_size e.Name
  have h2 := numS_size [e.Ver.Epoch, e.Ver.Seq]
  have h3 := numS_size [tI e.Gone, e.Size, e.Sum, e.Req.Client, e.Req.No]
  simp only [List.length_cons, List.length_nil] at h2 h3
  unfold entryS
  rw [ByteArray.size_append, ByteArray.size_append]
  omega
theorem chunkS_size {c : GChunk} (h : c.Name.size ≤ 1048576) (h' : c.Bytes.size ≤ 1048576) : (chunkS c).size ≤ 4194304 := by
  have h1 := txtS_size c.Name
  have h2 := numS_size [c.Ver.Epoch, c.Ver.Seq, c.Pos, c.Sum]
  have h3 := txtS_size c.Bytes
  simp only [List.length_cons, List.length_nil] at h2
  unfold chunkS
  rw [ByteArray.size_append, ByteArray.size_append]
  omega
theorem listS_size {α : Type} {g : α → ByteArray} {l : List α} (h : ∀ x ∈ l, (g x).size ≤ 4194304) : (listS g l).size ≤ 4194304 * l.length + 9 := by
  have h1 := bytesT_len h
  have h2 := varS_size (l.length : Int)
  have e : (varS (l.length : Int)).data.toList.length = (varS (l.length : Int)).size := Array.length_toList
  have : (listS g l).size = ((varS (l.length : Int)).data.toList ++ bytesT g l).length := by simp only [listS, ByteArray.size, List.size_toArray]
  rw [this, List.length_append]
  omega
/-- What a state that is put needs: its lists and texts are short. -/
structure Short (s : GPgState) : Prop where
  n0 : s.Base.length ≤ 160
  n1 : s.Clients.length ≤ 160
  n2 : s.Log.length ≤ 160
  n3 : s.Chunks.length ≤ 160
  t0 : ∀ x ∈ s.Base, x.Name.size ≤ 1048576
  t2 : ∀ x ∈ s.Log, x.Name.size ≤ 1048576
  t3 : ∀ x ∈ s.Chunks, x.Name.size ≤ 1048576 ∧ x.Bytes.size ≤ 1048576
def stateS (s : GPgState) : ByteArray := numS [s.Pg.Pool, s.Pg.No, s.Seen, s.Started, s.Tail.Epoch, s.Tail.Seq] ++ listS headS s.Base ++ listS lastS s.Clients ++ listS entryS s.Log ++ numS [s.Firm.Epoch, s.Firm.Seq] ++ listS chunkS s.Chunks
theorem ans_up {P : Program} {M M1 : Mem} {f : FuncId} {args : Array Value} {u : Value} (h : Ans P M f args u) (hl : Le M M1) : Ans P M1 f args u := ⟨h.1, fun w hw => h.2 w (fun ad v hv => hw _ _ (hl _ _ hv))⟩
theorem put_a (M : Mem) (s : GPgState) (cs : List Value) (h : RPgState M s cs) (hs : Short s) : Ans Tryz.prog M 22 #[.agg cs.toArray] (.string (stateS s)) := by
  obtain ⟨A0, c0, A1, c1, A2, c2, A3, c3, rfl, hb, s0, s1, s2, s3⟩ := h
  obtain ⟨n0, n1, n2, n3, t0, t2, t3⟩ := hs
  refine ans_of T (l := [.agg (List.toArray _)]) mixed Tryz.func22 rfl (by kernel_rfl) (Nat.le_of_ble_eq_true rfl) ?_
  have z1 := numS_size [s.Pg.Pool, s.Pg.No, s.Seen, s.Started, s.Tail.Epoch, s.Tail.Seq]
  have z2 := numS_size [s.Firm.Epoch, s.Firm.Seq]
  simp only [List.length_cons, List.length_nil] at z1 z2
  have y0 := listS_size (g := headS) (l := s.Base) (fun x hx => headS_size (t0 x hx))
  have y1 := listS_size (g := lastS) (l := s.Clients) (fun x (_ : x ∈ s.Clients) => lastS_size x)
  have y2 := listS_size (g := entryS) (l := s.Log) (fun x hx => entryS_size (t2 x hx))
  have y3 := listS_size (g := chunkS) (l := s.Chunks) (fun x hx => chunkS_size (t3 x hx).1 (t3 x hx).2)
  have hle : Le M M := Le.refl M
  have g0 := putHeadS_a M s.Base headS A0 c0 s0 (by omega) (fun x hx => headS_size (t0 x hx)) (fun x hx => putHead_a _ x (by have := t0 x hx; omega))
  have g1 := putLastS_a M s.Clients lastS A1 c1 s1 (by omega) (fun x hx => lastS_size x) (fun x hx => putLast_a _ x)
  have g2 := putEntryS_a M s.Log entryS A2 c2 s2 (by omega) (fun x hx => entryS_size (t2 x hx)) (fun x hx => putLogEntry_a _ x (by have := t2 x hx; omega))
  have g3 := putChunkS_a M s.Chunks chunkS A3 c3 s3 (by omega) (fun x hx => chunkS_size (t3 x hx).1 (t3 x hx).2) (fun x hx => putChunk_a _ x (t3 x hx).1 (t3 x hx).2)
  (conv => whnf)
  refine DrawN.c Mem (fun _ => [(2, .v (.string (stateS s)))]) (fun _ => []) 20 (fun N => N) (by kernel_rfl) ?_ ?_
  · repeat' ((conv => whnf); first | refine AndK.mk ?_ ?_ | refine HeldK.mk (by kernel_rfl) ?_ | refine CallQ.mk _ (ans_up g0 hle) ?_ | refine CallQ.mk _ (ans_up g1 hle) ?_ | refine CallQ.mk _ (ans_up g2 hle) ?_ | refine CallQ.mk _ (ans_up g3 hle) ?_ | (refine (PubK.mk fun ad M1 hl1 hc1 => ?_); replace hle := hle.trans hl1) | refine CallK.mk _ (putNumbers_a _ [s.Pg.Pool, s.Pg.No, s.Seen, s.Started, s.Tail.Epoch, s.Tail.Seq] ad 6 (ints_at hc1) (by simp)) ?_ | refine CallK.mk _ (putNumbers_a _ [s.Firm.Epoch, s.Firm.Seq] ad 2 (ints_at hc1) (by simp)) ?_ | refine Owe.mk (by simp only [ByteArray.size_append]; omega) ?_ | refine Owe.mk (by omega) ?_ | fail)
    all_goals exact ⟨_, ⟨⟨rfl, trivial⟩, trivial, rfl, rfl⟩, rfl⟩
  · intro N
    (conv => whnf)
    exact rfl
end Go.Proofs.YthpnmempecelaaaGreat.Hlp
