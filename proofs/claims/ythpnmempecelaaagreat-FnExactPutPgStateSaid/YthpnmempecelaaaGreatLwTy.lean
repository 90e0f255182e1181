/- The types of the program's data, and how they lie in memory. -/
import Derived.Test.YthpnmempecelaaaGreatLwRep
namespace Go.Proofs.YthpnmempecelaaaGreat.Lw
open Go Go.RowKit
set_option linter.unusedVariables false
def RInt (M : Mem) (x : Int) (cs : List Value) : Prop := cs = [.int .i64 x]
def RStr (M : Mem) (x : ByteArray) (cs : List Value) : Prop := cs = [.string x] ∧ x.size ≤ 9223372036854775807
theorem RInt.mono {M M' : Mem} (hl : Le M M') (x : Int) (cs : List Value) (h : RInt M x cs) : RInt M' x cs := h
theorem RStr.mono {M M' : Mem} (hl : Le M M') (x : ByteArray) (cs : List Value) (h : RStr M x cs) : RStr M' x cs := h
theorem at_Int {M : Mem} {A : Option Addr} {c : Nat} {l : List Int} {by_ : Nat} (h : SlR M RInt 1 by_ A c l) {i : Nat} {x : Int} (hx : l[i]? = some x) : ∃ ad, A = some ad ∧ True ∧ M ((ad.add (i * 1)).add 0) = some (.int .i64 x) := by
  obtain ⟨ad, cs, h1, rfl, h3, h4⟩ := h.el i x hx
  exact ⟨ad, h1, trivial, h4 0 _ rfl⟩
theorem at_Str {M : Mem} {A : Option Addr} {c : Nat} {l : List ByteArray} {by_ : Nat} (h : SlR M RStr 1 by_ A c l) {i : Nat} {x : ByteArray} (hx : l[i]? = some x) : ∃ ad, A = some ad ∧ x.size ≤ 9223372036854775807 ∧ M ((ad.add (i * 1)).add 0) = some (.string x) := by
  obtain ⟨ad, cs, h1, ⟨rfl, hb⟩, h3, h4⟩ := h.el i x hx
  exact ⟨ad, h1, hb, h4 0 _ rfl⟩
structure GPg where
  Pool : Int
  No : Int
  deriving DecidableEq
theorem eqv_Pg (x y : GPg) : ((x.Pool == y.Pool) && ((x.No == y.No) && true)) = decide (x = y) := by
  (try rw [ba_eq]); (try rw [ba_eq])
  rw [Bool.eq_iff_iff]
  cases x; cases y
  simp
def RPg (M : Mem) (x : GPg) (cs : List Value) : Prop := cs = [.int .i64 x.Pool, .int .i64 x.No] ∧ True
theorem RPg.mono {M M' : Mem} (hl : Le M M') (x : GPg) (cs : List Value) (h : RPg M x cs) : RPg M' x cs := h
theorem at_Pg {M : Mem} {A : Option Addr} {c : Nat} {l : List GPg} {by_ : Nat} (h : SlR M RPg 2 by_ A c l) {i : Nat} {x : GPg} (hx : l[i]? = some x) : ∃ ad, A = some ad ∧ (True) ∧ M ((ad.add (i * 2)).add 0) = some (.int .i64 x.Pool) ∧ M ((ad.add (i * 2)).add 1) = some (.int .i64 x.No) := by
  obtain ⟨ad, cs, h1, ⟨rfl, hb⟩, h3, h4⟩ := h.el i x hx
  exact ⟨ad, h1, hb, h4 0 _ rfl, h4 1 _ rfl⟩
structure GVer where
  Epoch : Int
  Seq : Int
  deriving DecidableEq
theorem eqv_Ver (x y : GVer) : ((x.Epoch == y.Epoch) && ((x.Seq == y.Seq) && true)) = decide (x = y) := by
  (try rw [ba_eq]); (try rw [ba_eq])
  rw [Bool.eq_iff_iff]
  cases x; cases y
  simp
def RVer (M : Mem) (x : GVer) (cs : List Value) : Prop := cs = [.int .i64 x.Epoch, .int .i64 x.Seq] ∧ True
theorem RVer.mono {M M' : Mem} (hl : Le M M') (x : GVer) (cs : List Value) (h : RVer M x cs) : RVer M' x cs := h
theorem at_Ver {M : Mem} {A : Option Addr} {c : Nat} {l : List GVer} {by_ : Nat} (h : SlR M RVer 2 by_ A c l) {i : Nat} {x : GVer} (hx : l[i]? = some x) : ∃ ad, A = some ad ∧ (True) ∧ M ((ad.add (i * 2)).add 0) = some (.int .i64 x.Epoch) ∧ M ((ad.add (i * 2)).add 1) = some (.int .i64 x.Seq) := by
  obtain ⟨ad, cs, h1, ⟨rfl, hb⟩, h3, h4⟩ := h.el i x hx
  exact ⟨ad, h1, hb, h4 0 _ rfl, h4 1 _ rfl⟩
structure GHead where
  Name : ByteArray
  Ver : GVer
  Size : Int
  Sum : Int
  deriving DecidableEq
theorem eqv_Head (x y : GHead) : ((x.Name.toList == y.Name.toList) && (((x.Ver.Epoch == y.Ver.Epoch) && ((x.Ver.Seq == y.Ver.Seq) && true)) && ((x.Size == y.Size) && ((x.Sum == y.Sum) && true)))) = decide (x = y) := by
  rw [eqv_Ver]
  (try rw [ba_eq]); (try rw [ba_eq])
  rw [Bool.eq_iff_iff]
  cases x; cases y
  simp
def RHead (M : Mem) (x : GHead) (cs : List Value) : Prop := cs = [.string x.Name, .int .i64 x.Ver.Epoch, .int .i64 x.Ver.Seq, .int .i64 x.Size, .int .i64 x.Sum] ∧ x.Name.size ≤ 9223372036854775807
theorem RHead.mono {M M' : Mem} (hl : Le M M') (x : GHead) (cs : List Value) (h : RHead M x cs) : RHead M' x cs := h
theorem at_Head {M : Mem} {A : Option Addr} {c : Nat} {l : List GHead} {by_ : Nat} (h : SlR M RHead 5 by_ A c l) {i : Nat} {x : GHead} (hx : l[i]? = some x) : ∃ ad, A = some ad ∧ (x.Name.size ≤ 9223372036854775807) ∧ M ((ad.add (i * 5)).add 0) = some (.string x.Name) ∧ M ((ad.add (i * 5)).add 1) = some (.int .i64 x.Ver.Epoch) ∧ M ((ad.add (i * 5)).add 2) = some (.int .i64 x.Ver.Seq) ∧ M ((ad.add (i * 5)).add 3) = some (.int .i64 x.Size) ∧ M ((ad.add (i * 5)).add 4) = some (.int .i64 x.Sum) := by
  obtain ⟨ad, cs, h1, ⟨rfl, hb⟩, h3, h4⟩ := h.el i x hx
  exact ⟨ad, h1, hb, h4 0 _ rfl, h4 1 _ rfl, h4 2 _ rfl, h4 3 _ rfl, h4 4 _ rfl⟩
structure GLast where
  Client : Int
  No : Int
  Ver : GVer
  deriving DecidableEq
theorem eqv_Last (x y : GLast) : ((x.Client == y.Client) && ((x.No == y.No) && (((x.Ver.Epoch == y.Ver.Epoch) && ((x.Ver.Seq == y.Ver.Seq) && true)) && true))) = decide (x = y) := by
  rw [eqv_Ver]
  (try rw [ba_eq]); (try rw [ba_eq])
  rw [Bool.eq_iff_iff]
  cases x; cases y
  simp
def RLast (M : Mem) (x : GLast) (cs : List Value) : Prop := cs = [.int .i64 x.Client, .int .i64 x.No, .int .i64 x.Ver.Epoch, .int .i64 x.Ver.Seq] ∧ True
theorem RLast.mono {M M' : Mem} (hl : Le M M') (x : GLast) (cs : List Value) (h : RLast M x cs) : RLast M' x cs := h
theorem at_Last {M : Mem} {A : Option Addr} {c : Nat} {l : List GLast} {by_ : Nat} (h : SlR M RLast 4 by_ A c l) {i : Nat} {x : GLast} (hx : l[i]? = some x) : ∃ ad, A = some ad ∧ (True) ∧ M ((ad.add (i * 4)).add 0) = some (.int .i64 x.Client) ∧ M ((ad.add (i * 4)).add 1) = some (.int .i64 x.No) ∧ M ((ad.add (i * 4)).add 2) = some (.int .i64 x.Ver.Epoch) ∧ M ((ad.add (i * 4)).add 3) = some (.int .i64 x.Ver.Seq) := by
  obtain ⟨ad, cs, h1, ⟨rfl, hb⟩, h3, h4⟩ := h.el i x hx
  exact ⟨ad, h1, hb, h4 0 _ rfl, h4 1 _ rfl, h4 2 _ rfl, h4 3 _ rfl⟩
structure GReq where
  Client : Int
  No : Int
  deriving DecidableEq
theorem eqv_Req (x y : GReq) : ((x.Client == y.Client) && ((x.No == y.No) && true)) = decide (x = y) := by
  (try rw [ba_eq]); (try rw [ba_eq])
  rw [Bool.eq_iff_iff]
  cases x; cases y
  simp
def RReq (M : Mem) (x : GReq) (cs : List Value) : Prop := cs = [.int .i64 x.Client, .int .i64 x.No] ∧ True
theorem RReq.mono {M M' : Mem} (hl : Le M M') (x : GReq) (cs : List Value) (h : RReq M x cs) : RReq M' x cs := h
theorem at_Req {M : Mem} {A : Option Addr} {c : Nat} {l : List GReq} {by_ : Nat} (h : SlR M RReq 2 by_ A c l) {i : Nat} {x : GReq} (hx : l[i]? = some x) : ∃ ad, A = some ad ∧ (True) ∧ M ((ad.add (i * 2)).add 0) = some (.int .i64 x.Client) ∧ M ((ad.add (i * 2)).add 1) = some (.int .i64 x.No) := by
  obtain ⟨ad, cs, h1, ⟨rfl, hb⟩, h3, h4⟩ := h.el i x hx
  exact ⟨ad, h1, hb, h4 0 _ rfl, h4 1 _ rfl⟩
structure GEntry where
  Ver : GVer
  Prior : GVer
  Name : ByteArray
  Gone : Bool
  Size : Int
  Sum : Int
  Req : GReq
  deriving DecidableEq
theorem eqv_Entry (x y : GEntry) : (((x.Ver.Epoch == y.Ver.Epoch) && ((x.Ver.Seq == y.Ver.Seq) && true)) && (((x.Prior.Epoch == y.Prior.Epoch) && ((x.Prior.Seq == y.Prior.Seq) && true)) && ((x.Name.toList == y.Name.toList) && ((x.Gone == y.Gone) && ((x.Size == y.Size) && ((x.Sum == y.Sum) && (((x.Req.Client == y.Req.Client) && ((x.Req.No == y.Req.No) && true)) && true))))))) = decide (x = y) := by
  rw [eqv_Ver]
  rw [eqv_Ver]
  rw [eqv_Req]
  (try rw [ba_eq]); (try rw [ba_eq])
  rw [Bool.eq_iff_iff]
  cases x; cases y
  simp
def REntry (M : Mem) (x : GEntry) (cs : List Value) : Prop := cs = [.int .i64 x.Ver.Epoch, .int .i64 x.Ver.Seq, .int .i64 x.Prior.Epoch, .int .i64 x.Prior.Seq, .string x.Name, .bool x.Gone, .int .i64 x.Size, .int .i64 x.Sum, .int .i64 x.Req.Client, .int .i64 x.Req.No] ∧ x.Name.size ≤ 9223372036854775807
theorem REntry.mono {M M' : Mem} (hl : Le M M') (x : GEntry) (cs : List Value) (h : REntry M x cs) : REntry M' x cs := h
theorem at_Entry {M : Mem} {A : Option Addr} {c : Nat} {l : List GEntry} {by_ : Nat} (h : SlR M REntry 10 by_ A c l) {i : Nat} {x : GEntry} (hx : l[i]? = some x) : ∃ ad, A = some ad ∧ (x.Name.size ≤ 9223372036854775807) ∧ M ((ad.add (i * 10)).add 0) = some (.int .i64 x.Ver.Epoch) ∧ M ((ad.add (i * 10)).add 1) = some (.int .i64 x.Ver.Seq) ∧ M ((ad.add (i * 10)).add 2) = some (.int .i64 x.Prior.Epoch) ∧ M ((ad.add (i * 10)).add 3) = some (.int .i64 x.Prior.Seq) ∧ M ((ad.add (i * 10)).add 4) = some (.string x.Name) ∧ M ((ad.add (i * 10)).add 5) = some (.bool x.Gone) ∧ M ((ad.add (i * 10)).add 6) = some (.int .i64 x.Size) ∧ M ((ad.add (i * 10)).add 7) = some (.int .i64 x.Sum) ∧ M ((ad.add (i * 10)).add 8) = some (.int .i64 x.Req.Client) ∧ M ((ad.add (i * 10)).add 9) = some (.int .i64 x.Req.No) := by
  obtain ⟨ad, cs, h1, ⟨rfl, hb⟩, h3, h4⟩ := h.el i x hx
  exact ⟨ad, h1, hb, h4 0 _ rfl, h4 1 _ rfl, h4 2 _ rfl, h4 3 _ rfl, h4 4 _ rfl, h4 5 _ rfl, h4 6 _ rfl, h4 7 _ rfl, h4 8 _ rfl, h4 9 _ rfl⟩
structure GChunk where
  Name : ByteArray
  Ver : GVer
  Pos : Int
  Sum : Int
  Bytes : ByteArray
  deriving DecidableEq
theorem eqv_Chunk (x y : GChunk) : ((x.Name.toList == y.Name.toList) && (((x.Ver.Epoch == y.Ver.Epoch) && ((x.Ver.Seq == y.Ver.Seq) && true)) && ((x.Pos == y.Pos) && ((x.Sum == y.Sum) && ((x.Bytes.toList == y.Bytes.toList) && true))))) = decide (x = y) := by
  rw [eqv_Ver]
  (try rw [ba_eq]); (try rw [ba_eq])
  rw [Bool.eq_iff_iff]
  cases x; cases y
  simp
def RChunk (M : Mem) (x : GChunk) (cs : List Value) : Prop := cs = [.string x.Name, .int .i64 x.Ver.Epoch, .int .i64 x.Ver.Seq, .int .i64 x.Pos, .int .i64 x.Sum, .string x.Bytes] ∧ x.Name.size ≤ 9223372036854775807 ∧ x.Bytes.size ≤ 9223372036854775807
theorem RChunk.mono {M M' : Mem} (hl : Le M M') (x : GChunk) (cs : List Value) (h : RChunk M x cs) : RChunk M' x cs := h
theorem at_Chunk {M : Mem} {A : Option Addr} {c : Nat} {l : List GChunk} {by_ : Nat} (h : SlR M RChunk 6 by_ A c l) {i : Nat} {x : GChunk} (hx : l[i]? = some x) : ∃ ad, A = some ad ∧ (x.Name.size ≤ 9223372036854775807 ∧ x.Bytes.size ≤ 9223372036854775807) ∧ M ((ad.add (i * 6)).add 0) = some (.string x.Name) ∧ M ((ad.add (i * 6)).add 1) = some (.int .i64 x.Ver.Epoch) ∧ M ((ad.add (i * 6)).add 2) = some (.int .i64 x.Ver.Seq) ∧ M ((ad.add (i * 6)).add 3) = some (.int .i64 x.Pos) ∧ M ((ad.add (i * 6)).add 4) = some (.int .i64 x.Sum) ∧ M ((ad.add (i * 6)).add 5) = some (.string x.Bytes) := by
  obtain ⟨ad, cs, h1, ⟨rfl, hb⟩, h3, h4⟩ := h.el i x hx
  exact ⟨ad, h1, hb, h4 0 _ rfl, h4 1 _ rfl, h4 2 _ rfl, h4 3 _ rfl, h4 4 _ rfl, h4 5 _ rfl⟩
structure GPgState where
  Pg : GPg
  Seen : Int
  Started : Int
  Tail : GVer
  Base : List GHead
  Clients : List GLast
  Log : List GEntry
  Firm : GVer
  Chunks : List GChunk
  deriving DecidableEq
def RPgState (M : Mem) (x : GPgState) (cs : List Value) : Prop := ∃ A0 c0 A1 c1 A2 c2 A3 c3, cs = [.int .i64 x.Pg.Pool, .int .i64 x.Pg.No, .int .i64 x.Seen, .int .i64 x.Started, .int .i64 x.Tail.Epoch, .int .i64 x.Tail.Seq, .slice A0 x.Base.length c0, .slice A1 x.Clients.length c1, .slice A2 x.Log.length c2, .int .i64 x.Firm.Epoch, .int .i64 x.Firm.Seq, .slice A3 x.Chunks.length c3] ∧ (True) ∧ SlR M RHead 5 48 A0 c0 x.Base ∧ SlR M RLast 4 32 A1 c1 x.Clients ∧ SlR M REntry 10 88 A2 c2 x.Log ∧ SlR M RChunk 6 64 A3 c3 x.Chunks
theorem RPgState.mono {M M' : Mem} (hl : Le M M') (x : GPgState) (cs : List Value) (h : RPgState M x cs) : RPgState M' x cs := by
  obtain ⟨A0, c0, A1, c1, A2, c2, A3, c3, h, hb, s0, s1, s2, s3⟩ := h
  exact ⟨A0, c0, A1, c1, A2, c2, A3, c3, h, hb, s0.mono hl (RHead.mono hl), s1.mono hl (RLast.mono hl), s2.mono hl (REntry.mono hl), s3.mono hl (RChunk.mono hl)⟩
theorem at_PgState {M : Mem} {A : Option Addr} {c : Nat} {l : List GPgState} {by_ : Nat} (h : SlR M RPgState 12 by_ A c l) {i : Nat} {x : GPgState} (hx : l[i]? = some x) : ∃ ad, A = some ad ∧ ∃ A0 c0 A1 c1 A2 c2 A3 c3, (True) ∧ (SlR M RHead 5 48 A0 c0 x.Base ∧ SlR M RLast 4 32 A1 c1 x.Clients ∧ SlR M REntry 10 88 A2 c2 x.Log ∧ SlR M RChunk 6 64 A3 c3 x.Chunks) ∧ M ((ad.add (i * 12)).add 0) = some (.int .i64 x.Pg.Pool) ∧ M ((ad.add (i * 12)).add 1) = some (.int .i64 x.Pg.No) ∧ M ((ad.add (i * 12)).add 2) = some (.int .i64 x.Seen) ∧ M ((ad.add (i * 12)).add 3) = some (.int .i64 x.Started) ∧ M ((ad.add (i * 12)).add 4) = some (.int .i64 x.Tail.Epoch) ∧ M ((ad.add (i * 12)).add 5) = some (.int .i64 x.Tail.Seq) ∧ M ((ad.add (i * 12)).add 6) = some (.slice A0 x.Base.length c0) ∧ M ((ad.add (i * 12)).add 7) = some (.slice A1 x.Clients.length c1) ∧ M ((ad.add (i * 12)).add 8) = some (.slice A2 x.Log.length c2) ∧ M ((ad.add (i * 12)).add 9) = some (.int .i64 x.Firm.Epoch) ∧ M ((ad.add (i * 12)).add 10) = some (.int .i64 x.Firm.Seq) ∧ M ((ad.add (i * 12)).add 11) = some (.slice A3 x.Chunks.length c3) := by
  obtain ⟨ad, cs, h1, ⟨A0, c0, A1, c1, A2, c2, A3, c3, rfl, hb, s0, s1, s2, s3⟩, h3, h4⟩ := h.el i x hx
  exact ⟨ad, h1, A0, c0, A1, c1, A2, c2, A3, c3, hb, ⟨s0, s1, s2, s3⟩, h4 0 _ rfl, h4 1 _ rfl, h4 2 _ rfl, h4 3 _ rfl, h4 4 _ rfl, h4 5 _ rfl, h4 6 _ rfl, h4 7 _ rfl, h4 8 _ rfl, h4 9 _ rfl, h4 10 _ rfl, h4 11 _ rfl⟩
theorem RPg.one {M : Mem} (x : GPg) (cs : List Value) (h : RPg M x cs) : allOne cs = true ∧ cs.length = 2 := by
  obtain ⟨rfl, _⟩ := h
  exact ⟨rfl, rfl⟩
theorem RVer.one {M : Mem} (x : GVer) (cs : List Value) (h : RVer M x cs) : allOne cs = true ∧ cs.length = 2 := by
  obtain ⟨rfl, _⟩ := h
  exact ⟨rfl, rfl⟩
theorem RHead.one {M : Mem} (x : GHead) (cs : List Value) (h : RHead M x cs) : allOne cs = true ∧ cs.length = 5 := by
  obtain ⟨rfl, _⟩ := h
  exact ⟨rfl, rfl⟩
theorem RLast.one {M : Mem} (x : GLast) (cs : List Value) (h : RLast M x cs) : allOne cs = true ∧ cs.length = 4 := by
  obtain ⟨rfl, _⟩ := h
  exact ⟨rfl, rfl⟩
theorem RReq.one {M : Mem} (x : GReq) (cs : List Value) (h : RReq M x cs) : allOne cs = true ∧ cs.length = 2 := by
  obtain ⟨rfl, _⟩ := h
  exact ⟨rfl, rfl⟩
theorem REntry.one {M : Mem} (x : GEntry) (cs : List Value) (h : REntry M x cs) : allOne cs = true ∧ cs.length = 10 := by
  obtain ⟨rfl, _⟩ := h
  exact ⟨rfl, rfl⟩
theorem RChunk.one {M : Mem} (x : GChunk) (cs : List Value) (h : RChunk M x cs) : allOne cs = true ∧ cs.length = 6 := by
  obtain ⟨rfl, _⟩ := h
  exact ⟨rfl, rfl⟩
theorem RPgState.one {M : Mem} (x : GPgState) (cs : List Value) (h : RPgState M x cs) : allOne cs = true ∧ cs.length = 12 := by
  obtain ⟨A0, c0, A1, c1, A2, c2, A3, c3, rfl, _⟩ := h
  exact ⟨rfl, rfl⟩
theorem RInt.one {M : Mem} (x : Int) (cs : List Value) (h : RInt M x cs) : allOne cs = true ∧ cs.length = 1 := by
  obtain rfl := h
  exact ⟨rfl, rfl⟩
theorem RStr.one {M : Mem} (x : ByteArray) (cs : List Value) (h : RStr M x cs) : allOne cs = true ∧ cs.length = 1 := by
  obtain ⟨rfl, _⟩ := h
  exact ⟨rfl, rfl⟩
end Go.Proofs.YthpnmempecelaaaGreat.Lw
