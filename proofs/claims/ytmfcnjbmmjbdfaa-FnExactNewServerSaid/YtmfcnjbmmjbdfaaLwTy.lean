/- The types of the program's data, and how they lie in memory. -/
import Derived.Test.YtmfcnjbmmjbdfaaLwRep
namespace Go.Proofs.Ytmfcnjbmmjbdfaa.Lw
open Go Go.RowKit
set_option linter.unusedVariables false
def RInt (M : Mem) (x : Int) (cs : List Value) : Prop := cs = [.int .i64 x]
def RStr (M : Mem) (x : ByteArray) (cs : List Value) : Prop := cs = [.string x] ∧ x.size ≤ 9223372036854775807
theorem RInt.mono {M M' : Mem} (hl : Le M M') (x : Int) (cs : List Value) (h : RInt M x cs) : RInt M' x cs := h
theorem RStr.mono {M M' : Mem} (hl : Le M M') (x : ByteArray) (cs : List Value) (h : RStr M x cs) : RStr M' x cs := h
theorem at_Int {M : Mem} {A : Option Addr} {c : Nat} {l : List Int} {by_ : Nat} (h : SlR M RInt 1 by_ A c l) {i : Nat} {x : Int} (hx : l[i]? = some x) : ∃ ad, A = some ad ∧ True ∧ M ((ad.add (i * 1)).add 0) = some (.int .i64 x) := by
  obtain ⟨ad, cs, h1, rfl, h3, h4⟩ := h.el i x hx
  exact ⟨ad, h1, trivial, h4 0 _ rfl⟩
theorem at_Str {M : Mem} {A : Option Addr} {c : Nat} {l : List ByteArray} {by_ : Nat} (h : SlR M RStr 1 by_ A c l) {i : Nat} {x : ByteArray} (hx : l[i]? = some x) : ∃ ad, A = some ad ∧ x.size ≤ 9223372036854775807 ∧ M ((ad.add (i * 1)).add 0) = some (.string x) := by
  obtain ⟨ad, cs, h1, ⟨rfl, hb⟩, h3, h4⟩ := h.el i x hx
  exact ⟨ad, h1, hb, h4 0 _ rfl⟩
structure GPg where
  Pool : Int
  No : Int
  deriving DecidableEq
theorem eqv_Pg (x y : GPg) : ((x.Pool == y.Pool) && ((x.No == y.No) && true)) = decide (x = y) := by
  (try rw [ba_eq]); (try rw [ba_eq])
  rw [Bool.eq_iff_iff]
  cases x; cases y
  simp
def RPg (M : Mem) (x : GPg) (cs : List Value) : Prop := cs = [.int .i64 x.Pool, .int .i64 x.No] ∧ True
theorem RPg.mono {M M' : Mem} (hl : Le M M') (x : GPg) (cs : List Value) (h : RPg M x cs) : RPg M' x cs := h
theorem at_Pg {M : Mem} {A : Option Addr} {c : Nat} {l : List GPg} {by_ : Nat} (h : SlR M RPg 2 by_ A c l) {i : Nat} {x : GPg} (hx : l[i]? = some x) : ∃ ad, A = some ad ∧ (True) ∧ M ((ad.add (i * 2)).add 0) = some (.int .i64 x.Pool) ∧ M ((ad.add (i * 2)).add 1) = some (.int .i64 x.No) := by
  obtain ⟨ad, cs, h1, ⟨rfl, hb⟩, h3, h4⟩ := h.el i x hx
  exact ⟨ad, h1, hb, h4 0 _ rfl, h4 1 _ rfl⟩
structure GVer where
  Epoch : Int
  Seq : Int
  deriving DecidableEq
theorem eqv_Ver (x y : GVer) : ((x.Epoch == y.Epoch) && ((x.Seq == y.Seq) && true)) = decide (x = y) := by
  (try rw [ba_eq]); (try rw [ba_eq])
  rw [Bool.eq_iff_iff]
  cases x; cases y
  simp
def RVer (M : Mem) (x : GVer) (cs : List Value) : Prop := cs = [.int .i64 x.Epoch, .int .i64 x.Seq] ∧ True
theorem RVer.mono {M M' : Mem} (hl : Le M M') (x : GVer) (cs : List Value) (h : RVer M x cs) : RVer M' x cs := h
theorem at_Ver {M : Mem} {A : Option Addr} {c : Nat} {l : List GVer} {by_ : Nat} (h : SlR M RVer 2 by_ A c l) {i : Nat} {x : GVer} (hx : l[i]? = some x) : ∃ ad, A = some ad ∧ (True) ∧ M ((ad.add (i * 2)).add 0) = some (.int .i64 x.Epoch) ∧ M ((ad.add (i * 2)).add 1) = some (.int .i64 x.Seq) := by
  obtain ⟨ad, cs, h1, ⟨rfl, hb⟩, h3, h4⟩ := h.el i x hx
  exact ⟨ad, h1, hb, h4 0 _ rfl, h4 1 _ rfl⟩
structure GHead where
  Name : ByteArray
  Ver : GVer
  Size : Int
  Sum : Int
  deriving DecidableEq
theorem eqv_Head (x y : GHead) : ((x.Name.toList == y.Name.toList) && (((x.Ver.Epoch == y.Ver.Epoch) && ((x.Ver.Seq == y.Ver.Seq) && true)) && ((x.Size == y.Size) && ((x.Sum == y.Sum) && true)))) = decide (x = y) := by
  rw [eqv_Ver]
  (try rw [ba_eq]); (try rw [ba_eq])
  rw [Bool.eq_iff_iff]
  cases x; cases y
  simp
def RHead (M : Mem) (x : GHead) (cs : List Value) : Prop := cs = [.string x.Name, .int .i64 x.Ver.Epoch, .int .i64 x.Ver.Seq, .int .i64 x.Size, .int .i64 x.Sum] ∧ x.Name.size ≤ 9223372036854775807
theorem RHead.mono {M M' : Mem} (hl : Le M M') (x : GHead) (cs : List Value) (h : RHead M x cs) : RHead M' x cs := h
theorem at_Head {M : Mem} {A : Option Addr} {c : Nat} {l : List GHead} {by_ : Nat} (h : SlR M RHead 5 by_ A c l) {i : Nat} {x : GHead} (hx : l[i]? = some x) : ∃ ad, A = some ad ∧ (x.Name.size ≤ 9223372036854775807) ∧ M ((ad.add (i * 5)).add 0) = some (.string x.Name) ∧ M ((ad.add (i * 5)).add 1) = some (.int .i64 x.Ver.Epoch) ∧ M ((ad.add (i * 5)).add 2) = some (.int .i64 x.Ver.Seq) ∧ M ((ad.add (i * 5)).add 3) = some (.int .i64 x.Size) ∧ M ((ad.add (i * 5)).add 4) = some (.int .i64 x.Sum) := by
  obtain ⟨ad, cs, h1, ⟨rfl, hb⟩, h3, h4⟩ := h.el i x hx
  exact ⟨ad, h1, hb, h4 0 _ rfl, h4 1 _ rfl, h4 2 _ rfl, h4 3 _ rfl, h4 4 _ rfl⟩
structure GLast where
  Client : Int
  No : Int
  Ver : GVer
  deriving DecidableEq
theorem eqv_Last (x y : GLast) : ((x.Client == y.Client) && ((x.No == y.No) && (((x.Ver.Epoch == y.Ver.Epoch) && ((x.Ver.Seq == y.Ver.Seq) && true)) && true))) = decide (x = y) := by
  rw [eqv_Ver]
  (try rw [ba_eq]); (try rw [ba_eq])
  rw [Bool.eq_iff_iff]
  cases x; cases y
  simp
def RLast (M : Mem) (x : GLast) (cs : List Value) : Prop := cs = [.int .i64 x.Client, .int .i64 x.No, .int .i64 x.Ver.Epoch, .int .i64 x.Ver.Seq] ∧ True
theorem RLast.mono {M M' : Mem} (hl : Le M M') (x : GLast) (cs : List Value) (h : RLast M x cs) : RLast M' x cs := h
theorem at_Last {M : Mem} {A : Option Addr} {c : Nat} {l : List GLast} {by_ : Nat} (h : SlR M RLast 4 by_ A c l) {i : Nat} {x : GLast} (hx : l[i]? = some x) : ∃ ad, A = some ad ∧ (True) ∧ M ((ad.add (i * 4)).add 0) = some (.int .i64 x.Client) ∧ M ((ad.add (i * 4)).add 1) = some (.int .i64 x.No) ∧ M ((ad.add (i * 4)).add 2) = some (.int .i64 x.Ver.Epoch) ∧ M ((ad.add (i * 4)).add 3) = some (.int .i64 x.Ver.Seq) := by
  obtain ⟨ad, cs, h1, ⟨rfl, hb⟩, h3, h4⟩ := h.el i x hx
  exact ⟨ad, h1, hb, h4 0 _ rfl, h4 1 _ rfl, h4 2 _ rfl, h4 3 _ rfl⟩
structure GReq where
  Client : Int
  No : Int
  deriving DecidableEq
theorem eqv_Req (x y : GReq) : ((x.Client == y.Client) && ((x.No == y.No) && true)) = decide (x = y) := by
  (try rw [ba_eq]); (try rw [ba_eq])
  rw [Bool.eq_iff_iff]
  cases x; cases y
  simp
def RReq (M : Mem) (x : GReq) (cs : List Value) : Prop := cs = [.int .i64 x.Client, .int .i64 x.No] ∧ True
theorem RReq.mono {M M' : Mem} (hl : Le M M') (x : GReq) (cs : List Value) (h : RReq M x cs) : RReq M' x cs := h
theorem at_Req {M : Mem} {A : Option Addr} {c : Nat} {l : List GReq} {by_ : Nat} (h : SlR M RReq 2 by_ A c l) {i : Nat} {x : GReq} (hx : l[i]? = some x) : ∃ ad, A = some ad ∧ (True) ∧ M ((ad.add (i * 2)).add 0) = some (.int .i64 x.Client) ∧ M ((ad.add (i * 2)).add 1) = some (.int .i64 x.No) := by
  obtain ⟨ad, cs, h1, ⟨rfl, hb⟩, h3, h4⟩ := h.el i x hx
  exact ⟨ad, h1, hb, h4 0 _ rfl, h4 1 _ rfl⟩
structure GEntry where
  Ver : GVer
  Prior : GVer
  Name : ByteArray
  Gone : Bool
  Size : Int
  Sum : Int
  Req : GReq
  deriving DecidableEq
theorem eqv_Entry (x y : GEntry) : (((x.Ver.Epoch == y.Ver.Epoch) && ((x.Ver.Seq == y.Ver.Seq) && true)) && (((x.Prior.Epoch == y.Prior.Epoch) && ((x.Prior.Seq == y.Prior.Seq) && true)) && ((x.Name.toList == y.Name.toList) && ((x.Gone == y.Gone) && ((x.Size == y.Size) && ((x.Sum == y.Sum) && (((x.Req.Client == y.Req.Client) && ((x.Req.No == y.Req.No) && true)) && true))))))) = decide (x = y) := by
  rw [eqv_Ver]
  rw [eqv_Ver]
  rw [eqv_Req]
  (try rw [ba_eq]); (try rw [ba_eq])
  rw [Bool.eq_iff_iff]
  cases x; cases y
  simp
def REntry (M : Mem) (x : GEntry) (cs : List Value) : Prop := cs = [.int .i64 x.Ver.Epoch, .int .i64 x.Ver.Seq, .int .i64 x.Prior.Epoch, .int .i64 x.Prior.Seq, .string x.Name, .bool x.Gone, .int .i64 x.Size, .int .i64 x.Sum, .int .i64 x.Req.Client, .int .i64 x.Req.No] ∧ x.Name.size ≤ 9223372036854775807
theorem REntry.mono {M M' : Mem} (hl : Le M M') (x : GEntry) (cs : List Value) (h : REntry M x cs) : REntry M' x cs := h
theorem at_Entry {M : Mem} {A : Option Addr} {c : Nat} {l : List GEntry} {by_ : Nat} (h : SlR M REntry 10 by_ A c l) {i : Nat} {x : GEntry} (hx : l[i]? = some x) : ∃ ad, A = some ad ∧ (x.Name.size ≤ 9223372036854775807) ∧ M ((ad.add (i * 10)).add 0) = some (.int .i64 x.Ver.Epoch) ∧ M ((ad.add (i * 10)).add 1) = some (.int .i64 x.Ver.Seq) ∧ M ((ad.add (i * 10)).add 2) = some (.int .i64 x.Prior.Epoch) ∧ M ((ad.add (i * 10)).add 3) = some (.int .i64 x.Prior.Seq) ∧ M ((ad.add (i * 10)).add 4) = some (.string x.Name) ∧ M ((ad.add (i * 10)).add 5) = some (.bool x.Gone) ∧ M ((ad.add (i * 10)).add 6) = some (.int .i64 x.Size) ∧ M ((ad.add (i * 10)).add 7) = some (.int .i64 x.Sum) ∧ M ((ad.add (i * 10)).add 8) = some (.int .i64 x.Req.Client) ∧ M ((ad.add (i * 10)).add 9) = some (.int .i64 x.Req.No) := by
  obtain ⟨ad, cs, h1, ⟨rfl, hb⟩, h3, h4⟩ := h.el i x hx
  exact ⟨ad, h1, hb, h4 0 _ rfl, h4 1 _ rfl, h4 2 _ rfl, h4 3 _ rfl, h4 4 _ rfl, h4 5 _ rfl, h4 6 _ rfl, h4 7 _ rfl, h4 8 _ rfl, h4 9 _ rfl⟩
structure GChunk where
  Name : ByteArray
  Ver : GVer
  Pos : Int
  Sum : Int
  Bytes : ByteArray
  deriving DecidableEq
theorem eqv_Chunk (x y : GChunk) : ((x.Name.toList == y.Name.toList) && (((x.Ver.Epoch == y.Ver.Epoch) && ((x.Ver.Seq == y.Ver.Seq) && true)) && ((x.Pos == y.Pos) && ((x.Sum == y.Sum) && ((x.Bytes.toList == y.Bytes.toList) && true))))) = decide (x = y) := by
  rw [eqv_Ver]
  (try rw [ba_eq]); (try rw [ba_eq])
  rw [Bool.eq_iff_iff]
  cases x; cases y
  simp
def RChunk (M : Mem) (x : GChunk) (cs : List Value) : Prop := cs = [.string x.Name, .int .i64 x.Ver.Epoch, .int .i64 x.Ver.Seq, .int .i64 x.Pos, .int .i64 x.Sum, .string x.Bytes] ∧ x.Name.size ≤ 9223372036854775807 ∧ x.Bytes.size ≤ 9223372036854775807
theorem RChunk.mono {M M' : Mem} (hl : Le M M') (x : GChunk) (cs : List Value) (h : RChunk M x cs) : RChunk M' x cs := h
theorem at_Chunk {M : Mem} {A : Option Addr} {c : Nat} {l : List GChunk} {by_ : Nat} (h : SlR M RChunk 6 by_ A c l) {i : Nat} {x : GChunk} (hx : l[i]? = some x) : ∃ ad, A = some ad ∧ (x.Name.size ≤ 9223372036854775807 ∧ x.Bytes.size ≤ 9223372036854775807) ∧ M ((ad.add (i * 6)).add 0) = some (.string x.Name) ∧ M ((ad.add (i * 6)).add 1) = some (.int .i64 x.Ver.Epoch) ∧ M ((ad.add (i * 6)).add 2) = some (.int .i64 x.Ver.Seq) ∧ M ((ad.add (i * 6)).add 3) = some (.int .i64 x.Pos) ∧ M ((ad.add (i * 6)).add 4) = some (.int .i64 x.Sum) ∧ M ((ad.add (i * 6)).add 5) = some (.string x.Bytes) := by
  obtain ⟨ad, cs, h1, ⟨rfl, hb⟩, h3, h4⟩ := h.el i x hx
  exact ⟨ad, h1, hb, h4 0 _ rfl, h4 1 _ rfl, h4 2 _ rfl, h4 3 _ rfl, h4 4 _ rfl, h4 5 _ rfl⟩
structure GPgState where
  Pg : GPg
  Seen : Int
  Started : Int
  Tail : GVer
  Base : List GHead
  Clients : List GLast
  Log : List GEntry
  Firm : GVer
  Chunks : List GChunk
  deriving DecidableEq
def RPgState (M : Mem) (x : GPgState) (cs : List Value) : Prop := ∃ A0 c0 A1 c1 A2 c2 A3 c3, cs = [.int .i64 x.Pg.Pool, .int .i64 x.Pg.No, .int .i64 x.Seen, .int .i64 x.Started, .int .i64 x.Tail.Epoch, .int .i64 x.Tail.Seq, .slice A0 x.Base.length c0, .slice A1 x.Clients.length c1, .slice A2 x.Log.length c2, .int .i64 x.Firm.Epoch, .int .i64 x.Firm.Seq, .slice A3 x.Chunks.length c3] ∧ (True) ∧ SlR M RHead 5 48 A0 c0 x.Base ∧ SlR M RLast 4 32 A1 c1 x.Clients ∧ SlR M REntry 10 88 A2 c2 x.Log ∧ SlR M RChunk 6 64 A3 c3 x.Chunks
theorem RPgState.mono {M M' : Mem} (hl : Le M M') (x : GPgState) (cs : List Value) (h : RPgState M x cs) : RPgState M' x cs := by
  obtain ⟨A0, c0, A1, c1, A2, c2, A3, c3, h, hb, s0, s1, s2, s3⟩ := h
  exact ⟨A0, c0, A1, c1, A2, c2, A3, c3, h, hb, s0.mono hl (RHead.mono hl), s1.mono hl (RLast.mono hl), s2.mono hl (REntry.mono hl), s3.mono hl (RChunk.mono hl)⟩
theorem at_PgState {M : Mem} {A : Option Addr} {c : Nat} {l : List GPgState} {by_ : Nat} (h : SlR M RPgState 12 by_ A c l) {i : Nat} {x : GPgState} (hx : l[i]? = some x) : ∃ ad, A = some ad ∧ ∃ A0 c0 A1 c1 A2 c2 A3 c3, (True) ∧ (SlR M RHead 5 48 A0 c0 x.Base ∧ SlR M RLast 4 32 A1 c1 x.Clients ∧ SlR M REntry 10 88 A2 c2 x.Log ∧ SlR M RChunk 6 64 A3 c3 x.Chunks) ∧ M ((ad.add (i * 12)).add 0) = some (.int .i64 x.Pg.Pool) ∧ M ((ad.add (i * 12)).add 1) = some (.int .i64 x.Pg.No) ∧ M ((ad.add (i * 12)).add 2) = some (.int .i64 x.Seen) ∧ M ((ad.add (i * 12)).add 3) = some (.int .i64 x.Started) ∧ M ((ad.add (i * 12)).add 4) = some (.int .i64 x.Tail.Epoch) ∧ M ((ad.add (i * 12)).add 5) = some (.int .i64 x.Tail.Seq) ∧ M ((ad.add (i * 12)).add 6) = some (.slice A0 x.Base.length c0) ∧ M ((ad.add (i * 12)).add 7) = some (.slice A1 x.Clients.length c1) ∧ M ((ad.add (i * 12)).add 8) = some (.slice A2 x.Log.length c2) ∧ M ((ad.add (i * 12)).add 9) = some (.int .i64 x.Firm.Epoch) ∧ M ((ad.add (i * 12)).add 10) = some (.int .i64 x.Firm.Seq) ∧ M ((ad.add (i * 12)).add 11) = some (.slice A3 x.Chunks.length c3) := by
  obtain ⟨ad, cs, h1, ⟨A0, c0, A1, c1, A2, c2, A3, c3, rfl, hb, s0, s1, s2, s3⟩, h3, h4⟩ := h.el i x hx
  exact ⟨ad, h1, A0, c0, A1, c1, A2, c2, A3, c3, hb, ⟨s0, s1, s2, s3⟩, h4 0 _ rfl, h4 1 _ rfl, h4 2 _ rfl, h4 3 _ rfl, h4 4 _ rfl, h4 5 _ rfl, h4 6 _ rfl, h4 7 _ rfl, h4 8 _ rfl, h4 9 _ rfl, h4 10 _ rfl, h4 11 _ rfl⟩
structure GStore where
  Live : List GPgState
  Kept : List GPgState
  deriving DecidableEq
def RStore (M : Mem) (x : GStore) (cs : List Value) : Prop := ∃ A0 c0 A1 c1, cs = [.slice A0 x.Live.length c0, .slice A1 x.Kept.length c1] ∧ (True) ∧ SlR M RPgState 12 160 A0 c0 x.Live ∧ SlR M RPgState 12 160 A1 c1 x.Kept
theorem RStore.mono {M M' : Mem} (hl : Le M M') (x : GStore) (cs : List Value) (h : RStore M x cs) : RStore M' x cs := by
  obtain ⟨A0, c0, A1, c1, h, hb, s0, s1⟩ := h
  exact ⟨A0, c0, A1, c1, h, hb, s0.mono hl (RPgState.mono hl), s1.mono hl (RPgState.mono hl)⟩
theorem at_Store {M : Mem} {A : Option Addr} {c : Nat} {l : List GStore} {by_ : Nat} (h : SlR M RStore 2 by_ A c l) {i : Nat} {x : GStore} (hx : l[i]? = some x) : ∃ ad, A = some ad ∧ ∃ A0 c0 A1 c1, (True) ∧ (SlR M RPgState 12 160 A0 c0 x.Live ∧ SlR M RPgState 12 160 A1 c1 x.Kept) ∧ M ((ad.add (i * 2)).add 0) = some (.slice A0 x.Live.length c0) ∧ M ((ad.add (i * 2)).add 1) = some (.slice A1 x.Kept.length c1) := by
  obtain ⟨ad, cs, h1, ⟨A0, c0, A1, c1, rfl, hb, s0, s1⟩, h3, h4⟩ := h.el i x hx
  exact ⟨ad, h1, A0, c0, A1, c1, hb, ⟨s0, s1⟩, h4 0 _ rfl, h4 1 _ rfl⟩
structure GCode where
  K : Int
  M : Int
  deriving DecidableEq
theorem eqv_Code (x y : GCode) : ((x.K == y.K) && ((x.M == y.M) && true)) = decide (x = y) := by
  (try rw [ba_eq]); (try rw [ba_eq])
  rw [Bool.eq_iff_iff]
  cases x; cases y
  simp
def RCode (M : Mem) (x : GCode) (cs : List Value) : Prop := cs = [.int .i64 x.K, .int .i64 x.M] ∧ True
theorem RCode.mono {M M' : Mem} (hl : Le M M') (x : GCode) (cs : List Value) (h : RCode M x cs) : RCode M' x cs := h
theorem at_Code {M : Mem} {A : Option Addr} {c : Nat} {l : List GCode} {by_ : Nat} (h : SlR M RCode 2 by_ A c l) {i : Nat} {x : GCode} (hx : l[i]? = some x) : ∃ ad, A = some ad ∧ (True) ∧ M ((ad.add (i * 2)).add 0) = some (.int .i64 x.K) ∧ M ((ad.add (i * 2)).add 1) = some (.int .i64 x.M) := by
  obtain ⟨ad, cs, h1, ⟨rfl, hb⟩, h3, h4⟩ := h.el i x hx
  exact ⟨ad, h1, hb, h4 0 _ rfl, h4 1 _ rfl⟩
structure GInterval where
  First : Int
  Last : Int
  Acting : List Int
  May : Bool
  deriving DecidableEq
def RInterval (M : Mem) (x : GInterval) (cs : List Value) : Prop := ∃ A0 c0, cs = [.int .i64 x.First, .int .i64 x.Last, .slice A0 x.Acting.length c0, .bool x.May] ∧ (True) ∧ SlR M RInt 1 8 A0 c0 x.Acting
theorem RInterval.mono {M M' : Mem} (hl : Le M M') (x : GInterval) (cs : List Value) (h : RInterval M x cs) : RInterval M' x cs := by
  obtain ⟨A0, c0, h, hb, s0⟩ := h
  exact ⟨A0, c0, h, hb, s0.mono hl (RInt.mono hl)⟩
theorem at_Interval {M : Mem} {A : Option Addr} {c : Nat} {l : List GInterval} {by_ : Nat} (h : SlR M RInterval 4 by_ A c l) {i : Nat} {x : GInterval} (hx : l[i]? = some x) : ∃ ad, A = some ad ∧ ∃ A0 c0, (True) ∧ (SlR M RInt 1 8 A0 c0 x.Acting) ∧ M ((ad.add (i * 4)).add 0) = some (.int .i64 x.First) ∧ M ((ad.add (i * 4)).add 1) = some (.int .i64 x.Last) ∧ M ((ad.add (i * 4)).add 2) = some (.slice A0 x.Acting.length c0) ∧ M ((ad.add (i * 4)).add 3) = some (.bool x.May) := by
  obtain ⟨ad, cs, h1, ⟨A0, c0, rfl, hb, s0⟩, h3, h4⟩ := h.el i x hx
  exact ⟨ad, h1, A0, c0, hb, s0, h4 0 _ rfl, h4 1 _ rfl, h4 2 _ rfl, h4 3 _ rfl⟩
structure GNotice where
  From : Int
  State : GPgState
  deriving DecidableEq
def RNotice (M : Mem) (x : GNotice) (cs : List Value) : Prop := ∃ A0 c0 A1 c1 A2 c2 A3 c3, cs = [.int .i64 x.From, .int .i64 x.State.Pg.Pool, .int .i64 x.State.Pg.No, .int .i64 x.State.Seen, .int .i64 x.State.Started, .int .i64 x.State.Tail.Epoch, .int .i64 x.State.Tail.Seq, .slice A0 x.State.Base.length c0, .slice A1 x.State.Clients.length c1, .slice A2 x.State.Log.length c2, .int .i64 x.State.Firm.Epoch, .int .i64 x.State.Firm.Seq, .slice A3 x.State.Chunks.length c3] ∧ (True) ∧ SlR M RHead 5 48 A0 c0 x.State.Base ∧ SlR M RLast 4 32 A1 c1 x.State.Clients ∧ SlR M REntry 10 88 A2 c2 x.State.Log ∧ SlR M RChunk 6 64 A3 c3 x.State.Chunks
theorem RNotice.mono {M M' : Mem} (hl : Le M M') (x : GNotice) (cs : List Value) (h : RNotice M x cs) : RNotice M' x cs := by
  obtain ⟨A0, c0, A1, c1, A2, c2, A3, c3, h, hb, s0, s1, s2, s3⟩ := h
  exact ⟨A0, c0, A1, c1, A2, c2, A3, c3, h, hb, s0.mono hl (RHead.mono hl), s1.mono hl (RLast.mono hl), s2.mono hl (REntry.mono hl), s3.mono hl (RChunk.mono hl)⟩
theorem at_Notice {M : Mem} {A : Option Addr} {c : Nat} {l : List GNotice} {by_ : Nat} (h : SlR M RNotice 13 by_ A c l) {i : Nat} {x : GNotice} (hx : l[i]? = some x) : ∃ ad, A = some ad ∧ ∃ A0 c0 A1 c1 A2 c2 A3 c3, (True) ∧ (SlR M RHead 5 48 A0 c0 x.State.Base ∧ SlR M RLast 4 32 A1 c1 x.State.Clients ∧ SlR M REntry 10 88 A2 c2 x.State.Log ∧ SlR M RChunk 6 64 A3 c3 x.State.Chunks) ∧ M ((ad.add (i * 13)).add 0) = some (.int .i64 x.From) ∧ M ((ad.add (i * 13)).add 1) = some (.int .i64 x.State.Pg.Pool) ∧ M ((ad.add (i * 13)).add 2) = some (.int .i64 x.State.Pg.No) ∧ M ((ad.add (i * 13)).add 3) = some (.int .i64 x.State.Seen) ∧ M ((ad.add (i * 13)).add 4) = some (.int .i64 x.State.Started) ∧ M ((ad.add (i * 13)).add 5) = some (.int .i64 x.State.Tail.Epoch) ∧ M ((ad.add (i * 13)).add 6) = some (.int .i64 x.State.Tail.Seq) ∧ M ((ad.add (i * 13)).add 7) = some (.slice A0 x.State.Base.length c0) ∧ M ((ad.add (i * 13)).add 8) = some (.slice A1 x.State.Clients.length c1) ∧ M ((ad.add (i * 13)).add 9) = some (.slice A2 x.State.Log.length c2) ∧ M ((ad.add (i * 13)).add 10) = some (.int .i64 x.State.Firm.Epoch) ∧ M ((ad.add (i * 13)).add 11) = some (.int .i64 x.State.Firm.Seq) ∧ M ((ad.add (i * 13)).add 12) = some (.slice A3 x.State.Chunks.length c3) := by
  obtain ⟨ad, cs, h1, ⟨A0, c0, A1, c1, A2, c2, A3, c3, rfl, hb, s0, s1, s2, s3⟩, h3, h4⟩ := h.el i x hx
  exact ⟨ad, h1, A0, c0, A1, c1, A2, c2, A3, c3, hb, ⟨s0, s1, s2, s3⟩, h4 0 _ rfl, h4 1 _ rfl, h4 2 _ rfl, h4 3 _ rfl, h4 4 _ rfl, h4 5 _ rfl, h4 6 _ rfl, h4 7 _ rfl, h4 8 _ rfl, h4 9 _ rfl, h4 10 _ rfl, h4 11 _ rfl, h4 12 _ rfl⟩
structure GFill where
  Node : Int
  Pos : Int
  Head : GHead
  deriving DecidableEq
theorem eqv_Fill (x y : GFill) : ((x.Node == y.Node) && ((x.Pos == y.Pos) && (((x.Head.Name.toList == y.Head.Name.toList) && (((x.Head.Ver.Epoch == y.Head.Ver.Epoch) && ((x.Head.Ver.Seq == y.Head.Ver.Seq) && true)) && ((x.Head.Size == y.Head.Size) && ((x.Head.Sum == y.Head.Sum) && true)))) && true))) = decide (x = y) := by
  rw [eqv_Head]
  (try rw [ba_eq]); (try rw [ba_eq])
  rw [Bool.eq_iff_iff]
  cases x; cases y
  simp
def RFill (M : Mem) (x : GFill) (cs : List Value) : Prop := cs = [.int .i64 x.Node, .int .i64 x.Pos, .string x.Head.Name, .int .i64 x.Head.Ver.Epoch, .int .i64 x.Head.Ver.Seq, .int .i64 x.Head.Size, .int .i64 x.Head.Sum] ∧ x.Head.Name.size ≤ 9223372036854775807
theorem RFill.mono {M M' : Mem} (hl : Le M M') (x : GFill) (cs : List Value) (h : RFill M x cs) : RFill M' x cs := h
theorem at_Fill {M : Mem} {A : Option Addr} {c : Nat} {l : List GFill} {by_ : Nat} (h : SlR M RFill 7 by_ A c l) {i : Nat} {x : GFill} (hx : l[i]? = some x) : ∃ ad, A = some ad ∧ (x.Head.Name.size ≤ 9223372036854775807) ∧ M ((ad.add (i * 7)).add 0) = some (.int .i64 x.Node) ∧ M ((ad.add (i * 7)).add 1) = some (.int .i64 x.Pos) ∧ M ((ad.add (i * 7)).add 2) = some (.string x.Head.Name) ∧ M ((ad.add (i * 7)).add 3) = some (.int .i64 x.Head.Ver.Epoch) ∧ M ((ad.add (i * 7)).add 4) = some (.int .i64 x.Head.Ver.Seq) ∧ M ((ad.add (i * 7)).add 5) = some (.int .i64 x.Head.Size) ∧ M ((ad.add (i * 7)).add 6) = some (.int .i64 x.Head.Sum) := by
  obtain ⟨ad, cs, h1, ⟨rfl, hb⟩, h3, h4⟩ := h.el i x hx
  exact ⟨ad, h1, hb, h4 0 _ rfl, h4 1 _ rfl, h4 2 _ rfl, h4 3 _ rfl, h4 4 _ rfl, h4 5 _ rfl, h4 6 _ rfl⟩
structure GWay where
  Entry : GEntry
  Body : ByteArray
  deriving DecidableEq
theorem eqv_Way (x y : GWay) : ((((x.Entry.Ver.Epoch == y.Entry.Ver.Epoch) && ((x.Entry.Ver.Seq == y.Entry.Ver.Seq) && true)) && (((x.Entry.Prior.Epoch == y.Entry.Prior.Epoch) && ((x.Entry.Prior.Seq == y.Entry.Prior.Seq) && true)) && ((x.Entry.Name.toList == y.Entry.Name.toList) && ((x.Entry.Gone == y.Entry.Gone) && ((x.Entry.Size == y.Entry.Size) && ((x.Entry.Sum == y.Entry.Sum) && (((x.Entry.Req.Client == y.Entry.Req.Client) && ((x.Entry.Req.No == y.Entry.Req.No) && true)) && true))))))) && ((x.Body.toList == y.Body.toList) && true)) = decide (x = y) := by
  rw [eqv_Entry]
  (try rw [ba_eq]); (try rw [ba_eq])
  rw [Bool.eq_iff_iff]
  cases x; cases y
  simp
def RWay (M : Mem) (x : GWay) (cs : List Value) : Prop := cs = [.int .i64 x.Entry.Ver.Epoch, .int .i64 x.Entry.Ver.Seq, .int .i64 x.Entry.Prior.Epoch, .int .i64 x.Entry.Prior.Seq, .string x.Entry.Name, .bool x.Entry.Gone, .int .i64 x.Entry.Size, .int .i64 x.Entry.Sum, .int .i64 x.Entry.Req.Client, .int .i64 x.Entry.Req.No, .string x.Body] ∧ x.Entry.Name.size ≤ 9223372036854775807 ∧ x.Body.size ≤ 9223372036854775807
theorem RWay.mono {M M' : Mem} (hl : Le M M') (x : GWay) (cs : List Value) (h : RWay M x cs) : RWay M' x cs := h
theorem at_Way {M : Mem} {A : Option Addr} {c : Nat} {l : List GWay} {by_ : Nat} (h : SlR M RWay 11 by_ A c l) {i : Nat} {x : GWay} (hx : l[i]? = some x) : ∃ ad, A = some ad ∧ (x.Entry.Name.size ≤ 9223372036854775807 ∧ x.Body.size ≤ 9223372036854775807) ∧ M ((ad.add (i * 11)).add 0) = some (.int .i64 x.Entry.Ver.Epoch) ∧ M ((ad.add (i * 11)).add 1) = some (.int .i64 x.Entry.Ver.Seq) ∧ M ((ad.add (i * 11)).add 2) = some (.int .i64 x.Entry.Prior.Epoch) ∧ M ((ad.add (i * 11)).add 3) = some (.int .i64 x.Entry.Prior.Seq) ∧ M ((ad.add (i * 11)).add 4) = some (.string x.Entry.Name) ∧ M ((ad.add (i * 11)).add 5) = some (.bool x.Entry.Gone) ∧ M ((ad.add (i * 11)).add 6) = some (.int .i64 x.Entry.Size) ∧ M ((ad.add (i * 11)).add 7) = some (.int .i64 x.Entry.Sum) ∧ M ((ad.add (i * 11)).add 8) = some (.int .i64 x.Entry.Req.Client) ∧ M ((ad.add (i * 11)).add 9) = some (.int .i64 x.Entry.Req.No) ∧ M ((ad.add (i * 11)).add 10) = some (.string x.Body) := by
  obtain ⟨ad, cs, h1, ⟨rfl, hb⟩, h3, h4⟩ := h.el i x hx
  exact ⟨ad, h1, hb, h4 0 _ rfl, h4 1 _ rfl, h4 2 _ rfl, h4 3 _ rfl, h4 4 _ rfl, h4 5 _ rfl, h4 6 _ rfl, h4 7 _ rfl, h4 8 _ rfl, h4 9 _ rfl, h4 10 _ rfl⟩
structure GAck where
  Node : Int
  Ver : GVer
  deriving DecidableEq
theorem eqv_Ack (x y : GAck) : ((x.Node == y.Node) && (((x.Ver.Epoch == y.Ver.Epoch) && ((x.Ver.Seq == y.Ver.Seq) && true)) && true)) = decide (x = y) := by
  rw [eqv_Ver]
  (try rw [ba_eq]); (try rw [ba_eq])
  rw [Bool.eq_iff_iff]
  cases x; cases y
  simp
def RAck (M : Mem) (x : GAck) (cs : List Value) : Prop := cs = [.int .i64 x.Node, .int .i64 x.Ver.Epoch, .int .i64 x.Ver.Seq] ∧ True
theorem RAck.mono {M M' : Mem} (hl : Le M M') (x : GAck) (cs : List Value) (h : RAck M x cs) : RAck M' x cs := h
theorem at_Ack {M : Mem} {A : Option Addr} {c : Nat} {l : List GAck} {by_ : Nat} (h : SlR M RAck 3 by_ A c l) {i : Nat} {x : GAck} (hx : l[i]? = some x) : ∃ ad, A = some ad ∧ (True) ∧ M ((ad.add (i * 3)).add 0) = some (.int .i64 x.Node) ∧ M ((ad.add (i * 3)).add 1) = some (.int .i64 x.Ver.Epoch) ∧ M ((ad.add (i * 3)).add 2) = some (.int .i64 x.Ver.Seq) := by
  obtain ⟨ad, cs, h1, ⟨rfl, hb⟩, h3, h4⟩ := h.el i x hx
  exact ⟨ad, h1, hb, h4 0 _ rfl, h4 1 _ rfl, h4 2 _ rfl⟩
structure GGot where
  Node : Int
  Entry : GEntry
  Chunk : GChunk
  deriving DecidableEq
theorem eqv_Got (x y : GGot) : ((x.Node == y.Node) && ((((x.Entry.Ver.Epoch == y.Entry.Ver.Epoch) && ((x.Entry.Ver.Seq == y.Entry.Ver.Seq) && true)) && (((x.Entry.Prior.Epoch == y.Entry.Prior.Epoch) && ((x.Entry.Prior.Seq == y.Entry.Prior.Seq) && true)) && ((x.Entry.Name.toList == y.Entry.Name.toList) && ((x.Entry.Gone == y.Entry.Gone) && ((x.Entry.Size == y.Entry.Size) && ((x.Entry.Sum == y.Entry.Sum) && (((x.Entry.Req.Client == y.Entry.Req.Client) && ((x.Entry.Req.No == y.Entry.Req.No) && true)) && true))))))) && (((x.Chunk.Name.toList == y.Chunk.Name.toList) && (((x.Chunk.Ver.Epoch == y.Chunk.Ver.Epoch) && ((x.Chunk.Ver.Seq == y.Chunk.Ver.Seq) && true)) && ((x.Chunk.Pos == y.Chunk.Pos) && ((x.Chunk.Sum == y.Chunk.Sum) && ((x.Chunk.Bytes.toList == y.Chunk.Bytes.toList) && true))))) && true))) = decide (x = y) := by
  rw [eqv_Entry]
  rw [eqv_Chunk]
  (try rw [ba_eq]); (try rw [ba_eq])
  rw [Bool.eq_iff_iff]
  cases x; cases y
  simp
def RGot (M : Mem) (x : GGot) (cs : List Value) : Prop := cs = [.int .i64 x.Node, .int .i64 x.Entry.Ver.Epoch, .int .i64 x.Entry.Ver.Seq, .int .i64 x.Entry.Prior.Epoch, .int .i64 x.Entry.Prior.Seq, .string x.Entry.Name, .bool x.Entry.Gone, .int .i64 x.Entry.Size, .int .i64 x.Entry.Sum, .int .i64 x.Entry.Req.Client, .int .i64 x.Entry.Req.No, .string x.Chunk.Name, .int .i64 x.Chunk.Ver.Epoch, .int .i64 x.Chunk.Ver.Seq, .int .i64 x.Chunk.Pos, .int .i64 x.Chunk.Sum, .string x.Chunk.Bytes] ∧ x.Entry.Name.size ≤ 9223372036854775807 ∧ x.Chunk.Name.size ≤ 9223372036854775807 ∧ x.Chunk.Bytes.size ≤ 9223372036854775807
theorem RGot.mono {M M' : Mem} (hl : Le M M') (x : GGot) (cs : List Value) (h : RGot M x cs) : RGot M' x cs := h
theorem at_Got {M : Mem} {A : Option Addr} {c : Nat} {l : List GGot} {by_ : Nat} (h : SlR M RGot 17 by_ A c l) {i : Nat} {x : GGot} (hx : l[i]? = some x) : ∃ ad, A = some ad ∧ (x.Entry.Name.size ≤ 9223372036854775807 ∧ x.Chunk.Name.size ≤ 9223372036854775807 ∧ x.Chunk.Bytes.size ≤ 9223372036854775807) ∧ M ((ad.add (i * 17)).add 0) = some (.int .i64 x.Node) ∧ M ((ad.add (i * 17)).add 1) = some (.int .i64 x.Entry.Ver.Epoch) ∧ M ((ad.add (i * 17)).add 2) = some (.int .i64 x.Entry.Ver.Seq) ∧ M ((ad.add (i * 17)).add 3) = some (.int .i64 x.Entry.Prior.Epoch) ∧ M ((ad.add (i * 17)).add 4) = some (.int .i64 x.Entry.Prior.Seq) ∧ M ((ad.add (i * 17)).add 5) = some (.string x.Entry.Name) ∧ M ((ad.add (i * 17)).add 6) = some (.bool x.Entry.Gone) ∧ M ((ad.add (i * 17)).add 7) = some (.int .i64 x.Entry.Size) ∧ M ((ad.add (i * 17)).add 8) = some (.int .i64 x.Entry.Sum) ∧ M ((ad.add (i * 17)).add 9) = some (.int .i64 x.Entry.Req.Client) ∧ M ((ad.add (i * 17)).add 10) = some (.int .i64 x.Entry.Req.No) ∧ M ((ad.add (i * 17)).add 11) = some (.string x.Chunk.Name) ∧ M ((ad.add (i * 17)).add 12) = some (.int .i64 x.Chunk.Ver.Epoch) ∧ M ((ad.add (i * 17)).add 13) = some (.int .i64 x.Chunk.Ver.Seq) ∧ M ((ad.add (i * 17)).add 14) = some (.int .i64 x.Chunk.Pos) ∧ M ((ad.add (i * 17)).add 15) = some (.int .i64 x.Chunk.Sum) ∧ M ((ad.add (i * 17)).add 16) = some (.string x.Chunk.Bytes) := by
  obtain ⟨ad, cs, h1, ⟨rfl, hb⟩, h3, h4⟩ := h.el i x hx
  exact ⟨ad, h1, hb, h4 0 _ rfl, h4 1 _ rfl, h4 2 _ rfl, h4 3 _ rfl, h4 4 _ rfl, h4 5 _ rfl, h4 6 _ rfl, h4 7 _ rfl, h4 8 _ rfl, h4 9 _ rfl, h4 10 _ rfl, h4 11 _ rfl, h4 12 _ rfl, h4 13 _ rfl, h4 14 _ rfl, h4 15 _ rfl, h4 16 _ rfl⟩
structure GWait where
  Req : GReq
  Name : ByteArray
  Ver : GVer
  Got : List GGot
  deriving DecidableEq
def RWait (M : Mem) (x : GWait) (cs : List Value) : Prop := ∃ A0 c0, cs = [.int .i64 x.Req.Client, .int .i64 x.Req.No, .string x.Name, .int .i64 x.Ver.Epoch, .int .i64 x.Ver.Seq, .slice A0 x.Got.length c0] ∧ (x.Name.size ≤ 9223372036854775807) ∧ SlR M RGot 17 160 A0 c0 x.Got
theorem RWait.mono {M M' : Mem} (hl : Le M M') (x : GWait) (cs : List Value) (h : RWait M x cs) : RWait M' x cs := by
  obtain ⟨A0, c0, h, hb, s0⟩ := h
  exact ⟨A0, c0, h, hb, s0.mono hl (RGot.mono hl)⟩
theorem at_Wait {M : Mem} {A : Option Addr} {c : Nat} {l : List GWait} {by_ : Nat} (h : SlR M RWait 6 by_ A c l) {i : Nat} {x : GWait} (hx : l[i]? = some x) : ∃ ad, A = some ad ∧ ∃ A0 c0, (x.Name.size ≤ 9223372036854775807) ∧ (SlR M RGot 17 160 A0 c0 x.Got) ∧ M ((ad.add (i * 6)).add 0) = some (.int .i64 x.Req.Client) ∧ M ((ad.add (i * 6)).add 1) = some (.int .i64 x.Req.No) ∧ M ((ad.add (i * 6)).add 2) = some (.string x.Name) ∧ M ((ad.add (i * 6)).add 3) = some (.int .i64 x.Ver.Epoch) ∧ M ((ad.add (i * 6)).add 4) = some (.int .i64 x.Ver.Seq) ∧ M ((ad.add (i * 6)).add 5) = some (.slice A0 x.Got.length c0) := by
  obtain ⟨ad, cs, h1, ⟨A0, c0, rfl, hb, s0⟩, h3, h4⟩ := h.el i x hx
  exact ⟨ad, h1, A0, c0, hb, s0, h4 0 _ rfl, h4 1 _ rfl, h4 2 _ rfl, h4 3 _ rfl, h4 4 _ rfl, h4 5 _ rfl⟩
structure GLine where
  Epoch : Int
  Code : GCode
  Acting : List Int
  State : GPgState
  Way : List GWay
  Acks : List GAck
  Waits : List GWait
  deriving DecidableEq
def RLine (M : Mem) (x : GLine) (cs : List Value) : Prop := ∃ A0 c0 A1 c1 A2 c2 A3 c3 A4 c4 A5 c5 A6 c6 A7 c7, cs = [.int .i64 x.Epoch, .int .i64 x.Code.K, .int .i64 x.Code.M, .slice A0 x.Acting.length c0, .int .i64 x.State.Pg.Pool, .int .i64 x.State.Pg.No, .int .i64 x.State.Seen, .int .i64 x.State.Started, .int .i64 x.State.Tail.Epoch, .int .i64 x.State.Tail.Seq, .slice A1 x.State.Base.length c1, .slice A2 x.State.Clients.length c2, .slice A3 x.State.Log.length c3, .int .i64 x.State.Firm.Epoch, .int .i64 x.State.Firm.Seq, .slice A4 x.State.Chunks.length c4, .slice A5 x.Way.length c5, .slice A6 x.Acks.length c6, .slice A7 x.Waits.length c7] ∧ (True) ∧ SlR M RInt 1 8 A0 c0 x.Acting ∧ SlR M RHead 5 48 A1 c1 x.State.Base ∧ SlR M RLast 4 32 A2 c2 x.State.Clients ∧ SlR M REntry 10 88 A3 c3 x.State.Log ∧ SlR M RChunk 6 64 A4 c4 x.State.Chunks ∧ SlR M RWay 11 104 A5 c5 x.Way ∧ SlR M RAck 3 24 A6 c6 x.Acks ∧ SlR M RWait 6 72 A7 c7 x.Waits
theorem RLine.mono {M M' : Mem} (hl : Le M M') (x : GLine) (cs : List Value) (h : RLine M x cs) : RLine M' x cs := by
  obtain ⟨A0, c0, A1, c1, A2, c2, A3, c3, A4, c4, A5, c5, A6, c6, A7, c7, h, hb, s0, s1, s2, s3, s4, s5, s6, s7⟩ := h
  exact ⟨A0, c0, A1, c1, A2, c2, A3, c3, A4, c4, A5, c5, A6, c6, A7, c7, h, hb, s0.mono hl (RInt.mono hl), s1.mono hl (RHead.mono hl), s2.mono hl (RLast.mono hl), s3.mono hl (REntry.mono hl), s4.mono hl (RChunk.mono hl), s5.mono hl (RWay.mono hl), s6.mono hl (RAck.mono hl), s7.mono hl (RWait.mono hl)⟩
theorem at_Line {M : Mem} {A : Option Addr} {c : Nat} {l : List GLine} {by_ : Nat} (h : SlR M RLine 19 by_ A c l) {i : Nat} {x : GLine} (hx : l[i]? = some x) : ∃ ad, A = some ad ∧ ∃ A0 c0 A1 c1 A2 c2 A3 c3 A4 c4 A5 c5 A6 c6 A7 c7, (True) ∧ (SlR M RInt 1 8 A0 c0 x.Acting ∧ SlR M RHead 5 48 A1 c1 x.State.Base ∧ SlR M RLast 4 32 A2 c2 x.State.Clients ∧ SlR M REntry 10 88 A3 c3 x.State.Log ∧ SlR M RChunk 6 64 A4 c4 x.State.Chunks ∧ SlR M RWay 11 104 A5 c5 x.Way ∧ SlR M RAck 3 24 A6 c6 x.Acks ∧ SlR M RWait 6 72 A7 c7 x.Waits) ∧ M ((ad.add (i * 19)).add 0) = some (.int .i64 x.Epoch) ∧ M ((ad.add (i * 19)).add 1) = some (.int .i64 x.Code.K) ∧ M ((ad.add (i * 19)).add 2) = some (.int .i64 x.Code.M) ∧ M ((ad.add (i * 19)).add 3) = some (.slice A0 x.Acting.length c0) ∧ M ((ad.add (i * 19)).add 4) = some (.int .i64 x.State.Pg.Pool) ∧ M ((ad.add (i * 19)).add 5) = some (.int .i64 x.State.Pg.No) ∧ M ((ad.add (i * 19)).add 6) = some (.int .i64 x.State.Seen) ∧ M ((ad.add (i * 19)).add 7) = some (.int .i64 x.State.Started) ∧ M ((ad.add (i * 19)).add 8) = some (.int .i64 x.State.Tail.Epoch) ∧ M ((ad.add (i * 19)).add 9) = some (.int .i64 x.State.Tail.Seq) ∧ M ((ad.add (i * 19)).add 10) = some (.slice A1 x.State.Base.length c1) ∧ M ((ad.add (i * 19)).add 11) = some (.slice A2 x.State.Clients.length c2) ∧ M ((ad.add (i * 19)).add 12) = some (.slice A3 x.State.Log.length c3) ∧ M ((ad.add (i * 19)).add 13) = some (.int .i64 x.State.Firm.Epoch) ∧ M ((ad.add (i * 19)).add 14) = some (.int .i64 x.State.Firm.Seq) ∧ M ((ad.add (i * 19)).add 15) = some (.slice A4 x.State.Chunks.length c4) ∧ M ((ad.add (i * 19)).add 16) = some (.slice A5 x.Way.length c5) ∧ M ((ad.add (i * 19)).add 17) = some (.slice A6 x.Acks.length c6) ∧ M ((ad.add (i * 19)).add 18) = some (.slice A7 x.Waits.length c7) := by
  obtain ⟨ad, cs, h1, ⟨A0, c0, A1, c1, A2, c2, A3, c3, A4, c4, A5, c5, A6, c6, A7, c7, rfl, hb, s0, s1, s2, s3, s4, s5, s6, s7⟩, h3, h4⟩ := h.el i x hx
  exact ⟨ad, h1, A0, c0, A1, c1, A2, c2, A3, c3, A4, c4, A5, c5, A6, c6, A7, c7, hb, ⟨s0, s1, s2, s3, s4, s5, s6, s7⟩, h4 0 _ rfl, h4 1 _ rfl, h4 2 _ rfl, h4 3 _ rfl, h4 4 _ rfl, h4 5 _ rfl, h4 6 _ rfl, h4 7 _ rfl, h4 8 _ rfl, h4 9 _ rfl, h4 10 _ rfl, h4 11 _ rfl, h4 12 _ rfl, h4 13 _ rfl, h4 14 _ rfl, h4 15 _ rfl, h4 16 _ rfl, h4 17 _ rfl, h4 18 _ rfl⟩
structure GLead where
  Pg : GPg
  Epoch : Int
  Phase : Int
  Code : GCode
  Acting : List Int
  Ivs : List GInterval
  Heard : List GNotice
  Pick : GPgState
  Fills : List GFill
  Have : List GChunk
  Ready : List Int
  Line : GLine
  deriving DecidableEq
def RLead (M : Mem) (x : GLead) (cs : List Value) : Prop := ∃ A0 c0 A1 c1 A2 c2 A3 c3 A4 c4 A5 c5 A6 c6 A7 c7 A8 c8 A9 c9 A10 c10 A11 c11 A12 c12 A13 c13 A14 c14 A15 c15 A16 c16 A17 c17, cs = [.int .i64 x.Pg.Pool, .int .i64 x.Pg.No, .int .i64 x.Epoch, .int .i64 x.Phase, .int .i64 x.Code.K, .int .i64 x.Code.M, .slice A0 x.Acting.length c0, .slice A1 x.Ivs.length c1, .slice A2 x.Heard.length c2, .int .i64 x.Pick.Pg.Pool, .int .i64 x.Pick.Pg.No, .int .i64 x.Pick.Seen, .int .i64 x.Pick.Started, .int .i64 x.Pick.Tail.Epoch, .int .i64 x.Pick.Tail.Seq, .slice A3 x.Pick.Base.length c3, .slice A4 x.Pick.Clients.length c4, .slice A5 x.Pick.Log.length c5, .int .i64 x.Pick.Firm.Epoch, .int .i64 x.Pick.Firm.Seq, .slice A6 x.Pick.Chunks.length c6, .slice A7 x.Fills.length c7, .slice A8 x.Have.length c8, .slice A9 x.Ready.length c9, .int .i64 x.Line.Epoch, .int .i64 x.Line.Code.K, .int .i64 x.Line.Code.M, .slice A10 x.Line.Acting.length c10, .int .i64 x.Line.State.Pg.Pool, .int .i64 x.Line.State.Pg.No, .int .i64 x.Line.State.Seen, .int .i64 x.Line.State.Started, .int .i64 x.Line.State.Tail.Epoch, .int .i64 x.Line.State.Tail.Seq, .slice A11 x.Line.State.Base.length c11, .slice A12 x.Line.State.Clients.length c12, .slice A13 x.Line.State.Log.length c13, .int .i64 x.Line.State.Firm.Epoch, .int .i64 x.Line.State.Firm.Seq, .slice A14 x.Line.State.Chunks.length c14, .slice A15 x.Line.Way.length c15, .slice A16 x.Line.Acks.length c16, .slice A17 x.Line.Waits.length c17] ∧ (True) ∧ SlR M RInt 1 8 A0 c0 x.Acting ∧ SlR M RInterval 4 48 A1 c1 x.Ivs ∧ SlR M RNotice 13 168 A2 c2 x.Heard ∧ SlR M RHead 5 48 A3 c3 x.Pick.Base ∧ SlR M RLast 4 32 A4 c4 x.Pick.Clients ∧ SlR M REntry 10 88 A5 c5 x.Pick.Log ∧ SlR M RChunk 6 64 A6 c6 x.Pick.Chunks ∧ SlR M RFill 7 64 A7 c7 x.Fills ∧ SlR M RChunk 6 64 A8 c8 x.Have ∧ SlR M RInt 1 8 A9 c9 x.Ready ∧ SlR M RInt 1 8 A10 c10 x.Line.Acting ∧ SlR M RHead 5 48 A11 c11 x.Line.State.Base ∧ SlR M RLast 4 32 A12 c12 x.Line.State.Clients ∧ SlR M REntry 10 88 A13 c13 x.Line.State.Log ∧ SlR M RChunk 6 64 A14 c14 x.Line.State.Chunks ∧ SlR M RWay 11 104 A15 c15 x.Line.Way ∧ SlR M RAck 3 24 A16 c16 x.Line.Acks ∧ SlR M RWait 6 72 A17 c17 x.Line.Waits
theorem RLead.mono {M M' : Mem} (hl : Le M M') (x : GLead) (cs : List Value) (h : RLead M x cs) : RLead M' x cs := by
  obtain ⟨A0, c0, A1, c1, A2, c2, A3, c3, A4, c4, A5, c5, A6, c6, A7, c7, A8, c8, A9, c9, A10, c10, A11, c11, A12, c12, A13, c13, A14, c14, A15, c15, A16, c16, A17, c17, h, hb, s0, s1, s2, s3, s4, s5, s6, s7, s8, s9, s10, s11, s12, s13, s14, s15, s16, s17⟩ := h
  exact ⟨A0, c0, A1, c1, A2, c2, A3, c3, A4, c4, A5, c5, A6, c6, A7, c7, A8, c8, A9, c9, A10, c10, A11, c11, A12, c12, A13, c13, A14, c14, A15, c15, A16, c16, A17, c17, h, hb, s0.mono hl (RInt.mono hl), s1.mono hl (RInterval.mono hl), s2.mono hl (RNotice.mono hl), s3.mono hl (RHead.mono hl), s4.mono hl (RLast.mono hl), s5.mono hl (REntry.mono hl), s6.mono hl (RChunk.mono hl), s7.mono hl (RFill.mono hl), s8.mono hl (RChunk.mono hl), s9.mono hl (RInt.mono hl), s10.mono hl (RInt.mono hl), s11.mono hl (RHead.mono hl), s12.mono hl (RLast.mono hl), s13.mono hl (REntry.mono hl), s14.mono hl (RChunk.mono hl), s15.mono hl (RWay.mono hl), s16.mono hl (RAck.mono hl), s17.mono hl (RWait.mono hl)⟩
theorem at_Lead {M : Mem} {A : Option Addr} {c : Nat} {l : List GLead} {by_ : Nat} (h : SlR M RLead 43 by_ A c l) {i : Nat} {x : GLead} (hx : l[i]? = some x) : ∃ ad, A = some ad ∧ ∃ A0 c0 A1 c1 A2 c2 A3 c3 A4 c4 A5 c5 A6 c6 A7 c7 A8 c8 A9 c9 A10 c10 A11 c11 A12 c12 A13 c13 A14 c14 A15 c15 A16 c16 A17 c17, (True) ∧ (SlR M RInt 1 8 A0 c0 x.Acting ∧ SlR M RInterval 4 48 A1 c1 x.Ivs ∧ SlR M RNotice 13 168 A2 c2 x.Heard ∧ SlR M RHead 5 48 A3 c3 x.Pick.Base ∧ SlR M RLast 4 32 A4 c4 x.Pick.Clients ∧ SlR M REntry 10 88 A5 c5 x.Pick.Log ∧ SlR M RChunk 6 64 A6 c6 x.Pick.Chunks ∧ SlR M RFill 7 64 A7 c7 x.Fills ∧ SlR M RChunk 6 64 A8 c8 x.Have ∧ SlR M RInt 1 8 A9 c9 x.Ready ∧ SlR M RInt 1 8 A10 c10 x.Line.Acting ∧ SlR M RHead 5 48 A11 c11 x.Line.State.Base ∧ SlR M RLast 4 32 A12 c12 x.Line.State.Clients ∧ SlR M REntry 10 88 A13 c13 x.Line.State.Log ∧ SlR M RChunk 6 64 A14 c14 x.Line.State.Chunks ∧ SlR M RWay 11 104 A15 c15 x.Line.Way ∧ SlR M RAck 3 24 A16 c16 x.Line.Acks ∧ SlR M RWait 6 72 A17 c17 x.Line.Waits) ∧ M ((ad.add (i * 43)).add 0) = some (.int .i64 x.Pg.Pool) ∧ M ((ad.add (i * 43)).add 1) = some (.int .i64 x.Pg.No) ∧ M ((ad.add (i * 43)).add 2) = some (.int .i64 x.Epoch) ∧ M ((ad.add (i * 43)).add 3) = some (.int .i64 x.Phase) ∧ M ((ad.add (i * 43)).add 4) = some (.int .i64 x.Code.K) ∧ M ((ad.add (i * 43)).add 5) = some (.int .i64 x.Code.M) ∧ M ((ad.add (i * 43)).add 6) = some (.slice A0 x.Acting.length c0) ∧ M ((ad.add (i * 43)).add 7) = some (.slice A1 x.Ivs.length c1) ∧ M ((ad.add (i * 43)).add 8) = some (.slice A2 x.Heard.length c2) ∧ M ((ad.add (i * 43)).add 9) = some (.int .i64 x.Pick.Pg.Pool) ∧ M ((ad.add (i * 43)).add 10) = some (.int .i64 x.Pick.Pg.No) ∧ M ((ad.add (i * 43)).add 11) = some (.int .i64 x.Pick.Seen) ∧ M ((ad.add (i * 43)).add 12) = some (.int .i64 x.Pick.Started) ∧ M ((ad.add (i * 43)).add 13) = some (.int .i64 x.Pick.Tail.Epoch) ∧ M ((ad.add (i * 43)).add 14) = some (.int .i64 x.Pick.Tail.Seq) ∧ M ((ad.add (i * 43)).add 15) = some (.slice A3 x.Pick.Base.length c3) ∧ M ((ad.add (i * 43)).add 16) = some (.slice A4 x.Pick.Clients.length c4) ∧ M ((ad.add (i * 43)).add 17) = some (.slice A5 x.Pick.Log.length c5) ∧ M ((ad.add (i * 43)).add 18) = some (.int .i64 x.Pick.Firm.Epoch) ∧ M ((ad.add (i * 43)).add 19) = some (.int .i64 x.Pick.Firm.Seq) ∧ M ((ad.add (i * 43)).add 20) = some (.slice A6 x.Pick.Chunks.length c6) ∧ M ((ad.add (i * 43)).add 21) = some (.slice A7 x.Fills.length c7) ∧ M ((ad.add (i * 43)).add 22) = some (.slice A8 x.Have.length c8) ∧ M ((ad.add (i * 43)).add 23) = some (.slice A9 x.Ready.length c9) ∧ M ((ad.add (i * 43)).add 24) = some (.int .i64 x.Line.Epoch) ∧ M ((ad.add (i * 43)).add 25) = some (.int .i64 x.Line.Code.K) ∧ M ((ad.add (i * 43)).add 26) = some (.int .i64 x.Line.Code.M) ∧ M ((ad.add (i * 43)).add 27) = some (.slice A10 x.Line.Acting.length c10) ∧ M ((ad.add (i * 43)).add 28) = some (.int .i64 x.Line.State.Pg.Pool) ∧ M ((ad.add (i * 43)).add 29) = some (.int .i64 x.Line.State.Pg.No) ∧ M ((ad.add (i * 43)).add 30) = some (.int .i64 x.Line.State.Seen) ∧ M ((ad.add (i * 43)).add 31) = some (.int .i64 x.Line.State.Started) ∧ M ((ad.add (i * 43)).add 32) = some (.int .i64 x.Line.State.Tail.Epoch) ∧ M ((ad.add (i * 43)).add 33) = some (.int .i64 x.Line.State.Tail.Seq) ∧ M ((ad.add (i * 43)).add 34) = some (.slice A11 x.Line.State.Base.length c11) ∧ M ((ad.add (i * 43)).add 35) = some (.slice A12 x.Line.State.Clients.length c12) ∧ M ((ad.add (i * 43)).add 36) = some (.slice A13 x.Line.State.Log.length c13) ∧ M ((ad.add (i * 43)).add 37) = some (.int .i64 x.Line.State.Firm.Epoch) ∧ M ((ad.add (i * 43)).add 38) = some (.int .i64 x.Line.State.Firm.Seq) ∧ M ((ad.add (i * 43)).add 39) = some (.slice A14 x.Line.State.Chunks.length c14) ∧ M ((ad.add (i * 43)).add 40) = some (.slice A15 x.Line.Way.length c15) ∧ M ((ad.add (i * 43)).add 41) = some (.slice A16 x.Line.Acks.length c16) ∧ M ((ad.add (i * 43)).add 42) = some (.slice A17 x.Line.Waits.length c17) := by
  obtain ⟨ad, cs, h1, ⟨A0, c0, A1, c1, A2, c2, A3, c3, A4, c4, A5, c5, A6, c6, A7, c7, A8, c8, A9, c9, A10, c10, A11, c11, A12, c12, A13, c13, A14, c14, A15, c15, A16, c16, A17, c17, rfl, hb, s0, s1, s2, s3, s4, s5, s6, s7, s8, s9, s10, s11, s12, s13, s14, s15, s16, s17⟩, h3, h4⟩ := h.el i x hx
  exact ⟨ad, h1, A0, c0, A1, c1, A2, c2, A3, c3, A4, c4, A5, c5, A6, c6, A7, c7, A8, c8, A9, c9, A10, c10, A11, c11, A12, c12, A13, c13, A14, c14, A15, c15, A16, c16, A17, c17, hb, ⟨s0, s1, s2, s3, s4, s5, s6, s7, s8, s9, s10, s11, s12, s13, s14, s15, s16, s17⟩, h4 0 _ rfl, h4 1 _ rfl, h4 2 _ rfl, h4 3 _ rfl, h4 4 _ rfl, h4 5 _ rfl, h4 6 _ rfl, h4 7 _ rfl, h4 8 _ rfl, h4 9 _ rfl, h4 10 _ rfl, h4 11 _ rfl, h4 12 _ rfl, h4 13 _ rfl, h4 14 _ rfl, h4 15 _ rfl, h4 16 _ rfl, h4 17 _ rfl, h4 18 _ rfl, h4 19 _ rfl, h4 20 _ rfl, h4 21 _ rfl, h4 22 _ rfl, h4 23 _ rfl, h4 24 _ rfl, h4 25 _ rfl, h4 26 _ rfl, h4 27 _ rfl, h4 28 _ rfl, h4 29 _ rfl, h4 30 _ rfl, h4 31 _ rfl, h4 32 _ rfl, h4 33 _ rfl, h4 34 _ rfl, h4 35 _ rfl, h4 36 _ rfl, h4 37 _ rfl, h4 38 _ rfl, h4 39 _ rfl, h4 40 _ rfl, h4 41 _ rfl, h4 42 _ rfl⟩
structure GOp where
  Kind : Int
  At : Int
  Bytes : ByteArray
  deriving DecidableEq
theorem eqv_Op (x y : GOp) : ((x.Kind == y.Kind) && ((x.At == y.At) && ((x.Bytes.toList == y.Bytes.toList) && true))) = decide (x = y) := by
  (try rw [ba_eq]); (try rw [ba_eq])
  rw [Bool.eq_iff_iff]
  cases x; cases y
  simp
def ROp (M : Mem) (x : GOp) (cs : List Value) : Prop := cs = [.int .i64 x.Kind, .int .i64 x.At, .string x.Bytes] ∧ x.Bytes.size ≤ 9223372036854775807
theorem ROp.mono {M M' : Mem} (hl : Le M M') (x : GOp) (cs : List Value) (h : ROp M x cs) : ROp M' x cs := h
theorem at_Op {M : Mem} {A : Option Addr} {c : Nat} {l : List GOp} {by_ : Nat} (h : SlR M ROp 3 by_ A c l) {i : Nat} {x : GOp} (hx : l[i]? = some x) : ∃ ad, A = some ad ∧ (x.Bytes.size ≤ 9223372036854775807) ∧ M ((ad.add (i * 3)).add 0) = some (.int .i64 x.Kind) ∧ M ((ad.add (i * 3)).add 1) = some (.int .i64 x.At) ∧ M ((ad.add (i * 3)).add 2) = some (.string x.Bytes) := by
  obtain ⟨ad, cs, h1, ⟨rfl, hb⟩, h3, h4⟩ := h.el i x hx
  exact ⟨ad, h1, hb, h4 0 _ rfl, h4 1 _ rfl, h4 2 _ rfl⟩
structure GMsg where
  Kind : Int
  From : Int
  To : Int
  Pg : GPg
  Epoch : Int
  Name : ByteArray
  Ver : GVer
  Firm : GVer
  State : GPgState
  Entry : GEntry
  Chunk : GChunk
  Op : GOp
  Req : GReq
  Code : Int
  Body : ByteArray
  deriving DecidableEq
def RMsg (M : Mem) (x : GMsg) (cs : List Value) : Prop := ∃ A0 c0 A1 c1 A2 c2 A3 c3, cs = [.int .i64 x.Kind, .int .i64 x.From, .int .i64 x.To, .int .i64 x.Pg.Pool, .int .i64 x.Pg.No, .int .i64 x.Epoch, .string x.Name, .int .i64 x.Ver.Epoch, .int .i64 x.Ver.Seq, .int .i64 x.Firm.Epoch, .int .i64 x.Firm.Seq, .int .i64 x.State.Pg.Pool, .int .i64 x.State.Pg.No, .int .i64 x.State.Seen, .int .i64 x.State.Started, .int .i64 x.State.Tail.Epoch, .int .i64 x.State.Tail.Seq, .slice A0 x.State.Base.length c0, .slice A1 x.State.Clients.length c1, .slice A2 x.State.Log.length c2, .int .i64 x.State.Firm.Epoch, .int .i64 x.State.Firm.Seq, .slice A3 x.State.Chunks.length c3, .int .i64 x.Entry.Ver.Epoch, .int .i64 x.Entry.Ver.Seq, .int .i64 x.Entry.Prior.Epoch, .int .i64 x.Entry.Prior.Seq, .string x.Entry.Name, .bool x.Entry.Gone, .int .i64 x.Entry.Size, .int .i64 x.Entry.Sum, .int .i64 x.Entry.Req.Client, .int .i64 x.Entry.Req.No, .string x.Chunk.Name, .int .i64 x.Chunk.Ver.Epoch, .int .i64 x.Chunk.Ver.Seq, .int .i64 x.Chunk.Pos, .int .i64 x.Chunk.Sum, .string x.Chunk.Bytes, .int .i64 x.Op.Kind, .int .i64 x.Op.At, .string x.Op.Bytes, .int .i64 x.Req.Client, .int .i64 x.Req.No, .int .i64 x.Code, .string x.Body] ∧ (x.Name.size ≤ 9223372036854775807 ∧ x.Entry.Name.size ≤ 9223372036854775807 ∧ x.Chunk.Name.size ≤ 9223372036854775807 ∧ x.Chunk.Bytes.size ≤ 9223372036854775807 ∧ x.Op.Bytes.size ≤ 9223372036854775807 ∧ x.Body.size ≤ 9223372036854775807) ∧ SlR M RHead 5 48 A0 c0 x.State.Base ∧ SlR M RLast 4 32 A1 c1 x.State.Clients ∧ SlR M REntry 10 88 A2 c2 x.State.Log ∧ SlR M RChunk 6 64 A3 c3 x.State.Chunks
theorem RMsg.mono {M M' : Mem} (hl : Le M M') (x : GMsg) (cs : List Value) (h : RMsg M x cs) : RMsg M' x cs := by
  obtain ⟨A0, c0, A1, c1, A2, c2, A3, c3, h, hb, s0, s1, s2, s3⟩ := h
  exact ⟨A0, c0, A1, c1, A2, c2, A3, c3, h, hb, s0.mono hl (RHead.mono hl), s1.mono hl (RLast.mono hl), s2.mono hl (REntry.mono hl), s3.mono hl (RChunk.mono hl)⟩
theorem at_Msg {M : Mem} {A : Option Addr} {c : Nat} {l : List GMsg} {by_ : Nat} (h : SlR M RMsg 46 by_ A c l) {i : Nat} {x : GMsg} (hx : l[i]? = some x) : ∃ ad, A = some ad ∧ ∃ A0 c0 A1 c1 A2 c2 A3 c3, (x.Name.size ≤ 9223372036854775807 ∧ x.Entry.Name.size ≤ 9223372036854775807 ∧ x.Chunk.Name.size ≤ 9223372036854775807 ∧ x.Chunk.Bytes.size ≤ 9223372036854775807 ∧ x.Op.Bytes.size ≤ 9223372036854775807 ∧ x.Body.size ≤ 9223372036854775807) ∧ (SlR M RHead 5 48 A0 c0 x.State.Base ∧ SlR M RLast 4 32 A1 c1 x.State.Clients ∧ SlR M REntry 10 88 A2 c2 x.State.Log ∧ SlR M RChunk 6 64 A3 c3 x.State.Chunks) ∧ M ((ad.add (i * 46)).add 0) = some (.int .i64 x.Kind) ∧ M ((ad.add (i * 46)).add 1) = some (.int .i64 x.From) ∧ M ((ad.add (i * 46)).add 2) = some (.int .i64 x.To) ∧ M ((ad.add (i * 46)).add 3) = some (.int .i64 x.Pg.Pool) ∧ M ((ad.add (i * 46)).add 4) = some (.int .i64 x.Pg.No) ∧ M ((ad.add (i * 46)).add 5) = some (.int .i64 x.Epoch) ∧ M ((ad.add (i * 46)).add 6) = some (.string x.Name) ∧ M ((ad.add (i * 46)).add 7) = some (.int .i64 x.Ver.Epoch) ∧ M ((ad.add (i * 46)).add 8) = some (.int .i64 x.Ver.Seq) ∧ M ((ad.add (i * 46)).add 9) = some (.int .i64 x.Firm.Epoch) ∧ M ((ad.add (i * 46)).add 10) = some (.int .i64 x.Firm.Seq) ∧ M ((ad.add (i * 46)).add 11) = some (.int .i64 x.State.Pg.Pool) ∧ M ((ad.add (i * 46)).add 12) = some (.int .i64 x.State.Pg.No) ∧ M ((ad.add (i * 46)).add 13) = some (.int .i64 x.State.Seen) ∧ M ((ad.add (i * 46)).add 14) = some (.int .i64 x.State.Started) ∧ M ((ad.add (i * 46)).add 15) = some (.int .i64 x.State.Tail.Epoch) ∧ M ((ad.add (i * 46)).add 16) = some (.int .i64 x.State.Tail.Seq) ∧ M ((ad.add (i * 46)).add 17) = some (.slice A0 x.State.Base.length c0) ∧ M ((ad.add (i * 46)).add 18) = some (.slice A1 x.State.Clients.length c1) ∧ M ((ad.add (i * 46)).add 19) = some (.slice A2 x.State.Log.length c2) ∧ M ((ad.add (i * 46)).add 20) = some (.int .i64 x.State.Firm.Epoch) ∧ M ((ad.add (i * 46)).add 21) = some (.int .i64 x.State.Firm.Seq) ∧ M ((ad.add (i * 46)).add 22) = some (.slice A3 x.State.Chunks.length c3) ∧ M ((ad.add (i * 46)).add 23) = some (.int .i64 x.Entry.Ver.Epoch) ∧ M ((ad.add (i * 46)).add 24) = some (.int .i64 x.Entry.Ver.Seq) ∧ M ((ad.add (i * 46)).add 25) = some (.int .i64 x.Entry.Prior.Epoch) ∧ M ((ad.add (i * 46)).add 26) = some (.int .i64 x.Entry.Prior.Seq) ∧ M ((ad.add (i * 46)).add 27) = some (.string x.Entry.Name) ∧ M ((ad.add (i * 46)).add 28) = some (.bool x.Entry.Gone) ∧ M ((ad.add (i * 46)).add 29) = some (.int .i64 x.Entry.Size) ∧ M ((ad.add (i * 46)).add 30) = some (.int .i64 x.Entry.Sum) ∧ M ((ad.add (i * 46)).add 31) = some (.int .i64 x.Entry.Req.Client) ∧ M ((ad.add (i * 46)).add 32) = some (.int .i64 x.Entry.Req.No) ∧ M ((ad.add (i * 46)).add 33) = some (.string x.Chunk.Name) ∧ M ((ad.add (i * 46)).add 34) = some (.int .i64 x.Chunk.Ver.Epoch) ∧ M ((ad.add (i * 46)).add 35) = some (.int .i64 x.Chunk.Ver.Seq) ∧ M ((ad.add (i * 46)).add 36) = some (.int .i64 x.Chunk.Pos) ∧ M ((ad.add (i * 46)).add 37) = some (.int .i64 x.Chunk.Sum) ∧ M ((ad.add (i * 46)).add 38) = some (.string x.Chunk.Bytes) ∧ M ((ad.add (i * 46)).add 39) = some (.int .i64 x.Op.Kind) ∧ M ((ad.add (i * 46)).add 40) = some (.int .i64 x.Op.At) ∧ M ((ad.add (i * 46)).add 41) = some (.string x.Op.Bytes) ∧ M ((ad.add (i * 46)).add 42) = some (.int .i64 x.Req.Client) ∧ M ((ad.add (i * 46)).add 43) = some (.int .i64 x.Req.No) ∧ M ((ad.add (i * 46)).add 44) = some (.int .i64 x.Code) ∧ M ((ad.add (i * 46)).add 45) = some (.string x.Body) := by
  obtain ⟨ad, cs, h1, ⟨A0, c0, A1, c1, A2, c2, A3, c3, rfl, hb, s0, s1, s2, s3⟩, h3, h4⟩ := h.el i x hx
  exact ⟨ad, h1, A0, c0, A1, c1, A2, c2, A3, c3, hb, ⟨s0, s1, s2, s3⟩, h4 0 _ rfl, h4 1 _ rfl, h4 2 _ rfl, h4 3 _ rfl, h4 4 _ rfl, h4 5 _ rfl, h4 6 _ rfl, h4 7 _ rfl, h4 8 _ rfl, h4 9 _ rfl, h4 10 _ rfl, h4 11 _ rfl, h4 12 _ rfl, h4 13 _ rfl, h4 14 _ rfl, h4 15 _ rfl, h4 16 _ rfl, h4 17 _ rfl, h4 18 _ rfl, h4 19 _ rfl, h4 20 _ rfl, h4 21 _ rfl, h4 22 _ rfl, h4 23 _ rfl, h4 24 _ rfl, h4 25 _ rfl, h4 26 _ rfl, h4 27 _ rfl, h4 28 _ rfl, h4 29 _ rfl, h4 30 _ rfl, h4 31 _ rfl, h4 32 _ rfl, h4 33 _ rfl, h4 34 _ rfl, h4 35 _ rfl, h4 36 _ rfl, h4 37 _ rfl, h4 38 _ rfl, h4 39 _ rfl, h4 40 _ rfl, h4 41 _ rfl, h4 42 _ rfl, h4 43 _ rfl, h4 44 _ rfl, h4 45 _ rfl⟩
structure GServer where
  Id : Int
  Epoch : Int
  Alive : Bool
  Store : GStore
  Leads : List GLead
  Out : List GMsg
  deriving DecidableEq
def RServer (M : Mem) (x : GServer) (cs : List Value) : Prop := ∃ A0 c0 A1 c1 A2 c2 A3 c3, cs = [.int .i64 x.Id, .int .i64 x.Epoch, .bool x.Alive, .slice A0 x.Store.Live.length c0, .slice A1 x.Store.Kept.length c1, .slice A2 x.Leads.length c2, .slice A3 x.Out.length c3] ∧ (True) ∧ SlR M RPgState 12 160 A0 c0 x.Store.Live ∧ SlR M RPgState 12 160 A1 c1 x.Store.Kept ∧ SlR M RLead 43 632 A2 c2 x.Leads ∧ SlR M RMsg 46 480 A3 c3 x.Out
theorem RServer.mono {M M' : Mem} (hl : Le M M') (x : GServer) (cs : List Value) (h : RServer M x cs) : RServer M' x cs := by
  obtain ⟨A0, c0, A1, c1, A2, c2, A3, c3, h, hb, s0, s1, s2, s3⟩ := h
  exact ⟨A0, c0, A1, c1, A2, c2, A3, c3, h, hb, s0.mono hl (RPgState.mono hl), s1.mono hl (RPgState.mono hl), s2.mono hl (RLead.mono hl), s3.mono hl (RMsg.mono hl)⟩
theorem at_Server {M : Mem} {A : Option Addr} {c : Nat} {l : List GServer} {by_ : Nat} (h : SlR M RServer 7 by_ A c l) {i : Nat} {x : GServer} (hx : l[i]? = some x) : ∃ ad, A = some ad ∧ ∃ A0 c0 A1 c1 A2 c2 A3 c3, (True) ∧ (SlR M RPgState 12 160 A0 c0 x.Store.Live ∧ SlR M RPgState 12 160 A1 c1 x.Store.Kept ∧ SlR M RLead 43 632 A2 c2 x.Leads ∧ SlR M RMsg 46 480 A3 c3 x.Out) ∧ M ((ad.add (i * 7)).add 0) = some (.int .i64 x.Id) ∧ M ((ad.add (i * 7)).add 1) = some (.int .i64 x.Epoch) ∧ M ((ad.add (i * 7)).add 2) = some (.bool x.Alive) ∧ M ((ad.add (i * 7)).add 3) = some (.slice A0 x.Store.Live.length c0) ∧ M ((ad.add (i * 7)).add 4) = some (.slice A1 x.Store.Kept.length c1) ∧ M ((ad.add (i * 7)).add 5) = some (.slice A2 x.Leads.length c2) ∧ M ((ad.add (i * 7)).add 6) = some (.slice A3 x.Out.length c3) := by
  obtain ⟨ad, cs, h1, ⟨A0, c0, A1, c1, A2, c2, A3, c3, rfl, hb, s0, s1, s2, s3⟩, h3, h4⟩ := h.el i x hx
  exact ⟨ad, h1, A0, c0, A1, c1, A2, c2, A3, c3, hb, ⟨s0, s1, s2, s3⟩, h4 0 _ rfl, h4 1 _ rfl, h4 2 _ rfl, h4 3 _ rfl, h4 4 _ rfl, h4 5 _ rfl, h4 6 _ rfl⟩
theorem RPg.one {M : Mem} (x : GPg) (cs : List Value) (h : RPg M x cs) : allOne cs = true ∧ cs.length = 2 := by
  obtain ⟨rfl, _⟩ := h
  exact ⟨rfl, rfl⟩
theorem RVer.one {M : Mem} (x : GVer) (cs : List Value) (h : RVer M x cs) : allOne cs = true ∧ cs.length = 2 := by
  obtain ⟨rfl, _⟩ := h
  exact ⟨rfl, rfl⟩
theorem RHead.one {M : Mem} (x : GHead) (cs : List Value) (h : RHead M x cs) : allOne cs = true ∧ cs.length = 5 := by
  obtain ⟨rfl, _⟩ := h
  exact ⟨rfl, rfl⟩
theorem RLast.one {M : Mem} (x : GLast) (cs : List Value) (h : RLast M x cs) : allOne cs = true ∧ cs.length = 4 := by
  obtain ⟨rfl, _⟩ := h
  exact ⟨rfl, rfl⟩
theorem RReq.one {M : Mem} (x : GReq) (cs : List Value) (h : RReq M x cs) : allOne cs = true ∧ cs.length = 2 := by
  obtain ⟨rfl, _⟩ := h
  exact ⟨rfl, rfl⟩
theorem REntry.one {M : Mem} (x : GEntry) (cs : List Value) (h : REntry M x cs) : allOne cs = true ∧ cs.length = 10 := by
  obtain ⟨rfl, _⟩ := h
  exact ⟨rfl, rfl⟩
theorem RChunk.one {M : Mem} (x : GChunk) (cs : List Value) (h : RChunk M x cs) : allOne cs = true ∧ cs.length = 6 := by
  obtain ⟨rfl, _⟩ := h
  exact ⟨rfl, rfl⟩
theorem RPgState.one {M : Mem} (x : GPgState) (cs : List Value) (h : RPgState M x cs) : allOne cs = true ∧ cs.length = 12 := by
  obtain ⟨A0, c0, A1, c1, A2, c2, A3, c3, rfl, _⟩ := h
  exact ⟨rfl, rfl⟩
theorem RStore.one {M : Mem} (x : GStore) (cs : List Value) (h : RStore M x cs) : allOne cs = true ∧ cs.length = 2 := by
  obtain ⟨A0, c0, A1, c1, rfl, _⟩ := h
  exact ⟨rfl, rfl⟩
theorem RCode.one {M : Mem} (x : GCode) (cs : List Value) (h : RCode M x cs) : allOne cs = true ∧ cs.length = 2 := by
  obtain ⟨rfl, _⟩ := h
  exact ⟨rfl, rfl⟩
theorem RInterval.one {M : Mem} (x : GInterval) (cs : List Value) (h : RInterval M x cs) : allOne cs = true ∧ cs.length = 4 := by
  obtain ⟨A0, c0, rfl, _⟩ := h
  exact ⟨rfl, rfl⟩
theorem RNotice.one {M : Mem} (x : GNotice) (cs : List Value) (h : RNotice M x cs) : allOne cs = true ∧ cs.length = 13 := by
  obtain ⟨A0, c0, A1, c1, A2, c2, A3, c3, rfl, _⟩ := h
  exact ⟨rfl, rfl⟩
theorem RFill.one {M : Mem} (x : GFill) (cs : List Value) (h : RFill M x cs) : allOne cs = true ∧ cs.length = 7 := by
  obtain ⟨rfl, _⟩ := h
  exact ⟨rfl, rfl⟩
theorem RWay.one {M : Mem} (x : GWay) (cs : List Value) (h : RWay M x cs) : allOne cs = true ∧ cs.length = 11 := by
  obtain ⟨rfl, _⟩ := h
  exact ⟨rfl, rfl⟩
theorem RAck.one {M : Mem} (x : GAck) (cs : List Value) (h : RAck M x cs) : allOne cs = true ∧ cs.length = 3 := by
  obtain ⟨rfl, _⟩ := h
  exact ⟨rfl, rfl⟩
theorem RGot.one {M : Mem} (x : GGot) (cs : List Value) (h : RGot M x cs) : allOne cs = true ∧ cs.length = 17 := by
  obtain ⟨rfl, _⟩ := h
  exact ⟨rfl, rfl⟩
theorem RWait.one {M : Mem} (x : GWait) (cs : List Value) (h : RWait M x cs) : allOne cs = true ∧ cs.length = 6 := by
  obtain ⟨A0, c0, rfl, _⟩ := h
  exact ⟨rfl, rfl⟩
theorem RLine.one {M : Mem} (x : GLine) (cs : List Value) (h : RLine M x cs) : allOne cs = true ∧ cs.length = 19 := by
  obtain ⟨A0, c0, A1, c1, A2, c2, A3, c3, A4, c4, A5, c5, A6, c6, A7, c7, rfl, _⟩ := h
  exact ⟨rfl, rfl⟩
theorem RLead.one {M : Mem} (x : GLead) (cs : List Value) (h : RLead M x cs) : allOne cs = true ∧ cs.length = 43 := by
  obtain ⟨A0, c0, A1, c1, A2, c2, A3, c3, A4, c4, A5, c5, A6, c6, A7, c7, A8, c8, A9, c9, A10, c10, A11, c11, A12, c12, A13, c13, A14, c14, A15, c15, A16, c16, A17, c17, rfl, _⟩ := h
  exact ⟨rfl, rfl⟩
theorem ROp.one {M : Mem} (x : GOp) (cs : List Value) (h : ROp M x cs) : allOne cs = true ∧ cs.length = 3 := by
  obtain ⟨rfl, _⟩ := h
  exact ⟨rfl, rfl⟩
theorem RMsg.one {M : Mem} (x : GMsg) (cs : List Value) (h : RMsg M x cs) : allOne cs = true ∧ cs.length = 46 := by
  obtain ⟨A0, c0, A1, c1, A2, c2, A3, c3, rfl, _⟩ := h
  exact ⟨rfl, rfl⟩
theorem RServer.one {M : Mem} (x : GServer) (cs : List Value) (h : RServer M x cs) : allOne cs = true ∧ cs.length = 7 := by
  obtain ⟨A0, c0, A1, c1, A2, c2, A3, c3, rfl, _⟩ := h
  exact ⟨rfl, rfl⟩
theorem RInt.one {M : Mem} (x : Int) (cs : List Value) (h : RInt M x cs) : allOne cs = true ∧ cs.length = 1 := by
  obtain rfl := h
  exact ⟨rfl, rfl⟩
theorem RStr.one {M : Mem} (x : ByteArray) (cs : List Value) (h : RStr M x cs) : allOne cs = true ∧ cs.length = 1 := by
  obtain ⟨rfl, _⟩ := h
  exact ⟨rfl, rfl⟩
end Go.Proofs.Ytmfcnjbmmjbdfaa.Lw
