/- The types of the program's data, and how they lie in memory. -/
import Derived.Test.YthlnapamdcmlkaaLwRep
namespace Go.Proofs.Ythlnapamdcmlkaa.Lw
open Go Go.RowKit
set_option linter.unusedVariables false
def RInt (M : Mem) (x : Int) (cs : List Value) : Prop := cs = [.int .i64 x]
def RStr (M : Mem) (x : ByteArray) (cs : List Value) : Prop := cs = [.string x] ∧ x.size ≤ 9223372036854775807
theorem RInt.mono {M M' : Mem} (hl : Le M M') (x : Int) (cs : List Value) (h : RInt M x cs) : RInt M' x cs := h
theorem RStr.mono {M M' : Mem} (hl : Le M M') (x : ByteArray) (cs : List Value) (h : RStr M x cs) : RStr M' x cs := h
theorem at_Int {M : Mem} {A : Option Addr} {c : Nat} {l : List Int} {by_ : Nat} (h : SlR M RInt 1 by_ A c l) {i : Nat} {x : Int} (hx : l[i]? = some x) : ∃ ad, A = some ad ∧ True ∧ M ((ad.add (i * 1)).add 0) = some (.int .i64 x) := by
  obtain ⟨ad, cs, h1, rfl, h3, h4⟩ := h.el i x hx
  exact ⟨ad, h1, trivial, h4 0 _ rfl⟩
theorem at_Str {M : Mem} {A : Option Addr} {c : Nat} {l : List ByteArray} {by_ : Nat} (h : SlR M RStr 1 by_ A c l) {i : Nat} {x : ByteArray} (hx : l[i]? = some x) : ∃ ad, A = some ad ∧ x.size ≤ 9223372036854775807 ∧ M ((ad.add (i * 1)).add 0) = some (.string x) := by
  obtain ⟨ad, cs, h1, ⟨rfl, hb⟩, h3, h4⟩ := h.el i x hx
  exact ⟨ad, h1, hb, h4 0 _ rfl⟩
structure GPg where
  Pool : Int
  No : Int
  deriving DecidableEq
theorem eqv_Pg (x y : GPg) : ((x.Pool == y.Pool) && ((x.No == y.No) && true)) = decide (x = y) := by
  (try rw [ba_eq]); (try rw [ba_eq])
  rw [Bool.eq_iff_iff]
  cases x; cases y
  simp
def RPg (M : Mem) (x : GPg) (cs : List Value) : Prop := cs = [.int .i64 x.Pool, .int .i64 x.No] ∧ True
theorem RPg.mono {M M' : Mem} (hl : Le M M') (x : GPg) (cs : List Value) (h : RPg M x cs) : RPg M' x cs := h
theorem at_Pg {M : Mem} {A : Option Addr} {c : Nat} {l : List GPg} {by_ : Nat} (h : SlR M RPg 2 by_ A c l) {i : Nat} {x : GPg} (hx : l[i]? = some x) : ∃ ad, A = some ad ∧ (True) ∧ M ((ad.add (i * 2)).add 0) = some (.int .i64 x.Pool) ∧ M ((ad.add (i * 2)).add 1) = some (.int .i64 x.No) := by
  obtain ⟨ad, cs, h1, ⟨rfl, hb⟩, h3, h4⟩ := h.el i x hx
  exact ⟨ad, h1, hb, h4 0 _ rfl, h4 1 _ rfl⟩
structure GOp where
  Kind : Int
  At : Int
  Bytes : ByteArray
  deriving DecidableEq
theorem eqv_Op (x y : GOp) : ((x.Kind == y.Kind) && ((x.At == y.At) && ((x.Bytes.toList == y.Bytes.toList) && true))) = decide (x = y) := by
  (try rw [ba_eq]); (try rw [ba_eq])
  rw [Bool.eq_iff_iff]
  cases x; cases y
  simp
def ROp (M : Mem) (x : GOp) (cs : List Value) : Prop := cs = [.int .i64 x.Kind, .int .i64 x.At, .string x.Bytes] ∧ x.Bytes.size ≤ 9223372036854775807
theorem ROp.mono {M M' : Mem} (hl : Le M M') (x : GOp) (cs : List Value) (h : ROp M x cs) : ROp M' x cs := h
theorem at_Op {M : Mem} {A : Option Addr} {c : Nat} {l : List GOp} {by_ : Nat} (h : SlR M ROp 3 by_ A c l) {i : Nat} {x : GOp} (hx : l[i]? = some x) : ∃ ad, A = some ad ∧ (x.Bytes.size ≤ 9223372036854775807) ∧ M ((ad.add (i * 3)).add 0) = some (.int .i64 x.Kind) ∧ M ((ad.add (i * 3)).add 1) = some (.int .i64 x.At) ∧ M ((ad.add (i * 3)).add 2) = some (.string x.Bytes) := by
  obtain ⟨ad, cs, h1, ⟨rfl, hb⟩, h3, h4⟩ := h.el i x hx
  exact ⟨ad, h1, hb, h4 0 _ rfl, h4 1 _ rfl, h4 2 _ rfl⟩
structure GVer where
  Epoch : Int
  Seq : Int
  deriving DecidableEq
theorem eqv_Ver (x y : GVer) : ((x.Epoch == y.Epoch) && ((x.Seq == y.Seq) && true)) = decide (x = y) := by
  (try rw [ba_eq]); (try rw [ba_eq])
  rw [Bool.eq_iff_iff]
  cases x; cases y
  simp
def RVer (M : Mem) (x : GVer) (cs : List Value) : Prop := cs = [.int .i64 x.Epoch, .int .i64 x.Seq] ∧ True
theorem RVer.mono {M M' : Mem} (hl : Le M M') (x : GVer) (cs : List Value) (h : RVer M x cs) : RVer M' x cs := h
theorem at_Ver {M : Mem} {A : Option Addr} {c : Nat} {l : List GVer} {by_ : Nat} (h : SlR M RVer 2 by_ A c l) {i : Nat} {x : GVer} (hx : l[i]? = some x) : ∃ ad, A = some ad ∧ (True) ∧ M ((ad.add (i * 2)).add 0) = some (.int .i64 x.Epoch) ∧ M ((ad.add (i * 2)).add 1) = some (.int .i64 x.Seq) := by
  obtain ⟨ad, cs, h1, ⟨rfl, hb⟩, h3, h4⟩ := h.el i x hx
  exact ⟨ad, h1, hb, h4 0 _ rfl, h4 1 _ rfl⟩
structure GCall where
  Client : Int
  No : Int
  Pg : GPg
  Name : ByteArray
  Op : GOp
  Begin : Int
  End : Int
  Code : Int
  Ver : GVer
  Body : ByteArray
  deriving DecidableEq
theorem eqv_Call (x y : GCall) : ((x.Client == y.Client) && ((x.No == y.No) && (((x.Pg.Pool == y.Pg.Pool) && ((x.Pg.No == y.Pg.No) && true)) && ((x.Name.toList == y.Name.toList) && (((x.Op.Kind == y.Op.Kind) && ((x.Op.At == y.Op.At) && ((x.Op.Bytes.toList == y.Op.Bytes.toList) && true))) && ((x.Begin == y.Begin) && ((x.End == y.End) && ((x.Code == y.Code) && (((x.Ver.Epoch == y.Ver.Epoch) && ((x.Ver.Seq == y.Ver.Seq) && true)) && ((x.Body.toList == y.Body.toList) && true)))))))))) = decide (x = y) := by
  rw [eqv_Pg]
  rw [eqv_Op]
  rw [eqv_Ver]
  (try rw [ba_eq]); (try rw [ba_eq])
  rw [Bool.eq_iff_iff]
  cases x; cases y
  simp
def RCall (M : Mem) (x : GCall) (cs : List Value) : Prop := cs = [.int .i64 x.Client, .int .i64 x.No, .int .i64 x.Pg.Pool, .int .i64 x.Pg.No, .string x.Name, .int .i64 x.Op.Kind, .int .i64 x.Op.At, .string x.Op.Bytes, .int .i64 x.Begin, .int .i64 x.End, .int .i64 x.Code, .int .i64 x.Ver.Epoch, .int .i64 x.Ver.Seq, .string x.Body] ∧ x.Name.size ≤ 9223372036854775807 ∧ x.Op.Bytes.size ≤ 9223372036854775807 ∧ x.Body.size ≤ 9223372036854775807
theorem RCall.mono {M M' : Mem} (hl : Le M M') (x : GCall) (cs : List Value) (h : RCall M x cs) : RCall M' x cs := h
theorem at_Call {M : Mem} {A : Option Addr} {c : Nat} {l : List GCall} {by_ : Nat} (h : SlR M RCall 14 by_ A c l) {i : Nat} {x : GCall} (hx : l[i]? = some x) : ∃ ad, A = some ad ∧ (x.Name.size ≤ 9223372036854775807 ∧ x.Op.Bytes.size ≤ 9223372036854775807 ∧ x.Body.size ≤ 9223372036854775807) ∧ M ((ad.add (i * 14)).add 0) = some (.int .i64 x.Client) ∧ M ((ad.add (i * 14)).add 1) = some (.int .i64 x.No) ∧ M ((ad.add (i * 14)).add 2) = some (.int .i64 x.Pg.Pool) ∧ M ((ad.add (i * 14)).add 3) = some (.int .i64 x.Pg.No) ∧ M ((ad.add (i * 14)).add 4) = some (.string x.Name) ∧ M ((ad.add (i * 14)).add 5) = some (.int .i64 x.Op.Kind) ∧ M ((ad.add (i * 14)).add 6) = some (.int .i64 x.Op.At) ∧ M ((ad.add (i * 14)).add 7) = some (.string x.Op.Bytes) ∧ M ((ad.add (i * 14)).add 8) = some (.int .i64 x.Begin) ∧ M ((ad.add (i * 14)).add 9) = some (.int .i64 x.End) ∧ M ((ad.add (i * 14)).add 10) = some (.int .i64 x.Code) ∧ M ((ad.add (i * 14)).add 11) = some (.int .i64 x.Ver.Epoch) ∧ M ((ad.add (i * 14)).add 12) = some (.int .i64 x.Ver.Seq) ∧ M ((ad.add (i * 14)).add 13) = some (.string x.Body) := by
  obtain ⟨ad, cs, h1, ⟨rfl, hb⟩, h3, h4⟩ := h.el i x hx
  exact ⟨ad, h1, hb, h4 0 _ rfl, h4 1 _ rfl, h4 2 _ rfl, h4 3 _ rfl, h4 4 _ rfl, h4 5 _ rfl, h4 6 _ rfl, h4 7 _ rfl, h4 8 _ rfl, h4 9 _ rfl, h4 10 _ rfl, h4 11 _ rfl, h4 12 _ rfl, h4 13 _ rfl⟩
structure GCode where
  K : Int
  M : Int
  deriving DecidableEq
theorem eqv_Code (x y : GCode) : ((x.K == y.K) && ((x.M == y.M) && true)) = decide (x = y) := by
  (try rw [ba_eq]); (try rw [ba_eq])
  rw [Bool.eq_iff_iff]
  cases x; cases y
  simp
def RCode (M : Mem) (x : GCode) (cs : List Value) : Prop := cs = [.int .i64 x.K, .int .i64 x.M] ∧ True
theorem RCode.mono {M M' : Mem} (hl : Le M M') (x : GCode) (cs : List Value) (h : RCode M x cs) : RCode M' x cs := h
theorem at_Code {M : Mem} {A : Option Addr} {c : Nat} {l : List GCode} {by_ : Nat} (h : SlR M RCode 2 by_ A c l) {i : Nat} {x : GCode} (hx : l[i]? = some x) : ∃ ad, A = some ad ∧ (True) ∧ M ((ad.add (i * 2)).add 0) = some (.int .i64 x.K) ∧ M ((ad.add (i * 2)).add 1) = some (.int .i64 x.M) := by
  obtain ⟨ad, cs, h1, ⟨rfl, hb⟩, h3, h4⟩ := h.el i x hx
  exact ⟨ad, h1, hb, h4 0 _ rfl, h4 1 _ rfl⟩
theorem RPg.one {M : Mem} (x : GPg) (cs : List Value) (h : RPg M x cs) : allOne cs = true ∧ cs.length = 2 := by
  obtain ⟨rfl, _⟩ := h
  exact ⟨rfl, rfl⟩
theorem ROp.one {M : Mem} (x : GOp) (cs : List Value) (h : ROp M x cs) : allOne cs = true ∧ cs.length = 3 := by
  obtain ⟨rfl, _⟩ := h
  exact ⟨rfl, rfl⟩
theorem RVer.one {M : Mem} (x : GVer) (cs : List Value) (h : RVer M x cs) : allOne cs = true ∧ cs.length = 2 := by
  obtain ⟨rfl, _⟩ := h
  exact ⟨rfl, rfl⟩
theorem RCall.one {M : Mem} (x : GCall) (cs : List Value) (h : RCall M x cs) : allOne cs = true ∧ cs.length = 14 := by
  obtain ⟨rfl, _⟩ := h
  exact ⟨rfl, rfl⟩
theorem RCode.one {M : Mem} (x : GCode) (cs : List Value) (h : RCode M x cs) : allOne cs = true ∧ cs.length = 2 := by
  obtain ⟨rfl, _⟩ := h
  exact ⟨rfl, rfl⟩
theorem RInt.one {M : Mem} (x : Int) (cs : List Value) (h : RInt M x cs) : allOne cs = true ∧ cs.length = 1 := by
  obtain rfl := h
  exact ⟨rfl, rfl⟩
theorem RStr.one {M : Mem} (x : ByteArray) (cs : List Value) (h : RStr M x cs) : allOne cs = true ∧ cs.length = 1 := by
  obtain ⟨rfl, _⟩ := h
  exact ⟨rfl, rfl⟩
end Go.Proofs.Ythlnapamdcmlkaa.Lw
