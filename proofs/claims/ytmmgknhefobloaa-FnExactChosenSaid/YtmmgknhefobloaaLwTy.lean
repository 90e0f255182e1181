/- The types of the program's data, and how they lie in memory. -/
import Derived.Test.YtmmgknhefobloaaLwRep
namespace Go.Proofs.Ytmmgknhefobloaa.Lw
open Go Go.RowKit
set_option linter.unusedVariables false
def RInt (M : Mem) (x : Int) (cs : List Value) : Prop := cs = [.int .i64 x]
def RStr (M : Mem) (x : ByteArray) (cs : List Value) : Prop := cs = [.string x] ∧ x.size ≤ 9223372036854775807
theorem RInt.mono {M M' : Mem} (hl : Le M M') (x : Int) (cs : List Value) (h : RInt M x cs) : RInt M' x cs := h
theorem RStr.mono {M M' : Mem} (hl : Le M M') (x : ByteArray) (cs : List Value) (h : RStr M x cs) : RStr M' x cs := h
theorem at_Int {M : Mem} {A : Option Addr} {c : Nat} {l : List Int} {by_ : Nat} (h : SlR M RInt 1 by_ A c l) {i : Nat} {x : Int} (hx : l[i]? = some x) : ∃ ad, A = some ad ∧ True ∧ M ((ad.add (i * 1)).add 0) = some (.int .i64 x) := by
  obtain ⟨ad, cs, h1, rfl, h3, h4⟩ := h.el i x hx
  exact ⟨ad, h1, trivial, h4 0 _ rfl⟩
theorem at_Str {M : Mem} {A : Option Addr} {c : Nat} {l : List ByteArray} {by_ : Nat} (h : SlR M RStr 1 by_ A c l) {i : Nat} {x : ByteArray} (hx : l[i]? = some x) : ∃ ad, A = some ad ∧ x.size ≤ 9223372036854775807 ∧ M ((ad.add (i * 1)).add 0) = some (.string x) := by
  obtain ⟨ad, cs, h1, ⟨rfl, hb⟩, h3, h4⟩ := h.el i x hx
  exact ⟨ad, h1, hb, h4 0 _ rfl⟩
structure GBallot where
  No : Int
  By : Int
  deriving DecidableEq
theorem eqv_Ballot (x y : GBallot) : ((x.No == y.No) && ((x.By == y.By) && true)) = decide (x = y) := by
  (try rw [ba_eq]); (try rw [ba_eq])
  rw [Bool.eq_iff_iff]
  cases x; cases y
  simp
def RBallot (M : Mem) (x : GBallot) (cs : List Value) : Prop := cs = [.int .i64 x.No, .int .i64 x.By] ∧ True
theorem RBallot.mono {M M' : Mem} (hl : Le M M') (x : GBallot) (cs : List Value) (h : RBallot M x cs) : RBallot M' x cs := h
theorem at_Ballot {M : Mem} {A : Option Addr} {c : Nat} {l : List GBallot} {by_ : Nat} (h : SlR M RBallot 2 by_ A c l) {i : Nat} {x : GBallot} (hx : l[i]? = some x) : ∃ ad, A = some ad ∧ (True) ∧ M ((ad.add (i * 2)).add 0) = some (.int .i64 x.No) ∧ M ((ad.add (i * 2)).add 1) = some (.int .i64 x.By) := by
  obtain ⟨ad, cs, h1, ⟨rfl, hb⟩, h3, h4⟩ := h.el i x hx
  exact ⟨ad, h1, hb, h4 0 _ rfl, h4 1 _ rfl⟩
structure GInc where
  Epoch : Int
  Kind : Int
  A : Int
  B : Int
  deriving DecidableEq
theorem eqv_Inc (x y : GInc) : ((x.Epoch == y.Epoch) && ((x.Kind == y.Kind) && ((x.A == y.A) && ((x.B == y.B) && true)))) = decide (x = y) := by
  (try rw [ba_eq]); (try rw [ba_eq])
  rw [Bool.eq_iff_iff]
  cases x; cases y
  simp
def RInc (M : Mem) (x : GInc) (cs : List Value) : Prop := cs = [.int .i64 x.Epoch, .int .i64 x.Kind, .int .i64 x.A, .int .i64 x.B] ∧ True
theorem RInc.mono {M M' : Mem} (hl : Le M M') (x : GInc) (cs : List Value) (h : RInc M x cs) : RInc M' x cs := h
theorem at_Inc {M : Mem} {A : Option Addr} {c : Nat} {l : List GInc} {by_ : Nat} (h : SlR M RInc 4 by_ A c l) {i : Nat} {x : GInc} (hx : l[i]? = some x) : ∃ ad, A = some ad ∧ (True) ∧ M ((ad.add (i * 4)).add 0) = some (.int .i64 x.Epoch) ∧ M ((ad.add (i * 4)).add 1) = some (.int .i64 x.Kind) ∧ M ((ad.add (i * 4)).add 2) = some (.int .i64 x.A) ∧ M ((ad.add (i * 4)).add 3) = some (.int .i64 x.B) := by
  obtain ⟨ad, cs, h1, ⟨rfl, hb⟩, h3, h4⟩ := h.el i x hx
  exact ⟨ad, h1, hb, h4 0 _ rfl, h4 1 _ rfl, h4 2 _ rfl, h4 3 _ rfl⟩
structure GTry where
  Epoch : Int
  Ballot : GBallot
  Inc : GInc
  Highest : GBallot
  Promises : List Int
  Accepts : List Int
  Decided : Bool
  deriving DecidableEq
def RTry (M : Mem) (x : GTry) (cs : List Value) : Prop := ∃ A0 c0 A1 c1, cs = [.int .i64 x.Epoch, .int .i64 x.Ballot.No, .int .i64 x.Ballot.By, .int .i64 x.Inc.Epoch, .int .i64 x.Inc.Kind, .int .i64 x.Inc.A, .int .i64 x.Inc.B, .int .i64 x.Highest.No, .int .i64 x.Highest.By, .slice A0 x.Promises.length c0, .slice A1 x.Accepts.length c1, .bool x.Decided] ∧ (True) ∧ SlR M RInt 1 8 A0 c0 x.Promises ∧ SlR M RInt 1 8 A1 c1 x.Accepts
theorem RTry.mono {M M' : Mem} (hl : Le M M') (x : GTry) (cs : List Value) (h : RTry M x cs) : RTry M' x cs := by
  obtain ⟨A0, c0, A1, c1, h, hb, s0, s1⟩ := h
  exact ⟨A0, c0, A1, c1, h, hb, s0.mono hl (RInt.mono hl), s1.mono hl (RInt.mono hl)⟩
theorem at_Try {M : Mem} {A : Option Addr} {c : Nat} {l : List GTry} {by_ : Nat} (h : SlR M RTry 12 by_ A c l) {i : Nat} {x : GTry} (hx : l[i]? = some x) : ∃ ad, A = some ad ∧ ∃ A0 c0 A1 c1, (True) ∧ (SlR M RInt 1 8 A0 c0 x.Promises ∧ SlR M RInt 1 8 A1 c1 x.Accepts) ∧ M ((ad.add (i * 12)).add 0) = some (.int .i64 x.Epoch) ∧ M ((ad.add (i * 12)).add 1) = some (.int .i64 x.Ballot.No) ∧ M ((ad.add (i * 12)).add 2) = some (.int .i64 x.Ballot.By) ∧ M ((ad.add (i * 12)).add 3) = some (.int .i64 x.Inc.Epoch) ∧ M ((ad.add (i * 12)).add 4) = some (.int .i64 x.Inc.Kind) ∧ M ((ad.add (i * 12)).add 5) = some (.int .i64 x.Inc.A) ∧ M ((ad.add (i * 12)).add 6) = some (.int .i64 x.Inc.B) ∧ M ((ad.add (i * 12)).add 7) = some (.int .i64 x.Highest.No) ∧ M ((ad.add (i * 12)).add 8) = some (.int .i64 x.Highest.By) ∧ M ((ad.add (i * 12)).add 9) = some (.slice A0 x.Promises.length c0) ∧ M ((ad.add (i * 12)).add 10) = some (.slice A1 x.Accepts.length c1) ∧ M ((ad.add (i * 12)).add 11) = some (.bool x.Decided) := by
  obtain ⟨ad, cs, h1, ⟨A0, c0, A1, c1, rfl, hb, s0, s1⟩, h3, h4⟩ := h.el i x hx
  exact ⟨ad, h1, A0, c0, A1, c1, hb, ⟨s0, s1⟩, h4 0 _ rfl, h4 1 _ rfl, h4 2 _ rfl, h4 3 _ rfl, h4 4 _ rfl, h4 5 _ rfl, h4 6 _ rfl, h4 7 _ rfl, h4 8 _ rfl, h4 9 _ rfl, h4 10 _ rfl, h4 11 _ rfl⟩
structure GSlot where
  Epoch : Int
  Promised : GBallot
  Accepted : GBallot
  Inc : GInc
  deriving DecidableEq
theorem eqv_Slot (x y : GSlot) : ((x.Epoch == y.Epoch) && (((x.Promised.No == y.Promised.No) && ((x.Promised.By == y.Promised.By) && true)) && (((x.Accepted.No == y.Accepted.No) && ((x.Accepted.By == y.Accepted.By) && true)) && (((x.Inc.Epoch == y.Inc.Epoch) && ((x.Inc.Kind == y.Inc.Kind) && ((x.Inc.A == y.Inc.A) && ((x.Inc.B == y.Inc.B) && true)))) && true)))) = decide (x = y) := by
  rw [eqv_Ballot]
  rw [eqv_Ballot]
  rw [eqv_Inc]
  (try rw [ba_eq]); (try rw [ba_eq])
  rw [Bool.eq_iff_iff]
  cases x; cases y
  simp
def RSlot (M : Mem) (x : GSlot) (cs : List Value) : Prop := cs = [.int .i64 x.Epoch, .int .i64 x.Promised.No, .int .i64 x.Promised.By, .int .i64 x.Accepted.No, .int .i64 x.Accepted.By, .int .i64 x.Inc.Epoch, .int .i64 x.Inc.Kind, .int .i64 x.Inc.A, .int .i64 x.Inc.B] ∧ True
theorem RSlot.mono {M M' : Mem} (hl : Le M M') (x : GSlot) (cs : List Value) (h : RSlot M x cs) : RSlot M' x cs := h
theorem at_Slot {M : Mem} {A : Option Addr} {c : Nat} {l : List GSlot} {by_ : Nat} (h : SlR M RSlot 9 by_ A c l) {i : Nat} {x : GSlot} (hx : l[i]? = some x) : ∃ ad, A = some ad ∧ (True) ∧ M ((ad.add (i * 9)).add 0) = some (.int .i64 x.Epoch) ∧ M ((ad.add (i * 9)).add 1) = some (.int .i64 x.Promised.No) ∧ M ((ad.add (i * 9)).add 2) = some (.int .i64 x.Promised.By) ∧ M ((ad.add (i * 9)).add 3) = some (.int .i64 x.Accepted.No) ∧ M ((ad.add (i * 9)).add 4) = some (.int .i64 x.Accepted.By) ∧ M ((ad.add (i * 9)).add 5) = some (.int .i64 x.Inc.Epoch) ∧ M ((ad.add (i * 9)).add 6) = some (.int .i64 x.Inc.Kind) ∧ M ((ad.add (i * 9)).add 7) = some (.int .i64 x.Inc.A) ∧ M ((ad.add (i * 9)).add 8) = some (.int .i64 x.Inc.B) := by
  obtain ⟨ad, cs, h1, ⟨rfl, hb⟩, h3, h4⟩ := h.el i x hx
  exact ⟨ad, h1, hb, h4 0 _ rfl, h4 1 _ rfl, h4 2 _ rfl, h4 3 _ rfl, h4 4 _ rfl, h4 5 _ rfl, h4 6 _ rfl, h4 7 _ rfl, h4 8 _ rfl⟩
structure GMon where
  Id : Int
  Many : Int
  Slots : List GSlot
  Try : GTry
  deriving DecidableEq
def RMon (M : Mem) (x : GMon) (cs : List Value) : Prop := ∃ A0 c0 A1 c1 A2 c2, cs = [.int .i64 x.Id, .int .i64 x.Many, .slice A0 x.Slots.length c0, .int .i64 x.Try.Epoch, .int .i64 x.Try.Ballot.No, .int .i64 x.Try.Ballot.By, .int .i64 x.Try.Inc.Epoch, .int .i64 x.Try.Inc.Kind, .int .i64 x.Try.Inc.A, .int .i64 x.Try.Inc.B, .int .i64 x.Try.Highest.No, .int .i64 x.Try.Highest.By, .slice A1 x.Try.Promises.length c1, .slice A2 x.Try.Accepts.length c2, .bool x.Try.Decided] ∧ (True) ∧ SlR M RSlot 9 72 A0 c0 x.Slots ∧ SlR M RInt 1 8 A1 c1 x.Try.Promises ∧ SlR M RInt 1 8 A2 c2 x.Try.Accepts
theorem RMon.mono {M M' : Mem} (hl : Le M M') (x : GMon) (cs : List Value) (h : RMon M x cs) : RMon M' x cs := by
  obtain ⟨A0, c0, A1, c1, A2, c2, h, hb, s0, s1, s2⟩ := h
  exact ⟨A0, c0, A1, c1, A2, c2, h, hb, s0.mono hl (RSlot.mono hl), s1.mono hl (RInt.mono hl), s2.mono hl (RInt.mono hl)⟩
theorem at_Mon {M : Mem} {A : Option Addr} {c : Nat} {l : List GMon} {by_ : Nat} (h : SlR M RMon 15 by_ A c l) {i : Nat} {x : GMon} (hx : l[i]? = some x) : ∃ ad, A = some ad ∧ ∃ A0 c0 A1 c1 A2 c2, (True) ∧ (SlR M RSlot 9 72 A0 c0 x.Slots ∧ SlR M RInt 1 8 A1 c1 x.Try.Promises ∧ SlR M RInt 1 8 A2 c2 x.Try.Accepts) ∧ M ((ad.add (i * 15)).add 0) = some (.int .i64 x.Id) ∧ M ((ad.add (i * 15)).add 1) = some (.int .i64 x.Many) ∧ M ((ad.add (i * 15)).add 2) = some (.slice A0 x.Slots.length c0) ∧ M ((ad.add (i * 15)).add 3) = some (.int .i64 x.Try.Epoch) ∧ M ((ad.add (i * 15)).add 4) = some (.int .i64 x.Try.Ballot.No) ∧ M ((ad.add (i * 15)).add 5) = some (.int .i64 x.Try.Ballot.By) ∧ M ((ad.add (i * 15)).add 6) = some (.int .i64 x.Try.Inc.Epoch) ∧ M ((ad.add (i * 15)).add 7) = some (.int .i64 x.Try.Inc.Kind) ∧ M ((ad.add (i * 15)).add 8) = some (.int .i64 x.Try.Inc.A) ∧ M ((ad.add (i * 15)).add 9) = some (.int .i64 x.Try.Inc.B) ∧ M ((ad.add (i * 15)).add 10) = some (.int .i64 x.Try.Highest.No) ∧ M ((ad.add (i * 15)).add 11) = some (.int .i64 x.Try.Highest.By) ∧ M ((ad.add (i * 15)).add 12) = some (.slice A1 x.Try.Promises.length c1) ∧ M ((ad.add (i * 15)).add 13) = some (.slice A2 x.Try.Accepts.length c2) ∧ M ((ad.add (i * 15)).add 14) = some (.bool x.Try.Decided) := by
  obtain ⟨ad, cs, h1, ⟨A0, c0, A1, c1, A2, c2, rfl, hb, s0, s1, s2⟩, h3, h4⟩ := h.el i x hx
  exact ⟨ad, h1, A0, c0, A1, c1, A2, c2, hb, ⟨s0, s1, s2⟩, h4 0 _ rfl, h4 1 _ rfl, h4 2 _ rfl, h4 3 _ rfl, h4 4 _ rfl, h4 5 _ rfl, h4 6 _ rfl, h4 7 _ rfl, h4 8 _ rfl, h4 9 _ rfl, h4 10 _ rfl, h4 11 _ rfl, h4 12 _ rfl, h4 13 _ rfl, h4 14 _ rfl⟩
theorem RBallot.one {M : Mem} (x : GBallot) (cs : List Value) (h : RBallot M x cs) : allOne cs = true ∧ cs.length = 2 := by
  obtain ⟨rfl, _⟩ := h
  exact ⟨rfl, rfl⟩
theorem RInc.one {M : Mem} (x : GInc) (cs : List Value) (h : RInc M x cs) : allOne cs = true ∧ cs.length = 4 := by
  obtain ⟨rfl, _⟩ := h
  exact ⟨rfl, rfl⟩
theorem RTry.one {M : Mem} (x : GTry) (cs : List Value) (h : RTry M x cs) : allOne cs = true ∧ cs.length = 12 := by
  obtain ⟨A0, c0, A1, c1, rfl, _⟩ := h
  exact ⟨rfl, rfl⟩
theorem RSlot.one {M : Mem} (x : GSlot) (cs : List Value) (h : RSlot M x cs) : allOne cs = true ∧ cs.length = 9 := by
  obtain ⟨rfl, _⟩ := h
  exact ⟨rfl, rfl⟩
theorem RMon.one {M : Mem} (x : GMon) (cs : List Value) (h : RMon M x cs) : allOne cs = true ∧ cs.length = 15 := by
  obtain ⟨A0, c0, A1, c1, A2, c2, rfl, _⟩ := h
  exact ⟨rfl, rfl⟩
theorem RInt.one {M : Mem} (x : Int) (cs : List Value) (h : RInt M x cs) : allOne cs = true ∧ cs.length = 1 := by
  obtain rfl := h
  exact ⟨rfl, rfl⟩
theorem RStr.one {M : Mem} (x : ByteArray) (cs : List Value) (h : RStr M x cs) : allOne cs = true ∧ cs.length = 1 := by
  obtain ⟨rfl, _⟩ := h
  exact ⟨rfl, rfl⟩
end Go.Proofs.Ytmmgknhefobloaa.Lw
