/- Plain lemmas on names and tests. -/
import Derived.Test.YtbmechcabplcpaaWWords
import Derived.RowKit
namespace Go.Proofs.Ytbmechcabplcpaa.Plain
open Go Go.RowKit Go.Proofs.YtbmechcabplcpaaW.PrintWords
set_option linter.unusedVariables false

/-- A character that a name may hold. -/
def chOk (c : Int) : Bool := (decide (97 ≤ c) && decide (c ≤ 122)) || (decide (48 ≤ c) && decide (c ≤ 57))
theorem ch_ifs {α : Type} (c : Int) (X Y : α) :
    (if c < 97 then (if c < 48 then Y else (if c > 57 then Y else X)) else (if c > 122 then (if c < 48 then Y else (if c > 57 then Y else X)) else X)) = if chOk c = true then X else Y := by
  unfold chOk
  by_cases h1 : c < 97
  · rw [if_pos h1]
    by_cases h2 : c < 48
    · rw [if_pos h2, if_neg (by simp; omega)]
    · rw [if_neg h2]
      by_cases h3 : c > 57
      · rw [if_pos h3, if_neg (by simp; omega)]
      · rw [if_neg h3, if_pos (by simp; omega)]
  · rw [if_neg h1]
    by_cases h2 : c > 122
    · rw [if_pos h2]
      by_cases h3 : c < 48
      · rw [if_pos h3, if_neg (by simp; omega)]
      · rw [if_neg h3]
        by_cases h4 : c > 57
        · rw [if_pos h4, if_neg (by simp; omega)]
        · omega
    · rw [if_neg h2, if_pos (by simp; omega)]
/-- So many characters from a place on are a name's. -/
def nameAll (s : ByteArray) : Nat → Nat → Bool
  | 0, _ => true
  | n + 1, i => chOk (bt s (i : Int)) && nameAll s n (i + 1)
/-- A name. -/
def nameB (s : ByteArray) : Bool := nameAll s s.size 0 && (decide (1 ≤ s.size) && decide (s.size ≤ 8))
theorem wrap_step {i n : Nat} (h : i < n) (hn : n ≤ 9223372036854775807) : wrap64 ((i : Int) + 1) = ((i + 1 : Nat) : Int) := by unfold wrap64; omega
theorem wf64 {x : Int} (h : (Lit.int .i64 x).wf = true) : -9223372036854775808 ≤ x ∧ x ≤ 9223372036854775807 := by
  simp [Lit.wf, IntKind.min, IntKind.max, IntKind.signed, IntKind.bits] at h
  omega
theorem name_short {s : ByteArray} (h : nameB s = true) : s.size ≤ 8 := by
  unfold nameB at h
  simp at h
  omega
theorem both {E : Option Bool} (h : ∃ b, E = some b) : ∃ b, E = some b ∧ E = some b := h.elim fun b hb => ⟨b, hb, hb⟩
theorem fill_step {α β : Type} (f : α → β) (l : List α) (out : List β) (i : Nat) (z : α) (ho : out.length = l.length) (hi : i < l.length) :
    (out.set i (f (l.getD i z))).take (i + 1) ++ (l.drop (i + 1)).map f = out.take i ++ (l.drop i).map f := by
  rw [List.take_succ_eq_append_getElem (by rw [List.length_set]; omega), List.getElem_set_self, List.take_set_of_le (Nat.le_refl i), List.append_assoc]
  congr 1
  rw [List.drop_eq_getElem_cons hi, List.map_cons, List.getD_eq_getElem?_getD, List.getElem?_eq_getElem hi]
  rfl
/-- A number in a range; a text that is empty, or short enough for a body. -/
def btw (a b c : Int) : Bool := decide (b ≤ a) && decide (a ≤ c)
def emp (s : ByteArray) : Bool := s.toList == ([] : List UInt8)
def small (s : ByteArray) : Bool := decide ((s.size : Int) ≤ 64)
theorem andS (a b : Bool) : (if a = true then some b else some false) = some (a && b) := by cases a <;> rfl
theorem orS (a b : Bool) : (if a = true then some true else some b) = some (a || b) := by cases a <;> rfl
theorem andP {p : Prop} [Decidable p] (b : Bool) : (if p then some b else some false) = some (decide p && b) := by by_cases h : p <;> simp [h]
theorem in_ifs (a b c : Int) : (if a ≥ b then some (decide (a ≤ c)) else some false) = some (btw a b c) := by
  unfold btw
  by_cases h : a ≥ b
  · rw [if_pos h, show decide (b ≤ a) = true from decide_eq_true h]; simp
  · rw [if_neg h, show decide (b ≤ a) = false from decide_eq_false h]; simp
/-- Versions, codes, requests, groups, operations: what is right. -/
def zeroB (e s : Int) : Bool := e == 0 && (s == 0)
def verB (e s : Int) : Bool := zeroB e s || (btw e 1 60 && btw s 1 1000)
def fullB (e s : Int) : Bool := verB e s && !zeroB e s
def codeB (K M : Int) : Bool := btw K 1 4 && btw M 0 3
def pgB (p n : Int) : Bool := btw p 1 4 && btw n 0 15
def clientB (c : Int) : Bool := btw c 100 105
def sumB (n : Int) : Bool := btw n 0 4294967295
def opB (K M kind at_ : Int) (s : ByteArray) : Bool :=
  codeB K M && (if kind = 1 ∨ kind = 6 then (at_ == 0) && emp s else if kind = 2 then (at_ == 0) && small s else if kind = 3 then (K == 1) && (btw at_ 0 64 && small s)
    else if kind = 4 then (K == 1) && ((at_ == 0) && small s) else if kind = 5 then (K == 1) && (btw at_ 0 64 && emp s) else false)
def restB (bg en cd ve vs : Int) (body : ByteArray) : Bool :=
  if en = 0 then (cd == 0) && (zeroB ve vs && emp body) else decide (en > bg) && (btw cd 0 99 && (verB ve vs && (small body && ((cd == 0) || emp body))))
def callB (c no gp gn : Int) (name : ByteArray) (ok oa : Int) (ob : ByteArray) (bg en cd ve vs : Int) (body : ByteArray) : Bool :=
  clientB c && (btw no 1 1000 && (pgB gp gn && (nameB name && (opB 1 0 ok oa ob && (!decide (bg < 1) && restB bg en cd ve vs body)))))
end Go.Proofs.Ytbmechcabplcpaa.Plain
