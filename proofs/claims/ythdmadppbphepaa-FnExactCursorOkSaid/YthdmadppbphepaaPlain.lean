/- Plain lemmas on names and tests. -/
import Derived.Test.YthdmadppbphepaaWWords
import Derived.RowKit
namespace Go.Proofs.Ythdmadppbphepaa.Plain
open Go Go.RowKit Go.Proofs.YthdmadppbphepaaW.PrintWords
set_option linter.unusedVariables false

/-- A character that a name may hold. -/
def chOk (c : Int) : Bool := (decide (97 ≤ c) && decide (c ≤ 122)) || (decide (48 ≤ c) && decide (c ≤ 57))
theorem ch_ifs {α : Type} (c : Int) (X Y : α) :
    (if c < 97 then (if c < 48 then Y else (if c > 57 then Y else X)) else (if c > 122 then (if c < 48 then Y else (if c > 57 then Y else X)) else X)) = if chOk c = true then X else Y := by
  unfold chOk
  by_cases h1 : c < 97
  · rw [if_pos h1]
    by_cases h2 : c < 48
    · rw [if_pos h2, if_neg (by simp; omega)]
    · rw [if_neg h2]
      by_cases h3 : c > 57
      · rw [if_pos h3, if_neg (by simp; omega)]
      · rw [if_neg h3, if_pos (by simp; omega)]
  · rw [if_neg h1]
    by_cases h2 : c > 122
    · rw [if_pos h2]
      by_cases h3 : c < 48
      · rw [if_pos h3, if_neg (by simp; omega)]
      · rw [if_neg h3]
        by_cases h4 : c > 57
        · rw [if_pos h4, if_neg (by simp; omega)]
        · omega
    · rw [if_neg h2, if_pos (by simp; omega)]
/-- So many characters from a place on are a name's. -/
def nameAll (s : ByteArray) : Nat → Nat → Bool
  | 0, _ => true
  | n + 1, i => chOk (bt s (i : Int)) && nameAll s n (i + 1)
/-- A name. -/
def nameB (s : ByteArray) : Bool := nameAll s s.size 0 && (decide (1 ≤ s.size) && decide (s.size ≤ 8))
theorem wrap_step {i n : Nat} (h : i < n) (hn : n ≤ 9223372036854775807) : wrap64 ((i : Int) + 1) = ((i + 1 : Nat) : Int) := by unfold wrap64; omega
theorem wf64 {x : Int} (h : (Lit.int .i64 x).wf = true) : -9223372036854775808 ≤ x ∧ x ≤ 9223372036854775807 := by
  simp [Lit.wf, IntKind.min, IntKind.max, IntKind.signed, IntKind.bits] at h
  omega
theorem name_short {s : ByteArray} (h : nameB s = true) : s.size ≤ 8 := by
  unfold nameB at h
  simp at h
  omega
end Go.Proofs.Ythdmadppbphepaa.Plain
