/- Field arithmetic, shards: something of its kind comes out. -/
import Derived.Test.YtgeofmoojifkmaaGreatFunGA
namespace Go.Proofs.YtgeofmoojifkmaaGreat.Hlp
open Go Go.RowKit Go.Proofs Go.Proofs.YtgeofmoojifkmaaGreat.Lw
set_option linter.unusedVariables false
set_option linter.unusedSimpArgs false
set_option maxRecDepth 100000
set_option maxHeartbeats 4000000
def xorI (a b : Int) : Int := IntKind.i64.wrap ((BitVec.ofInt IntKind.i64.bits a ^^^ BitVec.ofInt IntKind.i64.bits b).toNat : Int)
def andI (a b : Int) : Int := IntKind.i64.wrap ((BitVec.ofInt IntKind.i64.bits a &&& BitVec.ofInt IntKind.i64.bits b).toNat : Int)
def shlI (a : Int) : Int := IntKind.i64.wrap (a * 2 ^ min (Int.toNat 1) IntKind.i64.bits)
def shrI (a : Int) : Int := a.fdiv (2 ^ min (Int.toNat 1) IntKind.i64.bits)
def tmA (a : Int) : Int := if decide (shlI a > 255) = true then xorI (shlI a) 285 else shlI a
def tmN (a b n : Int) : Int := if (andI b 1 != 0) = true then xorI n a else n
def timesN : Nat → Int → Int → Int → Int
  | 0, a, b, n => n
  | k + 1, a, b, n => timesN k (tmA a) (shrI b) (tmN a b n)
def timesF (a b : Int) : Int := timesN 8 a b 0
def powN : Nat → Int → Int → Int → Int
  | 0, a, n, out => out
  | k + 1, a, n, out => powN k (timesF a a) (IntKind.i64.wrap (n.tdiv 2)) (if (n.tmod 2 == 1) = true then timesF out a else out)
def powK (n : Int) : Nat := if n ≤ 0 then 0 else Nat.log2 n.toNat + 1
theorem powK_step {n : Int} (h0 : 0 < n) (h1 : n ≤ 1000) : powK n = powK (n.tdiv 2) + 1 ∧ n.tdiv 2 < n ∧ 0 ≤ n.tdiv 2 := by
  obtain ⟨m, rfl⟩ : ∃ m : Nat, n = (m : Int) := ⟨n.toNat, by omega⟩
  have ht : (m : Int).tdiv 2 = ((m / 2 : Nat) : Int) := rfl
  rw [ht]
  unfold powK
  rw [if_neg (by omega)]
  refine ⟨?_, by omega, by omega⟩
  rw [Int.toNat_natCast, Int.toNat_natCast]
  by_cases h : m = 1
  · subst h; rfl
  · rw [if_neg (by omega)]
    rw [Nat.log2_def, if_pos (by omega)]
def powF (a n : Int) : Int := powN (powK n) a n 1
end Go.Proofs.YtgeofmoojifkmaaGreat.Hlp
