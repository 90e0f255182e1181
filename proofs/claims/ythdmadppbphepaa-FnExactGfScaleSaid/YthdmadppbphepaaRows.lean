/-
  No cell of these rows narrows 'for every input' (looked for: loops, veiled, ifaces, maps, wideKeys, modest, calm, conditions, laid).
  DERIVED. THE GIVEN ROWS OF THIS SEAT. 6 by the template 'for every input the law returns true; each argument reads behind the call as it read before'; 0 by the template 'total and deterministic' (their statements: YthdmadppbphepaaTotals.lean).
  GIVEN WITH THE SEED: the statements are not yours to turn. If you find one false, say at which input.
  Laid BY PROGRAM, IN A SANDBOX (cutbox-rows.mjs): the forced cells as the released guide's own fill.sh prints them over the translation 026c87ee26a34983… (all of the seat's roots in one cut). By AI agents, Wed Nov 11 2026. No macro, syntax, notation, axiom, sorry.
-/
import Derived.Test.YthdmadppbphepaaChecked
import GoSem.Claim
import GoSem.ClaimJoined
import GoSem.ClaimMapViews
import Derived.JoinedTies
import Derived.KernelRfl
namespace Go.Proofs.Ythdmadppbphepaa
/- THE CELL 'sum', in the pinned program and in every row, IS THE sha256 OF THE DUMP (.gsa) THAT YthdmadppbphepaaProg.lean LOADS. Nothing in Lean hashes anything: it is a label: what it is worth is what the hold of that sum in a sandbox is worth. -/
noncomputable def Try.pinned : Pinned := { name := "ythdmadppbphepaa", sum := "026c87ee26a349830e9942fc327c19971681dc066c7d9e6717a7ef69ff574343", checked := Try.checked }
namespace Rows
def none {H : Type} : Left H := { results := [], args := [] }

/-- 'laws.FnExactPieceSize': WHATEVER THE INPUT: true; the input reads as it did. -/
def fnExactPieceSizeSpec : ChangeSpec := { name := "fnExactPieceSize", fn := fun _ => fun
  | [d1, d2] => { results := [.lit (.bool true)], args := [d1, d2] }
  | _ => none }
def fnExactPieceSizeRow : OpenClaim := { program := "ythdmadppbphepaa", sum := "026c87ee26a349830e9942fc327c19971681dc066c7d9e6717a7ef69ff574343", func := "loop.example/g00849/laws.FnExactPieceSize", spec := "fnExactPieceSize", apart := false }
def FnExactPieceSizeSaid : Prop := fnExactPieceSizeRow.holds Try.pinned (OpenSpec.ofChange fnExactPieceSizeSpec)

/-- ITS FALSE NEIGHBOUR: 'it returns false'. Refute it at one input. -/
def fnExactPieceSizeWrong : ChangeSpec := { name := "fnExactPieceSize", fn := fun _ => fun
  | [d1, d2] => { results := [.lit (.bool false)], args := [d1, d2] }
  | _ => none }
def FnExactPieceSizeWrongFalsely : Prop := fnExactPieceSizeRow.holds Try.pinned (OpenSpec.ofChange fnExactPieceSizeWrong)

/-- 'laws.FnExactCursorOk': WHATEVER THE INPUT: true; the input reads as it did. -/
def fnExactCursorOkSpec : ChangeSpec := { name := "fnExactCursorOk", fn := fun _ => fun
  | [d] => { results := [.lit (.bool true)], args := [d] }
  | _ => none }
def fnExactCursorOkRow : OpenClaim := { program := "ythdmadppbphepaa", sum := "026c87ee26a349830e9942fc327c19971681dc066c7d9e6717a7ef69ff574343", func := "loop.example/g00849/laws.FnExactCursorOk", spec := "fnExactCursorOk", apart := false }
def FnExactCursorOkSaid : Prop := fnExactCursorOkRow.holds Try.pinned (OpenSpec.ofChange fnExactCursorOkSpec)

/-- ITS FALSE NEIGHBOUR: 'it returns false'. Refute it at one input. -/
def fnExactCursorOkWrong : ChangeSpec := { name := "fnExactCursorOk", fn := fun _ => fun
  | [d] => { results := [.lit (.bool false)], args := [d] }
  | _ => none }
def FnExactCursorOkWrongFalsely : Prop := fnExactCursorOkRow.holds Try.pinned (OpenSpec.ofChange fnExactCursorOkWrong)

/-- 'laws.FnExactGfMul': WHATEVER THE INPUT: true; the input reads as it did. -/
def fnExactGfMulSpec : ChangeSpec := { name := "fnExactGfMul", fn := fun _ => fun
  | [d1, d2] => { results := [.lit (.bool true)], args := [d1, d2] }
  | _ => none }
def fnExactGfMulRow : OpenClaim := { program := "ythdmadppbphepaa", sum := "026c87ee26a349830e9942fc327c19971681dc066c7d9e6717a7ef69ff574343", func := "loop.example/g00849/laws.FnExactGfMul", spec := "fnExactGfMul", apart := false }
def FnExactGfMulSaid : Prop := fnExactGfMulRow.holds Try.pinned (OpenSpec.ofChange fnExactGfMulSpec)

/-- ITS FALSE NEIGHBOUR: 'it returns false'. Refute it at one input. -/
def fnExactGfMulWrong : ChangeSpec := { name := "fnExactGfMul", fn := fun _ => fun
  | [d1, d2] => { results := [.lit (.bool false)], args := [d1, d2] }
  | _ => none }
def FnExactGfMulWrongFalsely : Prop := fnExactGfMulRow.holds Try.pinned (OpenSpec.ofChange fnExactGfMulWrong)

/-- 'laws.FnExactGfLog': WHATEVER THE INPUT: true; the input reads as it did. -/
def fnExactGfLogSpec : ChangeSpec := { name := "fnExactGfLog", fn := fun _ => fun
  | [d] => { results := [.lit (.bool true)], args := [d] }
  | _ => none }
def fnExactGfLogRow : OpenClaim := { program := "ythdmadppbphepaa", sum := "026c87ee26a349830e9942fc327c19971681dc066c7d9e6717a7ef69ff574343", func := "loop.example/g00849/laws.FnExactGfLog", spec := "fnExactGfLog", apart := false }
def FnExactGfLogSaid : Prop := fnExactGfLogRow.holds Try.pinned (OpenSpec.ofChange fnExactGfLogSpec)

/-- ITS FALSE NEIGHBOUR: 'it returns false'. Refute it at one input. -/
def fnExactGfLogWrong : ChangeSpec := { name := "fnExactGfLog", fn := fun _ => fun
  | [d] => { results := [.lit (.bool false)], args := [d] }
  | _ => none }
def FnExactGfLogWrongFalsely : Prop := fnExactGfLogRow.holds Try.pinned (OpenSpec.ofChange fnExactGfLogWrong)

/-- 'laws.FnPowers': WHATEVER THE INPUT: true; the input reads as it did. -/
def fnPowersSpec : ChangeSpec := { name := "fnPowers", fn := fun _ => fun
  | [d] => { results := [.lit (.bool true)], args := [d] }
  | _ => none }
def fnPowersRow : OpenClaim := { program := "ythdmadppbphepaa", sum := "026c87ee26a349830e9942fc327c19971681dc066c7d9e6717a7ef69ff574343", func := "loop.example/g00849/laws.FnPowers", spec := "fnPowers", apart := false }
def FnPowersSaid : Prop := fnPowersRow.holds Try.pinned (OpenSpec.ofChange fnPowersSpec)

/-- ITS FALSE NEIGHBOUR: 'it returns false'. Refute it at one input. -/
def fnPowersWrong : ChangeSpec := { name := "fnPowers", fn := fun _ => fun
  | [d] => { results := [.lit (.bool false)], args := [d] }
  | _ => none }
def FnPowersWrongFalsely : Prop := fnPowersRow.holds Try.pinned (OpenSpec.ofChange fnPowersWrong)

/-- 'laws.FnExactGfScale': WHATEVER THE INPUT: true; the input reads as it did. -/
def fnExactGfScaleSpec : ChangeSpec := { name := "fnExactGfScale", fn := fun _ => fun
  | [d1, d2] => { results := [.lit (.bool true)], args := [d1, d2] }
  | _ => none }
def fnExactGfScaleRow : OpenClaim := { program := "ythdmadppbphepaa", sum := "026c87ee26a349830e9942fc327c19971681dc066c7d9e6717a7ef69ff574343", func := "loop.example/g00849/laws.FnExactGfScale", spec := "fnExactGfScale", apart := false }
def FnExactGfScaleSaid : Prop := fnExactGfScaleRow.holds Try.pinned (OpenSpec.ofChange fnExactGfScaleSpec)

/-- ITS FALSE NEIGHBOUR: 'it returns false'. Refute it at one input. -/
def fnExactGfScaleWrong : ChangeSpec := { name := "fnExactGfScale", fn := fun _ => fun
  | [d1, d2] => { results := [.lit (.bool false)], args := [d1, d2] }
  | _ => none }
def FnExactGfScaleWrongFalsely : Prop := fnExactGfScaleRow.holds Try.pinned (OpenSpec.ofChange fnExactGfScaleWrong)

/- THE SECOND FORM. 'bulk': how many values and letters a reading holds, each counted each time it is reached (what is shared counts as often as it is met; a slice's spare places count too). A statement '..UptoSaid' is the law's where the arguments, and the package variables that the reading takes, are together of bulk at most 1048576: NARROWER than '..Said'. Prove '..Said' where nothing that the law and all that it calls make is longer than what came in: it says more and counts as full. Else prove '..UptoSaid'. A law counts once. -/
mutual
def uptoBulk {H : Type} : DataW H → Nat
  | .lit (.string bytes) => bytes.length + 1
  | .lit _ => 1
  | .nil => 1
  | .ptr d => uptoBulk d + 1
  | .slice elems spare => uptoBulkAll elems + uptoBulkAll spare + 1
  | .agg parts => uptoBulkAll parts + 1
  | .iface _ d => uptoBulk d + 1
  | .map entries => uptoBulkEntries entries + 1
  | .held _ => 1
def uptoBulkAll {H : Type} : List (DataW H) → Nat
  | [] => 0
  | d :: r => uptoBulk d + uptoBulkAll r
def uptoBulkEntries {H : Type} : List (Lit × DataW H) → Nat
  | [] => 0
  | x :: r => uptoBulkEntry x + uptoBulkEntries r
def uptoBulkEntry {H : Type} : Lit × DataW H → Nat
  | (.string bytes, d) => bytes.length + uptoBulk d + 1
  | (_, d) => uptoBulk d + 1
 end
def uptoSmall : (H : Type) → List (DataW H) → Bool := fun _ ds => decide (uptoBulkAll ds ≤ 1048576)
def OpenSpec.upto (s : _root_.Go.ChangeSpec) : _root_.Go.OpenSpec := { _root_.Go.OpenSpec.ofChange s with cond := some uptoSmall }

/-- 'laws.FnExactPieceSize', WHERE WHAT IT READS IS OF BULK AT MOST 1048576: true; the input reads as it did. -/
def fnExactPieceSizeUptoRow : OpenClaim := { program := "ythdmadppbphepaa", sum := "026c87ee26a349830e9942fc327c19971681dc066c7d9e6717a7ef69ff574343", func := "loop.example/g00849/laws.FnExactPieceSize", spec := "fnExactPieceSize", apart := false, narrowed := true }
def FnExactPieceSizeUptoSaid : Prop := fnExactPieceSizeUptoRow.holds Try.pinned (OpenSpec.upto fnExactPieceSizeSpec)

/-- 'laws.FnExactCursorOk', WHERE WHAT IT READS IS OF BULK AT MOST 1048576: true; the input reads as it did. -/
def fnExactCursorOkUptoRow : OpenClaim := { program := "ythdmadppbphepaa", sum := "026c87ee26a349830e9942fc327c19971681dc066c7d9e6717a7ef69ff574343", func := "loop.example/g00849/laws.FnExactCursorOk", spec := "fnExactCursorOk", apart := false, narrowed := true }
def FnExactCursorOkUptoSaid : Prop := fnExactCursorOkUptoRow.holds Try.pinned (OpenSpec.upto fnExactCursorOkSpec)

/-- 'laws.FnExactGfMul', WHERE WHAT IT READS IS OF BULK AT MOST 1048576: true; the input reads as it did. -/
def fnExactGfMulUptoRow : OpenClaim := { program := "ythdmadppbphepaa", sum := "026c87ee26a349830e9942fc327c19971681dc066c7d9e6717a7ef69ff574343", func := "loop.example/g00849/laws.FnExactGfMul", spec := "fnExactGfMul", apart := false, narrowed := true }
def FnExactGfMulUptoSaid : Prop := fnExactGfMulUptoRow.holds Try.pinned (OpenSpec.upto fnExactGfMulSpec)

/-- 'laws.FnExactGfLog', WHERE WHAT IT READS IS OF BULK AT MOST 1048576: true; the input reads as it did. -/
def fnExactGfLogUptoRow : OpenClaim := { program := "ythdmadppbphepaa", sum := "026c87ee26a349830e9942fc327c19971681dc066c7d9e6717a7ef69ff574343", func := "loop.example/g00849/laws.FnExactGfLog", spec := "fnExactGfLog", apart := false, narrowed := true }
def FnExactGfLogUptoSaid : Prop := fnExactGfLogUptoRow.holds Try.pinned (OpenSpec.upto fnExactGfLogSpec)

/-- 'laws.FnPowers', WHERE WHAT IT READS IS OF BULK AT MOST 1048576: true; the input reads as it did. -/
def fnPowersUptoRow : OpenClaim := { program := "ythdmadppbphepaa", sum := "026c87ee26a349830e9942fc327c19971681dc066c7d9e6717a7ef69ff574343", func := "loop.example/g00849/laws.FnPowers", spec := "fnPowers", apart := false, narrowed := true }
def FnPowersUptoSaid : Prop := fnPowersUptoRow.holds Try.pinned (OpenSpec.upto fnPowersSpec)

/-- 'laws.FnExactGfScale', WHERE WHAT IT READS IS OF BULK AT MOST 1048576: true; the input reads as it did. -/
def fnExactGfScaleUptoRow : OpenClaim := { program := "ythdmadppbphepaa", sum := "026c87ee26a349830e9942fc327c19971681dc066c7d9e6717a7ef69ff574343", func := "loop.example/g00849/laws.FnExactGfScale", spec := "fnExactGfScale", apart := false, narrowed := true }
def FnExactGfScaleUptoSaid : Prop := fnExactGfScaleUptoRow.holds Try.pinned (OpenSpec.upto fnExactGfScaleSpec)

end Rows
end Go.Proofs.Ythdmadppbphepaa
