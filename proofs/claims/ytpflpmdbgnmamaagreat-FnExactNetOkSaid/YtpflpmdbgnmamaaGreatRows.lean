/-
  No cell of these rows narrows 'for every input' (looked for: loops, veiled, ifaces, maps, wideKeys, modest, calm, conditions, laid).
  DERIVED. THE GIVEN ROWS OF THIS SEAT. 8 by the template 'for every input the law returns true; each argument reads behind the call as it read before'; 0 by the template 'total and deterministic' (their statements: YtpflpmdbgnmamaaGreatTotals.lean).
  GIVEN WITH THE SEED: the statements are not yours to turn. If you find one false, say at which input.
  Laid BY PROGRAM, IN A SANDBOX (cutbox-rows.mjs): the forced cells as the released guide's own fill.sh prints them over the translation 55b67fd99cb8be5c… (all of the seat's roots in one cut). By AI agents, Wed Nov 11 2026. No macro, syntax, notation, axiom, sorry.
-/
import Derived.Test.YtpflpmdbgnmamaaGreatChecked
import GoSem.Claim
import GoSem.ClaimJoined
import GoSem.ClaimMapViews
import Derived.JoinedTies
import Derived.KernelRfl
namespace Go.Proofs.YtpflpmdbgnmamaaGreat
/- THE CELL 'sum', in the pinned program and in every row, IS THE sha256 OF THE DUMP (.gsa) THAT YtpflpmdbgnmamaaGreatProg.lean LOADS. Nothing in Lean hashes anything: it is a label: what it is worth is what the hold of that sum in a sandbox is worth. -/
noncomputable def Tryz.pinned : Pinned := { name := "ytpflpmdbgnmamaagreat", sum := "55b67fd99cb8be5ca8e2b44da914786aa02e7d3ed03a4f391ca77254da98131f", checked := Tryz.checked }
namespace Rows
def none {H : Type} : Left H := { results := [], args := [] }

/-- 'laws.FnExactPutPgState': WHATEVER THE INPUT: true; the input reads as it did. -/
def fnExactPutPgStateSpec : ChangeSpec := { name := "fnExactPutPgState", fn := fun _ => fun
  | [d] => { results := [.lit (.bool true)], args := [d] }
  | _ => none }
def fnExactPutPgStateRow : OpenClaim := { program := "ytpflpmdbgnmamaagreat", sum := "55b67fd99cb8be5ca8e2b44da914786aa02e7d3ed03a4f391ca77254da98131f", func := "loop.example/g00849/laws.FnExactPutPgState", spec := "fnExactPutPgState", inPlace := ["internal/bytealg.abigen_runtime_cmpstring", "internal/abi.NoEscape"], unfollowed := true, recurses := true, apart := false }
def FnExactPutPgStateSaid : Prop := fnExactPutPgStateRow.holds Tryz.pinned (OpenSpec.ofChange fnExactPutPgStateSpec)

/-- ITS FALSE NEIGHBOUR: 'it returns false'. Refute it at one input. -/
def fnExactPutPgStateWrong : ChangeSpec := { name := "fnExactPutPgState", fn := fun _ => fun
  | [d] => { results := [.lit (.bool false)], args := [d] }
  | _ => none }
def FnExactPutPgStateWrongFalsely : Prop := fnExactPutPgStateRow.holds Tryz.pinned (OpenSpec.ofChange fnExactPutPgStateWrong)

/-- 'laws.FnExactKthLast': WHATEVER THE INPUT: true; the input reads as it did. -/
def fnExactKthLastSpec : ChangeSpec := { name := "fnExactKthLast", fn := fun _ => fun
  | [d1, d2] => { results := [.lit (.bool true)], args := [d1, d2] }
  | _ => none }
def fnExactKthLastRow : OpenClaim := { program := "ytpflpmdbgnmamaagreat", sum := "55b67fd99cb8be5ca8e2b44da914786aa02e7d3ed03a4f391ca77254da98131f", func := "loop.example/g00849/laws.FnExactKthLast", spec := "fnExactKthLast", inPlace := ["internal/bytealg.abigen_runtime_cmpstring"], unfollowed := true, recurses := true, apart := false }
def FnExactKthLastSaid : Prop := fnExactKthLastRow.holds Tryz.pinned (OpenSpec.ofChange fnExactKthLastSpec)

/-- ITS FALSE NEIGHBOUR: 'it returns false'. Refute it at one input. -/
def fnExactKthLastWrong : ChangeSpec := { name := "fnExactKthLast", fn := fun _ => fun
  | [d1, d2] => { results := [.lit (.bool false)], args := [d1, d2] }
  | _ => none }
def FnExactKthLastWrongFalsely : Prop := fnExactKthLastRow.holds Tryz.pinned (OpenSpec.ofChange fnExactKthLastWrong)

/-- 'laws.FnExactNextRange': WHATEVER THE INPUT: true; the input reads as it did. -/
def fnExactNextRangeSpec : ChangeSpec := { name := "fnExactNextRange", fn := fun _ => fun
  | [d1, d2, d3] => { results := [.lit (.bool true)], args := [d1, d2, d3] }
  | _ => none }
def fnExactNextRangeRow : OpenClaim := { program := "ytpflpmdbgnmamaagreat", sum := "55b67fd99cb8be5ca8e2b44da914786aa02e7d3ed03a4f391ca77254da98131f", func := "loop.example/g00849/laws.FnExactNextRange", spec := "fnExactNextRange", inPlace := ["internal/bytealg.abigen_runtime_cmpstring", "slices.overlaps[loop.example/g00849/impl.Head]"], unfollowed := true, recurses := true, apart := false }
def FnExactNextRangeSaid : Prop := fnExactNextRangeRow.holds Tryz.pinned (OpenSpec.ofChange fnExactNextRangeSpec)

/-- ITS FALSE NEIGHBOUR: 'it returns false'. Refute it at one input. -/
def fnExactNextRangeWrong : ChangeSpec := { name := "fnExactNextRange", fn := fun _ => fun
  | [d1, d2, d3] => { results := [.lit (.bool false)], args := [d1, d2, d3] }
  | _ => none }
def FnExactNextRangeWrongFalsely : Prop := fnExactNextRangeRow.holds Tryz.pinned (OpenSpec.ofChange fnExactNextRangeWrong)

/-- 'laws.FnCursor': WHATEVER THE INPUT: true; the input reads as it did. -/
def fnCursorSpec : ChangeSpec := { name := "fnCursor", fn := fun _ => fun
  | [d] => { results := [.lit (.bool true)], args := [d] }
  | _ => none }
def fnCursorRow : OpenClaim := { program := "ytpflpmdbgnmamaagreat", sum := "55b67fd99cb8be5ca8e2b44da914786aa02e7d3ed03a4f391ca77254da98131f", func := "loop.example/g00849/laws.FnCursor", spec := "fnCursor", inPlace := ["internal/bytealg.abigen_runtime_cmpstring", "slices.overlaps[loop.example/g00849/impl.Head]"], unfollowed := true, recurses := true, apart := false }
def FnCursorSaid : Prop := fnCursorRow.holds Tryz.pinned (OpenSpec.ofChange fnCursorSpec)

/-- ITS FALSE NEIGHBOUR: 'it returns false'. Refute it at one input. -/
def fnCursorWrong : ChangeSpec := { name := "fnCursor", fn := fun _ => fun
  | [d] => { results := [.lit (.bool false)], args := [d] }
  | _ => none }
def FnCursorWrongFalsely : Prop := fnCursorRow.holds Tryz.pinned (OpenSpec.ofChange fnCursorWrong)

/-- 'laws.FnExactClientsAt': WHATEVER THE INPUT: true; the input reads as it did. -/
def fnExactClientsAtSpec : ChangeSpec := { name := "fnExactClientsAt", fn := fun _ => fun
  | [d1, d2] => { results := [.lit (.bool true)], args := [d1, d2] }
  | _ => none }
def fnExactClientsAtRow : OpenClaim := { program := "ytpflpmdbgnmamaagreat", sum := "55b67fd99cb8be5ca8e2b44da914786aa02e7d3ed03a4f391ca77254da98131f", func := "loop.example/g00849/laws.FnExactClientsAt", spec := "fnExactClientsAt", inPlace := ["internal/bytealg.abigen_runtime_cmpstring", "slices.overlaps[loop.example/g00849/impl.Last]"], unfollowed := true, recurses := true, apart := false }
def FnExactClientsAtSaid : Prop := fnExactClientsAtRow.holds Tryz.pinned (OpenSpec.ofChange fnExactClientsAtSpec)

/-- ITS FALSE NEIGHBOUR: 'it returns false'. Refute it at one input. -/
def fnExactClientsAtWrong : ChangeSpec := { name := "fnExactClientsAt", fn := fun _ => fun
  | [d1, d2] => { results := [.lit (.bool false)], args := [d1, d2] }
  | _ => none }
def FnExactClientsAtWrongFalsely : Prop := fnExactClientsAtRow.holds Tryz.pinned (OpenSpec.ofChange fnExactClientsAtWrong)

/-- 'laws.FnExactHeadsAt': WHATEVER THE INPUT: true; the input reads as it did. -/
def fnExactHeadsAtSpec : ChangeSpec := { name := "fnExactHeadsAt", fn := fun _ => fun
  | [d1, d2] => { results := [.lit (.bool true)], args := [d1, d2] }
  | _ => none }
def fnExactHeadsAtRow : OpenClaim := { program := "ytpflpmdbgnmamaagreat", sum := "55b67fd99cb8be5ca8e2b44da914786aa02e7d3ed03a4f391ca77254da98131f", func := "loop.example/g00849/laws.FnExactHeadsAt", spec := "fnExactHeadsAt", inPlace := ["internal/bytealg.abigen_runtime_cmpstring", "slices.overlaps[loop.example/g00849/impl.Head]"], unfollowed := true, recurses := true, apart := false }
def FnExactHeadsAtSaid : Prop := fnExactHeadsAtRow.holds Tryz.pinned (OpenSpec.ofChange fnExactHeadsAtSpec)

/-- ITS FALSE NEIGHBOUR: 'it returns false'. Refute it at one input. -/
def fnExactHeadsAtWrong : ChangeSpec := { name := "fnExactHeadsAt", fn := fun _ => fun
  | [d1, d2] => { results := [.lit (.bool false)], args := [d1, d2] }
  | _ => none }
def FnExactHeadsAtWrongFalsely : Prop := fnExactHeadsAtRow.holds Tryz.pinned (OpenSpec.ofChange fnExactHeadsAtWrong)

/-- 'laws.FnExactMsgOk': WHATEVER THE INPUT: true; the input reads as it did. -/
def fnExactMsgOkSpec : ChangeSpec := { name := "fnExactMsgOk", fn := fun _ => fun
  | [d] => { results := [.lit (.bool true)], args := [d] }
  | _ => none }
def fnExactMsgOkRow : OpenClaim := { program := "ytpflpmdbgnmamaagreat", sum := "55b67fd99cb8be5ca8e2b44da914786aa02e7d3ed03a4f391ca77254da98131f", func := "loop.example/g00849/laws.FnExactMsgOk", spec := "fnExactMsgOk", inPlace := ["internal/bytealg.abigen_runtime_cmpstring"], apart := false }
def FnExactMsgOkSaid : Prop := fnExactMsgOkRow.holds Tryz.pinned (OpenSpec.ofChange fnExactMsgOkSpec)

/-- ITS FALSE NEIGHBOUR: 'it returns false'. Refute it at one input. -/
def fnExactMsgOkWrong : ChangeSpec := { name := "fnExactMsgOk", fn := fun _ => fun
  | [d] => { results := [.lit (.bool false)], args := [d] }
  | _ => none }
def FnExactMsgOkWrongFalsely : Prop := fnExactMsgOkRow.holds Tryz.pinned (OpenSpec.ofChange fnExactMsgOkWrong)

/-- 'laws.FnExactNetOk': WHATEVER THE INPUT: true; the input reads as it did. -/
def fnExactNetOkSpec : ChangeSpec := { name := "fnExactNetOk", fn := fun _ => fun
  | [d] => { results := [.lit (.bool true)], args := [d] }
  | _ => none }
def fnExactNetOkRow : OpenClaim := { program := "ytpflpmdbgnmamaagreat", sum := "55b67fd99cb8be5ca8e2b44da914786aa02e7d3ed03a4f391ca77254da98131f", func := "loop.example/g00849/laws.FnExactNetOk", spec := "fnExactNetOk", inPlace := ["internal/bytealg.abigen_runtime_cmpstring"], unfollowed := true, recurses := true, apart := false }
def FnExactNetOkSaid : Prop := fnExactNetOkRow.holds Tryz.pinned (OpenSpec.ofChange fnExactNetOkSpec)

/-- ITS FALSE NEIGHBOUR: 'it returns false'. Refute it at one input. -/
def fnExactNetOkWrong : ChangeSpec := { name := "fnExactNetOk", fn := fun _ => fun
  | [d] => { results := [.lit (.bool false)], args := [d] }
  | _ => none }
def FnExactNetOkWrongFalsely : Prop := fnExactNetOkRow.holds Tryz.pinned (OpenSpec.ofChange fnExactNetOkWrong)

/- THE SECOND FORM. 'bulk': how many values and letters a reading holds, each counted each time it is reached (what is shared counts as often as it is met; a slice's spare places count too). A statement '..UptoSaid' is the law's where the arguments, and the package variables that the reading takes, are together of bulk at most 1048576: NARROWER than '..Said'. Prove '..Said' where nothing that the law and all that it calls make is longer than what came in: it says more and counts as full. Else prove '..UptoSaid'. A law counts once. -/
mutual
def uptoBulk {H : Type} : DataW H → Nat
  | .lit (.string bytes) => bytes.length + 1
  | .lit _ => 1
  | .nil => 1
  | .ptr d => uptoBulk d + 1
  | .slice elems spare => uptoBulkAll elems + uptoBulkAll spare + 1
  | .agg parts => uptoBulkAll parts + 1
  | .iface _ d => uptoBulk d + 1
  | .map entries => uptoBulkEntries entries + 1
  | .held _ => 1
def uptoBulkAll {H : Type} : List (DataW H) → Nat
  | [] => 0
  | d :: r => uptoBulk d + uptoBulkAll r
def uptoBulkEntries {H : Type} : List (Lit × DataW H) → Nat
  | [] => 0
  | x :: r => uptoBulkEntry x + uptoBulkEntries r
def uptoBulkEntry {H : Type} : Lit × DataW H → Nat
  | (.string bytes, d) => bytes.length + uptoBulk d + 1
  | (_, d) => uptoBulk d + 1
 end
def uptoSmall : (H : Type) → List (DataW H) → Bool := fun _ ds => decide (uptoBulkAll ds ≤ 1048576)
def OpenSpec.upto (s : _root_.Go.ChangeSpec) : _root_.Go.OpenSpec := { _root_.Go.OpenSpec.ofChange s with cond := some uptoSmall }

/-- 'laws.FnExactPutPgState', WHERE WHAT IT READS IS OF BULK AT MOST 1048576: true; the input reads as it did. -/
def fnExactPutPgStateUptoRow : OpenClaim := { program := "ytpflpmdbgnmamaagreat", sum := "55b67fd99cb8be5ca8e2b44da914786aa02e7d3ed03a4f391ca77254da98131f", func := "loop.example/g00849/laws.FnExactPutPgState", spec := "fnExactPutPgState", inPlace := ["internal/bytealg.abigen_runtime_cmpstring", "internal/abi.NoEscape"], unfollowed := true, recurses := true, apart := false, narrowed := true }
def FnExactPutPgStateUptoSaid : Prop := fnExactPutPgStateUptoRow.holds Tryz.pinned (OpenSpec.upto fnExactPutPgStateSpec)

/-- 'laws.FnExactKthLast', WHERE WHAT IT READS IS OF BULK AT MOST 1048576: true; the input reads as it did. -/
def fnExactKthLastUptoRow : OpenClaim := { program := "ytpflpmdbgnmamaagreat", sum := "55b67fd99cb8be5ca8e2b44da914786aa02e7d3ed03a4f391ca77254da98131f", func := "loop.example/g00849/laws.FnExactKthLast", spec := "fnExactKthLast", inPlace := ["internal/bytealg.abigen_runtime_cmpstring"], unfollowed := true, recurses := true, apart := false, narrowed := true }
def FnExactKthLastUptoSaid : Prop := fnExactKthLastUptoRow.holds Tryz.pinned (OpenSpec.upto fnExactKthLastSpec)

/-- 'laws.FnExactNextRange', WHERE WHAT IT READS IS OF BULK AT MOST 1048576: true; the input reads as it did. -/
def fnExactNextRangeUptoRow : OpenClaim := { program := "ytpflpmdbgnmamaagreat", sum := "55b67fd99cb8be5ca8e2b44da914786aa02e7d3ed03a4f391ca77254da98131f", func := "loop.example/g00849/laws.FnExactNextRange", spec := "fnExactNextRange", inPlace := ["internal/bytealg.abigen_runtime_cmpstring", "slices.overlaps[loop.example/g00849/impl.Head]"], unfollowed := true, recurses := true, apart := false, narrowed := true }
def FnExactNextRangeUptoSaid : Prop := fnExactNextRangeUptoRow.holds Tryz.pinned (OpenSpec.upto fnExactNextRangeSpec)

/-- 'laws.FnCursor', WHERE WHAT IT READS IS OF BULK AT MOST 1048576: true; the input reads as it did. -/
def fnCursorUptoRow : OpenClaim := { program := "ytpflpmdbgnmamaagreat", sum := "55b67fd99cb8be5ca8e2b44da914786aa02e7d3ed03a4f391ca77254da98131f", func := "loop.example/g00849/laws.FnCursor", spec := "fnCursor", inPlace := ["internal/bytealg.abigen_runtime_cmpstring", "slices.overlaps[loop.example/g00849/impl.Head]"], unfollowed := true, recurses := true, apart := false, narrowed := true }
def FnCursorUptoSaid : Prop := fnCursorUptoRow.holds Tryz.pinned (OpenSpec.upto fnCursorSpec)

/-- 'laws.FnExactClientsAt', WHERE WHAT IT READS IS OF BULK AT MOST 1048576: true; the input reads as it did. -/
def fnExactClientsAtUptoRow : OpenClaim := { program := "ytpflpmdbgnmamaagreat", sum := "55b67fd99cb8be5ca8e2b44da914786aa02e7d3ed03a4f391ca77254da98131f", func := "loop.example/g00849/laws.FnExactClientsAt", spec := "fnExactClientsAt", inPlace := ["internal/bytealg.abigen_runtime_cmpstring", "slices.overlaps[loop.example/g00849/impl.Last]"], unfollowed := true, recurses := true, apart := false, narrowed := true }
def FnExactClientsAtUptoSaid : Prop := fnExactClientsAtUptoRow.holds Tryz.pinned (OpenSpec.upto fnExactClientsAtSpec)

/-- 'laws.FnExactHeadsAt', WHERE WHAT IT READS IS OF BULK AT MOST 1048576: true; the input reads as it did. -/
def fnExactHeadsAtUptoRow : OpenClaim := { program := "ytpflpmdbgnmamaagreat", sum := "55b67fd99cb8be5ca8e2b44da914786aa02e7d3ed03a4f391ca77254da98131f", func := "loop.example/g00849/laws.FnExactHeadsAt", spec := "fnExactHeadsAt", inPlace := ["internal/bytealg.abigen_runtime_cmpstring", "slices.overlaps[loop.example/g00849/impl.Head]"], unfollowed := true, recurses := true, apart := false, narrowed := true }
def FnExactHeadsAtUptoSaid : Prop := fnExactHeadsAtUptoRow.holds Tryz.pinned (OpenSpec.upto fnExactHeadsAtSpec)

/-- 'laws.FnExactMsgOk', WHERE WHAT IT READS IS OF BULK AT MOST 1048576: true; the input reads as it did. -/
def fnExactMsgOkUptoRow : OpenClaim := { program := "ytpflpmdbgnmamaagreat", sum := "55b67fd99cb8be5ca8e2b44da914786aa02e7d3ed03a4f391ca77254da98131f", func := "loop.example/g00849/laws.FnExactMsgOk", spec := "fnExactMsgOk", inPlace := ["internal/bytealg.abigen_runtime_cmpstring"], apart := false, narrowed := true }
def FnExactMsgOkUptoSaid : Prop := fnExactMsgOkUptoRow.holds Tryz.pinned (OpenSpec.upto fnExactMsgOkSpec)

/-- 'laws.FnExactNetOk', WHERE WHAT IT READS IS OF BULK AT MOST 1048576: true; the input reads as it did. -/
def fnExactNetOkUptoRow : OpenClaim := { program := "ytpflpmdbgnmamaagreat", sum := "55b67fd99cb8be5ca8e2b44da914786aa02e7d3ed03a4f391ca77254da98131f", func := "loop.example/g00849/laws.FnExactNetOk", spec := "fnExactNetOk", inPlace := ["internal/bytealg.abigen_runtime_cmpstring"], unfollowed := true, recurses := true, apart := false, narrowed := true }
def FnExactNetOkUptoSaid : Prop := fnExactNetOkUptoRow.holds Tryz.pinned (OpenSpec.upto fnExactNetOkSpec)

end Rows
end Go.Proofs.YtpflpmdbgnmamaaGreat
