/-
  No cell of these rows narrows 'for every input' (looked for: loops, veiled, ifaces, maps, wideKeys, modest, calm, conditions, laid).
  DERIVED. THE GIVEN ROWS OF THIS SEAT. 11 by the template 'for every input the law returns true; each argument reads behind the call as it read before'; 0 by the template 'total and deterministic' (their statements: YtgdlpdkkncjbbaaTotals.lean).
  GIVEN WITH THE SEED: the statements are not yours to turn. If you find one false, say at which input.
  Laid BY PROGRAM, IN A SANDBOX (cutbox-rows.mjs): the forced cells as the released guide's own fill.sh prints them over the translation 0c0997445a00f9e6… (all of the seat's roots in one cut). By AI agents, Wed Nov 11 2026. No macro, syntax, notation, axiom, sorry.
-/
import Derived.Test.YtgdlpdkkncjbbaaChecked
import GoSem.Claim
import GoSem.ClaimJoined
import GoSem.ClaimMapViews
import Derived.JoinedTies
import Derived.KernelRfl
namespace Go.Proofs.Ytgdlpdkkncjbbaa
/- THE CELL 'sum', in the pinned program and in every row, IS THE sha256 OF THE DUMP (.gsa) THAT YtgdlpdkkncjbbaaProg.lean LOADS. Nothing in Lean hashes anything: it is a label: what it is worth is what the hold of that sum in a sandbox is worth. -/
noncomputable def Try.pinned : Pinned := { name := "ytgdlpdkkncjbbaa", sum := "0c0997445a00f9e61ed54d55be1c3e03d8dfdbf22a0222974a7df8af7cd79657", checked := Try.checked }
namespace Rows
def none {H : Type} : Left H := { results := [], args := [] }

/-- 'laws.FnExactGfPow': WHATEVER THE INPUT: true; the input reads as it did. -/
def fnExactGfPowSpec : ChangeSpec := { name := "fnExactGfPow", fn := fun _ => fun
  | [d1, d2] => { results := [.lit (.bool true)], args := [d1, d2] }
  | _ => none }
def fnExactGfPowRow : OpenClaim := { program := "ytgdlpdkkncjbbaa", sum := "0c0997445a00f9e61ed54d55be1c3e03d8dfdbf22a0222974a7df8af7cd79657", func := "loop.example/g00849/laws.FnExactGfPow", spec := "fnExactGfPow", apart := false }
def FnExactGfPowSaid : Prop := fnExactGfPowRow.holds Try.pinned (OpenSpec.ofChange fnExactGfPowSpec)

/-- ITS FALSE NEIGHBOUR: 'it returns false'. Refute it at one input. -/
def fnExactGfPowWrong : ChangeSpec := { name := "fnExactGfPow", fn := fun _ => fun
  | [d1, d2] => { results := [.lit (.bool false)], args := [d1, d2] }
  | _ => none }
def FnExactGfPowWrongFalsely : Prop := fnExactGfPowRow.holds Try.pinned (OpenSpec.ofChange fnExactGfPowWrong)

/-- 'laws.FnField': WHATEVER THE INPUT: true; the input reads as it did. -/
def fnFieldSpec : ChangeSpec := { name := "fnField", fn := fun _ => fun
  | [d] => { results := [.lit (.bool true)], args := [d] }
  | _ => none }
def fnFieldRow : OpenClaim := { program := "ytgdlpdkkncjbbaa", sum := "0c0997445a00f9e61ed54d55be1c3e03d8dfdbf22a0222974a7df8af7cd79657", func := "loop.example/g00849/laws.FnField", spec := "fnField", apart := false }
def FnFieldSaid : Prop := fnFieldRow.holds Try.pinned (OpenSpec.ofChange fnFieldSpec)

/-- ITS FALSE NEIGHBOUR: 'it returns false'. Refute it at one input. -/
def fnFieldWrong : ChangeSpec := { name := "fnField", fn := fun _ => fun
  | [d] => { results := [.lit (.bool false)], args := [d] }
  | _ => none }
def FnFieldWrongFalsely : Prop := fnFieldRow.holds Try.pinned (OpenSpec.ofChange fnFieldWrong)

/-- 'laws.FnExactGfDiv': WHATEVER THE INPUT: true; the input reads as it did. -/
def fnExactGfDivSpec : ChangeSpec := { name := "fnExactGfDiv", fn := fun _ => fun
  | [d1, d2] => { results := [.lit (.bool true)], args := [d1, d2] }
  | _ => none }
def fnExactGfDivRow : OpenClaim := { program := "ytgdlpdkkncjbbaa", sum := "0c0997445a00f9e61ed54d55be1c3e03d8dfdbf22a0222974a7df8af7cd79657", func := "loop.example/g00849/laws.FnExactGfDiv", spec := "fnExactGfDiv", apart := false }
def FnExactGfDivSaid : Prop := fnExactGfDivRow.holds Try.pinned (OpenSpec.ofChange fnExactGfDivSpec)

/-- ITS FALSE NEIGHBOUR: 'it returns false'. Refute it at one input. -/
def fnExactGfDivWrong : ChangeSpec := { name := "fnExactGfDiv", fn := fun _ => fun
  | [d1, d2] => { results := [.lit (.bool false)], args := [d1, d2] }
  | _ => none }
def FnExactGfDivWrongFalsely : Prop := fnExactGfDivRow.holds Try.pinned (OpenSpec.ofChange fnExactGfDivWrong)

/-- 'laws.FnExactGfInv': WHATEVER THE INPUT: true; the input reads as it did. -/
def fnExactGfInvSpec : ChangeSpec := { name := "fnExactGfInv", fn := fun _ => fun
  | [d] => { results := [.lit (.bool true)], args := [d] }
  | _ => none }
def fnExactGfInvRow : OpenClaim := { program := "ytgdlpdkkncjbbaa", sum := "0c0997445a00f9e61ed54d55be1c3e03d8dfdbf22a0222974a7df8af7cd79657", func := "loop.example/g00849/laws.FnExactGfInv", spec := "fnExactGfInv", apart := false }
def FnExactGfInvSaid : Prop := fnExactGfInvRow.holds Try.pinned (OpenSpec.ofChange fnExactGfInvSpec)

/-- ITS FALSE NEIGHBOUR: 'it returns false'. Refute it at one input. -/
def fnExactGfInvWrong : ChangeSpec := { name := "fnExactGfInv", fn := fun _ => fun
  | [d] => { results := [.lit (.bool false)], args := [d] }
  | _ => none }
def FnExactGfInvWrongFalsely : Prop := fnExactGfInvRow.holds Try.pinned (OpenSpec.ofChange fnExactGfInvWrong)

/-- 'laws.FnExactNewClient': WHATEVER THE INPUT: true; the input reads as it did. -/
def fnExactNewClientSpec : ChangeSpec := { name := "fnExactNewClient", fn := fun _ => fun
  | [d] => { results := [.lit (.bool true)], args := [d] }
  | _ => none }
def fnExactNewClientRow : OpenClaim := { program := "ytgdlpdkkncjbbaa", sum := "0c0997445a00f9e61ed54d55be1c3e03d8dfdbf22a0222974a7df8af7cd79657", func := "loop.example/g00849/laws.FnExactNewClient", spec := "fnExactNewClient", apart := false }
def FnExactNewClientSaid : Prop := fnExactNewClientRow.holds Try.pinned (OpenSpec.ofChange fnExactNewClientSpec)

/-- ITS FALSE NEIGHBOUR: 'it returns false'. Refute it at one input. -/
def fnExactNewClientWrong : ChangeSpec := { name := "fnExactNewClient", fn := fun _ => fun
  | [d] => { results := [.lit (.bool false)], args := [d] }
  | _ => none }
def FnExactNewClientWrongFalsely : Prop := fnExactNewClientRow.holds Try.pinned (OpenSpec.ofChange fnExactNewClientWrong)

/-- 'laws.FnExactHeadOk': WHATEVER THE INPUT: true; the input reads as it did. -/
def fnExactHeadOkSpec : ChangeSpec := { name := "fnExactHeadOk", fn := fun _ => fun
  | [d] => { results := [.lit (.bool true)], args := [d] }
  | _ => none }
def fnExactHeadOkRow : OpenClaim := { program := "ytgdlpdkkncjbbaa", sum := "0c0997445a00f9e61ed54d55be1c3e03d8dfdbf22a0222974a7df8af7cd79657", func := "loop.example/g00849/laws.FnExactHeadOk", spec := "fnExactHeadOk", apart := false }
def FnExactHeadOkSaid : Prop := fnExactHeadOkRow.holds Try.pinned (OpenSpec.ofChange fnExactHeadOkSpec)

/-- ITS FALSE NEIGHBOUR: 'it returns false'. Refute it at one input. -/
def fnExactHeadOkWrong : ChangeSpec := { name := "fnExactHeadOk", fn := fun _ => fun
  | [d] => { results := [.lit (.bool false)], args := [d] }
  | _ => none }
def FnExactHeadOkWrongFalsely : Prop := fnExactHeadOkRow.holds Try.pinned (OpenSpec.ofChange fnExactHeadOkWrong)

/-- 'laws.FnExactHaveOk': WHATEVER THE INPUT: true; the input reads as it did. -/
def fnExactHaveOkSpec : ChangeSpec := { name := "fnExactHaveOk", fn := fun _ => fun
  | [d1, d2, d3] => { results := [.lit (.bool true)], args := [d1, d2, d3] }
  | _ => none }
def fnExactHaveOkRow : OpenClaim := { program := "ytgdlpdkkncjbbaa", sum := "0c0997445a00f9e61ed54d55be1c3e03d8dfdbf22a0222974a7df8af7cd79657", func := "loop.example/g00849/laws.FnExactHaveOk", spec := "fnExactHaveOk", apart := false }
def FnExactHaveOkSaid : Prop := fnExactHaveOkRow.holds Try.pinned (OpenSpec.ofChange fnExactHaveOkSpec)

/-- ITS FALSE NEIGHBOUR: 'it returns false'. Refute it at one input. -/
def fnExactHaveOkWrong : ChangeSpec := { name := "fnExactHaveOk", fn := fun _ => fun
  | [d1, d2, d3] => { results := [.lit (.bool false)], args := [d1, d2, d3] }
  | _ => none }
def FnExactHaveOkWrongFalsely : Prop := fnExactHaveOkRow.holds Try.pinned (OpenSpec.ofChange fnExactHaveOkWrong)

/-- 'laws.FnExactActOk': WHATEVER THE INPUT: true; the input reads as it did. -/
def fnExactActOkSpec : ChangeSpec := { name := "fnExactActOk", fn := fun _ => fun
  | [d] => { results := [.lit (.bool true)], args := [d] }
  | _ => none }
def fnExactActOkRow : OpenClaim := { program := "ytgdlpdkkncjbbaa", sum := "0c0997445a00f9e61ed54d55be1c3e03d8dfdbf22a0222974a7df8af7cd79657", func := "loop.example/g00849/laws.FnExactActOk", spec := "fnExactActOk", apart := false }
def FnExactActOkSaid : Prop := fnExactActOkRow.holds Try.pinned (OpenSpec.ofChange fnExactActOkSpec)

/-- ITS FALSE NEIGHBOUR: 'it returns false'. Refute it at one input. -/
def fnExactActOkWrong : ChangeSpec := { name := "fnExactActOk", fn := fun _ => fun
  | [d] => { results := [.lit (.bool false)], args := [d] }
  | _ => none }
def FnExactActOkWrongFalsely : Prop := fnExactActOkRow.holds Try.pinned (OpenSpec.ofChange fnExactActOkWrong)

/-- 'laws.FnExactCallOk': WHATEVER THE INPUT: true; the input reads as it did. -/
def fnExactCallOkSpec : ChangeSpec := { name := "fnExactCallOk", fn := fun _ => fun
  | [d] => { results := [.lit (.bool true)], args := [d] }
  | _ => none }
def fnExactCallOkRow : OpenClaim := { program := "ytgdlpdkkncjbbaa", sum := "0c0997445a00f9e61ed54d55be1c3e03d8dfdbf22a0222974a7df8af7cd79657", func := "loop.example/g00849/laws.FnExactCallOk", spec := "fnExactCallOk", apart := false }
def FnExactCallOkSaid : Prop := fnExactCallOkRow.holds Try.pinned (OpenSpec.ofChange fnExactCallOkSpec)

/-- ITS FALSE NEIGHBOUR: 'it returns false'. Refute it at one input. -/
def fnExactCallOkWrong : ChangeSpec := { name := "fnExactCallOk", fn := fun _ => fun
  | [d] => { results := [.lit (.bool false)], args := [d] }
  | _ => none }
def FnExactCallOkWrongFalsely : Prop := fnExactCallOkRow.holds Try.pinned (OpenSpec.ofChange fnExactCallOkWrong)

/-- 'laws.FnExactCounts': WHATEVER THE INPUT: true; the input reads as it did. -/
def fnExactCountsSpec : ChangeSpec := { name := "fnExactCounts", fn := fun _ => fun
  | [d] => { results := [.lit (.bool true)], args := [d] }
  | _ => none }
def fnExactCountsRow : OpenClaim := { program := "ytgdlpdkkncjbbaa", sum := "0c0997445a00f9e61ed54d55be1c3e03d8dfdbf22a0222974a7df8af7cd79657", func := "loop.example/g00849/laws.FnExactCounts", spec := "fnExactCounts", apart := false }
def FnExactCountsSaid : Prop := fnExactCountsRow.holds Try.pinned (OpenSpec.ofChange fnExactCountsSpec)

/-- ITS FALSE NEIGHBOUR: 'it returns false'. Refute it at one input. -/
def fnExactCountsWrong : ChangeSpec := { name := "fnExactCounts", fn := fun _ => fun
  | [d] => { results := [.lit (.bool false)], args := [d] }
  | _ => none }
def FnExactCountsWrongFalsely : Prop := fnExactCountsRow.holds Try.pinned (OpenSpec.ofChange fnExactCountsWrong)

/-- 'laws.FnExactReportOk': WHATEVER THE INPUT: true; the input reads as it did. -/
def fnExactReportOkSpec : ChangeSpec := { name := "fnExactReportOk", fn := fun _ => fun
  | [d] => { results := [.lit (.bool true)], args := [d] }
  | _ => none }
def fnExactReportOkRow : OpenClaim := { program := "ytgdlpdkkncjbbaa", sum := "0c0997445a00f9e61ed54d55be1c3e03d8dfdbf22a0222974a7df8af7cd79657", func := "loop.example/g00849/laws.FnExactReportOk", spec := "fnExactReportOk", inPlace := ["internal/bytealg.abigen_runtime_cmpstring"], apart := false }
def FnExactReportOkSaid : Prop := fnExactReportOkRow.holds Try.pinned (OpenSpec.ofChange fnExactReportOkSpec)

/-- ITS FALSE NEIGHBOUR: 'it returns false'. Refute it at one input. -/
def fnExactReportOkWrong : ChangeSpec := { name := "fnExactReportOk", fn := fun _ => fun
  | [d] => { results := [.lit (.bool false)], args := [d] }
  | _ => none }
def FnExactReportOkWrongFalsely : Prop := fnExactReportOkRow.holds Try.pinned (OpenSpec.ofChange fnExactReportOkWrong)

/- THE SECOND FORM. 'bulk': how many values and letters a reading holds, each counted each time it is reached (what is shared counts as often as it is met; a slice's spare places count too). A statement '..UptoSaid' is the law's where the arguments, and the package variables that the reading takes, are together of bulk at most 1048576: NARROWER than '..Said'. Prove '..Said' where nothing that the law and all that it calls make is longer than what came in: it says more and counts as full. Else prove '..UptoSaid'. A law counts once. -/
mutual
def uptoBulk {H : Type} : DataW H → Nat
  | .lit (.string bytes) => bytes.length + 1
  | .lit _ => 1
  | .nil => 1
  | .ptr d => uptoBulk d + 1
  | .slice elems spare => uptoBulkAll elems + uptoBulkAll spare + 1
  | .agg parts => uptoBulkAll parts + 1
  | .iface _ d => uptoBulk d + 1
  | .map entries => uptoBulkEntries entries + 1
  | .held _ => 1
def uptoBulkAll {H : Type} : List (DataW H) → Nat
  | [] => 0
  | d :: r => uptoBulk d + uptoBulkAll r
def uptoBulkEntries {H : Type} : List (Lit × DataW H) → Nat
  | [] => 0
  | x :: r => uptoBulkEntry x + uptoBulkEntries r
def uptoBulkEntry {H : Type} : Lit × DataW H → Nat
  | (.string bytes, d) => bytes.length + uptoBulk d + 1
  | (_, d) => uptoBulk d + 1
 end
def uptoSmall : (H : Type) → List (DataW H) → Bool := fun _ ds => decide (uptoBulkAll ds ≤ 1048576)
def OpenSpec.upto (s : _root_.Go.ChangeSpec) : _root_.Go.OpenSpec := { _root_.Go.OpenSpec.ofChange s with cond := some uptoSmall }

/-- 'laws.FnExactGfPow', WHERE WHAT IT READS IS OF BULK AT MOST 1048576: true; the input reads as it did. -/
def fnExactGfPowUptoRow : OpenClaim := { program := "ytgdlpdkkncjbbaa", sum := "0c0997445a00f9e61ed54d55be1c3e03d8dfdbf22a0222974a7df8af7cd79657", func := "loop.example/g00849/laws.FnExactGfPow", spec := "fnExactGfPow", apart := false, narrowed := true }
def FnExactGfPowUptoSaid : Prop := fnExactGfPowUptoRow.holds Try.pinned (OpenSpec.upto fnExactGfPowSpec)

/-- 'laws.FnField', WHERE WHAT IT READS IS OF BULK AT MOST 1048576: true; the input reads as it did. -/
def fnFieldUptoRow : OpenClaim := { program := "ytgdlpdkkncjbbaa", sum := "0c0997445a00f9e61ed54d55be1c3e03d8dfdbf22a0222974a7df8af7cd79657", func := "loop.example/g00849/laws.FnField", spec := "fnField", apart := false, narrowed := true }
def FnFieldUptoSaid : Prop := fnFieldUptoRow.holds Try.pinned (OpenSpec.upto fnFieldSpec)

/-- 'laws.FnExactGfDiv', WHERE WHAT IT READS IS OF BULK AT MOST 1048576: true; the input reads as it did. -/
def fnExactGfDivUptoRow : OpenClaim := { program := "ytgdlpdkkncjbbaa", sum := "0c0997445a00f9e61ed54d55be1c3e03d8dfdbf22a0222974a7df8af7cd79657", func := "loop.example/g00849/laws.FnExactGfDiv", spec := "fnExactGfDiv", apart := false, narrowed := true }
def FnExactGfDivUptoSaid : Prop := fnExactGfDivUptoRow.holds Try.pinned (OpenSpec.upto fnExactGfDivSpec)

/-- 'laws.FnExactGfInv', WHERE WHAT IT READS IS OF BULK AT MOST 1048576: true; the input reads as it did. -/
def fnExactGfInvUptoRow : OpenClaim := { program := "ytgdlpdkkncjbbaa", sum := "0c0997445a00f9e61ed54d55be1c3e03d8dfdbf22a0222974a7df8af7cd79657", func := "loop.example/g00849/laws.FnExactGfInv", spec := "fnExactGfInv", apart := false, narrowed := true }
def FnExactGfInvUptoSaid : Prop := fnExactGfInvUptoRow.holds Try.pinned (OpenSpec.upto fnExactGfInvSpec)

/-- 'laws.FnExactNewClient', WHERE WHAT IT READS IS OF BULK AT MOST 1048576: true; the input reads as it did. -/
def fnExactNewClientUptoRow : OpenClaim := { program := "ytgdlpdkkncjbbaa", sum := "0c0997445a00f9e61ed54d55be1c3e03d8dfdbf22a0222974a7df8af7cd79657", func := "loop.example/g00849/laws.FnExactNewClient", spec := "fnExactNewClient", apart := false, narrowed := true }
def FnExactNewClientUptoSaid : Prop := fnExactNewClientUptoRow.holds Try.pinned (OpenSpec.upto fnExactNewClientSpec)

/-- 'laws.FnExactHeadOk', WHERE WHAT IT READS IS OF BULK AT MOST 1048576: true; the input reads as it did. -/
def fnExactHeadOkUptoRow : OpenClaim := { program := "ytgdlpdkkncjbbaa", sum := "0c0997445a00f9e61ed54d55be1c3e03d8dfdbf22a0222974a7df8af7cd79657", func := "loop.example/g00849/laws.FnExactHeadOk", spec := "fnExactHeadOk", apart := false, narrowed := true }
def FnExactHeadOkUptoSaid : Prop := fnExactHeadOkUptoRow.holds Try.pinned (OpenSpec.upto fnExactHeadOkSpec)

/-- 'laws.FnExactHaveOk', WHERE WHAT IT READS IS OF BULK AT MOST 1048576: true; the input reads as it did. -/
def fnExactHaveOkUptoRow : OpenClaim := { program := "ytgdlpdkkncjbbaa", sum := "0c0997445a00f9e61ed54d55be1c3e03d8dfdbf22a0222974a7df8af7cd79657", func := "loop.example/g00849/laws.FnExactHaveOk", spec := "fnExactHaveOk", apart := false, narrowed := true }
def FnExactHaveOkUptoSaid : Prop := fnExactHaveOkUptoRow.holds Try.pinned (OpenSpec.upto fnExactHaveOkSpec)

/-- 'laws.FnExactActOk', WHERE WHAT IT READS IS OF BULK AT MOST 1048576: true; the input reads as it did. -/
def fnExactActOkUptoRow : OpenClaim := { program := "ytgdlpdkkncjbbaa", sum := "0c0997445a00f9e61ed54d55be1c3e03d8dfdbf22a0222974a7df8af7cd79657", func := "loop.example/g00849/laws.FnExactActOk", spec := "fnExactActOk", apart := false, narrowed := true }
def FnExactActOkUptoSaid : Prop := fnExactActOkUptoRow.holds Try.pinned (OpenSpec.upto fnExactActOkSpec)

/-- 'laws.FnExactCallOk', WHERE WHAT IT READS IS OF BULK AT MOST 1048576: true; the input reads as it did. -/
def fnExactCallOkUptoRow : OpenClaim := { program := "ytgdlpdkkncjbbaa", sum := "0c0997445a00f9e61ed54d55be1c3e03d8dfdbf22a0222974a7df8af7cd79657", func := "loop.example/g00849/laws.FnExactCallOk", spec := "fnExactCallOk", apart := false, narrowed := true }
def FnExactCallOkUptoSaid : Prop := fnExactCallOkUptoRow.holds Try.pinned (OpenSpec.upto fnExactCallOkSpec)

/-- 'laws.FnExactCounts', WHERE WHAT IT READS IS OF BULK AT MOST 1048576: true; the input reads as it did. -/
def fnExactCountsUptoRow : OpenClaim := { program := "ytgdlpdkkncjbbaa", sum := "0c0997445a00f9e61ed54d55be1c3e03d8dfdbf22a0222974a7df8af7cd79657", func := "loop.example/g00849/laws.FnExactCounts", spec := "fnExactCounts", apart := false, narrowed := true }
def FnExactCountsUptoSaid : Prop := fnExactCountsUptoRow.holds Try.pinned (OpenSpec.upto fnExactCountsSpec)

/-- 'laws.FnExactReportOk', WHERE WHAT IT READS IS OF BULK AT MOST 1048576: true; the input reads as it did. -/
def fnExactReportOkUptoRow : OpenClaim := { program := "ytgdlpdkkncjbbaa", sum := "0c0997445a00f9e61ed54d55be1c3e03d8dfdbf22a0222974a7df8af7cd79657", func := "loop.example/g00849/laws.FnExactReportOk", spec := "fnExactReportOk", inPlace := ["internal/bytealg.abigen_runtime_cmpstring"], apart := false, narrowed := true }
def FnExactReportOkUptoSaid : Prop := fnExactReportOkUptoRow.holds Try.pinned (OpenSpec.upto fnExactReportOkSpec)

end Rows
end Go.Proofs.Ytgdlpdkkncjbbaa
