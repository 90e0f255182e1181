/-
  No cell of these rows narrows 'for every input' (looked for: loops, veiled, ifaces, maps, wideKeys, modest, calm, conditions, laid).
  DERIVED. THE GIVEN ROWS OF THIS SEAT. 3 by the template 'for every input the law returns true; each argument reads behind the call as it read before'; 0 by the template 'total and deterministic' (their statements: YtcppfjdhppoenaaGreatTotals.lean).
  GIVEN WITH THE SEED: the statements are not yours to turn. If you find one false, say at which input.
  Laid BY PROGRAM, IN A SANDBOX (cutbox-rows.mjs): the forced cells as the released guide's own fill.sh prints them over the translation 1c22b2a674e1d456… (all of the seat's roots in one cut). By AI agents, Wed Nov 11 2026. No macro, syntax, notation, axiom, sorry.
-/
import Derived.Test.YtcppfjdhppoenaaGreatChecked
import GoSem.Claim
import GoSem.ClaimJoined
import GoSem.ClaimMapViews
import Derived.JoinedTies
import Derived.KernelRfl
namespace Go.Proofs.YtcppfjdhppoenaaGreat
/- THE CELL 'sum', in the pinned program and in every row, IS THE sha256 OF THE DUMP (.gsa) THAT YtcppfjdhppoenaaGreatProg.lean LOADS. Nothing in Lean hashes anything: it is a label: what it is worth is what the hold of that sum in a sandbox is worth. -/
noncomputable def Tryz.pinned : Pinned := { name := "ytcppfjdhppoenaagreat", sum := "1c22b2a674e1d456fa74c7c2f06fd5c3675d340b64c32e6e27797d9157e42979", checked := Tryz.checked }
namespace Rows
def none {H : Type} : Left H := { results := [], args := [] }

/-- 'laws.FnExactHeadsAt': WHATEVER THE INPUT: true; the input reads as it did. -/
def fnExactHeadsAtSpec : ChangeSpec := { name := "fnExactHeadsAt", fn := fun _ => fun
  | [d1, d2] => { results := [.lit (.bool true)], args := [d1, d2] }
  | _ => none }
def fnExactHeadsAtRow : OpenClaim := { program := "ytcppfjdhppoenaagreat", sum := "1c22b2a674e1d456fa74c7c2f06fd5c3675d340b64c32e6e27797d9157e42979", func := "loop.example/g00849/laws.FnExactHeadsAt", spec := "fnExactHeadsAt", inPlace := ["internal/bytealg.abigen_runtime_cmpstring", "slices.overlaps[loop.example/g00849/impl.Head]"], unfollowed := true, recurses := true, apart := false }
def FnExactHeadsAtSaid : Prop := fnExactHeadsAtRow.holds Tryz.pinned (OpenSpec.ofChange fnExactHeadsAtSpec)

/-- ITS FALSE NEIGHBOUR: 'it returns false'. Refute it at one input. -/
def fnExactHeadsAtWrong : ChangeSpec := { name := "fnExactHeadsAt", fn := fun _ => fun
  | [d1, d2] => { results := [.lit (.bool false)], args := [d1, d2] }
  | _ => none }
def FnExactHeadsAtWrongFalsely : Prop := fnExactHeadsAtRow.holds Tryz.pinned (OpenSpec.ofChange fnExactHeadsAtWrong)

/-- 'laws.FnExactClientsAt': WHATEVER THE INPUT: true; the input reads as it did. -/
def fnExactClientsAtSpec : ChangeSpec := { name := "fnExactClientsAt", fn := fun _ => fun
  | [d1, d2] => { results := [.lit (.bool true)], args := [d1, d2] }
  | _ => none }
def fnExactClientsAtRow : OpenClaim := { program := "ytcppfjdhppoenaagreat", sum := "1c22b2a674e1d456fa74c7c2f06fd5c3675d340b64c32e6e27797d9157e42979", func := "loop.example/g00849/laws.FnExactClientsAt", spec := "fnExactClientsAt", inPlace := ["internal/bytealg.abigen_runtime_cmpstring", "slices.overlaps[loop.example/g00849/impl.Last]"], unfollowed := true, recurses := true, apart := false }
def FnExactClientsAtSaid : Prop := fnExactClientsAtRow.holds Tryz.pinned (OpenSpec.ofChange fnExactClientsAtSpec)

/-- ITS FALSE NEIGHBOUR: 'it returns false'. Refute it at one input. -/
def fnExactClientsAtWrong : ChangeSpec := { name := "fnExactClientsAt", fn := fun _ => fun
  | [d1, d2] => { results := [.lit (.bool false)], args := [d1, d2] }
  | _ => none }
def FnExactClientsAtWrongFalsely : Prop := fnExactClientsAtRow.holds Tryz.pinned (OpenSpec.ofChange fnExactClientsAtWrong)

/-- 'laws.FnExactByLog': WHATEVER THE INPUT: true; the input reads as it did. -/
def fnExactByLogSpec : ChangeSpec := { name := "fnExactByLog", fn := fun _ => fun
  | [d1, d2] => { results := [.lit (.bool true)], args := [d1, d2] }
  | _ => none }
def fnExactByLogRow : OpenClaim := { program := "ytcppfjdhppoenaagreat", sum := "1c22b2a674e1d456fa74c7c2f06fd5c3675d340b64c32e6e27797d9157e42979", func := "loop.example/g00849/laws.FnExactByLog", spec := "fnExactByLog", inPlace := ["internal/bytealg.abigen_runtime_cmpstring", "slices.overlaps[loop.example/g00849/impl.Head]"], unfollowed := true, recurses := true, apart := false }
def FnExactByLogSaid : Prop := fnExactByLogRow.holds Tryz.pinned (OpenSpec.ofChange fnExactByLogSpec)

/-- ITS FALSE NEIGHBOUR: 'it returns false'. Refute it at one input. -/
def fnExactByLogWrong : ChangeSpec := { name := "fnExactByLog", fn := fun _ => fun
  | [d1, d2] => { results := [.lit (.bool false)], args := [d1, d2] }
  | _ => none }
def FnExactByLogWrongFalsely : Prop := fnExactByLogRow.holds Tryz.pinned (OpenSpec.ofChange fnExactByLogWrong)

/- THE SECOND FORM. 'bulk': how many values and letters a reading holds, each counted each time it is reached (what is shared counts as often as it is met; a slice's spare places count too). A statement '..UptoSaid' is the law's where the arguments, and the package variables that the reading takes, are together of bulk at most 1048576: NARROWER than '..Said'. Prove '..Said' where nothing that the law and all that it calls make is longer than what came in: it says more and counts as full. Else prove '..UptoSaid'. A law counts once. -/
mutual
def uptoBulk {H : Type} : DataW H → Nat
  | .lit (.string bytes) => bytes.length + 1
  | .lit _ => 1
  | .nil => 1
  | .ptr d => uptoBulk d + 1
  | .slice elems spare => uptoBulkAll elems + uptoBulkAll spare + 1
  | .agg parts => uptoBulkAll parts + 1
  | .iface _ d => uptoBulk d + 1
  | .map entries => uptoBulkEntries entries + 1
  | .held _ => 1
def uptoBulkAll {H : Type} : List (DataW H) → Nat
  | [] => 0
  | d :: r => uptoBulk d + uptoBulkAll r
def uptoBulkEntries {H : Type} : List (Lit × DataW H) → Nat
  | [] => 0
  | x :: r => uptoBulkEntry x + uptoBulkEntries r
def uptoBulkEntry {H : Type} : Lit × DataW H → Nat
  | (.string bytes, d) => bytes.length + uptoBulk d + 1
  | (_, d) => uptoBulk d + 1
 end
def uptoSmall : (H : Type) → List (DataW H) → Bool := fun _ ds => decide (uptoBulkAll ds ≤ 1048576)
def OpenSpec.upto (s : _root_.Go.ChangeSpec) : _root_.Go.OpenSpec := { _root_.Go.OpenSpec.ofChange s with cond := some uptoSmall }

/-- 'laws.FnExactHeadsAt', WHERE WHAT IT READS IS OF BULK AT MOST 1048576: true; the input reads as it did. -/
def fnExactHeadsAtUptoRow : OpenClaim := { program := "ytcppfjdhppoenaagreat", sum := "1c22b2a674e1d456fa74c7c2f06fd5c3675d340b64c32e6e27797d9157e42979", func := "loop.example/g00849/laws.FnExactHeadsAt", spec := "fnExactHeadsAt", inPlace := ["internal/bytealg.abigen_runtime_cmpstring", "slices.overlaps[loop.example/g00849/impl.Head]"], unfollowed := true, recurses := true, apart := false, narrowed := true }
def FnExactHeadsAtUptoSaid : Prop := fnExactHeadsAtUptoRow.holds Tryz.pinned (OpenSpec.upto fnExactHeadsAtSpec)

/-- 'laws.FnExactClientsAt', WHERE WHAT IT READS IS OF BULK AT MOST 1048576: true; the input reads as it did. -/
def fnExactClientsAtUptoRow : OpenClaim := { program := "ytcppfjdhppoenaagreat", sum := "1c22b2a674e1d456fa74c7c2f06fd5c3675d340b64c32e6e27797d9157e42979", func := "loop.example/g00849/laws.FnExactClientsAt", spec := "fnExactClientsAt", inPlace := ["internal/bytealg.abigen_runtime_cmpstring", "slices.overlaps[loop.example/g00849/impl.Last]"], unfollowed := true, recurses := true, apart := false, narrowed := true }
def FnExactClientsAtUptoSaid : Prop := fnExactClientsAtUptoRow.holds Tryz.pinned (OpenSpec.upto fnExactClientsAtSpec)

/-- 'laws.FnExactByLog', WHERE WHAT IT READS IS OF BULK AT MOST 1048576: true; the input reads as it did. -/
def fnExactByLogUptoRow : OpenClaim := { program := "ytcppfjdhppoenaagreat", sum := "1c22b2a674e1d456fa74c7c2f06fd5c3675d340b64c32e6e27797d9157e42979", func := "loop.example/g00849/laws.FnExactByLog", spec := "fnExactByLog", inPlace := ["internal/bytealg.abigen_runtime_cmpstring", "slices.overlaps[loop.example/g00849/impl.Head]"], unfollowed := true, recurses := true, apart := false, narrowed := true }
def FnExactByLogUptoSaid : Prop := fnExactByLogUptoRow.holds Tryz.pinned (OpenSpec.upto fnExactByLogSpec)

end Rows
end Go.Proofs.YtcppfjdhppoenaaGreat
