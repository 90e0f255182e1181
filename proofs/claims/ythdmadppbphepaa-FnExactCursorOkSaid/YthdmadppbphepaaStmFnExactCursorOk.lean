/- What is left to prove of the law FnExactCursorOk: over plain data alone. -/
import Derived.Test.YthdmadppbphepaaPFnExactCursorOkx1
namespace Go.Proofs.Ythdmadppbphepaa.Pure
open Go Go.RowKit Go.Proofs.Ythdmadppbphepaa.PFnExactCursorOk Go.Proofs.YthdmadppbphepaaW.PrintWords Go.Proofs.YthdmadppbphepaaW.PrintLast
set_option linter.unusedVariables false
namespace FnExactCursorOkStm_
end FnExactCursorOkStm_
open FnExactCursorOkStm_
def FnExactCursorOkStm : Prop :=
  ∀ (x0 : (Bool × ByteArray)), (True ∧ x0.2.size ≤ maxLen) → ∃ k, laws_FnExactCursorOk.f k x0.1 x0.2 = some true
end Go.Proofs.Ythdmadppbphepaa.Pure
