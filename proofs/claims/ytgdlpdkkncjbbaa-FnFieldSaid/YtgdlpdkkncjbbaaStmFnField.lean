/- What is left to prove of the law FnField: over plain data alone. -/
import Derived.Test.YtgdlpdkkncjbbaaMFnFieldx2
namespace Go.Proofs.Ytgdlpdkkncjbbaa.Pure
open Go Go.RowKit Go.Proofs.Ytgdlpdkkncjbbaa.MFnField Go.Proofs.YtgdlpdkkncjbbaaW.PrintWords Go.Proofs.YtgdlpdkkncjbbaaW.PrintLast
set_option linter.unusedVariables false
namespace FnFieldStm_
end FnFieldStm_
open FnFieldStm_
def FnFieldStm : Prop :=
  ∀ (x0 : List (Int)), (x0.length ≤ maxLen ∧ ∀ y ∈ x0, (fun x => (Lit.int .u8 x).wf = true) y) → ∃ k, FieldPath k x0 ∧ laws_FnField.f k x0 = some true
end Go.Proofs.Ytgdlpdkkncjbbaa.Pure
