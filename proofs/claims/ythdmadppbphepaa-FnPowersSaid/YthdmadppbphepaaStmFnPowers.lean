/- What is left to prove of the law FnPowers: over plain data alone. -/
import Derived.Test.YthdmadppbphepaaPFnPowersx1
namespace Go.Proofs.Ythdmadppbphepaa.Pure
open Go Go.RowKit Go.Proofs.Ythdmadppbphepaa.PFnPowers Go.Proofs.YthdmadppbphepaaW.PrintWords Go.Proofs.YthdmadppbphepaaW.PrintLast
set_option linter.unusedVariables false
namespace FnPowersStm_
end FnPowersStm_
open FnPowersStm_
def FnPowersStm : Prop :=
  ∀ (x0 : List (Int)), (x0.length ≤ maxLen ∧ ∀ y ∈ x0, (fun x => (Lit.int .u8 x).wf = true) y) → ∃ k, laws_FnPowers.f k x0 = some true
end Go.Proofs.Ythdmadppbphepaa.Pure
