/- What is left to prove of the law FnExactHaveOk: over plain data alone. -/
import Derived.Test.YtgdlpdkkncjbbaaPFnExactHaveOkx5
namespace Go.Proofs.Ytgdlpdkkncjbbaa.Pure
open Go Go.RowKit Go.Proofs.Ytgdlpdkkncjbbaa.PFnExactHaveOk Go.Proofs.YtgdlpdkkncjbbaaW.PrintWords Go.Proofs.YtgdlpdkkncjbbaaW.PrintLast
set_option linter.unusedVariables false
namespace FnExactHaveOkStm_
def good99 (x : S99) : Prop := ((Lit.int .i64 x.f0).wf = true ∧ x.f1.size ≤ maxLen)
end FnExactHaveOkStm_
open FnExactHaveOkStm_
def FnExactHaveOkStm : Prop :=
  ∀ (x0 : (Int × Int)), ((Lit.int .i64 x0.1).wf = true ∧ (Lit.int .i64 x0.2).wf = true) → ∀ (x1 : Int), (Lit.int .i64 x1).wf = true → ∀ (x2 : List (S99)), (x2.length ≤ maxLen ∧ ∀ y ∈ x2, (fun x => good99 x) y) → ∃ k, laws_FnExactHaveOk.f k x0.1 x0.2 x1 x2 = some true
end Go.Proofs.Ytgdlpdkkncjbbaa.Pure
