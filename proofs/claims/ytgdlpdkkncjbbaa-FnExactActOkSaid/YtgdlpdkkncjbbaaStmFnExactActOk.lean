/- What is left to prove of the law FnExactActOk: over plain data alone. -/
import Derived.Test.YtgdlpdkkncjbbaaPFnExactActOkx5
namespace Go.Proofs.Ytgdlpdkkncjbbaa.Pure
open Go Go.RowKit Go.Proofs.Ytgdlpdkkncjbbaa.PFnExactActOk Go.Proofs.YtgdlpdkkncjbbaaW.PrintWords Go.Proofs.YtgdlpdkkncjbbaaW.PrintLast
set_option linter.unusedVariables false
namespace FnExactActOkStm_
end FnExactActOkStm_
open FnExactActOkStm_
def FnExactActOkStm : Prop :=
  ∀ (x0 : (Int × Int × Int × ByteArray × (Int × Int × ByteArray))), ((Lit.int .i64 x0.1).wf = true ∧ ((Lit.int .i64 x0.2.1).wf = true ∧ ((Lit.int .i64 x0.2.2.1).wf = true ∧ (x0.2.2.2.1.size ≤ maxLen ∧ ((Lit.int .i64 x0.2.2.2.2.1).wf = true ∧ ((Lit.int .i64 x0.2.2.2.2.2.1).wf = true ∧ x0.2.2.2.2.2.2.size ≤ maxLen)))))) → ∃ k, laws_FnExactActOk.f k x0.1 x0.2.1 x0.2.2.1 x0.2.2.2.1 x0.2.2.2.2.1 x0.2.2.2.2.2.1 x0.2.2.2.2.2.2 = some true
end Go.Proofs.Ytgdlpdkkncjbbaa.Pure
