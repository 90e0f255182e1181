/- What is left to prove of the law FnExactHeadOk: over plain data alone. -/
import Derived.Test.YtgdlpdkkncjbbaaPFnExactHeadOkx3
namespace Go.Proofs.Ytgdlpdkkncjbbaa.Pure
open Go Go.RowKit Go.Proofs.Ytgdlpdkkncjbbaa.PFnExactHeadOk Go.Proofs.YtgdlpdkkncjbbaaW.PrintWords Go.Proofs.YtgdlpdkkncjbbaaW.PrintLast
set_option linter.unusedVariables false
namespace FnExactHeadOkStm_
end FnExactHeadOkStm_
open FnExactHeadOkStm_
def FnExactHeadOkStm : Prop :=
  ∀ (x0 : (ByteArray × (Int × Int) × Int × Int)), (x0.1.size ≤ maxLen ∧ (((Lit.int .i64 x0.2.1.1).wf = true ∧ (Lit.int .i64 x0.2.1.2).wf = true) ∧ ((Lit.int .i64 x0.2.2.1).wf = true ∧ (Lit.int .i64 x0.2.2.2).wf = true))) → ∃ k, laws_FnExactHeadOk.f k x0.1 x0.2.1.1 x0.2.1.2 x0.2.2.1 x0.2.2.2 = some true
end Go.Proofs.Ytgdlpdkkncjbbaa.Pure
