/- What is left to prove of the law FnExactCounts: over plain data alone. -/
import Derived.Test.YtgdlpdkkncjbbaaPFnExactCountsx8
namespace Go.Proofs.Ytgdlpdkkncjbbaa.Pure
open Go Go.RowKit Go.Proofs.Ytgdlpdkkncjbbaa.PFnExactCounts Go.Proofs.YtgdlpdkkncjbbaaW.PrintWords Go.Proofs.YtgdlpdkkncjbbaaW.PrintLast
set_option linter.unusedVariables false
namespace FnExactCountsStm_
end FnExactCountsStm_
open FnExactCountsStm_
def FnExactCountsStm : Prop :=
  ∀ (x0 : (Int × Int × (Int × Int) × ByteArray × (Int × Int × ByteArray) × Int × Int × Int × (Int × Int) × ByteArray)), ((Lit.int .i64 x0.1).wf = true ∧ ((Lit.int .i64 x0.2.1).wf = true ∧ (((Lit.int .i64 x0.2.2.1.1).wf = true ∧ (Lit.int .i64 x0.2.2.1.2).wf = true) ∧ (x0.2.2.2.1.size ≤ maxLen ∧ (((Lit.int .i64 x0.2.2.2.2.1.1).wf = true ∧ ((Lit.int .i64 x0.2.2.2.2.1.2.1).wf = true ∧ x0.2.2.2.2.1.2.2.size ≤ maxLen)) ∧ ((Lit.int .i64 x0.2.2.2.2.2.1).wf = true ∧ ((Lit.int .i64 x0.2.2.2.2.2.2.1).wf = true ∧ ((Lit.int .i64 x0.2.2.2.2.2.2.2.1).wf = true ∧ (((Lit.int .i64 x0.2.2.2.2.2.2.2.2.1.1).wf = true ∧ (Lit.int .i64 x0.2.2.2.2.2.2.2.2.1.2).wf = true) ∧ x0.2.2.2.2.2.2.2.2.2.size ≤ maxLen))))))))) → ∃ k, laws_FnExactCounts.f k x0.1 x0.2.1 x0.2.2.1.1 x0.2.2.1.2 x0.2.2.2.1 x0.2.2.2.2.1.1 x0.2.2.2.2.1.2.1 x0.2.2.2.2.1.2.2 x0.2.2.2.2.2.1 x0.2.2.2.2.2.2.1 x0.2.2.2.2.2.2.2.1 x0.2.2.2.2.2.2.2.2.1.1 x0.2.2.2.2.2.2.2.2.1.2 x0.2.2.2.2.2.2.2.2.2 = some true
end Go.Proofs.Ytgdlpdkkncjbbaa.Pure
