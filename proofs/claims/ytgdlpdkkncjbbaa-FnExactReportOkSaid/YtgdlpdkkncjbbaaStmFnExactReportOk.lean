/- What is left to prove of the law FnExactReportOk: over plain data alone. -/
import Derived.Test.YtgdlpdkkncjbbaaMFnExactReportOkx8
namespace Go.Proofs.Ytgdlpdkkncjbbaa.Pure
open Go Go.RowKit Go.Proofs.Ytgdlpdkkncjbbaa.MFnExactReportOk Go.Proofs.YtgdlpdkkncjbbaaW.PrintWords Go.Proofs.YtgdlpdkkncjbbaaW.PrintLast
set_option linter.unusedVariables false
namespace FnExactReportOkStm_
def good40 (x : S40) : Prop := ((Lit.int .i64 x.f0).wf = true ∧ (Lit.int .i64 x.f1).wf = true)
def good124 (x : S124) : Prop := (x.f0.size ≤ maxLen ∧ (good40 x.f1 ∧ ((Lit.int .i64 x.f2).wf = true ∧ ((Lit.int .i64 x.f3).wf = true ∧ (Lit.int .i64 x.f4).wf = true))))
end FnExactReportOkStm_
open FnExactReportOkStm_
def FnExactReportOkStm : Prop :=
  ∀ (x0 : (Int × List (S124))), ((Lit.int .i64 x0.1).wf = true ∧ (x0.2.length ≤ maxLen ∧ ∀ y ∈ x0.2, (fun x => good124 x) y)) → ∃ k, laws_FnExactReportOk.f k x0.1 x0.2 = some true
end Go.Proofs.Ytgdlpdkkncjbbaa.Pure
