/- What is left to prove of the law FnExactGfScale: over plain data alone. -/
import Derived.Test.YthdmadppbphepaaMFnExactGfScalex1
namespace Go.Proofs.Ythdmadppbphepaa.Pure
open Go Go.RowKit Go.Proofs.Ythdmadppbphepaa.MFnExactGfScale Go.Proofs.YthdmadppbphepaaW.PrintWords Go.Proofs.YthdmadppbphepaaW.PrintLast
set_option linter.unusedVariables false
namespace FnExactGfScaleStm_
end FnExactGfScaleStm_
open FnExactGfScaleStm_
def FnExactGfScaleStm : Prop :=
  ∀ (x0 : Int), (Lit.int .i64 x0).wf = true → ∀ (x1 : ByteArray), x1.size ≤ 140737488351232 → ∃ k, laws_FnExactGfScale.f k x0 x1 = some true
end Go.Proofs.Ythdmadppbphepaa.Pure
