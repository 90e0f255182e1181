/- What is left to prove of the law FnExactPieceSize: over plain data alone. -/
import Derived.Test.YthdmadppbphepaaPFnExactPieceSizex1
namespace Go.Proofs.Ythdmadppbphepaa.Pure
open Go Go.RowKit Go.Proofs.Ythdmadppbphepaa.PFnExactPieceSize Go.Proofs.YthdmadppbphepaaW.PrintWords Go.Proofs.YthdmadppbphepaaW.PrintLast
set_option linter.unusedVariables false
namespace FnExactPieceSizeStm_
end FnExactPieceSizeStm_
open FnExactPieceSizeStm_
def FnExactPieceSizeStm : Prop :=
  ∀ (x0 : (Int × Int)), ((Lit.int .i64 x0.1).wf = true ∧ (Lit.int .i64 x0.2).wf = true) → ∀ (x1 : Int), (Lit.int .i64 x1).wf = true → laws_FnExactPieceSize.f x0.1 x0.2 x1 = some true
end Go.Proofs.Ythdmadppbphepaa.Pure
