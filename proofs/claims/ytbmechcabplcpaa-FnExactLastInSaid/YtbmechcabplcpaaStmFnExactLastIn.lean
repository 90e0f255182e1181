/- What is left to prove of the law FnExactLastIn: over plain data alone. -/
import Derived.Test.YtbmechcabplcpaaMFnExactLastInx4
namespace Go.Proofs.Ytbmechcabplcpaa.Pure
open Go Go.RowKit Go.Proofs.Ytbmechcabplcpaa.MFnExactLastIn Go.Proofs.YtbmechcabplcpaaW.PrintWords Go.Proofs.YtbmechcabplcpaaW.PrintLast
set_option linter.unusedVariables false
namespace FnExactLastInStm_
def good51 (x : S51) : Prop := ((Lit.int .i64 x.f0).wf = true ∧ (Lit.int .i64 x.f1).wf = true)
def good52 (x : S52) : Prop := ((Lit.int .i64 x.f0).wf = true ∧ (Lit.int .i64 x.f1).wf = true)
def good107 (x : S107) : Prop := ((Lit.int .i64 x.f0).wf = true ∧ (Lit.int .i64 x.f1).wf = true)
def good109 (x : S109) : Prop := (good52 x.f0 ∧ (good52 x.f1 ∧ (x.f2.size ≤ maxLen ∧ (True ∧ ((Lit.int .i64 x.f4).wf = true ∧ ((Lit.int .i64 x.f5).wf = true ∧ good107 x.f6))))))
def good111 (x : S111) : Prop := (good51 x.f0 ∧ (good109 x.f1 ∧ x.f2.size ≤ maxLen))
end FnExactLastInStm_
open FnExactLastInStm_
def FnExactLastInStm : Prop :=
  ∀ (x0 : List (S111)), (x0.length ≤ maxLen ∧ ∀ y ∈ x0, (fun x => good111 x) y) → ∀ (x1 : ByteArray), x1.size ≤ 140737488351232 → ∃ k, laws_FnExactLastIn.f k x0 x1 = some true
end Go.Proofs.Ytbmechcabplcpaa.Pure
