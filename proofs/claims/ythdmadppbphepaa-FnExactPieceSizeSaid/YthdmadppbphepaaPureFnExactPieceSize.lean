/- The program's PieceSize answers as the reference's does, for all arguments. -/
import Derived.Test.YthdmadppbphepaaPFnExactPieceSizex1
import Derived.Test.YthdmadppbphepaaStmFnExactPieceSize
namespace Go.Proofs.Ythdmadppbphepaa.Pure
open Go Go.RowKit Go.Proofs.Ythdmadppbphepaa Go.Proofs.Ythdmadppbphepaa.PFnExactPieceSize Go.Proofs.YthdmadppbphepaaW.PrintWords Go.Proofs.YthdmadppbphepaaW.PrintLast
set_option linter.unusedVariables false
namespace FnExactPieceSizeAid
theorem same (K M n : Int) : impl_PieceSize.f K M n = spec_PieceSize.f K M n := rfl
theorem some_ (K M n : Int) : ∃ r, spec_PieceSize.f K M n = some r := by
  unfold spec_PieceSize.f spec_l04Code.f spec_l04Size.f spec_l00In.f
  by_cases h0 : K = 0
  · subst h0
    exact ⟨_, rfl⟩
  · simp only [if_neg h0]
    repeat' (first | exact ⟨_, rfl⟩ | (split <;> (try simp only [Option.bind_some])))
end FnExactPieceSizeAid
open FnExactPieceSizeAid
theorem FnExactPieceSize : FnExactPieceSizeStm := by
  rintro ⟨K, M⟩ _ n _
  show laws_FnExactPieceSize.f K M n = some true
  unfold laws_FnExactPieceSize.f laws_toCode.f
  simp only [Option.bind_some]
  rw [same]
  obtain ⟨r, hr⟩ := some_ K M n
  rw [hr]
  simp
end Go.Proofs.Ythdmadppbphepaa.Pure
