/- The program's NewClient answers as the reference's does, for all arguments. -/
import Derived.Test.YtgdlpdkkncjbbaaPFnExactNewClientx1
namespace Go.Proofs.Ytgdlpdkkncjbbaa.Pure
open Go Go.RowKit Go.Proofs.Ytgdlpdkkncjbbaa Go.Proofs.Ytgdlpdkkncjbbaa.PFnExactNewClient Go.Proofs.YtgdlpdkkncjbbaaW.PrintWords Go.Proofs.YtgdlpdkkncjbbaaW.PrintLast
set_option linter.unusedVariables false
namespace FnExactNewClientAid
theorem ends (a : Int) : ∃ r, spec_NewClient.f a = some r ∧ impl_NewClient.f a = some r := by
  have e : impl_NewClient.f a = spec_NewClient.f a := rfl
  rw [e]
  unfold spec_NewClient.f spec_l17Client.f spec_l00In.f
  repeat' (first | exact ⟨_, rfl, rfl⟩ | (split <;> (try simp only [Option.bind_some])))
end FnExactNewClientAid
open FnExactNewClientAid
theorem FnExactNewClient : laws_FnExactNewClient.Pure := by
  intro a _
  obtain ⟨r, h1, h2⟩ := ends a
  unfold laws_FnExactNewClient.f laws_eqClient.f laws_eqPg.f laws_eqOp.f
  rw [h1, h2]
  simp
end Go.Proofs.Ytgdlpdkkncjbbaa.Pure
