/-
  The program as the walks' context.
-/
import Derived.Test.YtendgpnbbiegkaaSxI
import Derived.Test.YtendgpnbbiegkaaProg
set_option linter.all false
set_option linter.unusedSimpArgs false
set_option linter.unusedVariables false
namespace Go.Proofs.Ytendgpnbbiegkaa
open Go Sx
noncomputable def C : Ctx := ⟨Try.prog, by kernel_rfl⟩
end Go.Proofs.Ytendgpnbbiegkaa
