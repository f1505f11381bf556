/-
  The program as the walks' context.
-/
import Derived.Test.YtklhogikokhdgaaSxI
import Derived.Test.YtklhogikokhdgaaProg
namespace Go.Proofs.Ytklhogikokhdgaa
open Go Sx
noncomputable def C : Ctx := ⟨Try.prog, by kernel_rfl⟩
end Go.Proofs.Ytklhogikokhdgaa
