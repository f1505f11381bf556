/-
  The functions that are called: each is there and has a body.
-/
import Derived.Test.YtklhogikokhdgaaBase
import Derived.Test.YtklhogikokhdgaaChecked
set_option linter.all false
set_option linter.unusedSimpArgs false
set_option linter.unusedVariables false
namespace Go.Proofs.Ytklhogikokhdgaa
open Go Sx
theorem cal3 : HasFn C 3 := ⟨⟨Try.f3, Try.func3, by kernel_rfl, by kernel_rfl⟩⟩
theorem cal4 : HasFn C 4 := ⟨⟨Try.f4, Try.func4, by kernel_rfl, by kernel_rfl⟩⟩
theorem cal5 : HasFn C 5 := ⟨⟨Try.f5, Try.func5, by kernel_rfl, by kernel_rfl⟩⟩
theorem cal6 : HasFn C 6 := ⟨⟨Try.f6, Try.func6, by kernel_rfl, by kernel_rfl⟩⟩
theorem cal7 : HasFn C 7 := ⟨⟨Try.f7, Try.func7, by kernel_rfl, by kernel_rfl⟩⟩
theorem cal8 : HasFn C 8 := ⟨⟨Try.f8, Try.func8, by kernel_rfl, by kernel_rfl⟩⟩
theorem cal9 : HasFn C 9 := ⟨⟨Try.f9, Try.func9, by kernel_rfl, by kernel_rfl⟩⟩
theorem cal10 : HasFn C 10 := ⟨⟨Try.f10, Try.func10, by kernel_rfl, by kernel_rfl⟩⟩
theorem cal11 : HasFn C 11 := ⟨⟨Try.f11, Try.func11, by kernel_rfl, by kernel_rfl⟩⟩
theorem cal12 : HasFn C 12 := ⟨⟨Try.f12, Try.func12, by kernel_rfl, by kernel_rfl⟩⟩
theorem cal13 : HasFn C 13 := ⟨⟨Try.f13, Try.func13, by kernel_rfl, by kernel_rfl⟩⟩
theorem cal14 : HasFn C 14 := ⟨⟨Try.f14, Try.func14, by kernel_rfl, by kernel_rfl⟩⟩
theorem cal15 : HasFn C 15 := ⟨⟨Try.f15, Try.func15, by kernel_rfl, by kernel_rfl⟩⟩
theorem cal16 : HasFn C 16 := ⟨⟨Try.f16, Try.func16, by kernel_rfl, by kernel_rfl⟩⟩
theorem cal17 : HasFn C 17 := ⟨⟨Try.f17, Try.func17, by kernel_rfl, by kernel_rfl⟩⟩
theorem cal18 : HasFn C 18 := ⟨⟨Try.f18, Try.func18, by kernel_rfl, by kernel_rfl⟩⟩
theorem cal19 : HasFn C 19 := ⟨⟨Try.f19, Try.func19, by kernel_rfl, by kernel_rfl⟩⟩
theorem cal20 : HasFn C 20 := ⟨⟨Try.f20, Try.func20, by kernel_rfl, by kernel_rfl⟩⟩
end Go.Proofs.Ytklhogikokhdgaa
