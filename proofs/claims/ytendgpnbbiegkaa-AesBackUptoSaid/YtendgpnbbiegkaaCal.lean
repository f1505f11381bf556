/-
  The functions that are called: each is there and has a body.
-/
import Derived.Test.YtendgpnbbiegkaaBase
import Derived.Test.YtendgpnbbiegkaaChecked
set_option linter.all false
set_option linter.unusedSimpArgs false
set_option linter.unusedVariables false
namespace Go.Proofs.Ytendgpnbbiegkaa
open Go Sx
theorem cal3 : HasFn C 3 := ⟨⟨Try.f3, Try.func3, by kernel_rfl, by kernel_rfl⟩⟩
theorem cal4 : HasFn C 4 := ⟨⟨Try.f4, Try.func4, by kernel_rfl, by kernel_rfl⟩⟩
theorem cal5 : HasFn C 5 := ⟨⟨Try.f5, Try.func5, by kernel_rfl, by kernel_rfl⟩⟩
theorem cal6 : HasFn C 6 := ⟨⟨Try.f6, Try.func6, by kernel_rfl, by kernel_rfl⟩⟩
theorem cal7 : HasFn C 7 := ⟨⟨Try.f7, Try.func7, by kernel_rfl, by kernel_rfl⟩⟩
theorem cal8 : HasFn C 8 := ⟨⟨Try.f8, Try.func8, by kernel_rfl, by kernel_rfl⟩⟩
theorem cal9 : HasFn C 9 := ⟨⟨Try.f9, Try.func9, by kernel_rfl, by kernel_rfl⟩⟩
theorem cal10 : HasFn C 10 := ⟨⟨Try.f10, Try.func10, by kernel_rfl, by kernel_rfl⟩⟩
theorem cal11 : HasFn C 11 := ⟨⟨Try.f11, Try.func11, by kernel_rfl, by kernel_rfl⟩⟩
theorem cal12 : HasFn C 12 := ⟨⟨Try.f12, Try.func12, by kernel_rfl, by kernel_rfl⟩⟩
theorem cal13 : HasFn C 13 := ⟨⟨Try.f13, Try.func13, by kernel_rfl, by kernel_rfl⟩⟩
theorem cal14 : HasFn C 14 := ⟨⟨Try.f14, Try.func14, by kernel_rfl, by kernel_rfl⟩⟩
theorem cal15 : HasFn C 15 := ⟨⟨Try.f15, Try.func15, by kernel_rfl, by kernel_rfl⟩⟩
theorem cal16 : HasFn C 16 := ⟨⟨Try.f16, Try.func16, by kernel_rfl, by kernel_rfl⟩⟩
theorem cal17 : HasFn C 17 := ⟨⟨Try.f17, Try.func17, by kernel_rfl, by kernel_rfl⟩⟩
theorem cal18 : HasFn C 18 := ⟨⟨Try.f18, Try.func18, by kernel_rfl, by kernel_rfl⟩⟩
theorem cal19 : HasFn C 19 := ⟨⟨Try.f19, Try.func19, by kernel_rfl, by kernel_rfl⟩⟩
theorem cal20 : HasFn C 20 := ⟨⟨Try.f20, Try.func20, by kernel_rfl, by kernel_rfl⟩⟩
theorem cal21 : HasFn C 21 := ⟨⟨Try.f21, Try.func21, by kernel_rfl, by kernel_rfl⟩⟩
theorem cal22 : HasFn C 22 := ⟨⟨Try.f22, Try.func22, by kernel_rfl, by kernel_rfl⟩⟩
theorem cal23 : HasFn C 23 := ⟨⟨Try.f23, Try.func23, by kernel_rfl, by kernel_rfl⟩⟩
theorem cal24 : HasFn C 24 := ⟨⟨Try.f24, Try.func24, by kernel_rfl, by kernel_rfl⟩⟩
theorem cal25 : HasFn C 25 := ⟨⟨Try.f25, Try.func25, by kernel_rfl, by kernel_rfl⟩⟩
theorem cal26 : HasFn C 26 := ⟨⟨Try.f26, Try.func26, by kernel_rfl, by kernel_rfl⟩⟩
theorem cal27 : HasFn C 27 := ⟨⟨Try.f27, Try.func27, by kernel_rfl, by kernel_rfl⟩⟩
theorem cal28 : HasFn C 28 := ⟨⟨Try.f28, Try.func28, by kernel_rfl, by kernel_rfl⟩⟩
theorem cal29 : HasFn C 29 := ⟨⟨Try.f29, Try.func29, by kernel_rfl, by kernel_rfl⟩⟩
theorem cal30 : HasFn C 30 := ⟨⟨Try.f30, Try.func30, by kernel_rfl, by kernel_rfl⟩⟩
theorem cal31 : HasFn C 31 := ⟨⟨Try.f31, Try.func31, by kernel_rfl, by kernel_rfl⟩⟩
theorem cal32 : HasFn C 32 := ⟨⟨Try.f32, Try.func32, by kernel_rfl, by kernel_rfl⟩⟩
theorem cal33 : HasFn C 33 := ⟨⟨Try.f33, Try.func33, by kernel_rfl, by kernel_rfl⟩⟩
theorem cal34 : HasFn C 34 := ⟨⟨Try.f34, Try.func34, by kernel_rfl, by kernel_rfl⟩⟩
theorem cal35 : HasFn C 35 := ⟨⟨Try.f35, Try.func35, by kernel_rfl, by kernel_rfl⟩⟩
theorem cal36 : HasFn C 36 := ⟨⟨Try.f36, Try.func36, by kernel_rfl, by kernel_rfl⟩⟩
theorem cal37 : HasFn C 37 := ⟨⟨Try.f37, Try.func37, by kernel_rfl, by kernel_rfl⟩⟩
theorem cal38 : HasFn C 38 := ⟨⟨Try.f38, Try.func38, by kernel_rfl, by kernel_rfl⟩⟩
theorem cal39 : HasFn C 39 := ⟨⟨Try.f39, Try.func39, by kernel_rfl, by kernel_rfl⟩⟩
theorem cal40 : HasFn C 40 := ⟨⟨Try.f40, Try.func40, by kernel_rfl, by kernel_rfl⟩⟩
theorem cal41 : HasFn C 41 := ⟨⟨Try.f41, Try.func41, by kernel_rfl, by kernel_rfl⟩⟩
theorem cal42 : HasFn C 42 := ⟨⟨Try.f42, Try.func42, by kernel_rfl, by kernel_rfl⟩⟩
theorem cal43 : HasFn C 43 := ⟨⟨Try.f43, Try.func43, by kernel_rfl, by kernel_rfl⟩⟩
theorem cal44 : HasFn C 44 := ⟨⟨Try.f44, Try.func44, by kernel_rfl, by kernel_rfl⟩⟩
theorem cal45 : HasFn C 45 := ⟨⟨Try.f45, Try.func45, by kernel_rfl, by kernel_rfl⟩⟩
theorem cal46 : HasFn C 46 := ⟨⟨Try.f46, Try.func46, by kernel_rfl, by kernel_rfl⟩⟩
theorem cal47 : HasFn C 47 := ⟨⟨Try.f47, Try.func47, by kernel_rfl, by kernel_rfl⟩⟩
theorem cal48 : HasFn C 48 := ⟨⟨Try.f48, Try.func48, by kernel_rfl, by kernel_rfl⟩⟩
theorem cal49 : HasFn C 49 := ⟨⟨Try.f49, Try.func49, by kernel_rfl, by kernel_rfl⟩⟩
theorem cal50 : HasFn C 50 := ⟨⟨Try.f50, Try.func50, by kernel_rfl, by kernel_rfl⟩⟩
theorem cal51 : HasFn C 51 := ⟨⟨Try.f51, Try.func51, by kernel_rfl, by kernel_rfl⟩⟩
theorem cal52 : HasFn C 52 := ⟨⟨Try.f52, Try.func52, by kernel_rfl, by kernel_rfl⟩⟩
theorem cal53 : HasFn C 53 := ⟨⟨Try.f53, Try.func53, by kernel_rfl, by kernel_rfl⟩⟩
theorem cal54 : HasFn C 54 := ⟨⟨Try.f54, Try.func54, by kernel_rfl, by kernel_rfl⟩⟩
theorem cal55 : HasFn C 55 := ⟨⟨Try.f55, Try.func55, by kernel_rfl, by kernel_rfl⟩⟩
theorem cal56 : HasFn C 56 := ⟨⟨Try.f56, Try.func56, by kernel_rfl, by kernel_rfl⟩⟩
theorem cal57 : HasFn C 57 := ⟨⟨Try.f57, Try.func57, by kernel_rfl, by kernel_rfl⟩⟩
theorem cal58 : HasFn C 58 := ⟨⟨Try.f58, Try.func58, by kernel_rfl, by kernel_rfl⟩⟩
theorem cal59 : HasFn C 59 := ⟨⟨Try.f59, Try.func59, by kernel_rfl, by kernel_rfl⟩⟩
theorem cal60 : HasFn C 60 := ⟨⟨Try.f60, Try.func60, by kernel_rfl, by kernel_rfl⟩⟩
end Go.Proofs.Ytendgpnbbiegkaa
