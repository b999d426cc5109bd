/-
  That the tables are the program's own: each function, each type. Printed by a program of our own.
-/
import Derived.Test.YtkfniijfenkocaaTab
import Derived.Test.YtkfniijfenkocaaA30
import Derived.Test.YtkfniijfenkocaaPrim
namespace Go.Proofs.Ytkfniijfenkocaa
open Go.Abs
set_option maxRecDepth 20000

theorem c70 : CodeOk Try.prog 70 F70 := ⟨⟨Try.f70, Try.func70, of_decide_eq_true (by kernel_rfl), by kernel_rfl, by kernel_rfl, by kernel_rfl, by kernel_rfl⟩⟩
theorem c66 : CodeOk Try.prog 66 F66 := ⟨⟨Try.f66, Try.func66, of_decide_eq_true (by kernel_rfl), by kernel_rfl, by kernel_rfl, by kernel_rfl, by kernel_rfl⟩⟩
theorem c71 : CodeOk Try.prog 71 F71 := ⟨⟨Try.f71, Try.func71, of_decide_eq_true (by kernel_rfl), by kernel_rfl, by kernel_rfl, by kernel_rfl, by kernel_rfl⟩⟩
theorem c89 : CodeOk Try.prog 89 F89 := ⟨⟨Try.f89, Try.func89, of_decide_eq_true (by kernel_rfl), by kernel_rfl, by kernel_rfl, by kernel_rfl, by kernel_rfl⟩⟩
theorem c102 : CodeOk Try.prog 102 F102 := ⟨⟨Try.f102, Try.func102, of_decide_eq_true (by kernel_rfl), by kernel_rfl, by kernel_rfl, by kernel_rfl, by kernel_rfl⟩⟩
theorem c88 : CodeOk Try.prog 88 F88 := ⟨⟨Try.f88, Try.func88, of_decide_eq_true (by kernel_rfl), by kernel_rfl, by kernel_rfl, by kernel_rfl, by kernel_rfl⟩⟩
theorem c67 : CodeOk Try.prog 67 F67 := ⟨⟨Try.f67, Try.func67, of_decide_eq_true (by kernel_rfl), by kernel_rfl, by kernel_rfl, by kernel_rfl, by kernel_rfl⟩⟩
theorem c72 : CodeOk Try.prog 72 F72 := ⟨⟨Try.f72, Try.func72, of_decide_eq_true (by kernel_rfl), by kernel_rfl, by kernel_rfl, by kernel_rfl, by kernel_rfl⟩⟩
theorem c40 : CodeOk Try.prog 40 F40 := ⟨⟨Try.f40, Try.func40, of_decide_eq_true (by kernel_rfl), by kernel_rfl, by kernel_rfl, by kernel_rfl, by kernel_rfl⟩⟩
theorem c42 : CodeOk Try.prog 42 F42 := ⟨⟨Try.f42, Try.func42, of_decide_eq_true (by kernel_rfl), by kernel_rfl, by kernel_rfl, by kernel_rfl, by kernel_rfl⟩⟩
theorem c90 : CodeOk Try.prog 90 F90 := ⟨⟨Try.f90, Try.func90, of_decide_eq_true (by kernel_rfl), by kernel_rfl, by kernel_rfl, by kernel_rfl, by kernel_rfl⟩⟩
theorem c69 : CodeOk Try.prog 69 F69 := ⟨⟨Try.f69, Try.func69, of_decide_eq_true (by kernel_rfl), by kernel_rfl, by kernel_rfl, by kernel_rfl, by kernel_rfl⟩⟩
theorem c68 : CodeOk Try.prog 68 F68 := ⟨⟨Try.f68, Try.func68, of_decide_eq_true (by kernel_rfl), by kernel_rfl, by kernel_rfl, by kernel_rfl, by kernel_rfl⟩⟩
theorem c41 : CodeOk Try.prog 41 F41 := ⟨⟨Try.f41, Try.func41, of_decide_eq_true (by kernel_rfl), by kernel_rfl, by kernel_rfl, by kernel_rfl, by kernel_rfl⟩⟩
theorem c43 : CodeOk Try.prog 43 F43 := ⟨⟨Try.f43, Try.func43, of_decide_eq_true (by kernel_rfl), by kernel_rfl, by kernel_rfl, by kernel_rfl, by kernel_rfl⟩⟩
theorem c51 : CodeOk Try.prog 51 F51 := ⟨⟨Try.f51, Try.func51, of_decide_eq_true (by kernel_rfl), by kernel_rfl, by kernel_rfl, by kernel_rfl, by kernel_rfl⟩⟩
theorem c58 : CodeOk Try.prog 58 F58 := ⟨⟨Try.f58, Try.func58, of_decide_eq_true (by kernel_rfl), by kernel_rfl, by kernel_rfl, by kernel_rfl, by kernel_rfl⟩⟩
theorem c82 : CodeOk Try.prog 82 F82 := ⟨⟨Try.f82, Try.func82, of_decide_eq_true (by kernel_rfl), by kernel_rfl, by kernel_rfl, by kernel_rfl, by kernel_rfl⟩⟩
theorem c78 : CodeOk Try.prog 78 F78 := ⟨⟨Try.f78, Try.func78, of_decide_eq_true (by kernel_rfl), by kernel_rfl, by kernel_rfl, by kernel_rfl, by kernel_rfl⟩⟩
theorem c83 : CodeOk Try.prog 83 F83 := ⟨⟨Try.f83, Try.func83, of_decide_eq_true (by kernel_rfl), by kernel_rfl, by kernel_rfl, by kernel_rfl, by kernel_rfl⟩⟩
theorem c99 : CodeOk Try.prog 99 F99 := ⟨⟨Try.f99, Try.func99, of_decide_eq_true (by kernel_rfl), by kernel_rfl, by kernel_rfl, by kernel_rfl, by kernel_rfl⟩⟩
theorem c79 : CodeOk Try.prog 79 F79 := ⟨⟨Try.f79, Try.func79, of_decide_eq_true (by kernel_rfl), by kernel_rfl, by kernel_rfl, by kernel_rfl, by kernel_rfl⟩⟩
theorem c84 : CodeOk Try.prog 84 F84 := ⟨⟨Try.f84, Try.func84, of_decide_eq_true (by kernel_rfl), by kernel_rfl, by kernel_rfl, by kernel_rfl, by kernel_rfl⟩⟩
theorem c59 : CodeOk Try.prog 59 F59 := ⟨⟨Try.f59, Try.func59, of_decide_eq_true (by kernel_rfl), by kernel_rfl, by kernel_rfl, by kernel_rfl, by kernel_rfl⟩⟩
theorem c62 : CodeOk Try.prog 62 F62 := ⟨⟨Try.f62, Try.func62, of_decide_eq_true (by kernel_rfl), by kernel_rfl, by kernel_rfl, by kernel_rfl, by kernel_rfl⟩⟩
theorem c63 : CodeOk Try.prog 63 F63 := ⟨⟨Try.f63, Try.func63, of_decide_eq_true (by kernel_rfl), by kernel_rfl, by kernel_rfl, by kernel_rfl, by kernel_rfl⟩⟩
theorem c60 : CodeOk Try.prog 60 F60 := ⟨⟨Try.f60, Try.func60, of_decide_eq_true (by kernel_rfl), by kernel_rfl, by kernel_rfl, by kernel_rfl, by kernel_rfl⟩⟩
theorem c64 : CodeOk Try.prog 64 F64 := ⟨⟨Try.f64, Try.func64, of_decide_eq_true (by kernel_rfl), by kernel_rfl, by kernel_rfl, by kernel_rfl, by kernel_rfl⟩⟩
theorem c105 : CodeOk Try.prog 105 F105 := ⟨⟨Try.f105, Try.func105, of_decide_eq_true (by kernel_rfl), by kernel_rfl, by kernel_rfl, by kernel_rfl, by kernel_rfl⟩⟩
theorem c107 : CodeOk Try.prog 107 F107 := ⟨⟨Try.f107, Try.func107, of_decide_eq_true (by kernel_rfl), by kernel_rfl, by kernel_rfl, by kernel_rfl, by kernel_rfl⟩⟩
theorem c104 : CodeOk Try.prog 104 F104 := ⟨⟨Try.f104, Try.func104, of_decide_eq_true (by kernel_rfl), by kernel_rfl, by kernel_rfl, by kernel_rfl, by kernel_rfl⟩⟩
theorem c106 : CodeOk Try.prog 106 F106 := ⟨⟨Try.f106, Try.func106, of_decide_eq_true (by kernel_rfl), by kernel_rfl, by kernel_rfl, by kernel_rfl, by kernel_rfl⟩⟩
theorem c85 : CodeOk Try.prog 85 F85 := ⟨⟨Try.f85, Try.func85, of_decide_eq_true (by kernel_rfl), by kernel_rfl, by kernel_rfl, by kernel_rfl, by kernel_rfl⟩⟩
theorem c96 : CodeOk Try.prog 96 F96 := ⟨⟨Try.f96, Try.func96, of_decide_eq_true (by kernel_rfl), by kernel_rfl, by kernel_rfl, by kernel_rfl, by kernel_rfl⟩⟩
theorem c80 : CodeOk Try.prog 80 F80 := ⟨⟨Try.f80, Try.func80, of_decide_eq_true (by kernel_rfl), by kernel_rfl, by kernel_rfl, by kernel_rfl, by kernel_rfl⟩⟩
theorem c97 : CodeOk Try.prog 97 F97 := ⟨⟨Try.f97, Try.func97, of_decide_eq_true (by kernel_rfl), by kernel_rfl, by kernel_rfl, by kernel_rfl, by kernel_rfl⟩⟩
theorem c98 : CodeOk Try.prog 98 F98 := ⟨⟨Try.f98, Try.func98, of_decide_eq_true (by kernel_rfl), by kernel_rfl, by kernel_rfl, by kernel_rfl, by kernel_rfl⟩⟩
theorem c81 : CodeOk Try.prog 81 F81 := ⟨⟨Try.f81, Try.func81, of_decide_eq_true (by kernel_rfl), by kernel_rfl, by kernel_rfl, by kernel_rfl, by kernel_rfl⟩⟩
theorem c61 : CodeOk Try.prog 61 F61 := ⟨⟨Try.f61, Try.func61, of_decide_eq_true (by kernel_rfl), by kernel_rfl, by kernel_rfl, by kernel_rfl, by kernel_rfl⟩⟩
theorem c100 : CodeOk Try.prog 100 F100 := ⟨⟨Try.f100, Try.func100, of_decide_eq_true (by kernel_rfl), by kernel_rfl, by kernel_rfl, by kernel_rfl, by kernel_rfl⟩⟩
theorem c101 : CodeOk Try.prog 101 F101 := ⟨⟨Try.f101, Try.func101, of_decide_eq_true (by kernel_rfl), by kernel_rfl, by kernel_rfl, by kernel_rfl, by kernel_rfl⟩⟩
theorem c86 : CodeOk Try.prog 86 F86 := ⟨⟨Try.f86, Try.func86, of_decide_eq_true (by kernel_rfl), by kernel_rfl, by kernel_rfl, by kernel_rfl, by kernel_rfl⟩⟩
theorem c34 : CodeOk Try.prog 34 F34 := ⟨⟨Try.f34, Try.func34, of_decide_eq_true (by kernel_rfl), by kernel_rfl, by kernel_rfl, by kernel_rfl, by kernel_rfl⟩⟩
theorem c54 : CodeOk Try.prog 54 F54 := ⟨⟨Try.f54, Try.func54, of_decide_eq_true (by kernel_rfl), by kernel_rfl, by kernel_rfl, by kernel_rfl, by kernel_rfl⟩⟩
theorem c93 : CodeOk Try.prog 93 F93 := ⟨⟨Try.f93, Try.func93, of_decide_eq_true (by kernel_rfl), by kernel_rfl, by kernel_rfl, by kernel_rfl, by kernel_rfl⟩⟩
theorem c76 : CodeOk Try.prog 76 F76 := ⟨⟨Try.f76, Try.func76, of_decide_eq_true (by kernel_rfl), by kernel_rfl, by kernel_rfl, by kernel_rfl, by kernel_rfl⟩⟩
theorem c55 : CodeOk Try.prog 55 F55 := ⟨⟨Try.f55, Try.func55, of_decide_eq_true (by kernel_rfl), by kernel_rfl, by kernel_rfl, by kernel_rfl, by kernel_rfl⟩⟩
theorem c25 : CodeOk Try.prog 25 F25 := ⟨⟨Try.f25, Try.func25, of_decide_eq_true (by kernel_rfl), by kernel_rfl, by kernel_rfl, by kernel_rfl, by kernel_rfl⟩⟩
theorem c95 : CodeOk Try.prog 95 F95 := ⟨⟨Try.f95, Try.func95, of_decide_eq_true (by kernel_rfl), by kernel_rfl, by kernel_rfl, by kernel_rfl, by kernel_rfl⟩⟩
theorem c94 : CodeOk Try.prog 94 F94 := ⟨⟨Try.f94, Try.func94, of_decide_eq_true (by kernel_rfl), by kernel_rfl, by kernel_rfl, by kernel_rfl, by kernel_rfl⟩⟩
theorem c77 : CodeOk Try.prog 77 F77 := ⟨⟨Try.f77, Try.func77, of_decide_eq_true (by kernel_rfl), by kernel_rfl, by kernel_rfl, by kernel_rfl, by kernel_rfl⟩⟩
theorem c57 : CodeOk Try.prog 57 F57 := ⟨⟨Try.f57, Try.func57, of_decide_eq_true (by kernel_rfl), by kernel_rfl, by kernel_rfl, by kernel_rfl, by kernel_rfl⟩⟩
theorem c46 : CodeOk Try.prog 46 F46 := ⟨⟨Try.f46, Try.func46, of_decide_eq_true (by kernel_rfl), by kernel_rfl, by kernel_rfl, by kernel_rfl, by kernel_rfl⟩⟩
theorem c45 : CodeOk Try.prog 45 F45 := ⟨⟨Try.f45, Try.func45, of_decide_eq_true (by kernel_rfl), by kernel_rfl, by kernel_rfl, by kernel_rfl, by kernel_rfl⟩⟩
theorem c16 : CodeOk Try.prog 16 F16 := ⟨⟨Try.f16, Try.func16, of_decide_eq_true (by kernel_rfl), by kernel_rfl, by kernel_rfl, by kernel_rfl, by kernel_rfl⟩⟩
theorem c27 : CodeOk Try.prog 27 F27 := ⟨⟨Try.f27, Try.func27, of_decide_eq_true (by kernel_rfl), by kernel_rfl, by kernel_rfl, by kernel_rfl, by kernel_rfl⟩⟩
theorem c28 : CodeOk Try.prog 28 F28 := ⟨⟨Try.f28, Try.func28, of_decide_eq_true (by kernel_rfl), by kernel_rfl, by kernel_rfl, by kernel_rfl, by kernel_rfl⟩⟩
theorem c31 : CodeOk Try.prog 31 F31 := ⟨⟨Try.f31, Try.func31, of_decide_eq_true (by kernel_rfl), by kernel_rfl, by kernel_rfl, by kernel_rfl, by kernel_rfl⟩⟩
theorem c13 : CodeOk Try.prog 13 F13 := ⟨⟨Try.f13, Try.func13, of_decide_eq_true (by kernel_rfl), by kernel_rfl, by kernel_rfl, by kernel_rfl, by kernel_rfl⟩⟩
theorem c14 : CodeOk Try.prog 14 F14 := ⟨⟨Try.f14, Try.func14, of_decide_eq_true (by kernel_rfl), by kernel_rfl, by kernel_rfl, by kernel_rfl, by kernel_rfl⟩⟩
theorem c22 : CodeOk Try.prog 22 F22 := ⟨⟨Try.f22, Try.func22, of_decide_eq_true (by kernel_rfl), by kernel_rfl, by kernel_rfl, by kernel_rfl, by kernel_rfl⟩⟩
theorem c36 : CodeOk Try.prog 36 F36 := ⟨⟨Try.f36, Try.func36, of_decide_eq_true (by kernel_rfl), by kernel_rfl, by kernel_rfl, by kernel_rfl, by kernel_rfl⟩⟩
theorem c38 : CodeOk Try.prog 38 F38 := ⟨⟨Try.f38, Try.func38, of_decide_eq_true (by kernel_rfl), by kernel_rfl, by kernel_rfl, by kernel_rfl, by kernel_rfl⟩⟩
theorem c37 : CodeOk Try.prog 37 F37 := ⟨⟨Try.f37, Try.func37, of_decide_eq_true (by kernel_rfl), by kernel_rfl, by kernel_rfl, by kernel_rfl, by kernel_rfl⟩⟩
theorem c65 : CodeOk Try.prog 65 F65 := ⟨⟨Try.f65, Try.func65, of_decide_eq_true (by kernel_rfl), by kernel_rfl, by kernel_rfl, by kernel_rfl, by kernel_rfl⟩⟩
theorem c39 : CodeOk Try.prog 39 F39 := ⟨⟨Try.f39, Try.func39, of_decide_eq_true (by kernel_rfl), by kernel_rfl, by kernel_rfl, by kernel_rfl, by kernel_rfl⟩⟩
theorem c74 : CodeOk Try.prog 74 F74 := ⟨⟨Try.f74, Try.func74, of_decide_eq_true (by kernel_rfl), by kernel_rfl, by kernel_rfl, by kernel_rfl, by kernel_rfl⟩⟩
theorem c49 : CodeOk Try.prog 49 F49 := ⟨⟨Try.f49, Try.func49, of_decide_eq_true (by kernel_rfl), by kernel_rfl, by kernel_rfl, by kernel_rfl, by kernel_rfl⟩⟩
theorem c56 : CodeOk Try.prog 56 F56 := ⟨⟨Try.f56, Try.func56, of_decide_eq_true (by kernel_rfl), by kernel_rfl, by kernel_rfl, by kernel_rfl, by kernel_rfl⟩⟩
theorem c48 : CodeOk Try.prog 48 F48 := ⟨⟨Try.f48, Try.func48, of_decide_eq_true (by kernel_rfl), by kernel_rfl, by kernel_rfl, by kernel_rfl, by kernel_rfl⟩⟩
theorem c73 : CodeOk Try.prog 73 F73 := ⟨⟨Try.f73, Try.func73, of_decide_eq_true (by kernel_rfl), by kernel_rfl, by kernel_rfl, by kernel_rfl, by kernel_rfl⟩⟩
theorem c47 : CodeOk Try.prog 47 F47 := ⟨⟨Try.f47, Try.func47, of_decide_eq_true (by kernel_rfl), by kernel_rfl, by kernel_rfl, by kernel_rfl, by kernel_rfl⟩⟩
theorem c19 : CodeOk Try.prog 19 F19 := ⟨⟨Try.f19, Try.func19, of_decide_eq_true (by kernel_rfl), by kernel_rfl, by kernel_rfl, by kernel_rfl, by kernel_rfl⟩⟩
theorem c21 : CodeOk Try.prog 21 F21 := ⟨⟨Try.f21, Try.func21, of_decide_eq_true (by kernel_rfl), by kernel_rfl, by kernel_rfl, by kernel_rfl, by kernel_rfl⟩⟩
theorem c17 : CodeOk Try.prog 17 F17 := ⟨⟨Try.f17, Try.func17, of_decide_eq_true (by kernel_rfl), by kernel_rfl, by kernel_rfl, by kernel_rfl, by kernel_rfl⟩⟩
theorem c53 : CodeOk Try.prog 53 F53 := ⟨⟨Try.f53, Try.func53, of_decide_eq_true (by kernel_rfl), by kernel_rfl, by kernel_rfl, by kernel_rfl, by kernel_rfl⟩⟩
theorem c23 : CodeOk Try.prog 23 F23 := ⟨⟨Try.f23, Try.func23, of_decide_eq_true (by kernel_rfl), by kernel_rfl, by kernel_rfl, by kernel_rfl, by kernel_rfl⟩⟩
theorem c29 : CodeOk Try.prog 29 F29 := ⟨⟨Try.f29, Try.func29, of_decide_eq_true (by kernel_rfl), by kernel_rfl, by kernel_rfl, by kernel_rfl, by kernel_rfl⟩⟩
theorem c35 : CodeOk Try.prog 35 F35 := ⟨⟨Try.f35, Try.func35, of_decide_eq_true (by kernel_rfl), by kernel_rfl, by kernel_rfl, by kernel_rfl, by kernel_rfl⟩⟩
theorem c32 : CodeOk Try.prog 32 F32 := ⟨⟨Try.f32, Try.func32, of_decide_eq_true (by kernel_rfl), by kernel_rfl, by kernel_rfl, by kernel_rfl, by kernel_rfl⟩⟩
theorem c18 : CodeOk Try.prog 18 F18 := ⟨⟨Try.f18, Try.func18, of_decide_eq_true (by kernel_rfl), by kernel_rfl, by kernel_rfl, by kernel_rfl, by kernel_rfl⟩⟩
theorem c50 : CodeOk Try.prog 50 F50 := ⟨⟨Try.f50, Try.func50, of_decide_eq_true (by kernel_rfl), by kernel_rfl, by kernel_rfl, by kernel_rfl, by kernel_rfl⟩⟩
theorem c20 : CodeOk Try.prog 20 F20 := ⟨⟨Try.f20, Try.func20, of_decide_eq_true (by kernel_rfl), by kernel_rfl, by kernel_rfl, by kernel_rfl, by kernel_rfl⟩⟩
theorem c24 : CodeOk Try.prog 24 F24 := ⟨⟨Try.f24, Try.func24, of_decide_eq_true (by kernel_rfl), by kernel_rfl, by kernel_rfl, by kernel_rfl, by kernel_rfl⟩⟩
theorem c44 : CodeOk Try.prog 44 F44 := ⟨⟨Try.f44, Try.func44, of_decide_eq_true (by kernel_rfl), by kernel_rfl, by kernel_rfl, by kernel_rfl, by kernel_rfl⟩⟩
theorem c15 : CodeOk Try.prog 15 F15 := ⟨⟨Try.f15, Try.func15, of_decide_eq_true (by kernel_rfl), by kernel_rfl, by kernel_rfl, by kernel_rfl, by kernel_rfl⟩⟩
theorem c30 : CodeOk Try.prog 30 F30 := ⟨⟨Try.f30, Try.func30, of_decide_eq_true (by kernel_rfl), by kernel_rfl, by kernel_rfl, by kernel_rfl, by kernel_rfl⟩⟩
theorem c33 : CodeOk Try.prog 33 F33 := ⟨⟨Try.f33, Try.func33, of_decide_eq_true (by kernel_rfl), by kernel_rfl, by kernel_rfl, by kernel_rfl, by kernel_rfl⟩⟩
theorem c26 : CodeOk Try.prog 26 F26 := ⟨⟨Try.f26, Try.func26, of_decide_eq_true (by kernel_rfl), by kernel_rfl, by kernel_rfl, by kernel_rfl, by kernel_rfl⟩⟩
theorem c11 : CodeOk Try.prog 11 F11 := ⟨⟨Try.f11, Try.func11, of_decide_eq_true (by kernel_rfl), by kernel_rfl, by kernel_rfl, by kernel_rfl, by kernel_rfl⟩⟩
theorem c12 : CodeOk Try.prog 12 F12 := ⟨⟨Try.f12, Try.func12, of_decide_eq_true (by kernel_rfl), by kernel_rfl, by kernel_rfl, by kernel_rfl, by kernel_rfl⟩⟩
theorem c3 : CodeOk Try.prog 3 F3 := ⟨⟨Try.f3, Try.func3, of_decide_eq_true (by kernel_rfl), by kernel_rfl, by kernel_rfl, by kernel_rfl, by kernel_rfl⟩⟩
theorem c4 : CodeOk Try.prog 4 F4 := ⟨⟨Try.f4, Try.func4, of_decide_eq_true (by kernel_rfl), by kernel_rfl, by kernel_rfl, by kernel_rfl, by kernel_rfl⟩⟩
theorem c6 : CodeOk Try.prog 6 F6 := ⟨⟨Try.f6, Try.func6, of_decide_eq_true (by kernel_rfl), by kernel_rfl, by kernel_rfl, by kernel_rfl, by kernel_rfl⟩⟩
theorem c7 : CodeOk Try.prog 7 F7 := ⟨⟨Try.f7, Try.func7, of_decide_eq_true (by kernel_rfl), by kernel_rfl, by kernel_rfl, by kernel_rfl, by kernel_rfl⟩⟩
theorem c9 : CodeOk Try.prog 9 F9 := ⟨⟨Try.f9, Try.func9, of_decide_eq_true (by kernel_rfl), by kernel_rfl, by kernel_rfl, by kernel_rfl, by kernel_rfl⟩⟩
theorem c10 : CodeOk Try.prog 10 F10 := ⟨⟨Try.f10, Try.func10, of_decide_eq_true (by kernel_rfl), by kernel_rfl, by kernel_rfl, by kernel_rfl, by kernel_rfl⟩⟩
theorem c5 : CodeOk Try.prog 5 F5 := ⟨⟨Try.f5, Try.func5, of_decide_eq_true (by kernel_rfl), by kernel_rfl, by kernel_rfl, by kernel_rfl, by kernel_rfl⟩⟩
theorem c8 : CodeOk Try.prog 8 F8 := ⟨⟨Try.f8, Try.func8, of_decide_eq_true (by kernel_rfl), by kernel_rfl, by kernel_rfl, by kernel_rfl, by kernel_rfl⟩⟩
theorem funcsOk : FuncsOk Try.prog E := by
  refine funcsOk_of (l := fnTab) rfl ?_
  unfold fnTab
  exact ⟨c8, c5, c10, c9, c7, c6, c4, c3, c12, c11, c26, c33, c30, c15, c44, c24, c20, c50, c18, c32, c35, c29, c23, c53, c17, c21, c19, c47, c73, c48, c56, c49, c74, c39, c65, c37, c38, c36, c22, c14, c13, c75, c52, c31, c28, c27, c16, c45, c46, c57, c77, c94, c95, c25, c55, c76, c93, c54, c34, c86, c101, c100, c61, c81, c98, c97, c80, c96, c85, c106, c104, c107, c105, c64, c60, c63, c62, c59, c84, c79, c99, c83, c78, c82, c58, c51, c43, c41, c68, c69, c90, c42, c40, c72, c67, c88, c102, c89, c71, c66, c87, c70, trivial⟩
theorem mixed : Try.prog.follows .mixedOrders = true := by kernel_rfl
theorem ownk : ownKnob Try.prog.godebug = none := by kernel_rfl

end Go.Proofs.Ytkfniijfenkocaa
