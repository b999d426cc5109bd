/-
  That the tables are the program's own: each function, each type. Printed by a program of our own.
-/
import Derived.Test.YtohikghidhdhjaaTab
import Derived.Test.YtohikghidhdhjaaA30
namespace Go.Proofs.Ytohikghidhdhjaa
open Go.Abs
set_option maxRecDepth 20000

theorem c85 : CodeOk Try.prog 85 F85 := ⟨⟨Try.f85, Try.func85, of_decide_eq_true (by kernel_rfl), by kernel_rfl, by kernel_rfl, by kernel_rfl, by kernel_rfl⟩⟩
theorem c86 : CodeOk Try.prog 86 F86 := ⟨⟨Try.f86, Try.func86, of_decide_eq_true (by kernel_rfl), by kernel_rfl, by kernel_rfl, by kernel_rfl, by kernel_rfl⟩⟩
theorem c88 : CodeOk Try.prog 88 F88 := ⟨⟨Try.f88, Try.func88, of_decide_eq_true (by kernel_rfl), by kernel_rfl, by kernel_rfl, by kernel_rfl, by kernel_rfl⟩⟩
theorem c74 : CodeOk Try.prog 74 F74 := ⟨⟨Try.f74, Try.func74, of_decide_eq_true (by kernel_rfl), by kernel_rfl, by kernel_rfl, by kernel_rfl, by kernel_rfl⟩⟩
theorem c89 : CodeOk Try.prog 89 F89 := ⟨⟨Try.f89, Try.func89, of_decide_eq_true (by kernel_rfl), by kernel_rfl, by kernel_rfl, by kernel_rfl, by kernel_rfl⟩⟩
theorem c71 : CodeOk Try.prog 71 F71 := ⟨⟨Try.f71, Try.func71, of_decide_eq_true (by kernel_rfl), by kernel_rfl, by kernel_rfl, by kernel_rfl, by kernel_rfl⟩⟩
theorem c75 : CodeOk Try.prog 75 F75 := ⟨⟨Try.f75, Try.func75, of_decide_eq_true (by kernel_rfl), by kernel_rfl, by kernel_rfl, by kernel_rfl, by kernel_rfl⟩⟩
theorem c44 : CodeOk Try.prog 44 F44 := ⟨⟨Try.f44, Try.func44, of_decide_eq_true (by kernel_rfl), by kernel_rfl, by kernel_rfl, by kernel_rfl, by kernel_rfl⟩⟩
theorem c46 : CodeOk Try.prog 46 F46 := ⟨⟨Try.f46, Try.func46, of_decide_eq_true (by kernel_rfl), by kernel_rfl, by kernel_rfl, by kernel_rfl, by kernel_rfl⟩⟩
theorem c87 : CodeOk Try.prog 87 F87 := ⟨⟨Try.f87, Try.func87, of_decide_eq_true (by kernel_rfl), by kernel_rfl, by kernel_rfl, by kernel_rfl, by kernel_rfl⟩⟩
theorem c73 : CodeOk Try.prog 73 F73 := ⟨⟨Try.f73, Try.func73, of_decide_eq_true (by kernel_rfl), by kernel_rfl, by kernel_rfl, by kernel_rfl, by kernel_rfl⟩⟩
theorem c72 : CodeOk Try.prog 72 F72 := ⟨⟨Try.f72, Try.func72, of_decide_eq_true (by kernel_rfl), by kernel_rfl, by kernel_rfl, by kernel_rfl, by kernel_rfl⟩⟩
theorem c45 : CodeOk Try.prog 45 F45 := ⟨⟨Try.f45, Try.func45, of_decide_eq_true (by kernel_rfl), by kernel_rfl, by kernel_rfl, by kernel_rfl, by kernel_rfl⟩⟩
theorem c47 : CodeOk Try.prog 47 F47 := ⟨⟨Try.f47, Try.func47, of_decide_eq_true (by kernel_rfl), by kernel_rfl, by kernel_rfl, by kernel_rfl, by kernel_rfl⟩⟩
theorem c53 : CodeOk Try.prog 53 F53 := ⟨⟨Try.f53, Try.func53, of_decide_eq_true (by kernel_rfl), by kernel_rfl, by kernel_rfl, by kernel_rfl, by kernel_rfl⟩⟩
theorem c63 : CodeOk Try.prog 63 F63 := ⟨⟨Try.f63, Try.func63, of_decide_eq_true (by kernel_rfl), by kernel_rfl, by kernel_rfl, by kernel_rfl, by kernel_rfl⟩⟩
theorem c83 : CodeOk Try.prog 83 F83 := ⟨⟨Try.f83, Try.func83, of_decide_eq_true (by kernel_rfl), by kernel_rfl, by kernel_rfl, by kernel_rfl, by kernel_rfl⟩⟩
theorem c65 : CodeOk Try.prog 65 F65 := ⟨⟨Try.f65, Try.func65, of_decide_eq_true (by kernel_rfl), by kernel_rfl, by kernel_rfl, by kernel_rfl, by kernel_rfl⟩⟩
theorem c69 : CodeOk Try.prog 69 F69 := ⟨⟨Try.f69, Try.func69, of_decide_eq_true (by kernel_rfl), by kernel_rfl, by kernel_rfl, by kernel_rfl, by kernel_rfl⟩⟩
theorem c82 : CodeOk Try.prog 82 F82 := ⟨⟨Try.f82, Try.func82, of_decide_eq_true (by kernel_rfl), by kernel_rfl, by kernel_rfl, by kernel_rfl, by kernel_rfl⟩⟩
theorem c64 : CodeOk Try.prog 64 F64 := ⟨⟨Try.f64, Try.func64, of_decide_eq_true (by kernel_rfl), by kernel_rfl, by kernel_rfl, by kernel_rfl, by kernel_rfl⟩⟩
theorem c66 : CodeOk Try.prog 66 F66 := ⟨⟨Try.f66, Try.func66, of_decide_eq_true (by kernel_rfl), by kernel_rfl, by kernel_rfl, by kernel_rfl, by kernel_rfl⟩⟩
theorem c93 : CodeOk Try.prog 93 F93 := ⟨⟨Try.f93, Try.func93, of_decide_eq_true (by kernel_rfl), by kernel_rfl, by kernel_rfl, by kernel_rfl, by kernel_rfl⟩⟩
theorem c84 : CodeOk Try.prog 84 F84 := ⟨⟨Try.f84, Try.func84, of_decide_eq_true (by kernel_rfl), by kernel_rfl, by kernel_rfl, by kernel_rfl, by kernel_rfl⟩⟩
theorem c67 : CodeOk Try.prog 67 F67 := ⟨⟨Try.f67, Try.func67, of_decide_eq_true (by kernel_rfl), by kernel_rfl, by kernel_rfl, by kernel_rfl, by kernel_rfl⟩⟩
theorem c68 : CodeOk Try.prog 68 F68 := ⟨⟨Try.f68, Try.func68, of_decide_eq_true (by kernel_rfl), by kernel_rfl, by kernel_rfl, by kernel_rfl, by kernel_rfl⟩⟩
theorem c70 : CodeOk Try.prog 70 F70 := ⟨⟨Try.f70, Try.func70, of_decide_eq_true (by kernel_rfl), by kernel_rfl, by kernel_rfl, by kernel_rfl, by kernel_rfl⟩⟩
theorem c13 : CodeOk Try.prog 13 F13 := ⟨⟨Try.f13, Try.func13, of_decide_eq_true (by kernel_rfl), by kernel_rfl, by kernel_rfl, by kernel_rfl, by kernel_rfl⟩⟩
theorem c14 : CodeOk Try.prog 14 F14 := ⟨⟨Try.f14, Try.func14, of_decide_eq_true (by kernel_rfl), by kernel_rfl, by kernel_rfl, by kernel_rfl, by kernel_rfl⟩⟩
theorem c12 : CodeOk Try.prog 12 F12 := ⟨⟨Try.f12, Try.func12, of_decide_eq_true (by kernel_rfl), by kernel_rfl, by kernel_rfl, by kernel_rfl, by kernel_rfl⟩⟩
theorem c3 : CodeOk Try.prog 3 F3 := ⟨⟨Try.f3, Try.func3, of_decide_eq_true (by kernel_rfl), by kernel_rfl, by kernel_rfl, by kernel_rfl, by kernel_rfl⟩⟩
theorem c23 : CodeOk Try.prog 23 F23 := ⟨⟨Try.f23, Try.func23, of_decide_eq_true (by kernel_rfl), by kernel_rfl, by kernel_rfl, by kernel_rfl, by kernel_rfl⟩⟩
theorem c40 : CodeOk Try.prog 40 F40 := ⟨⟨Try.f40, Try.func40, of_decide_eq_true (by kernel_rfl), by kernel_rfl, by kernel_rfl, by kernel_rfl, by kernel_rfl⟩⟩
theorem c42 : CodeOk Try.prog 42 F42 := ⟨⟨Try.f42, Try.func42, of_decide_eq_true (by kernel_rfl), by kernel_rfl, by kernel_rfl, by kernel_rfl, by kernel_rfl⟩⟩
theorem c41 : CodeOk Try.prog 41 F41 := ⟨⟨Try.f41, Try.func41, of_decide_eq_true (by kernel_rfl), by kernel_rfl, by kernel_rfl, by kernel_rfl, by kernel_rfl⟩⟩
theorem c43 : CodeOk Try.prog 43 F43 := ⟨⟨Try.f43, Try.func43, of_decide_eq_true (by kernel_rfl), by kernel_rfl, by kernel_rfl, by kernel_rfl, by kernel_rfl⟩⟩
theorem c10 : CodeOk Try.prog 10 F10 := ⟨⟨Try.f10, Try.func10, of_decide_eq_true (by kernel_rfl), by kernel_rfl, by kernel_rfl, by kernel_rfl, by kernel_rfl⟩⟩
theorem c11 : CodeOk Try.prog 11 F11 := ⟨⟨Try.f11, Try.func11, of_decide_eq_true (by kernel_rfl), by kernel_rfl, by kernel_rfl, by kernel_rfl, by kernel_rfl⟩⟩
theorem c17 : CodeOk Try.prog 17 F17 := ⟨⟨Try.f17, Try.func17, of_decide_eq_true (by kernel_rfl), by kernel_rfl, by kernel_rfl, by kernel_rfl, by kernel_rfl⟩⟩
theorem c19 : CodeOk Try.prog 19 F19 := ⟨⟨Try.f19, Try.func19, of_decide_eq_true (by kernel_rfl), by kernel_rfl, by kernel_rfl, by kernel_rfl, by kernel_rfl⟩⟩
theorem c21 : CodeOk Try.prog 21 F21 := ⟨⟨Try.f21, Try.func21, of_decide_eq_true (by kernel_rfl), by kernel_rfl, by kernel_rfl, by kernel_rfl, by kernel_rfl⟩⟩
theorem c24 : CodeOk Try.prog 24 F24 := ⟨⟨Try.f24, Try.func24, of_decide_eq_true (by kernel_rfl), by kernel_rfl, by kernel_rfl, by kernel_rfl, by kernel_rfl⟩⟩
theorem c26 : CodeOk Try.prog 26 F26 := ⟨⟨Try.f26, Try.func26, of_decide_eq_true (by kernel_rfl), by kernel_rfl, by kernel_rfl, by kernel_rfl, by kernel_rfl⟩⟩
theorem c33 : CodeOk Try.prog 33 F33 := ⟨⟨Try.f33, Try.func33, of_decide_eq_true (by kernel_rfl), by kernel_rfl, by kernel_rfl, by kernel_rfl, by kernel_rfl⟩⟩
theorem c34 : CodeOk Try.prog 34 F34 := ⟨⟨Try.f34, Try.func34, of_decide_eq_true (by kernel_rfl), by kernel_rfl, by kernel_rfl, by kernel_rfl, by kernel_rfl⟩⟩
theorem c51 : CodeOk Try.prog 51 F51 := ⟨⟨Try.f51, Try.func51, of_decide_eq_true (by kernel_rfl), by kernel_rfl, by kernel_rfl, by kernel_rfl, by kernel_rfl⟩⟩
theorem c54 : CodeOk Try.prog 54 F54 := ⟨⟨Try.f54, Try.func54, of_decide_eq_true (by kernel_rfl), by kernel_rfl, by kernel_rfl, by kernel_rfl, by kernel_rfl⟩⟩
theorem c55 : CodeOk Try.prog 55 F55 := ⟨⟨Try.f55, Try.func55, of_decide_eq_true (by kernel_rfl), by kernel_rfl, by kernel_rfl, by kernel_rfl, by kernel_rfl⟩⟩
theorem c58 : CodeOk Try.prog 58 F58 := ⟨⟨Try.f58, Try.func58, of_decide_eq_true (by kernel_rfl), by kernel_rfl, by kernel_rfl, by kernel_rfl, by kernel_rfl⟩⟩
theorem c61 : CodeOk Try.prog 61 F61 := ⟨⟨Try.f61, Try.func61, of_decide_eq_true (by kernel_rfl), by kernel_rfl, by kernel_rfl, by kernel_rfl, by kernel_rfl⟩⟩
theorem c57 : CodeOk Try.prog 57 F57 := ⟨⟨Try.f57, Try.func57, of_decide_eq_true (by kernel_rfl), by kernel_rfl, by kernel_rfl, by kernel_rfl, by kernel_rfl⟩⟩
theorem c62 : CodeOk Try.prog 62 F62 := ⟨⟨Try.f62, Try.func62, of_decide_eq_true (by kernel_rfl), by kernel_rfl, by kernel_rfl, by kernel_rfl, by kernel_rfl⟩⟩
theorem c76 : CodeOk Try.prog 76 F76 := ⟨⟨Try.f76, Try.func76, of_decide_eq_true (by kernel_rfl), by kernel_rfl, by kernel_rfl, by kernel_rfl, by kernel_rfl⟩⟩
theorem c91 : CodeOk Try.prog 91 F91 := ⟨⟨Try.f91, Try.func91, of_decide_eq_true (by kernel_rfl), by kernel_rfl, by kernel_rfl, by kernel_rfl, by kernel_rfl⟩⟩
theorem c79 : CodeOk Try.prog 79 F79 := ⟨⟨Try.f79, Try.func79, of_decide_eq_true (by kernel_rfl), by kernel_rfl, by kernel_rfl, by kernel_rfl, by kernel_rfl⟩⟩
theorem c81 : CodeOk Try.prog 81 F81 := ⟨⟨Try.f81, Try.func81, of_decide_eq_true (by kernel_rfl), by kernel_rfl, by kernel_rfl, by kernel_rfl, by kernel_rfl⟩⟩
theorem c92 : CodeOk Try.prog 92 F92 := ⟨⟨Try.f92, Try.func92, of_decide_eq_true (by kernel_rfl), by kernel_rfl, by kernel_rfl, by kernel_rfl, by kernel_rfl⟩⟩
theorem funcsOk : FuncsOk Try.prog E := by
  refine funcsOk_of (l := fnTab) rfl ?_
  unfold fnTab
  exact ⟨c92, c81, c79, c91, c76, c62, c57, c61, c58, c55, c54, c51, c34, c33, c26, c24, c21, c19, c17, c11, c10, c43, c41, c42, c40, c23, c3, c12, c14, c13, c70, c68, c67, c84, c93, c66, c64, c82, c69, c65, c83, c63, c53, c47, c45, c72, c73, c87, c46, c44, c75, c71, c89, c74, c88, c86, c85, trivial⟩
theorem tabs : tabB Try.prog E tyTab = true := by kernel_rfl
theorem good : Go.Abs.Good Try.prog E := good_of (l := tyTab) rfl tabs
theorem mixed : Try.prog.follows .mixedOrders = true := by kernel_rfl
theorem ownk : ownKnob Try.prog.godebug = none := by kernel_rfl

end Go.Proofs.Ytohikghidhdhjaa
