/-
  That the tables are the program's own: each function, each type. Printed by a program of our own.
-/
import Derived.Test.YtpafnokcmhlbgaaTab
import Derived.Test.YtpafnokcmhlbgaaA30
namespace Go.Proofs.Ytpafnokcmhlbgaa
open Go.Abs
set_option maxRecDepth 20000

theorem c11 : CodeOk Try.prog 11 F11 := ⟨⟨Try.f11, Try.func11, of_decide_eq_true (by kernel_rfl), by kernel_rfl, by kernel_rfl, by kernel_rfl, by kernel_rfl⟩⟩
theorem c72 : CodeOk Try.prog 72 F72 := ⟨⟨Try.f72, Try.func72, of_decide_eq_true (by kernel_rfl), by kernel_rfl, by kernel_rfl, by kernel_rfl, by kernel_rfl⟩⟩
theorem c73 : CodeOk Try.prog 73 F73 := ⟨⟨Try.f73, Try.func73, of_decide_eq_true (by kernel_rfl), by kernel_rfl, by kernel_rfl, by kernel_rfl, by kernel_rfl⟩⟩
theorem c71 : CodeOk Try.prog 71 F71 := ⟨⟨Try.f71, Try.func71, of_decide_eq_true (by kernel_rfl), by kernel_rfl, by kernel_rfl, by kernel_rfl, by kernel_rfl⟩⟩
theorem c51 : CodeOk Try.prog 51 F51 := ⟨⟨Try.f51, Try.func51, of_decide_eq_true (by kernel_rfl), by kernel_rfl, by kernel_rfl, by kernel_rfl, by kernel_rfl⟩⟩
theorem c46 : CodeOk Try.prog 46 F46 := ⟨⟨Try.f46, Try.func46, of_decide_eq_true (by kernel_rfl), by kernel_rfl, by kernel_rfl, by kernel_rfl, by kernel_rfl⟩⟩
theorem c77 : CodeOk Try.prog 77 F77 := ⟨⟨Try.f77, Try.func77, of_decide_eq_true (by kernel_rfl), by kernel_rfl, by kernel_rfl, by kernel_rfl, by kernel_rfl⟩⟩
theorem c63 : CodeOk Try.prog 63 F63 := ⟨⟨Try.f63, Try.func63, of_decide_eq_true (by kernel_rfl), by kernel_rfl, by kernel_rfl, by kernel_rfl, by kernel_rfl⟩⟩
theorem c74 : CodeOk Try.prog 74 F74 := ⟨⟨Try.f74, Try.func74, of_decide_eq_true (by kernel_rfl), by kernel_rfl, by kernel_rfl, by kernel_rfl, by kernel_rfl⟩⟩
theorem c52 : CodeOk Try.prog 52 F52 := ⟨⟨Try.f52, Try.func52, of_decide_eq_true (by kernel_rfl), by kernel_rfl, by kernel_rfl, by kernel_rfl, by kernel_rfl⟩⟩
theorem c49 : CodeOk Try.prog 49 F49 := ⟨⟨Try.f49, Try.func49, of_decide_eq_true (by kernel_rfl), by kernel_rfl, by kernel_rfl, by kernel_rfl, by kernel_rfl⟩⟩
theorem c12 : CodeOk Try.prog 12 F12 := ⟨⟨Try.f12, Try.func12, of_decide_eq_true (by kernel_rfl), by kernel_rfl, by kernel_rfl, by kernel_rfl, by kernel_rfl⟩⟩
theorem c32 : CodeOk Try.prog 32 F32 := ⟨⟨Try.f32, Try.func32, of_decide_eq_true (by kernel_rfl), by kernel_rfl, by kernel_rfl, by kernel_rfl, by kernel_rfl⟩⟩
theorem c38 : CodeOk Try.prog 38 F38 := ⟨⟨Try.f38, Try.func38, of_decide_eq_true (by kernel_rfl), by kernel_rfl, by kernel_rfl, by kernel_rfl, by kernel_rfl⟩⟩
theorem c44 : CodeOk Try.prog 44 F44 := ⟨⟨Try.f44, Try.func44, of_decide_eq_true (by kernel_rfl), by kernel_rfl, by kernel_rfl, by kernel_rfl, by kernel_rfl⟩⟩
theorem c35 : CodeOk Try.prog 35 F35 := ⟨⟨Try.f35, Try.func35, of_decide_eq_true (by kernel_rfl), by kernel_rfl, by kernel_rfl, by kernel_rfl, by kernel_rfl⟩⟩
theorem c36 : CodeOk Try.prog 36 F36 := ⟨⟨Try.f36, Try.func36, of_decide_eq_true (by kernel_rfl), by kernel_rfl, by kernel_rfl, by kernel_rfl, by kernel_rfl⟩⟩
theorem c20 : CodeOk Try.prog 20 F20 := ⟨⟨Try.f20, Try.func20, of_decide_eq_true (by kernel_rfl), by kernel_rfl, by kernel_rfl, by kernel_rfl, by kernel_rfl⟩⟩
theorem c39 : CodeOk Try.prog 39 F39 := ⟨⟨Try.f39, Try.func39, of_decide_eq_true (by kernel_rfl), by kernel_rfl, by kernel_rfl, by kernel_rfl, by kernel_rfl⟩⟩
theorem c40 : CodeOk Try.prog 40 F40 := ⟨⟨Try.f40, Try.func40, of_decide_eq_true (by kernel_rfl), by kernel_rfl, by kernel_rfl, by kernel_rfl, by kernel_rfl⟩⟩
theorem c24 : CodeOk Try.prog 24 F24 := ⟨⟨Try.f24, Try.func24, of_decide_eq_true (by kernel_rfl), by kernel_rfl, by kernel_rfl, by kernel_rfl, by kernel_rfl⟩⟩
theorem c70 : CodeOk Try.prog 70 F70 := ⟨⟨Try.f70, Try.func70, of_decide_eq_true (by kernel_rfl), by kernel_rfl, by kernel_rfl, by kernel_rfl, by kernel_rfl⟩⟩
theorem c45 : CodeOk Try.prog 45 F45 := ⟨⟨Try.f45, Try.func45, of_decide_eq_true (by kernel_rfl), by kernel_rfl, by kernel_rfl, by kernel_rfl, by kernel_rfl⟩⟩
theorem c47 : CodeOk Try.prog 47 F47 := ⟨⟨Try.f47, Try.func47, of_decide_eq_true (by kernel_rfl), by kernel_rfl, by kernel_rfl, by kernel_rfl, by kernel_rfl⟩⟩
theorem c48 : CodeOk Try.prog 48 F48 := ⟨⟨Try.f48, Try.func48, of_decide_eq_true (by kernel_rfl), by kernel_rfl, by kernel_rfl, by kernel_rfl, by kernel_rfl⟩⟩
theorem c50 : CodeOk Try.prog 50 F50 := ⟨⟨Try.f50, Try.func50, of_decide_eq_true (by kernel_rfl), by kernel_rfl, by kernel_rfl, by kernel_rfl, by kernel_rfl⟩⟩
theorem c22 : CodeOk Try.prog 22 F22 := ⟨⟨Try.f22, Try.func22, of_decide_eq_true (by kernel_rfl), by kernel_rfl, by kernel_rfl, by kernel_rfl, by kernel_rfl⟩⟩
theorem c59 : CodeOk Try.prog 59 F59 := ⟨⟨Try.f59, Try.func59, of_decide_eq_true (by kernel_rfl), by kernel_rfl, by kernel_rfl, by kernel_rfl, by kernel_rfl⟩⟩
theorem c28 : CodeOk Try.prog 28 F28 := ⟨⟨Try.f28, Try.func28, of_decide_eq_true (by kernel_rfl), by kernel_rfl, by kernel_rfl, by kernel_rfl, by kernel_rfl⟩⟩
theorem c29 : CodeOk Try.prog 29 F29 := ⟨⟨Try.f29, Try.func29, of_decide_eq_true (by kernel_rfl), by kernel_rfl, by kernel_rfl, by kernel_rfl, by kernel_rfl⟩⟩
theorem c30 : CodeOk Try.prog 30 F30 := ⟨⟨Try.f30, Try.func30, of_decide_eq_true (by kernel_rfl), by kernel_rfl, by kernel_rfl, by kernel_rfl, by kernel_rfl⟩⟩
theorem c61 : CodeOk Try.prog 61 F61 := ⟨⟨Try.f61, Try.func61, of_decide_eq_true (by kernel_rfl), by kernel_rfl, by kernel_rfl, by kernel_rfl, by kernel_rfl⟩⟩
theorem c62 : CodeOk Try.prog 62 F62 := ⟨⟨Try.f62, Try.func62, of_decide_eq_true (by kernel_rfl), by kernel_rfl, by kernel_rfl, by kernel_rfl, by kernel_rfl⟩⟩
theorem c33 : CodeOk Try.prog 33 F33 := ⟨⟨Try.f33, Try.func33, of_decide_eq_true (by kernel_rfl), by kernel_rfl, by kernel_rfl, by kernel_rfl, by kernel_rfl⟩⟩
theorem c34 : CodeOk Try.prog 34 F34 := ⟨⟨Try.f34, Try.func34, of_decide_eq_true (by kernel_rfl), by kernel_rfl, by kernel_rfl, by kernel_rfl, by kernel_rfl⟩⟩
theorem c15 : CodeOk Try.prog 15 F15 := ⟨⟨Try.f15, Try.func15, of_decide_eq_true (by kernel_rfl), by kernel_rfl, by kernel_rfl, by kernel_rfl, by kernel_rfl⟩⟩
theorem c27 : CodeOk Try.prog 27 F27 := ⟨⟨Try.f27, Try.func27, of_decide_eq_true (by kernel_rfl), by kernel_rfl, by kernel_rfl, by kernel_rfl, by kernel_rfl⟩⟩
theorem c18 : CodeOk Try.prog 18 F18 := ⟨⟨Try.f18, Try.func18, of_decide_eq_true (by kernel_rfl), by kernel_rfl, by kernel_rfl, by kernel_rfl, by kernel_rfl⟩⟩
theorem c26 : CodeOk Try.prog 26 F26 := ⟨⟨Try.f26, Try.func26, of_decide_eq_true (by kernel_rfl), by kernel_rfl, by kernel_rfl, by kernel_rfl, by kernel_rfl⟩⟩
theorem c4 : CodeOk Try.prog 4 F4 := ⟨⟨Try.f4, Try.func4, of_decide_eq_true (by kernel_rfl), by kernel_rfl, by kernel_rfl, by kernel_rfl, by kernel_rfl⟩⟩
theorem c5 : CodeOk Try.prog 5 F5 := ⟨⟨Try.f5, Try.func5, of_decide_eq_true (by kernel_rfl), by kernel_rfl, by kernel_rfl, by kernel_rfl, by kernel_rfl⟩⟩
theorem c10 : CodeOk Try.prog 10 F10 := ⟨⟨Try.f10, Try.func10, of_decide_eq_true (by kernel_rfl), by kernel_rfl, by kernel_rfl, by kernel_rfl, by kernel_rfl⟩⟩
theorem c6 : CodeOk Try.prog 6 F6 := ⟨⟨Try.f6, Try.func6, of_decide_eq_true (by kernel_rfl), by kernel_rfl, by kernel_rfl, by kernel_rfl, by kernel_rfl⟩⟩
theorem c9 : CodeOk Try.prog 9 F9 := ⟨⟨Try.f9, Try.func9, of_decide_eq_true (by kernel_rfl), by kernel_rfl, by kernel_rfl, by kernel_rfl, by kernel_rfl⟩⟩
theorem funcsOk : FuncsOk Try.prog E := by
  refine funcsOk_of (l := fnTab) rfl ?_
  unfold fnTab
  exact ⟨c9, c6, c10, c5, c4, c26, c18, c27, c15, c34, c33, c62, c61, c30, c29, c28, c59, c22, c50, c48, c47, c45, c70, c24, c40, c39, c20, c36, c35, c44, c38, c32, c12, c49, c52, c74, c63, c77, c46, c51, c71, c73, c72, c11, trivial⟩
theorem mixed : Try.prog.follows .mixedOrders = true := by kernel_rfl
theorem ownk : ownKnob Try.prog.godebug = none := by kernel_rfl

end Go.Proofs.Ytpafnokcmhlbgaa
