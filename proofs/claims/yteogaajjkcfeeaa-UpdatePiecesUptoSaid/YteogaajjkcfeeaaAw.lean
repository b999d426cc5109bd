/-
  The sanity check that each law asks for: it is closed, so that the interpreter's own run shows it.
-/
import Derived.Test.YteogaajjkcfeeaaTab
namespace Go.Proofs.Yteogaajjkcfeeaa
open Go.Abs
set_option maxRecDepth 20000
theorem aw : run E 200 10 [] [] = (true, ([.one (.bool true)], [])) := by kernel_rfl
end Go.Proofs.Yteogaajjkcfeeaa
