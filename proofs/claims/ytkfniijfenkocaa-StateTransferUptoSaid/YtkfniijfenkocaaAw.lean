/-
  The sanity check that each law asks for: it is closed, so that the interpreter's own run shows it.
-/
import Derived.Test.YtkfniijfenkocaaTab
namespace Go.Proofs.Ytkfniijfenkocaa
open Go.Abs
set_option maxRecDepth 20000
theorem aw : run E 200 12 [] [] = (true, ([.one (.bool true)], [])) := by kernel_rfl
end Go.Proofs.Ytkfniijfenkocaa
