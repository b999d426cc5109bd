/-
  The library's Insert, in the table.
-/
import Derived.Test.YtohikghidhdhjaaInsP
namespace Go.Proofs.Ytohikghidhdhjaa
open Go.Abs
theorem c56 : PrimOk Try.prog E 56 (primIns 45) := cIns
end Go.Proofs.Ytohikghidhdhjaa
