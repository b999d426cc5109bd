/-
  The library's Insert, in the table.
-/
import Derived.Test.YtdgijohgncchiaaInsP
namespace Go.Proofs.Ytdgijohgncchiaa
open Go.Abs
theorem c64 : PrimOk Try.prog E 64 (primIns 53) := cIns
end Go.Proofs.Ytdgijohgncchiaa
