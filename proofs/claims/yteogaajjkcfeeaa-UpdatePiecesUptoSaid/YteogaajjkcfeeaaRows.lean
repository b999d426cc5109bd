/-
  No cell of these rows narrows 'for every input' (looked for: loops, veiled, ifaces, maps, wideKeys, modest, calm, conditions, laid).
  DERIVED. THE GIVEN ROWS OF THIS SEAT. 7 by the template 'for every input the law returns true; each argument reads behind the call as it read before'; 0 by the template 'total and deterministic' (their statements: YteogaajjkcfeeaaTotals.lean).
  GIVEN WITH THE SEED: the statements are not yours to turn. If you find one false, say at which input.
  Laid BY PROGRAM, IN A SANDBOX (cutbox-rows.mjs): the forced cells as the released guide's own fill.sh prints them over the translation b39c78bc006460bd… (all of the seat's roots in one cut). By AI agents, Wed Nov 11 2026. No macro, syntax, notation, axiom, sorry.
-/
import Derived.Test.YteogaajjkcfeeaaChecked
import GoSem.Claim
import GoSem.ClaimJoined
import GoSem.ClaimMapViews
import Derived.JoinedTies
import Derived.KernelRfl
namespace Go.Proofs.Yteogaajjkcfeeaa
/- THE CELL 'sum', in the pinned program and in every row, IS THE sha256 OF THE DUMP (.gsa) THAT YteogaajjkcfeeaaProg.lean LOADS. Nothing in Lean hashes anything: it is a label: what it is worth is what the hold of that sum in a sandbox is worth. -/
noncomputable def Try.pinned : Pinned := { name := "yteogaajjkcfeeaa", sum := "b39c78bc006460bd1756ab81249608eb34826d812b9201dbfb4bf435262a6755", checked := Try.checked }
namespace Rows
def none {H : Type} : Left H := { results := [], args := [] }

/-- 'elasticstorelaw11.UpdateEffect': WHATEVER THE INPUT: true; the input reads as it did. -/
def updateEffectSpec : ChangeSpec := { name := "updateEffect", fn := fun _ => fun
  | [d] => { results := [.lit (.bool true)], args := [d] }
  | _ => none }
def updateEffectRow : OpenClaim := { program := "yteogaajjkcfeeaa", sum := "b39c78bc006460bd1756ab81249608eb34826d812b9201dbfb4bf435262a6755", func := "elasticstore/elasticstorelaw11.UpdateEffect", spec := "updateEffect", unfollowed := true, recurses := true, apart := false }
def UpdateEffectSaid : Prop := updateEffectRow.holds Try.pinned (OpenSpec.ofChange updateEffectSpec)

/-- ITS FALSE NEIGHBOUR: 'it returns false'. Refute it at one input. -/
def updateEffectWrong : ChangeSpec := { name := "updateEffect", fn := fun _ => fun
  | [d] => { results := [.lit (.bool false)], args := [d] }
  | _ => none }
def UpdateEffectWrongFalsely : Prop := updateEffectRow.holds Try.pinned (OpenSpec.ofChange updateEffectWrong)

/-- 'elasticstorelaw11.UpdateValidate': WHATEVER THE INPUT: true; the input reads as it did. -/
def updateValidateSpec : ChangeSpec := { name := "updateValidate", fn := fun _ => fun
  | [d] => { results := [.lit (.bool true)], args := [d] }
  | _ => none }
def updateValidateRow : OpenClaim := { program := "yteogaajjkcfeeaa", sum := "b39c78bc006460bd1756ab81249608eb34826d812b9201dbfb4bf435262a6755", func := "elasticstore/elasticstorelaw11.UpdateValidate", spec := "updateValidate", unfollowed := true, recurses := true, apart := false }
def UpdateValidateSaid : Prop := updateValidateRow.holds Try.pinned (OpenSpec.ofChange updateValidateSpec)

/-- ITS FALSE NEIGHBOUR: 'it returns false'. Refute it at one input. -/
def updateValidateWrong : ChangeSpec := { name := "updateValidate", fn := fun _ => fun
  | [d] => { results := [.lit (.bool false)], args := [d] }
  | _ => none }
def UpdateValidateWrongFalsely : Prop := updateValidateRow.holds Try.pinned (OpenSpec.ofChange updateValidateWrong)

/-- 'elasticstorelaw11.UpdateCompare': WHATEVER THE INPUT: true; the input reads as it did. -/
def updateCompareSpec : ChangeSpec := { name := "updateCompare", fn := fun _ => fun
  | [d1, d2, d3] => { results := [.lit (.bool true)], args := [d1, d2, d3] }
  | _ => none }
def updateCompareRow : OpenClaim := { program := "yteogaajjkcfeeaa", sum := "b39c78bc006460bd1756ab81249608eb34826d812b9201dbfb4bf435262a6755", func := "elasticstore/elasticstorelaw11.UpdateCompare", spec := "updateCompare", unfollowed := true, recurses := true, apart := false }
def UpdateCompareSaid : Prop := updateCompareRow.holds Try.pinned (OpenSpec.ofChange updateCompareSpec)

/-- ITS FALSE NEIGHBOUR: 'it returns false'. Refute it at one input. -/
def updateCompareWrong : ChangeSpec := { name := "updateCompare", fn := fun _ => fun
  | [d1, d2, d3] => { results := [.lit (.bool false)], args := [d1, d2, d3] }
  | _ => none }
def UpdateCompareWrongFalsely : Prop := updateCompareRow.holds Try.pinned (OpenSpec.ofChange updateCompareWrong)

/-- 'elasticstorelaw11.UpdateEqual': WHATEVER THE INPUT: true; the input reads as it did. -/
def updateEqualSpec : ChangeSpec := { name := "updateEqual", fn := fun _ => fun
  | [d1, d2] => { results := [.lit (.bool true)], args := [d1, d2] }
  | _ => none }
def updateEqualRow : OpenClaim := { program := "yteogaajjkcfeeaa", sum := "b39c78bc006460bd1756ab81249608eb34826d812b9201dbfb4bf435262a6755", func := "elasticstore/elasticstorelaw11.UpdateEqual", spec := "updateEqual", unfollowed := true, recurses := true, apart := false }
def UpdateEqualSaid : Prop := updateEqualRow.holds Try.pinned (OpenSpec.ofChange updateEqualSpec)

/-- ITS FALSE NEIGHBOUR: 'it returns false'. Refute it at one input. -/
def updateEqualWrong : ChangeSpec := { name := "updateEqual", fn := fun _ => fun
  | [d1, d2] => { results := [.lit (.bool false)], args := [d1, d2] }
  | _ => none }
def UpdateEqualWrongFalsely : Prop := updateEqualRow.holds Try.pinned (OpenSpec.ofChange updateEqualWrong)

/-- 'elasticstorelaw11.UpdateRoundTrip': WHATEVER THE INPUT: true; the input reads as it did. -/
def updateRoundTripSpec : ChangeSpec := { name := "updateRoundTrip", fn := fun _ => fun
  | [d1, d2] => { results := [.lit (.bool true)], args := [d1, d2] }
  | _ => none }
def updateRoundTripRow : OpenClaim := { program := "yteogaajjkcfeeaa", sum := "b39c78bc006460bd1756ab81249608eb34826d812b9201dbfb4bf435262a6755", func := "elasticstore/elasticstorelaw11.UpdateRoundTrip", spec := "updateRoundTrip", unfollowed := true, recurses := true, apart := false }
def UpdateRoundTripSaid : Prop := updateRoundTripRow.holds Try.pinned (OpenSpec.ofChange updateRoundTripSpec)

/-- ITS FALSE NEIGHBOUR: 'it returns false'. Refute it at one input. -/
def updateRoundTripWrong : ChangeSpec := { name := "updateRoundTrip", fn := fun _ => fun
  | [d1, d2] => { results := [.lit (.bool false)], args := [d1, d2] }
  | _ => none }
def UpdateRoundTripWrongFalsely : Prop := updateRoundTripRow.holds Try.pinned (OpenSpec.ofChange updateRoundTripWrong)

/-- 'elasticstorelaw11.UpdateDecode': WHATEVER THE INPUT: true; the input reads as it did. -/
def updateDecodeSpec : ChangeSpec := { name := "updateDecode", fn := fun _ => fun
  | [d] => { results := [.lit (.bool true)], args := [d] }
  | _ => none }
def updateDecodeRow : OpenClaim := { program := "yteogaajjkcfeeaa", sum := "b39c78bc006460bd1756ab81249608eb34826d812b9201dbfb4bf435262a6755", func := "elasticstore/elasticstorelaw11.UpdateDecode", spec := "updateDecode", unfollowed := true, recurses := true, apart := false }
def UpdateDecodeSaid : Prop := updateDecodeRow.holds Try.pinned (OpenSpec.ofChange updateDecodeSpec)

/-- ITS FALSE NEIGHBOUR: 'it returns false'. Refute it at one input. -/
def updateDecodeWrong : ChangeSpec := { name := "updateDecode", fn := fun _ => fun
  | [d] => { results := [.lit (.bool false)], args := [d] }
  | _ => none }
def UpdateDecodeWrongFalsely : Prop := updateDecodeRow.holds Try.pinned (OpenSpec.ofChange updateDecodeWrong)

/-- 'elasticstorelaw11.UpdatePieces': WHATEVER THE INPUT: true; the input reads as it did. -/
def updatePiecesSpec : ChangeSpec := { name := "updatePieces", fn := fun _ => fun
  | [d1, d2] => { results := [.lit (.bool true)], args := [d1, d2] }
  | _ => none }
def updatePiecesRow : OpenClaim := { program := "yteogaajjkcfeeaa", sum := "b39c78bc006460bd1756ab81249608eb34826d812b9201dbfb4bf435262a6755", func := "elasticstore/elasticstorelaw11.UpdatePieces", spec := "updatePieces", unfollowed := true, recurses := true, apart := false }
def UpdatePiecesSaid : Prop := updatePiecesRow.holds Try.pinned (OpenSpec.ofChange updatePiecesSpec)

/-- ITS FALSE NEIGHBOUR: 'it returns false'. Refute it at one input. -/
def updatePiecesWrong : ChangeSpec := { name := "updatePieces", fn := fun _ => fun
  | [d1, d2] => { results := [.lit (.bool false)], args := [d1, d2] }
  | _ => none }
def UpdatePiecesWrongFalsely : Prop := updatePiecesRow.holds Try.pinned (OpenSpec.ofChange updatePiecesWrong)

/- THE SECOND FORM. 'bulk': how many values and letters a reading holds, each counted each time it is reached (what is shared counts as often as it is met; a slice's spare places count too). A statement '..UptoSaid' is the law's where the arguments, and the package variables that the reading takes, are together of bulk at most 1048576: NARROWER than '..Said'. Prove '..Said' where nothing that the law and all that it calls make is longer than what came in: it says more and counts as full. Else prove '..UptoSaid'. A law counts once. -/
mutual
def uptoBulk {H : Type} : DataW H → Nat
  | .lit (.string bytes) => bytes.length + 1
  | .lit _ => 1
  | .nil => 1
  | .ptr d => uptoBulk d + 1
  | .slice elems spare => uptoBulkAll elems + uptoBulkAll spare + 1
  | .agg parts => uptoBulkAll parts + 1
  | .iface _ d => uptoBulk d + 1
  | .map entries => uptoBulkEntries entries + 1
  | .held _ => 1
def uptoBulkAll {H : Type} : List (DataW H) → Nat
  | [] => 0
  | d :: r => uptoBulk d + uptoBulkAll r
def uptoBulkEntries {H : Type} : List (Lit × DataW H) → Nat
  | [] => 0
  | x :: r => uptoBulkEntry x + uptoBulkEntries r
def uptoBulkEntry {H : Type} : Lit × DataW H → Nat
  | (.string bytes, d) => bytes.length + uptoBulk d + 1
  | (_, d) => uptoBulk d + 1
 end
def uptoSmall : (H : Type) → List (DataW H) → Bool := fun _ ds => decide (uptoBulkAll ds ≤ 1048576)
def OpenSpec.upto (s : _root_.Go.ChangeSpec) : _root_.Go.OpenSpec := { _root_.Go.OpenSpec.ofChange s with cond := some uptoSmall }

/-- 'elasticstorelaw11.UpdateEffect', WHERE WHAT IT READS IS OF BULK AT MOST 1048576: true; the input reads as it did. -/
def updateEffectUptoRow : OpenClaim := { program := "yteogaajjkcfeeaa", sum := "b39c78bc006460bd1756ab81249608eb34826d812b9201dbfb4bf435262a6755", func := "elasticstore/elasticstorelaw11.UpdateEffect", spec := "updateEffect", unfollowed := true, recurses := true, apart := false, narrowed := true }
def UpdateEffectUptoSaid : Prop := updateEffectUptoRow.holds Try.pinned (OpenSpec.upto updateEffectSpec)

/-- 'elasticstorelaw11.UpdateValidate', WHERE WHAT IT READS IS OF BULK AT MOST 1048576: true; the input reads as it did. -/
def updateValidateUptoRow : OpenClaim := { program := "yteogaajjkcfeeaa", sum := "b39c78bc006460bd1756ab81249608eb34826d812b9201dbfb4bf435262a6755", func := "elasticstore/elasticstorelaw11.UpdateValidate", spec := "updateValidate", unfollowed := true, recurses := true, apart := false, narrowed := true }
def UpdateValidateUptoSaid : Prop := updateValidateUptoRow.holds Try.pinned (OpenSpec.upto updateValidateSpec)

/-- 'elasticstorelaw11.UpdateCompare', WHERE WHAT IT READS IS OF BULK AT MOST 1048576: true; the input reads as it did. -/
def updateCompareUptoRow : OpenClaim := { program := "yteogaajjkcfeeaa", sum := "b39c78bc006460bd1756ab81249608eb34826d812b9201dbfb4bf435262a6755", func := "elasticstore/elasticstorelaw11.UpdateCompare", spec := "updateCompare", unfollowed := true, recurses := true, apart := false, narrowed := true }
def UpdateCompareUptoSaid : Prop := updateCompareUptoRow.holds Try.pinned (OpenSpec.upto updateCompareSpec)

/-- 'elasticstorelaw11.UpdateEqual', WHERE WHAT IT READS IS OF BULK AT MOST 1048576: true; the input reads as it did. -/
def updateEqualUptoRow : OpenClaim := { program := "yteogaajjkcfeeaa", sum := "b39c78bc006460bd1756ab81249608eb34826d812b9201dbfb4bf435262a6755", func := "elasticstore/elasticstorelaw11.UpdateEqual", spec := "updateEqual", unfollowed := true, recurses := true, apart := false, narrowed := true }
def UpdateEqualUptoSaid : Prop := updateEqualUptoRow.holds Try.pinned (OpenSpec.upto updateEqualSpec)

/-- 'elasticstorelaw11.UpdateRoundTrip', WHERE WHAT IT READS IS OF BULK AT MOST 1048576: true; the input reads as it did. -/
def updateRoundTripUptoRow : OpenClaim := { program := "yteogaajjkcfeeaa", sum := "b39c78bc006460bd1756ab81249608eb34826d812b9201dbfb4bf435262a6755", func := "elasticstore/elasticstorelaw11.UpdateRoundTrip", spec := "updateRoundTrip", unfollowed := true, recurses := true, apart := false, narrowed := true }
def UpdateRoundTripUptoSaid : Prop := updateRoundTripUptoRow.holds Try.pinned (OpenSpec.upto updateRoundTripSpec)

/-- 'elasticstorelaw11.UpdateDecode', WHERE WHAT IT READS IS OF BULK AT MOST 1048576: true; the input reads as it did. -/
def updateDecodeUptoRow : OpenClaim := { program := "yteogaajjkcfeeaa", sum := "b39c78bc006460bd1756ab81249608eb34826d812b9201dbfb4bf435262a6755", func := "elasticstore/elasticstorelaw11.UpdateDecode", spec := "updateDecode", unfollowed := true, recurses := true, apart := false, narrowed := true }
def UpdateDecodeUptoSaid : Prop := updateDecodeUptoRow.holds Try.pinned (OpenSpec.upto updateDecodeSpec)

/-- 'elasticstorelaw11.UpdatePieces', WHERE WHAT IT READS IS OF BULK AT MOST 1048576: true; the input reads as it did. -/
def updatePiecesUptoRow : OpenClaim := { program := "yteogaajjkcfeeaa", sum := "b39c78bc006460bd1756ab81249608eb34826d812b9201dbfb4bf435262a6755", func := "elasticstore/elasticstorelaw11.UpdatePieces", spec := "updatePieces", unfollowed := true, recurses := true, apart := false, narrowed := true }
def UpdatePiecesUptoSaid : Prop := updatePiecesUptoRow.holds Try.pinned (OpenSpec.upto updatePiecesSpec)

end Rows
end Go.Proofs.Yteogaajjkcfeeaa
