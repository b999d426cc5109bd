/-
  No cell of these rows narrows 'for every input' (looked for: loops, veiled, ifaces, maps, wideKeys, modest, calm, conditions, laid).
  DERIVED. THE GIVEN ROWS OF THIS SEAT. 8 by the template 'for every input the law returns true; each argument reads behind the call as it read before'; 0 by the template 'total and deterministic' (their statements: YtkfniijfenkocaaTotals.lean).
  GIVEN WITH THE SEED: the statements are not yours to turn. If you find one false, say at which input.
  Laid BY PROGRAM, IN A SANDBOX (cutbox-rows.mjs): the forced cells as the released guide's own fill.sh prints them over the translation 8cd83d7ffe856aab… (all of the seat's roots in one cut). By AI agents, Wed Nov 11 2026. No macro, syntax, notation, axiom, sorry.
-/
import Derived.Test.YtkfniijfenkocaaChecked
import GoSem.Claim
import GoSem.ClaimJoined
import GoSem.ClaimMapViews
import Derived.JoinedTies
import Derived.KernelRfl
namespace Go.Proofs.Ytkfniijfenkocaa
/- THE CELL 'sum', in the pinned program and in every row, IS THE sha256 OF THE DUMP (.gsa) THAT YtkfniijfenkocaaProg.lean LOADS. Nothing in Lean hashes anything: it is a label: what it is worth is what the hold of that sum in a sandbox is worth. -/
noncomputable def Try.pinned : Pinned := { name := "ytkfniijfenkocaa", sum := "8cd83d7ffe856aabd9d8f785ec24ac17120cefa26090d30748b65cf1c1dfcc98", checked := Try.checked }
namespace Rows
def none {H : Type} : Left H := { results := [], args := [] }

/-- 'elasticstorelaw12.StateValidate': WHATEVER THE INPUT: true; the input reads as it did. -/
def stateValidateSpec : ChangeSpec := { name := "stateValidate", fn := fun _ => fun
  | [d] => { results := [.lit (.bool true)], args := [d] }
  | _ => none }
def stateValidateRow : OpenClaim := { program := "ytkfniijfenkocaa", sum := "8cd83d7ffe856aabd9d8f785ec24ac17120cefa26090d30748b65cf1c1dfcc98", func := "elasticstore/elasticstorelaw12.StateValidate", spec := "stateValidate", inPlace := ["slices.overlaps[elasticstore/api.Update]"], unfollowed := true, recurses := true, apart := false }
def StateValidateSaid : Prop := stateValidateRow.holds Try.pinned (OpenSpec.ofChange stateValidateSpec)

/-- ITS FALSE NEIGHBOUR: 'it returns false'. Refute it at one input. -/
def stateValidateWrong : ChangeSpec := { name := "stateValidate", fn := fun _ => fun
  | [d] => { results := [.lit (.bool false)], args := [d] }
  | _ => none }
def StateValidateWrongFalsely : Prop := stateValidateRow.holds Try.pinned (OpenSpec.ofChange stateValidateWrong)

/-- 'elasticstorelaw12.StatePair': WHATEVER THE INPUT: true; the input reads as it did. -/
def statePairSpec : ChangeSpec := { name := "statePair", fn := fun _ => fun
  | [d1, d2] => { results := [.lit (.bool true)], args := [d1, d2] }
  | _ => none }
def statePairRow : OpenClaim := { program := "ytkfniijfenkocaa", sum := "8cd83d7ffe856aabd9d8f785ec24ac17120cefa26090d30748b65cf1c1dfcc98", func := "elasticstore/elasticstorelaw12.StatePair", spec := "statePair", inPlace := ["slices.overlaps[elasticstore/api.Update]"], unfollowed := true, recurses := true, apart := false }
def StatePairSaid : Prop := statePairRow.holds Try.pinned (OpenSpec.ofChange statePairSpec)

/-- ITS FALSE NEIGHBOUR: 'it returns false'. Refute it at one input. -/
def statePairWrong : ChangeSpec := { name := "statePair", fn := fun _ => fun
  | [d1, d2] => { results := [.lit (.bool false)], args := [d1, d2] }
  | _ => none }
def StatePairWrongFalsely : Prop := statePairRow.holds Try.pinned (OpenSpec.ofChange statePairWrong)

/-- 'elasticstorelaw12.StateLattice': WHATEVER THE INPUT: true; the input reads as it did. -/
def stateLatticeSpec : ChangeSpec := { name := "stateLattice", fn := fun _ => fun
  | [d1, d2, d3, d4] => { results := [.lit (.bool true)], args := [d1, d2, d3, d4] }
  | _ => none }
def stateLatticeRow : OpenClaim := { program := "ytkfniijfenkocaa", sum := "8cd83d7ffe856aabd9d8f785ec24ac17120cefa26090d30748b65cf1c1dfcc98", func := "elasticstore/elasticstorelaw12.StateLattice", spec := "stateLattice", inPlace := ["slices.overlaps[elasticstore/api.Update]"], unfollowed := true, recurses := true, apart := false }
def StateLatticeSaid : Prop := stateLatticeRow.holds Try.pinned (OpenSpec.ofChange stateLatticeSpec)

/-- ITS FALSE NEIGHBOUR: 'it returns false'. Refute it at one input. -/
def stateLatticeWrong : ChangeSpec := { name := "stateLattice", fn := fun _ => fun
  | [d1, d2, d3, d4] => { results := [.lit (.bool false)], args := [d1, d2, d3, d4] }
  | _ => none }
def StateLatticeWrongFalsely : Prop := stateLatticeRow.holds Try.pinned (OpenSpec.ofChange stateLatticeWrong)

/-- 'elasticstorelaw12.StateAdd': WHATEVER THE INPUT: true; the input reads as it did. -/
def stateAddSpec : ChangeSpec := { name := "stateAdd", fn := fun _ => fun
  | [d1, d2] => { results := [.lit (.bool true)], args := [d1, d2] }
  | _ => none }
def stateAddRow : OpenClaim := { program := "ytkfniijfenkocaa", sum := "8cd83d7ffe856aabd9d8f785ec24ac17120cefa26090d30748b65cf1c1dfcc98", func := "elasticstore/elasticstorelaw12.StateAdd", spec := "stateAdd", inPlace := ["slices.overlaps[elasticstore/api.Update]"], unfollowed := true, recurses := true, apart := false }
def StateAddSaid : Prop := stateAddRow.holds Try.pinned (OpenSpec.ofChange stateAddSpec)

/-- ITS FALSE NEIGHBOUR: 'it returns false'. Refute it at one input. -/
def stateAddWrong : ChangeSpec := { name := "stateAdd", fn := fun _ => fun
  | [d1, d2] => { results := [.lit (.bool false)], args := [d1, d2] }
  | _ => none }
def StateAddWrongFalsely : Prop := stateAddRow.holds Try.pinned (OpenSpec.ofChange stateAddWrong)

/-- 'elasticstorelaw12.StateBeyond': WHATEVER THE INPUT: true; the input reads as it did. -/
def stateBeyondSpec : ChangeSpec := { name := "stateBeyond", fn := fun _ => fun
  | [d1, d2, d3] => { results := [.lit (.bool true)], args := [d1, d2, d3] }
  | _ => none }
def stateBeyondRow : OpenClaim := { program := "ytkfniijfenkocaa", sum := "8cd83d7ffe856aabd9d8f785ec24ac17120cefa26090d30748b65cf1c1dfcc98", func := "elasticstore/elasticstorelaw12.StateBeyond", spec := "stateBeyond", inPlace := ["slices.overlaps[elasticstore/api.Update]"], unfollowed := true, recurses := true, apart := false }
def StateBeyondSaid : Prop := stateBeyondRow.holds Try.pinned (OpenSpec.ofChange stateBeyondSpec)

/-- ITS FALSE NEIGHBOUR: 'it returns false'. Refute it at one input. -/
def stateBeyondWrong : ChangeSpec := { name := "stateBeyond", fn := fun _ => fun
  | [d1, d2, d3] => { results := [.lit (.bool false)], args := [d1, d2, d3] }
  | _ => none }
def StateBeyondWrongFalsely : Prop := stateBeyondRow.holds Try.pinned (OpenSpec.ofChange stateBeyondWrong)

/-- 'elasticstorelaw12.StateTransfer': WHATEVER THE INPUT: true; the input reads as it did. -/
def stateTransferSpec : ChangeSpec := { name := "stateTransfer", fn := fun _ => fun
  | [d1, d2, d3, d4] => { results := [.lit (.bool true)], args := [d1, d2, d3, d4] }
  | _ => none }
def stateTransferRow : OpenClaim := { program := "ytkfniijfenkocaa", sum := "8cd83d7ffe856aabd9d8f785ec24ac17120cefa26090d30748b65cf1c1dfcc98", func := "elasticstore/elasticstorelaw12.StateTransfer", spec := "stateTransfer", inPlace := ["slices.overlaps[elasticstore/api.Update]"], unfollowed := true, recurses := true, apart := false }
def StateTransferSaid : Prop := stateTransferRow.holds Try.pinned (OpenSpec.ofChange stateTransferSpec)

/-- ITS FALSE NEIGHBOUR: 'it returns false'. Refute it at one input. -/
def stateTransferWrong : ChangeSpec := { name := "stateTransfer", fn := fun _ => fun
  | [d1, d2, d3, d4] => { results := [.lit (.bool false)], args := [d1, d2, d3, d4] }
  | _ => none }
def StateTransferWrongFalsely : Prop := stateTransferRow.holds Try.pinned (OpenSpec.ofChange stateTransferWrong)

/-- 'elasticstorelaw12.StateRoundTrip': WHATEVER THE INPUT: true; the input reads as it did. -/
def stateRoundTripSpec : ChangeSpec := { name := "stateRoundTrip", fn := fun _ => fun
  | [d1, d2] => { results := [.lit (.bool true)], args := [d1, d2] }
  | _ => none }
def stateRoundTripRow : OpenClaim := { program := "ytkfniijfenkocaa", sum := "8cd83d7ffe856aabd9d8f785ec24ac17120cefa26090d30748b65cf1c1dfcc98", func := "elasticstore/elasticstorelaw12.StateRoundTrip", spec := "stateRoundTrip", inPlace := ["slices.overlaps[elasticstore/api.Update]"], unfollowed := true, recurses := true, apart := false }
def StateRoundTripSaid : Prop := stateRoundTripRow.holds Try.pinned (OpenSpec.ofChange stateRoundTripSpec)

/-- ITS FALSE NEIGHBOUR: 'it returns false'. Refute it at one input. -/
def stateRoundTripWrong : ChangeSpec := { name := "stateRoundTrip", fn := fun _ => fun
  | [d1, d2] => { results := [.lit (.bool false)], args := [d1, d2] }
  | _ => none }
def StateRoundTripWrongFalsely : Prop := stateRoundTripRow.holds Try.pinned (OpenSpec.ofChange stateRoundTripWrong)

/-- 'elasticstorelaw12.StateDecode': WHATEVER THE INPUT: true; the input reads as it did. -/
def stateDecodeSpec : ChangeSpec := { name := "stateDecode", fn := fun _ => fun
  | [d] => { results := [.lit (.bool true)], args := [d] }
  | _ => none }
def stateDecodeRow : OpenClaim := { program := "ytkfniijfenkocaa", sum := "8cd83d7ffe856aabd9d8f785ec24ac17120cefa26090d30748b65cf1c1dfcc98", func := "elasticstore/elasticstorelaw12.StateDecode", spec := "stateDecode", inPlace := ["slices.overlaps[elasticstore/api.Update]"], unfollowed := true, recurses := true, apart := false }
def StateDecodeSaid : Prop := stateDecodeRow.holds Try.pinned (OpenSpec.ofChange stateDecodeSpec)

/-- ITS FALSE NEIGHBOUR: 'it returns false'. Refute it at one input. -/
def stateDecodeWrong : ChangeSpec := { name := "stateDecode", fn := fun _ => fun
  | [d] => { results := [.lit (.bool false)], args := [d] }
  | _ => none }
def StateDecodeWrongFalsely : Prop := stateDecodeRow.holds Try.pinned (OpenSpec.ofChange stateDecodeWrong)

/- THE SECOND FORM. 'bulk': how many values and letters a reading holds, each counted each time it is reached (what is shared counts as often as it is met; a slice's spare places count too). A statement '..UptoSaid' is the law's where the arguments, and the package variables that the reading takes, are together of bulk at most 1048576: NARROWER than '..Said'. Prove '..Said' where nothing that the law and all that it calls make is longer than what came in: it says more and counts as full. Else prove '..UptoSaid'. A law counts once. -/
mutual
def uptoBulk {H : Type} : DataW H → Nat
  | .lit (.string bytes) => bytes.length + 1
  | .lit _ => 1
  | .nil => 1
  | .ptr d => uptoBulk d + 1
  | .slice elems spare => uptoBulkAll elems + uptoBulkAll spare + 1
  | .agg parts => uptoBulkAll parts + 1
  | .iface _ d => uptoBulk d + 1
  | .map entries => uptoBulkEntries entries + 1
  | .held _ => 1
def uptoBulkAll {H : Type} : List (DataW H) → Nat
  | [] => 0
  | d :: r => uptoBulk d + uptoBulkAll r
def uptoBulkEntries {H : Type} : List (Lit × DataW H) → Nat
  | [] => 0
  | x :: r => uptoBulkEntry x + uptoBulkEntries r
def uptoBulkEntry {H : Type} : Lit × DataW H → Nat
  | (.string bytes, d) => bytes.length + uptoBulk d + 1
  | (_, d) => uptoBulk d + 1
 end
def uptoSmall : (H : Type) → List (DataW H) → Bool := fun _ ds => decide (uptoBulkAll ds ≤ 1048576)
def OpenSpec.upto (s : _root_.Go.ChangeSpec) : _root_.Go.OpenSpec := { _root_.Go.OpenSpec.ofChange s with cond := some uptoSmall }

/-- 'elasticstorelaw12.StateValidate', WHERE WHAT IT READS IS OF BULK AT MOST 1048576: true; the input reads as it did. -/
def stateValidateUptoRow : OpenClaim := { program := "ytkfniijfenkocaa", sum := "8cd83d7ffe856aabd9d8f785ec24ac17120cefa26090d30748b65cf1c1dfcc98", func := "elasticstore/elasticstorelaw12.StateValidate", spec := "stateValidate", inPlace := ["slices.overlaps[elasticstore/api.Update]"], unfollowed := true, recurses := true, apart := false, narrowed := true }
def StateValidateUptoSaid : Prop := stateValidateUptoRow.holds Try.pinned (OpenSpec.upto stateValidateSpec)

/-- 'elasticstorelaw12.StatePair', WHERE WHAT IT READS IS OF BULK AT MOST 1048576: true; the input reads as it did. -/
def statePairUptoRow : OpenClaim := { program := "ytkfniijfenkocaa", sum := "8cd83d7ffe856aabd9d8f785ec24ac17120cefa26090d30748b65cf1c1dfcc98", func := "elasticstore/elasticstorelaw12.StatePair", spec := "statePair", inPlace := ["slices.overlaps[elasticstore/api.Update]"], unfollowed := true, recurses := true, apart := false, narrowed := true }
def StatePairUptoSaid : Prop := statePairUptoRow.holds Try.pinned (OpenSpec.upto statePairSpec)

/-- 'elasticstorelaw12.StateLattice', WHERE WHAT IT READS IS OF BULK AT MOST 1048576: true; the input reads as it did. -/
def stateLatticeUptoRow : OpenClaim := { program := "ytkfniijfenkocaa", sum := "8cd83d7ffe856aabd9d8f785ec24ac17120cefa26090d30748b65cf1c1dfcc98", func := "elasticstore/elasticstorelaw12.StateLattice", spec := "stateLattice", inPlace := ["slices.overlaps[elasticstore/api.Update]"], unfollowed := true, recurses := true, apart := false, narrowed := true }
def StateLatticeUptoSaid : Prop := stateLatticeUptoRow.holds Try.pinned (OpenSpec.upto stateLatticeSpec)

/-- 'elasticstorelaw12.StateAdd', WHERE WHAT IT READS IS OF BULK AT MOST 1048576: true; the input reads as it did. -/
def stateAddUptoRow : OpenClaim := { program := "ytkfniijfenkocaa", sum := "8cd83d7ffe856aabd9d8f785ec24ac17120cefa26090d30748b65cf1c1dfcc98", func := "elasticstore/elasticstorelaw12.StateAdd", spec := "stateAdd", inPlace := ["slices.overlaps[elasticstore/api.Update]"], unfollowed := true, recurses := true, apart := false, narrowed := true }
def StateAddUptoSaid : Prop := stateAddUptoRow.holds Try.pinned (OpenSpec.upto stateAddSpec)

/-- 'elasticstorelaw12.StateBeyond', WHERE WHAT IT READS IS OF BULK AT MOST 1048576: true; the input reads as it did. -/
def stateBeyondUptoRow : OpenClaim := { program := "ytkfniijfenkocaa", sum := "8cd83d7ffe856aabd9d8f785ec24ac17120cefa26090d30748b65cf1c1dfcc98", func := "elasticstore/elasticstorelaw12.StateBeyond", spec := "stateBeyond", inPlace := ["slices.overlaps[elasticstore/api.Update]"], unfollowed := true, recurses := true, apart := false, narrowed := true }
def StateBeyondUptoSaid : Prop := stateBeyondUptoRow.holds Try.pinned (OpenSpec.upto stateBeyondSpec)

/-- 'elasticstorelaw12.StateTransfer', WHERE WHAT IT READS IS OF BULK AT MOST 1048576: true; the input reads as it did. -/
def stateTransferUptoRow : OpenClaim := { program := "ytkfniijfenkocaa", sum := "8cd83d7ffe856aabd9d8f785ec24ac17120cefa26090d30748b65cf1c1dfcc98", func := "elasticstore/elasticstorelaw12.StateTransfer", spec := "stateTransfer", inPlace := ["slices.overlaps[elasticstore/api.Update]"], unfollowed := true, recurses := true, apart := false, narrowed := true }
def StateTransferUptoSaid : Prop := stateTransferUptoRow.holds Try.pinned (OpenSpec.upto stateTransferSpec)

/-- 'elasticstorelaw12.StateRoundTrip', WHERE WHAT IT READS IS OF BULK AT MOST 1048576: true; the input reads as it did. -/
def stateRoundTripUptoRow : OpenClaim := { program := "ytkfniijfenkocaa", sum := "8cd83d7ffe856aabd9d8f785ec24ac17120cefa26090d30748b65cf1c1dfcc98", func := "elasticstore/elasticstorelaw12.StateRoundTrip", spec := "stateRoundTrip", inPlace := ["slices.overlaps[elasticstore/api.Update]"], unfollowed := true, recurses := true, apart := false, narrowed := true }
def StateRoundTripUptoSaid : Prop := stateRoundTripUptoRow.holds Try.pinned (OpenSpec.upto stateRoundTripSpec)

/-- 'elasticstorelaw12.StateDecode', WHERE WHAT IT READS IS OF BULK AT MOST 1048576: true; the input reads as it did. -/
def stateDecodeUptoRow : OpenClaim := { program := "ytkfniijfenkocaa", sum := "8cd83d7ffe856aabd9d8f785ec24ac17120cefa26090d30748b65cf1c1dfcc98", func := "elasticstore/elasticstorelaw12.StateDecode", spec := "stateDecode", inPlace := ["slices.overlaps[elasticstore/api.Update]"], unfollowed := true, recurses := true, apart := false, narrowed := true }
def StateDecodeUptoSaid : Prop := stateDecodeUptoRow.holds Try.pinned (OpenSpec.upto stateDecodeSpec)

end Rows
end Go.Proofs.Ytkfniijfenkocaa
