/-
  No cell of these rows narrows 'for every input' (looked for: loops, veiled, ifaces, maps, wideKeys, modest, calm, conditions, laid).
  DERIVED. THE GIVEN ROWS OF THIS SEAT. 7 by the template 'for every input the law returns true; each argument reads behind the call as it read before'; 0 by the template 'total and deterministic' (their statements: YtaafnpmijncpeaaTotals.lean).
  GIVEN WITH THE SEED: the statements are not yours to turn. If you find one false, say at which input.
  Laid BY PROGRAM, IN A SANDBOX (cutbox-rows.mjs): the forced cells as the released guide's own fill.sh prints them over the translation 8459feadb5036e83… (all of the seat's roots in one cut). By AI agents, Wed Nov 11 2026. No macro, syntax, notation, axiom, sorry.
-/
import Derived.Test.YtaafnpmijncpeaaChecked
import GoSem.Claim
import GoSem.ClaimJoined
import GoSem.ClaimMapViews
import Derived.JoinedTies
import Derived.KernelRfl
namespace Go.Proofs.Ytaafnpmijncpeaa
/- THE CELL 'sum', in the pinned program and in every row, IS THE sha256 OF THE DUMP (.gsa) THAT YtaafnpmijncpeaaProg.lean LOADS. Nothing in Lean hashes anything: it is a label: what it is worth is what the hold of that sum in a sandbox is worth. -/
noncomputable def Try.pinned : Pinned := { name := "ytaafnpmijncpeaa", sum := "8459feadb5036e8348ff62de6889b1c464882cb1e278a4b42d018a341efcfb3b", checked := Try.checked }
namespace Rows
def none {H : Type} : Left H := { results := [], args := [] }

/-- 'elasticstorelaw05.ProposalChange': WHATEVER THE INPUT: true; the input reads as it did. -/
def proposalChangeSpec : ChangeSpec := { name := "proposalChange", fn := fun _ => fun
  | [d] => { results := [.lit (.bool true)], args := [d] }
  | _ => none }
def proposalChangeRow : OpenClaim := { program := "ytaafnpmijncpeaa", sum := "8459feadb5036e8348ff62de6889b1c464882cb1e278a4b42d018a341efcfb3b", func := "elasticstore/elasticstorelaw05.ProposalChange", spec := "proposalChange", apart := false }
def ProposalChangeSaid : Prop := proposalChangeRow.holds Try.pinned (OpenSpec.ofChange proposalChangeSpec)

/-- ITS FALSE NEIGHBOUR: 'it returns false'. Refute it at one input. -/
def proposalChangeWrong : ChangeSpec := { name := "proposalChange", fn := fun _ => fun
  | [d] => { results := [.lit (.bool false)], args := [d] }
  | _ => none }
def ProposalChangeWrongFalsely : Prop := proposalChangeRow.holds Try.pinned (OpenSpec.ofChange proposalChangeWrong)

/-- 'elasticstorelaw05.ProposalValidate': WHATEVER THE INPUT: true; the input reads as it did. -/
def proposalValidateSpec : ChangeSpec := { name := "proposalValidate", fn := fun _ => fun
  | [d] => { results := [.lit (.bool true)], args := [d] }
  | _ => none }
def proposalValidateRow : OpenClaim := { program := "ytaafnpmijncpeaa", sum := "8459feadb5036e8348ff62de6889b1c464882cb1e278a4b42d018a341efcfb3b", func := "elasticstore/elasticstorelaw05.ProposalValidate", spec := "proposalValidate", apart := false }
def ProposalValidateSaid : Prop := proposalValidateRow.holds Try.pinned (OpenSpec.ofChange proposalValidateSpec)

/-- ITS FALSE NEIGHBOUR: 'it returns false'. Refute it at one input. -/
def proposalValidateWrong : ChangeSpec := { name := "proposalValidate", fn := fun _ => fun
  | [d] => { results := [.lit (.bool false)], args := [d] }
  | _ => none }
def ProposalValidateWrongFalsely : Prop := proposalValidateRow.holds Try.pinned (OpenSpec.ofChange proposalValidateWrong)

/-- 'elasticstorelaw05.ProposalCompare': WHATEVER THE INPUT: true; the input reads as it did. -/
def proposalCompareSpec : ChangeSpec := { name := "proposalCompare", fn := fun _ => fun
  | [d1, d2, d3] => { results := [.lit (.bool true)], args := [d1, d2, d3] }
  | _ => none }
def proposalCompareRow : OpenClaim := { program := "ytaafnpmijncpeaa", sum := "8459feadb5036e8348ff62de6889b1c464882cb1e278a4b42d018a341efcfb3b", func := "elasticstore/elasticstorelaw05.ProposalCompare", spec := "proposalCompare", apart := false }
def ProposalCompareSaid : Prop := proposalCompareRow.holds Try.pinned (OpenSpec.ofChange proposalCompareSpec)

/-- ITS FALSE NEIGHBOUR: 'it returns false'. Refute it at one input. -/
def proposalCompareWrong : ChangeSpec := { name := "proposalCompare", fn := fun _ => fun
  | [d1, d2, d3] => { results := [.lit (.bool false)], args := [d1, d2, d3] }
  | _ => none }
def ProposalCompareWrongFalsely : Prop := proposalCompareRow.holds Try.pinned (OpenSpec.ofChange proposalCompareWrong)

/-- 'elasticstorelaw05.ProposalEqual': WHATEVER THE INPUT: true; the input reads as it did. -/
def proposalEqualSpec : ChangeSpec := { name := "proposalEqual", fn := fun _ => fun
  | [d1, d2] => { results := [.lit (.bool true)], args := [d1, d2] }
  | _ => none }
def proposalEqualRow : OpenClaim := { program := "ytaafnpmijncpeaa", sum := "8459feadb5036e8348ff62de6889b1c464882cb1e278a4b42d018a341efcfb3b", func := "elasticstore/elasticstorelaw05.ProposalEqual", spec := "proposalEqual", apart := false }
def ProposalEqualSaid : Prop := proposalEqualRow.holds Try.pinned (OpenSpec.ofChange proposalEqualSpec)

/-- ITS FALSE NEIGHBOUR: 'it returns false'. Refute it at one input. -/
def proposalEqualWrong : ChangeSpec := { name := "proposalEqual", fn := fun _ => fun
  | [d1, d2] => { results := [.lit (.bool false)], args := [d1, d2] }
  | _ => none }
def ProposalEqualWrongFalsely : Prop := proposalEqualRow.holds Try.pinned (OpenSpec.ofChange proposalEqualWrong)

/-- 'elasticstorelaw05.ProposalRoundTrip': WHATEVER THE INPUT: true; the input reads as it did. -/
def proposalRoundTripSpec : ChangeSpec := { name := "proposalRoundTrip", fn := fun _ => fun
  | [d1, d2] => { results := [.lit (.bool true)], args := [d1, d2] }
  | _ => none }
def proposalRoundTripRow : OpenClaim := { program := "ytaafnpmijncpeaa", sum := "8459feadb5036e8348ff62de6889b1c464882cb1e278a4b42d018a341efcfb3b", func := "elasticstore/elasticstorelaw05.ProposalRoundTrip", spec := "proposalRoundTrip", apart := false }
def ProposalRoundTripSaid : Prop := proposalRoundTripRow.holds Try.pinned (OpenSpec.ofChange proposalRoundTripSpec)

/-- ITS FALSE NEIGHBOUR: 'it returns false'. Refute it at one input. -/
def proposalRoundTripWrong : ChangeSpec := { name := "proposalRoundTrip", fn := fun _ => fun
  | [d1, d2] => { results := [.lit (.bool false)], args := [d1, d2] }
  | _ => none }
def ProposalRoundTripWrongFalsely : Prop := proposalRoundTripRow.holds Try.pinned (OpenSpec.ofChange proposalRoundTripWrong)

/-- 'elasticstorelaw05.ProposalDecode': WHATEVER THE INPUT: true; the input reads as it did. -/
def proposalDecodeSpec : ChangeSpec := { name := "proposalDecode", fn := fun _ => fun
  | [d] => { results := [.lit (.bool true)], args := [d] }
  | _ => none }
def proposalDecodeRow : OpenClaim := { program := "ytaafnpmijncpeaa", sum := "8459feadb5036e8348ff62de6889b1c464882cb1e278a4b42d018a341efcfb3b", func := "elasticstore/elasticstorelaw05.ProposalDecode", spec := "proposalDecode", apart := false }
def ProposalDecodeSaid : Prop := proposalDecodeRow.holds Try.pinned (OpenSpec.ofChange proposalDecodeSpec)

/-- ITS FALSE NEIGHBOUR: 'it returns false'. Refute it at one input. -/
def proposalDecodeWrong : ChangeSpec := { name := "proposalDecode", fn := fun _ => fun
  | [d] => { results := [.lit (.bool false)], args := [d] }
  | _ => none }
def ProposalDecodeWrongFalsely : Prop := proposalDecodeRow.holds Try.pinned (OpenSpec.ofChange proposalDecodeWrong)

/-- 'elasticstorelaw05.ProposalPieces': WHATEVER THE INPUT: true; the input reads as it did. -/
def proposalPiecesSpec : ChangeSpec := { name := "proposalPieces", fn := fun _ => fun
  | [d1, d2] => { results := [.lit (.bool true)], args := [d1, d2] }
  | _ => none }
def proposalPiecesRow : OpenClaim := { program := "ytaafnpmijncpeaa", sum := "8459feadb5036e8348ff62de6889b1c464882cb1e278a4b42d018a341efcfb3b", func := "elasticstore/elasticstorelaw05.ProposalPieces", spec := "proposalPieces", apart := false }
def ProposalPiecesSaid : Prop := proposalPiecesRow.holds Try.pinned (OpenSpec.ofChange proposalPiecesSpec)

/-- ITS FALSE NEIGHBOUR: 'it returns false'. Refute it at one input. -/
def proposalPiecesWrong : ChangeSpec := { name := "proposalPieces", fn := fun _ => fun
  | [d1, d2] => { results := [.lit (.bool false)], args := [d1, d2] }
  | _ => none }
def ProposalPiecesWrongFalsely : Prop := proposalPiecesRow.holds Try.pinned (OpenSpec.ofChange proposalPiecesWrong)

/- THE SECOND FORM. 'bulk': how many values and letters a reading holds, each counted each time it is reached (what is shared counts as often as it is met; a slice's spare places count too). A statement '..UptoSaid' is the law's where the arguments, and the package variables that the reading takes, are together of bulk at most 1048576: NARROWER than '..Said'. Prove '..Said' where nothing that the law and all that it calls make is longer than what came in: it says more and counts as full. Else prove '..UptoSaid'. A law counts once. -/
mutual
def uptoBulk {H : Type} : DataW H → Nat
  | .lit (.string bytes) => bytes.length + 1
  | .lit _ => 1
  | .nil => 1
  | .ptr d => uptoBulk d + 1
  | .slice elems spare => uptoBulkAll elems + uptoBulkAll spare + 1
  | .agg parts => uptoBulkAll parts + 1
  | .iface _ d => uptoBulk d + 1
  | .map entries => uptoBulkEntries entries + 1
  | .held _ => 1
def uptoBulkAll {H : Type} : List (DataW H) → Nat
  | [] => 0
  | d :: r => uptoBulk d + uptoBulkAll r
def uptoBulkEntries {H : Type} : List (Lit × DataW H) → Nat
  | [] => 0
  | x :: r => uptoBulkEntry x + uptoBulkEntries r
def uptoBulkEntry {H : Type} : Lit × DataW H → Nat
  | (.string bytes, d) => bytes.length + uptoBulk d + 1
  | (_, d) => uptoBulk d + 1
 end
def uptoSmall : (H : Type) → List (DataW H) → Bool := fun _ ds => decide (uptoBulkAll ds ≤ 1048576)
def OpenSpec.upto (s : _root_.Go.ChangeSpec) : _root_.Go.OpenSpec := { _root_.Go.OpenSpec.ofChange s with cond := some uptoSmall }

/-- 'elasticstorelaw05.ProposalChange', WHERE WHAT IT READS IS OF BULK AT MOST 1048576: true; the input reads as it did. -/
def proposalChangeUptoRow : OpenClaim := { program := "ytaafnpmijncpeaa", sum := "8459feadb5036e8348ff62de6889b1c464882cb1e278a4b42d018a341efcfb3b", func := "elasticstore/elasticstorelaw05.ProposalChange", spec := "proposalChange", apart := false, narrowed := true }
def ProposalChangeUptoSaid : Prop := proposalChangeUptoRow.holds Try.pinned (OpenSpec.upto proposalChangeSpec)

/-- 'elasticstorelaw05.ProposalValidate', WHERE WHAT IT READS IS OF BULK AT MOST 1048576: true; the input reads as it did. -/
def proposalValidateUptoRow : OpenClaim := { program := "ytaafnpmijncpeaa", sum := "8459feadb5036e8348ff62de6889b1c464882cb1e278a4b42d018a341efcfb3b", func := "elasticstore/elasticstorelaw05.ProposalValidate", spec := "proposalValidate", apart := false, narrowed := true }
def ProposalValidateUptoSaid : Prop := proposalValidateUptoRow.holds Try.pinned (OpenSpec.upto proposalValidateSpec)

/-- 'elasticstorelaw05.ProposalCompare', WHERE WHAT IT READS IS OF BULK AT MOST 1048576: true; the input reads as it did. -/
def proposalCompareUptoRow : OpenClaim := { program := "ytaafnpmijncpeaa", sum := "8459feadb5036e8348ff62de6889b1c464882cb1e278a4b42d018a341efcfb3b", func := "elasticstore/elasticstorelaw05.ProposalCompare", spec := "proposalCompare", apart := false, narrowed := true }
def ProposalCompareUptoSaid : Prop := proposalCompareUptoRow.holds Try.pinned (OpenSpec.upto proposalCompareSpec)

/-- 'elasticstorelaw05.ProposalEqual', WHERE WHAT IT READS IS OF BULK AT MOST 1048576: true; the input reads as it did. -/
def proposalEqualUptoRow : OpenClaim := { program := "ytaafnpmijncpeaa", sum := "8459feadb5036e8348ff62de6889b1c464882cb1e278a4b42d018a341efcfb3b", func := "elasticstore/elasticstorelaw05.ProposalEqual", spec := "proposalEqual", apart := false, narrowed := true }
def ProposalEqualUptoSaid : Prop := proposalEqualUptoRow.holds Try.pinned (OpenSpec.upto proposalEqualSpec)

/-- 'elasticstorelaw05.ProposalRoundTrip', WHERE WHAT IT READS IS OF BULK AT MOST 1048576: true; the input reads as it did. -/
def proposalRoundTripUptoRow : OpenClaim := { program := "ytaafnpmijncpeaa", sum := "8459feadb5036e8348ff62de6889b1c464882cb1e278a4b42d018a341efcfb3b", func := "elasticstore/elasticstorelaw05.ProposalRoundTrip", spec := "proposalRoundTrip", apart := false, narrowed := true }
def ProposalRoundTripUptoSaid : Prop := proposalRoundTripUptoRow.holds Try.pinned (OpenSpec.upto proposalRoundTripSpec)

/-- 'elasticstorelaw05.ProposalDecode', WHERE WHAT IT READS IS OF BULK AT MOST 1048576: true; the input reads as it did. -/
def proposalDecodeUptoRow : OpenClaim := { program := "ytaafnpmijncpeaa", sum := "8459feadb5036e8348ff62de6889b1c464882cb1e278a4b42d018a341efcfb3b", func := "elasticstore/elasticstorelaw05.ProposalDecode", spec := "proposalDecode", apart := false, narrowed := true }
def ProposalDecodeUptoSaid : Prop := proposalDecodeUptoRow.holds Try.pinned (OpenSpec.upto proposalDecodeSpec)

/-- 'elasticstorelaw05.ProposalPieces', WHERE WHAT IT READS IS OF BULK AT MOST 1048576: true; the input reads as it did. -/
def proposalPiecesUptoRow : OpenClaim := { program := "ytaafnpmijncpeaa", sum := "8459feadb5036e8348ff62de6889b1c464882cb1e278a4b42d018a341efcfb3b", func := "elasticstore/elasticstorelaw05.ProposalPieces", spec := "proposalPieces", apart := false, narrowed := true }
def ProposalPiecesUptoSaid : Prop := proposalPiecesUptoRow.holds Try.pinned (OpenSpec.upto proposalPiecesSpec)

end Rows
end Go.Proofs.Ytaafnpmijncpeaa
