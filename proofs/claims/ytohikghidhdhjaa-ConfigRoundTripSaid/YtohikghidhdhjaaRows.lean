/-
  No cell of these rows narrows 'for every input' (looked for: loops, veiled, ifaces, maps, wideKeys, modest, calm, conditions, laid).
  DERIVED. THE GIVEN ROWS OF THIS SEAT. 9 by the template 'for every input the law returns true; each argument reads behind the call as it read before'; 0 by the template 'total and deterministic' (their statements: YtohikghidhdhjaaTotals.lean).
  GIVEN WITH THE SEED: the statements are not yours to turn. If you find one false, say at which input.
  Laid BY PROGRAM, IN A SANDBOX (cutbox-rows.mjs): the forced cells as the released guide's own fill.sh prints them over the translation 69f84b10bb9042db… (all of the seat's roots in one cut). By AI agents, Wed Nov 11 2026. No macro, syntax, notation, axiom, sorry.
-/
import Derived.Test.YtohikghidhdhjaaChecked
import GoSem.Claim
import GoSem.ClaimJoined
import GoSem.ClaimMapViews
import Derived.JoinedTies
import Derived.KernelRfl
namespace Go.Proofs.Ytohikghidhdhjaa
/- THE CELL 'sum', in the pinned program and in every row, IS THE sha256 OF THE DUMP (.gsa) THAT YtohikghidhdhjaaProg.lean LOADS. Nothing in Lean hashes anything: it is a label: what it is worth is what the hold of that sum in a sandbox is worth. -/
noncomputable def Try.pinned : Pinned := { name := "ytohikghidhdhjaa", sum := "69f84b10bb9042db1f18ae87259f185c7c597e589672ef31f164030841ca89de", checked := Try.checked }
namespace Rows
def none {H : Type} : Left H := { results := [], args := [] }

/-- 'elasticstorelaw06.ConfigValidate': WHATEVER THE INPUT: true; the input reads as it did. -/
def configValidateSpec : ChangeSpec := { name := "configValidate", fn := fun _ => fun
  | [d] => { results := [.lit (.bool true)], args := [d] }
  | _ => none }
def configValidateRow : OpenClaim := { program := "ytohikghidhdhjaa", sum := "69f84b10bb9042db1f18ae87259f185c7c597e589672ef31f164030841ca89de", func := "elasticstore/elasticstorelaw06.ConfigValidate", spec := "configValidate", inPlace := ["slices.overlaps[elasticstore/api.Proposal]"], unfollowed := true, recurses := true, apart := false }
def ConfigValidateSaid : Prop := configValidateRow.holds Try.pinned (OpenSpec.ofChange configValidateSpec)

/-- ITS FALSE NEIGHBOUR: 'it returns false'. Refute it at one input. -/
def configValidateWrong : ChangeSpec := { name := "configValidate", fn := fun _ => fun
  | [d] => { results := [.lit (.bool false)], args := [d] }
  | _ => none }
def ConfigValidateWrongFalsely : Prop := configValidateRow.holds Try.pinned (OpenSpec.ofChange configValidateWrong)

/-- 'elasticstorelaw06.ConfigPair': WHATEVER THE INPUT: true; the input reads as it did. -/
def configPairSpec : ChangeSpec := { name := "configPair", fn := fun _ => fun
  | [d1, d2] => { results := [.lit (.bool true)], args := [d1, d2] }
  | _ => none }
def configPairRow : OpenClaim := { program := "ytohikghidhdhjaa", sum := "69f84b10bb9042db1f18ae87259f185c7c597e589672ef31f164030841ca89de", func := "elasticstore/elasticstorelaw06.ConfigPair", spec := "configPair", inPlace := ["slices.overlaps[elasticstore/api.Proposal]"], unfollowed := true, recurses := true, apart := false }
def ConfigPairSaid : Prop := configPairRow.holds Try.pinned (OpenSpec.ofChange configPairSpec)

/-- ITS FALSE NEIGHBOUR: 'it returns false'. Refute it at one input. -/
def configPairWrong : ChangeSpec := { name := "configPair", fn := fun _ => fun
  | [d1, d2] => { results := [.lit (.bool false)], args := [d1, d2] }
  | _ => none }
def ConfigPairWrongFalsely : Prop := configPairRow.holds Try.pinned (OpenSpec.ofChange configPairWrong)

/-- 'elasticstorelaw06.ConfigLattice': WHATEVER THE INPUT: true; the input reads as it did. -/
def configLatticeSpec : ChangeSpec := { name := "configLattice", fn := fun _ => fun
  | [d1, d2, d3, d4] => { results := [.lit (.bool true)], args := [d1, d2, d3, d4] }
  | _ => none }
def configLatticeRow : OpenClaim := { program := "ytohikghidhdhjaa", sum := "69f84b10bb9042db1f18ae87259f185c7c597e589672ef31f164030841ca89de", func := "elasticstore/elasticstorelaw06.ConfigLattice", spec := "configLattice", inPlace := ["slices.overlaps[elasticstore/api.Proposal]"], unfollowed := true, recurses := true, apart := false }
def ConfigLatticeSaid : Prop := configLatticeRow.holds Try.pinned (OpenSpec.ofChange configLatticeSpec)

/-- ITS FALSE NEIGHBOUR: 'it returns false'. Refute it at one input. -/
def configLatticeWrong : ChangeSpec := { name := "configLattice", fn := fun _ => fun
  | [d1, d2, d3, d4] => { results := [.lit (.bool false)], args := [d1, d2, d3, d4] }
  | _ => none }
def ConfigLatticeWrongFalsely : Prop := configLatticeRow.holds Try.pinned (OpenSpec.ofChange configLatticeWrong)

/-- 'elasticstorelaw06.ConfigVectors': WHATEVER THE INPUT: true; the input reads as it did. -/
def configVectorsSpec : ChangeSpec := { name := "configVectors", fn := fun _ => fun
  | [d1, d2, d3] => { results := [.lit (.bool true)], args := [d1, d2, d3] }
  | _ => none }
def configVectorsRow : OpenClaim := { program := "ytohikghidhdhjaa", sum := "69f84b10bb9042db1f18ae87259f185c7c597e589672ef31f164030841ca89de", func := "elasticstore/elasticstorelaw06.ConfigVectors", spec := "configVectors", inPlace := ["slices.overlaps[elasticstore/api.Proposal]"], unfollowed := true, recurses := true, apart := false }
def ConfigVectorsSaid : Prop := configVectorsRow.holds Try.pinned (OpenSpec.ofChange configVectorsSpec)

/-- ITS FALSE NEIGHBOUR: 'it returns false'. Refute it at one input. -/
def configVectorsWrong : ChangeSpec := { name := "configVectors", fn := fun _ => fun
  | [d1, d2, d3] => { results := [.lit (.bool false)], args := [d1, d2, d3] }
  | _ => none }
def ConfigVectorsWrongFalsely : Prop := configVectorsRow.holds Try.pinned (OpenSpec.ofChange configVectorsWrong)

/-- 'elasticstorelaw06.ConfigAdd': WHATEVER THE INPUT: true; the input reads as it did. -/
def configAddSpec : ChangeSpec := { name := "configAdd", fn := fun _ => fun
  | [d1, d2] => { results := [.lit (.bool true)], args := [d1, d2] }
  | _ => none }
def configAddRow : OpenClaim := { program := "ytohikghidhdhjaa", sum := "69f84b10bb9042db1f18ae87259f185c7c597e589672ef31f164030841ca89de", func := "elasticstore/elasticstorelaw06.ConfigAdd", spec := "configAdd", inPlace := ["slices.overlaps[elasticstore/api.Proposal]"], unfollowed := true, recurses := true, apart := false }
def ConfigAddSaid : Prop := configAddRow.holds Try.pinned (OpenSpec.ofChange configAddSpec)

/-- ITS FALSE NEIGHBOUR: 'it returns false'. Refute it at one input. -/
def configAddWrong : ChangeSpec := { name := "configAdd", fn := fun _ => fun
  | [d1, d2] => { results := [.lit (.bool false)], args := [d1, d2] }
  | _ => none }
def ConfigAddWrongFalsely : Prop := configAddRow.holds Try.pinned (OpenSpec.ofChange configAddWrong)

/-- 'elasticstorelaw06.ConfigGrows': WHATEVER THE INPUT: true; the input reads as it did. -/
def configGrowsSpec : ChangeSpec := { name := "configGrows", fn := fun _ => fun
  | [d1, d2] => { results := [.lit (.bool true)], args := [d1, d2] }
  | _ => none }
def configGrowsRow : OpenClaim := { program := "ytohikghidhdhjaa", sum := "69f84b10bb9042db1f18ae87259f185c7c597e589672ef31f164030841ca89de", func := "elasticstore/elasticstorelaw06.ConfigGrows", spec := "configGrows", inPlace := ["slices.overlaps[elasticstore/api.Proposal]"], unfollowed := true, recurses := true, apart := false }
def ConfigGrowsSaid : Prop := configGrowsRow.holds Try.pinned (OpenSpec.ofChange configGrowsSpec)

/-- ITS FALSE NEIGHBOUR: 'it returns false'. Refute it at one input. -/
def configGrowsWrong : ChangeSpec := { name := "configGrows", fn := fun _ => fun
  | [d1, d2] => { results := [.lit (.bool false)], args := [d1, d2] }
  | _ => none }
def ConfigGrowsWrongFalsely : Prop := configGrowsRow.holds Try.pinned (OpenSpec.ofChange configGrowsWrong)

/-- 'elasticstorelaw06.ConfigRestrict': WHATEVER THE INPUT: true; the input reads as it did. -/
def configRestrictSpec : ChangeSpec := { name := "configRestrict", fn := fun _ => fun
  | [d1, d2] => { results := [.lit (.bool true)], args := [d1, d2] }
  | _ => none }
def configRestrictRow : OpenClaim := { program := "ytohikghidhdhjaa", sum := "69f84b10bb9042db1f18ae87259f185c7c597e589672ef31f164030841ca89de", func := "elasticstore/elasticstorelaw06.ConfigRestrict", spec := "configRestrict", inPlace := ["slices.overlaps[elasticstore/api.Proposal]"], unfollowed := true, recurses := true, apart := false }
def ConfigRestrictSaid : Prop := configRestrictRow.holds Try.pinned (OpenSpec.ofChange configRestrictSpec)

/-- ITS FALSE NEIGHBOUR: 'it returns false'. Refute it at one input. -/
def configRestrictWrong : ChangeSpec := { name := "configRestrict", fn := fun _ => fun
  | [d1, d2] => { results := [.lit (.bool false)], args := [d1, d2] }
  | _ => none }
def ConfigRestrictWrongFalsely : Prop := configRestrictRow.holds Try.pinned (OpenSpec.ofChange configRestrictWrong)

/-- 'elasticstorelaw06.ConfigRoundTrip': WHATEVER THE INPUT: true; the input reads as it did. -/
def configRoundTripSpec : ChangeSpec := { name := "configRoundTrip", fn := fun _ => fun
  | [d1, d2] => { results := [.lit (.bool true)], args := [d1, d2] }
  | _ => none }
def configRoundTripRow : OpenClaim := { program := "ytohikghidhdhjaa", sum := "69f84b10bb9042db1f18ae87259f185c7c597e589672ef31f164030841ca89de", func := "elasticstore/elasticstorelaw06.ConfigRoundTrip", spec := "configRoundTrip", inPlace := ["slices.overlaps[elasticstore/api.Proposal]"], unfollowed := true, recurses := true, apart := false }
def ConfigRoundTripSaid : Prop := configRoundTripRow.holds Try.pinned (OpenSpec.ofChange configRoundTripSpec)

/-- ITS FALSE NEIGHBOUR: 'it returns false'. Refute it at one input. -/
def configRoundTripWrong : ChangeSpec := { name := "configRoundTrip", fn := fun _ => fun
  | [d1, d2] => { results := [.lit (.bool false)], args := [d1, d2] }
  | _ => none }
def ConfigRoundTripWrongFalsely : Prop := configRoundTripRow.holds Try.pinned (OpenSpec.ofChange configRoundTripWrong)

/-- 'elasticstorelaw06.ConfigDecode': WHATEVER THE INPUT: true; the input reads as it did. -/
def configDecodeSpec : ChangeSpec := { name := "configDecode", fn := fun _ => fun
  | [d] => { results := [.lit (.bool true)], args := [d] }
  | _ => none }
def configDecodeRow : OpenClaim := { program := "ytohikghidhdhjaa", sum := "69f84b10bb9042db1f18ae87259f185c7c597e589672ef31f164030841ca89de", func := "elasticstore/elasticstorelaw06.ConfigDecode", spec := "configDecode", inPlace := ["slices.overlaps[elasticstore/api.Proposal]"], unfollowed := true, recurses := true, apart := false }
def ConfigDecodeSaid : Prop := configDecodeRow.holds Try.pinned (OpenSpec.ofChange configDecodeSpec)

/-- ITS FALSE NEIGHBOUR: 'it returns false'. Refute it at one input. -/
def configDecodeWrong : ChangeSpec := { name := "configDecode", fn := fun _ => fun
  | [d] => { results := [.lit (.bool false)], args := [d] }
  | _ => none }
def ConfigDecodeWrongFalsely : Prop := configDecodeRow.holds Try.pinned (OpenSpec.ofChange configDecodeWrong)

/- THE SECOND FORM. 'bulk': how many values and letters a reading holds, each counted each time it is reached (what is shared counts as often as it is met; a slice's spare places count too). A statement '..UptoSaid' is the law's where the arguments, and the package variables that the reading takes, are together of bulk at most 1048576: NARROWER than '..Said'. Prove '..Said' where nothing that the law and all that it calls make is longer than what came in: it says more and counts as full. Else prove '..UptoSaid'. A law counts once. -/
mutual
def uptoBulk {H : Type} : DataW H → Nat
  | .lit (.string bytes) => bytes.length + 1
  | .lit _ => 1
  | .nil => 1
  | .ptr d => uptoBulk d + 1
  | .slice elems spare => uptoBulkAll elems + uptoBulkAll spare + 1
  | .agg parts => uptoBulkAll parts + 1
  | .iface _ d => uptoBulk d + 1
  | .map entries => uptoBulkEntries entries + 1
  | .held _ => 1
def uptoBulkAll {H : Type} : List (DataW H) → Nat
  | [] => 0
  | d :: r => uptoBulk d + uptoBulkAll r
def uptoBulkEntries {H : Type} : List (Lit × DataW H) → Nat
  | [] => 0
  | x :: r => uptoBulkEntry x + uptoBulkEntries r
def uptoBulkEntry {H : Type} : Lit × DataW H → Nat
  | (.string bytes, d) => bytes.length + uptoBulk d + 1
  | (_, d) => uptoBulk d + 1
 end
def uptoSmall : (H : Type) → List (DataW H) → Bool := fun _ ds => decide (uptoBulkAll ds ≤ 1048576)
def OpenSpec.upto (s : _root_.Go.ChangeSpec) : _root_.Go.OpenSpec := { _root_.Go.OpenSpec.ofChange s with cond := some uptoSmall }

/-- 'elasticstorelaw06.ConfigValidate', WHERE WHAT IT READS IS OF BULK AT MOST 1048576: true; the input reads as it did. -/
def configValidateUptoRow : OpenClaim := { program := "ytohikghidhdhjaa", sum := "69f84b10bb9042db1f18ae87259f185c7c597e589672ef31f164030841ca89de", func := "elasticstore/elasticstorelaw06.ConfigValidate", spec := "configValidate", inPlace := ["slices.overlaps[elasticstore/api.Proposal]"], unfollowed := true, recurses := true, apart := false, narrowed := true }
def ConfigValidateUptoSaid : Prop := configValidateUptoRow.holds Try.pinned (OpenSpec.upto configValidateSpec)

/-- 'elasticstorelaw06.ConfigPair', WHERE WHAT IT READS IS OF BULK AT MOST 1048576: true; the input reads as it did. -/
def configPairUptoRow : OpenClaim := { program := "ytohikghidhdhjaa", sum := "69f84b10bb9042db1f18ae87259f185c7c597e589672ef31f164030841ca89de", func := "elasticstore/elasticstorelaw06.ConfigPair", spec := "configPair", inPlace := ["slices.overlaps[elasticstore/api.Proposal]"], unfollowed := true, recurses := true, apart := false, narrowed := true }
def ConfigPairUptoSaid : Prop := configPairUptoRow.holds Try.pinned (OpenSpec.upto configPairSpec)

/-- 'elasticstorelaw06.ConfigLattice', WHERE WHAT IT READS IS OF BULK AT MOST 1048576: true; the input reads as it did. -/
def configLatticeUptoRow : OpenClaim := { program := "ytohikghidhdhjaa", sum := "69f84b10bb9042db1f18ae87259f185c7c597e589672ef31f164030841ca89de", func := "elasticstore/elasticstorelaw06.ConfigLattice", spec := "configLattice", inPlace := ["slices.overlaps[elasticstore/api.Proposal]"], unfollowed := true, recurses := true, apart := false, narrowed := true }
def ConfigLatticeUptoSaid : Prop := configLatticeUptoRow.holds Try.pinned (OpenSpec.upto configLatticeSpec)

/-- 'elasticstorelaw06.ConfigVectors', WHERE WHAT IT READS IS OF BULK AT MOST 1048576: true; the input reads as it did. -/
def configVectorsUptoRow : OpenClaim := { program := "ytohikghidhdhjaa", sum := "69f84b10bb9042db1f18ae87259f185c7c597e589672ef31f164030841ca89de", func := "elasticstore/elasticstorelaw06.ConfigVectors", spec := "configVectors", inPlace := ["slices.overlaps[elasticstore/api.Proposal]"], unfollowed := true, recurses := true, apart := false, narrowed := true }
def ConfigVectorsUptoSaid : Prop := configVectorsUptoRow.holds Try.pinned (OpenSpec.upto configVectorsSpec)

/-- 'elasticstorelaw06.ConfigAdd', WHERE WHAT IT READS IS OF BULK AT MOST 1048576: true; the input reads as it did. -/
def configAddUptoRow : OpenClaim := { program := "ytohikghidhdhjaa", sum := "69f84b10bb9042db1f18ae87259f185c7c597e589672ef31f164030841ca89de", func := "elasticstore/elasticstorelaw06.ConfigAdd", spec := "configAdd", inPlace := ["slices.overlaps[elasticstore/api.Proposal]"], unfollowed := true, recurses := true, apart := false, narrowed := true }
def ConfigAddUptoSaid : Prop := configAddUptoRow.holds Try.pinned (OpenSpec.upto configAddSpec)

/-- 'elasticstorelaw06.ConfigGrows', WHERE WHAT IT READS IS OF BULK AT MOST 1048576: true; the input reads as it did. -/
def configGrowsUptoRow : OpenClaim := { program := "ytohikghidhdhjaa", sum := "69f84b10bb9042db1f18ae87259f185c7c597e589672ef31f164030841ca89de", func := "elasticstore/elasticstorelaw06.ConfigGrows", spec := "configGrows", inPlace := ["slices.overlaps[elasticstore/api.Proposal]"], unfollowed := true, recurses := true, apart := false, narrowed := true }
def ConfigGrowsUptoSaid : Prop := configGrowsUptoRow.holds Try.pinned (OpenSpec.upto configGrowsSpec)

/-- 'elasticstorelaw06.ConfigRestrict', WHERE WHAT IT READS IS OF BULK AT MOST 1048576: true; the input reads as it did. -/
def configRestrictUptoRow : OpenClaim := { program := "ytohikghidhdhjaa", sum := "69f84b10bb9042db1f18ae87259f185c7c597e589672ef31f164030841ca89de", func := "elasticstore/elasticstorelaw06.ConfigRestrict", spec := "configRestrict", inPlace := ["slices.overlaps[elasticstore/api.Proposal]"], unfollowed := true, recurses := true, apart := false, narrowed := true }
def ConfigRestrictUptoSaid : Prop := configRestrictUptoRow.holds Try.pinned (OpenSpec.upto configRestrictSpec)

/-- 'elasticstorelaw06.ConfigRoundTrip', WHERE WHAT IT READS IS OF BULK AT MOST 1048576: true; the input reads as it did. -/
def configRoundTripUptoRow : OpenClaim := { program := "ytohikghidhdhjaa", sum := "69f84b10bb9042db1f18ae87259f185c7c597e589672ef31f164030841ca89de", func := "elasticstore/elasticstorelaw06.ConfigRoundTrip", spec := "configRoundTrip", inPlace := ["slices.overlaps[elasticstore/api.Proposal]"], unfollowed := true, recurses := true, apart := false, narrowed := true }
def ConfigRoundTripUptoSaid : Prop := configRoundTripUptoRow.holds Try.pinned (OpenSpec.upto configRoundTripSpec)

/-- 'elasticstorelaw06.ConfigDecode', WHERE WHAT IT READS IS OF BULK AT MOST 1048576: true; the input reads as it did. -/
def configDecodeUptoRow : OpenClaim := { program := "ytohikghidhdhjaa", sum := "69f84b10bb9042db1f18ae87259f185c7c597e589672ef31f164030841ca89de", func := "elasticstore/elasticstorelaw06.ConfigDecode", spec := "configDecode", inPlace := ["slices.overlaps[elasticstore/api.Proposal]"], unfollowed := true, recurses := true, apart := false, narrowed := true }
def ConfigDecodeUptoSaid : Prop := configDecodeUptoRow.holds Try.pinned (OpenSpec.upto configDecodeSpec)

end Rows
end Go.Proofs.Ytohikghidhdhjaa
