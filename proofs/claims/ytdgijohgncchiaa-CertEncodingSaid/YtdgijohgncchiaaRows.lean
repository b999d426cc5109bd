/-
  No cell of these rows narrows 'for every input' (looked for: loops, veiled, ifaces, maps, wideKeys, modest, calm, conditions, laid).
  DERIVED. THE GIVEN ROWS OF THIS SEAT. 6 by the template 'for every input the law returns true; each argument reads behind the call as it read before'; 0 by the template 'total and deterministic' (their statements: YtdgijohgncchiaaTotals.lean).
  GIVEN WITH THE SEED: the statements are not yours to turn. If you find one false, say at which input.
  Laid BY PROGRAM, IN A SANDBOX (cutbox-rows.mjs): the forced cells as the released guide's own fill.sh prints them over the translation 2811db4395f8348c… (all of the seat's roots in one cut). By AI agents, Wed Nov 11 2026. No macro, syntax, notation, axiom, sorry.
-/
import Derived.Test.YtdgijohgncchiaaChecked
import GoSem.Claim
import GoSem.ClaimJoined
import GoSem.ClaimMapViews
import Derived.JoinedTies
import Derived.KernelRfl
namespace Go.Proofs.Ytdgijohgncchiaa
/- THE CELL 'sum', in the pinned program and in every row, IS THE sha256 OF THE DUMP (.gsa) THAT YtdgijohgncchiaaProg.lean LOADS. Nothing in Lean hashes anything: it is a label: what it is worth is what the hold of that sum in a sandbox is worth. -/
noncomputable def Try.pinned : Pinned := { name := "ytdgijohgncchiaa", sum := "2811db4395f8348ce1bd3adf278fd84c0296703034aa6462d54bea66af646bd5", checked := Try.checked }
namespace Rows
def none {H : Type} : Left H := { results := [], args := [] }

/-- 'elasticstorelaw13.CertValidate': WHATEVER THE INPUT: true; the input reads as it did. -/
def certValidateSpec : ChangeSpec := { name := "certValidate", fn := fun _ => fun
  | [d] => { results := [.lit (.bool true)], args := [d] }
  | _ => none }
def certValidateRow : OpenClaim := { program := "ytdgijohgncchiaa", sum := "2811db4395f8348ce1bd3adf278fd84c0296703034aa6462d54bea66af646bd5", func := "elasticstore/elasticstorelaw13.CertValidate", spec := "certValidate", inPlace := ["slices.overlaps[elasticstore/api.Proposal]"], unfollowed := true, recurses := true, apart := false }
def CertValidateSaid : Prop := certValidateRow.holds Try.pinned (OpenSpec.ofChange certValidateSpec)

/-- ITS FALSE NEIGHBOUR: 'it returns false'. Refute it at one input. -/
def certValidateWrong : ChangeSpec := { name := "certValidate", fn := fun _ => fun
  | [d] => { results := [.lit (.bool false)], args := [d] }
  | _ => none }
def CertValidateWrongFalsely : Prop := certValidateRow.holds Try.pinned (OpenSpec.ofChange certValidateWrong)

/-- 'elasticstorelaw13.CertPair': WHATEVER THE INPUT: true; the input reads as it did. -/
def certPairSpec : ChangeSpec := { name := "certPair", fn := fun _ => fun
  | [d1, d2] => { results := [.lit (.bool true)], args := [d1, d2] }
  | _ => none }
def certPairRow : OpenClaim := { program := "ytdgijohgncchiaa", sum := "2811db4395f8348ce1bd3adf278fd84c0296703034aa6462d54bea66af646bd5", func := "elasticstore/elasticstorelaw13.CertPair", spec := "certPair", inPlace := ["slices.overlaps[elasticstore/api.Proposal]"], unfollowed := true, recurses := true, apart := false }
def CertPairSaid : Prop := certPairRow.holds Try.pinned (OpenSpec.ofChange certPairSpec)

/-- ITS FALSE NEIGHBOUR: 'it returns false'. Refute it at one input. -/
def certPairWrong : ChangeSpec := { name := "certPair", fn := fun _ => fun
  | [d1, d2] => { results := [.lit (.bool false)], args := [d1, d2] }
  | _ => none }
def CertPairWrongFalsely : Prop := certPairRow.holds Try.pinned (OpenSpec.ofChange certPairWrong)

/-- 'elasticstorelaw13.CertOrder': WHATEVER THE INPUT: true; the input reads as it did. -/
def certOrderSpec : ChangeSpec := { name := "certOrder", fn := fun _ => fun
  | [d1, d2, d3, d4] => { results := [.lit (.bool true)], args := [d1, d2, d3, d4] }
  | _ => none }
def certOrderRow : OpenClaim := { program := "ytdgijohgncchiaa", sum := "2811db4395f8348ce1bd3adf278fd84c0296703034aa6462d54bea66af646bd5", func := "elasticstore/elasticstorelaw13.CertOrder", spec := "certOrder", inPlace := ["slices.overlaps[elasticstore/api.Proposal]"], unfollowed := true, recurses := true, apart := false }
def CertOrderSaid : Prop := certOrderRow.holds Try.pinned (OpenSpec.ofChange certOrderSpec)

/-- ITS FALSE NEIGHBOUR: 'it returns false'. Refute it at one input. -/
def certOrderWrong : ChangeSpec := { name := "certOrder", fn := fun _ => fun
  | [d1, d2, d3, d4] => { results := [.lit (.bool false)], args := [d1, d2, d3, d4] }
  | _ => none }
def CertOrderWrongFalsely : Prop := certOrderRow.holds Try.pinned (OpenSpec.ofChange certOrderWrong)

/-- 'elasticstorelaw13.CertChain': WHATEVER THE INPUT: true; the input reads as it did. -/
def certChainSpec : ChangeSpec := { name := "certChain", fn := fun _ => fun
  | [d1, d2, d3, d4] => { results := [.lit (.bool true)], args := [d1, d2, d3, d4] }
  | _ => none }
def certChainRow : OpenClaim := { program := "ytdgijohgncchiaa", sum := "2811db4395f8348ce1bd3adf278fd84c0296703034aa6462d54bea66af646bd5", func := "elasticstore/elasticstorelaw13.CertChain", spec := "certChain", inPlace := ["slices.overlaps[elasticstore/api.Proposal]"], unfollowed := true, recurses := true, apart := false }
def CertChainSaid : Prop := certChainRow.holds Try.pinned (OpenSpec.ofChange certChainSpec)

/-- ITS FALSE NEIGHBOUR: 'it returns false'. Refute it at one input. -/
def certChainWrong : ChangeSpec := { name := "certChain", fn := fun _ => fun
  | [d1, d2, d3, d4] => { results := [.lit (.bool false)], args := [d1, d2, d3, d4] }
  | _ => none }
def CertChainWrongFalsely : Prop := certChainRow.holds Try.pinned (OpenSpec.ofChange certChainWrong)

/-- 'elasticstorelaw13.CertStart': WHATEVER THE INPUT: true; the input reads as it did. -/
def certStartSpec : ChangeSpec := { name := "certStart", fn := fun _ => fun
  | [d1, d2, d3] => { results := [.lit (.bool true)], args := [d1, d2, d3] }
  | _ => none }
def certStartRow : OpenClaim := { program := "ytdgijohgncchiaa", sum := "2811db4395f8348ce1bd3adf278fd84c0296703034aa6462d54bea66af646bd5", func := "elasticstore/elasticstorelaw13.CertStart", spec := "certStart", inPlace := ["slices.overlaps[elasticstore/api.Proposal]"], unfollowed := true, recurses := true, apart := false }
def CertStartSaid : Prop := certStartRow.holds Try.pinned (OpenSpec.ofChange certStartSpec)

/-- ITS FALSE NEIGHBOUR: 'it returns false'. Refute it at one input. -/
def certStartWrong : ChangeSpec := { name := "certStart", fn := fun _ => fun
  | [d1, d2, d3] => { results := [.lit (.bool false)], args := [d1, d2, d3] }
  | _ => none }
def CertStartWrongFalsely : Prop := certStartRow.holds Try.pinned (OpenSpec.ofChange certStartWrong)

/-- 'elasticstorelaw13.CertEncoding': WHATEVER THE INPUT: true; the input reads as it did. -/
def certEncodingSpec : ChangeSpec := { name := "certEncoding", fn := fun _ => fun
  | [d1, d2] => { results := [.lit (.bool true)], args := [d1, d2] }
  | _ => none }
def certEncodingRow : OpenClaim := { program := "ytdgijohgncchiaa", sum := "2811db4395f8348ce1bd3adf278fd84c0296703034aa6462d54bea66af646bd5", func := "elasticstore/elasticstorelaw13.CertEncoding", spec := "certEncoding", inPlace := ["slices.overlaps[elasticstore/api.Proposal]"], unfollowed := true, recurses := true, apart := false }
def CertEncodingSaid : Prop := certEncodingRow.holds Try.pinned (OpenSpec.ofChange certEncodingSpec)

/-- ITS FALSE NEIGHBOUR: 'it returns false'. Refute it at one input. -/
def certEncodingWrong : ChangeSpec := { name := "certEncoding", fn := fun _ => fun
  | [d1, d2] => { results := [.lit (.bool false)], args := [d1, d2] }
  | _ => none }
def CertEncodingWrongFalsely : Prop := certEncodingRow.holds Try.pinned (OpenSpec.ofChange certEncodingWrong)

/- THE SECOND FORM. 'bulk': how many values and letters a reading holds, each counted each time it is reached (what is shared counts as often as it is met; a slice's spare places count too). A statement '..UptoSaid' is the law's where the arguments, and the package variables that the reading takes, are together of bulk at most 1048576: NARROWER than '..Said'. Prove '..Said' where nothing that the law and all that it calls make is longer than what came in: it says more and counts as full. Else prove '..UptoSaid'. A law counts once. -/
mutual
def uptoBulk {H : Type} : DataW H → Nat
  | .lit (.string bytes) => bytes.length + 1
  | .lit _ => 1
  | .nil => 1
  | .ptr d => uptoBulk d + 1
  | .slice elems spare => uptoBulkAll elems + uptoBulkAll spare + 1
  | .agg parts => uptoBulkAll parts + 1
  | .iface _ d => uptoBulk d + 1
  | .map entries => uptoBulkEntries entries + 1
  | .held _ => 1
def uptoBulkAll {H : Type} : List (DataW H) → Nat
  | [] => 0
  | d :: r => uptoBulk d + uptoBulkAll r
def uptoBulkEntries {H : Type} : List (Lit × DataW H) → Nat
  | [] => 0
  | x :: r => uptoBulkEntry x + uptoBulkEntries r
def uptoBulkEntry {H : Type} : Lit × DataW H → Nat
  | (.string bytes, d) => bytes.length + uptoBulk d + 1
  | (_, d) => uptoBulk d + 1
 end
def uptoSmall : (H : Type) → List (DataW H) → Bool := fun _ ds => decide (uptoBulkAll ds ≤ 1048576)
def OpenSpec.upto (s : _root_.Go.ChangeSpec) : _root_.Go.OpenSpec := { _root_.Go.OpenSpec.ofChange s with cond := some uptoSmall }

/-- 'elasticstorelaw13.CertValidate', WHERE WHAT IT READS IS OF BULK AT MOST 1048576: true; the input reads as it did. -/
def certValidateUptoRow : OpenClaim := { program := "ytdgijohgncchiaa", sum := "2811db4395f8348ce1bd3adf278fd84c0296703034aa6462d54bea66af646bd5", func := "elasticstore/elasticstorelaw13.CertValidate", spec := "certValidate", inPlace := ["slices.overlaps[elasticstore/api.Proposal]"], unfollowed := true, recurses := true, apart := false, narrowed := true }
def CertValidateUptoSaid : Prop := certValidateUptoRow.holds Try.pinned (OpenSpec.upto certValidateSpec)

/-- 'elasticstorelaw13.CertPair', WHERE WHAT IT READS IS OF BULK AT MOST 1048576: true; the input reads as it did. -/
def certPairUptoRow : OpenClaim := { program := "ytdgijohgncchiaa", sum := "2811db4395f8348ce1bd3adf278fd84c0296703034aa6462d54bea66af646bd5", func := "elasticstore/elasticstorelaw13.CertPair", spec := "certPair", inPlace := ["slices.overlaps[elasticstore/api.Proposal]"], unfollowed := true, recurses := true, apart := false, narrowed := true }
def CertPairUptoSaid : Prop := certPairUptoRow.holds Try.pinned (OpenSpec.upto certPairSpec)

/-- 'elasticstorelaw13.CertOrder', WHERE WHAT IT READS IS OF BULK AT MOST 1048576: true; the input reads as it did. -/
def certOrderUptoRow : OpenClaim := { program := "ytdgijohgncchiaa", sum := "2811db4395f8348ce1bd3adf278fd84c0296703034aa6462d54bea66af646bd5", func := "elasticstore/elasticstorelaw13.CertOrder", spec := "certOrder", inPlace := ["slices.overlaps[elasticstore/api.Proposal]"], unfollowed := true, recurses := true, apart := false, narrowed := true }
def CertOrderUptoSaid : Prop := certOrderUptoRow.holds Try.pinned (OpenSpec.upto certOrderSpec)

/-- 'elasticstorelaw13.CertChain', WHERE WHAT IT READS IS OF BULK AT MOST 1048576: true; the input reads as it did. -/
def certChainUptoRow : OpenClaim := { program := "ytdgijohgncchiaa", sum := "2811db4395f8348ce1bd3adf278fd84c0296703034aa6462d54bea66af646bd5", func := "elasticstore/elasticstorelaw13.CertChain", spec := "certChain", inPlace := ["slices.overlaps[elasticstore/api.Proposal]"], unfollowed := true, recurses := true, apart := false, narrowed := true }
def CertChainUptoSaid : Prop := certChainUptoRow.holds Try.pinned (OpenSpec.upto certChainSpec)

/-- 'elasticstorelaw13.CertStart', WHERE WHAT IT READS IS OF BULK AT MOST 1048576: true; the input reads as it did. -/
def certStartUptoRow : OpenClaim := { program := "ytdgijohgncchiaa", sum := "2811db4395f8348ce1bd3adf278fd84c0296703034aa6462d54bea66af646bd5", func := "elasticstore/elasticstorelaw13.CertStart", spec := "certStart", inPlace := ["slices.overlaps[elasticstore/api.Proposal]"], unfollowed := true, recurses := true, apart := false, narrowed := true }
def CertStartUptoSaid : Prop := certStartUptoRow.holds Try.pinned (OpenSpec.upto certStartSpec)

/-- 'elasticstorelaw13.CertEncoding', WHERE WHAT IT READS IS OF BULK AT MOST 1048576: true; the input reads as it did. -/
def certEncodingUptoRow : OpenClaim := { program := "ytdgijohgncchiaa", sum := "2811db4395f8348ce1bd3adf278fd84c0296703034aa6462d54bea66af646bd5", func := "elasticstore/elasticstorelaw13.CertEncoding", spec := "certEncoding", inPlace := ["slices.overlaps[elasticstore/api.Proposal]"], unfollowed := true, recurses := true, apart := false, narrowed := true }
def CertEncodingUptoSaid : Prop := certEncodingUptoRow.holds Try.pinned (OpenSpec.upto certEncodingSpec)

end Rows
end Go.Proofs.Ytdgijohgncchiaa
