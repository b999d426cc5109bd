/-
  No cell of these rows narrows 'for every input' (looked for: loops, veiled, ifaces, maps, wideKeys, modest, calm, conditions, laid).
  DERIVED. THE GIVEN ROWS OF THIS SEAT. 8 by the template 'for every input the law returns true; each argument reads behind the call as it read before'; 0 by the template 'total and deterministic' (their statements: YtpafnokcmhlbgaaTotals.lean).
  GIVEN WITH THE SEED: the statements are not yours to turn. If you find one false, say at which input.
  Laid BY PROGRAM, IN A SANDBOX (cutbox-rows.mjs): the forced cells as the released guide's own fill.sh prints them over the translation 1861c1b6f4342831… (all of the seat's roots in one cut). By AI agents, Wed Nov 11 2026. No macro, syntax, notation, axiom, sorry.
-/
import Derived.Test.YtpafnokcmhlbgaaChecked
import GoSem.Claim
import GoSem.ClaimJoined
import GoSem.ClaimMapViews
import Derived.JoinedTies
import Derived.KernelRfl
namespace Go.Proofs.Ytpafnokcmhlbgaa
/- THE CELL 'sum', in the pinned program and in every row, IS THE sha256 OF THE DUMP (.gsa) THAT YtpafnokcmhlbgaaProg.lean LOADS. Nothing in Lean hashes anything: it is a label: what it is worth is what the hold of that sum in a sandbox is worth. -/
noncomputable def Try.pinned : Pinned := { name := "ytpafnokcmhlbgaa", sum := "1861c1b6f434283144eaec826673516c992cbed808db03b81910ff04e229d59f", checked := Try.checked }
namespace Rows
def none {H : Type} : Left H := { results := [], args := [] }

/-- 'elasticstorelaw25.WalRaw': WHATEVER THE INPUT: true; the input reads as it did. -/
def walRawSpec : ChangeSpec := { name := "walRaw", fn := fun _ => fun
  | [d1, d2, d3, d4, d5, d6, d7] => { results := [.lit (.bool true)], args := [d1, d2, d3, d4, d5, d6, d7] }
  | _ => none }
def walRawRow : OpenClaim := { program := "ytpafnokcmhlbgaa", sum := "1861c1b6f434283144eaec826673516c992cbed808db03b81910ff04e229d59f", func := "elasticstore/elasticstorelaw25.WalRaw", spec := "walRaw", apart := false }
def WalRawSaid : Prop := walRawRow.holds Try.pinned (OpenSpec.ofChange walRawSpec)

/-- ITS FALSE NEIGHBOUR: 'it returns false'. Refute it at one input. -/
def walRawWrong : ChangeSpec := { name := "walRaw", fn := fun _ => fun
  | [d1, d2, d3, d4, d5, d6, d7] => { results := [.lit (.bool false)], args := [d1, d2, d3, d4, d5, d6, d7] }
  | _ => none }
def WalRawWrongFalsely : Prop := walRawRow.holds Try.pinned (OpenSpec.ofChange walRawWrong)

/-- 'elasticstorelaw25.WalRoom': WHATEVER THE INPUT: true; the input reads as it did. -/
def walRoomSpec : ChangeSpec := { name := "walRoom", fn := fun _ => fun
  | [d1, d2] => { results := [.lit (.bool true)], args := [d1, d2] }
  | _ => none }
def walRoomRow : OpenClaim := { program := "ytpafnokcmhlbgaa", sum := "1861c1b6f434283144eaec826673516c992cbed808db03b81910ff04e229d59f", func := "elasticstore/elasticstorelaw25.WalRoom", spec := "walRoom", apart := false }
def WalRoomSaid : Prop := walRoomRow.holds Try.pinned (OpenSpec.ofChange walRoomSpec)

/-- ITS FALSE NEIGHBOUR: 'it returns false'. Refute it at one input. -/
def walRoomWrong : ChangeSpec := { name := "walRoom", fn := fun _ => fun
  | [d1, d2] => { results := [.lit (.bool false)], args := [d1, d2] }
  | _ => none }
def WalRoomWrongFalsely : Prop := walRoomRow.holds Try.pinned (OpenSpec.ofChange walRoomWrong)

/-- 'elasticstorelaw25.WalReplace': WHATEVER THE INPUT: true; the input reads as it did. -/
def walReplaceSpec : ChangeSpec := { name := "walReplace", fn := fun _ => fun
  | [d1, d2] => { results := [.lit (.bool true)], args := [d1, d2] }
  | _ => none }
def walReplaceRow : OpenClaim := { program := "ytpafnokcmhlbgaa", sum := "1861c1b6f434283144eaec826673516c992cbed808db03b81910ff04e229d59f", func := "elasticstore/elasticstorelaw25.WalReplace", spec := "walReplace", apart := false }
def WalReplaceSaid : Prop := walReplaceRow.holds Try.pinned (OpenSpec.ofChange walReplaceSpec)

/-- ITS FALSE NEIGHBOUR: 'it returns false'. Refute it at one input. -/
def walReplaceWrong : ChangeSpec := { name := "walReplace", fn := fun _ => fun
  | [d1, d2] => { results := [.lit (.bool false)], args := [d1, d2] }
  | _ => none }
def WalReplaceWrongFalsely : Prop := walReplaceRow.holds Try.pinned (OpenSpec.ofChange walReplaceWrong)

/-- 'elasticstorelaw25.WalTurned': WHATEVER THE INPUT: true; the input reads as it did. -/
def walTurnedSpec : ChangeSpec := { name := "walTurned", fn := fun _ => fun
  | [d1, d2, d3, d4] => { results := [.lit (.bool true)], args := [d1, d2, d3, d4] }
  | _ => none }
def walTurnedRow : OpenClaim := { program := "ytpafnokcmhlbgaa", sum := "1861c1b6f434283144eaec826673516c992cbed808db03b81910ff04e229d59f", func := "elasticstore/elasticstorelaw25.WalTurned", spec := "walTurned", apart := false }
def WalTurnedSaid : Prop := walTurnedRow.holds Try.pinned (OpenSpec.ofChange walTurnedSpec)

/-- ITS FALSE NEIGHBOUR: 'it returns false'. Refute it at one input. -/
def walTurnedWrong : ChangeSpec := { name := "walTurned", fn := fun _ => fun
  | [d1, d2, d3, d4] => { results := [.lit (.bool false)], args := [d1, d2, d3, d4] }
  | _ => none }
def WalTurnedWrongFalsely : Prop := walTurnedRow.holds Try.pinned (OpenSpec.ofChange walTurnedWrong)

/-- 'elasticstorelaw25.WalOwn': WHATEVER THE INPUT: true; the input reads as it did. -/
def walOwnSpec : ChangeSpec := { name := "walOwn", fn := fun _ => fun
  | [d1, d2] => { results := [.lit (.bool true)], args := [d1, d2] }
  | _ => none }
def walOwnRow : OpenClaim := { program := "ytpafnokcmhlbgaa", sum := "1861c1b6f434283144eaec826673516c992cbed808db03b81910ff04e229d59f", func := "elasticstore/elasticstorelaw25.WalOwn", spec := "walOwn", apart := false }
def WalOwnSaid : Prop := walOwnRow.holds Try.pinned (OpenSpec.ofChange walOwnSpec)

/-- ITS FALSE NEIGHBOUR: 'it returns false'. Refute it at one input. -/
def walOwnWrong : ChangeSpec := { name := "walOwn", fn := fun _ => fun
  | [d1, d2] => { results := [.lit (.bool false)], args := [d1, d2] }
  | _ => none }
def WalOwnWrongFalsely : Prop := walOwnRow.holds Try.pinned (OpenSpec.ofChange walOwnWrong)

/-- 'elasticstorelaw25.WalPlays': WHATEVER THE INPUT: true; the input reads as it did. -/
def walPlaysSpec : ChangeSpec := { name := "walPlays", fn := fun _ => fun
  | [d1, d2] => { results := [.lit (.bool true)], args := [d1, d2] }
  | _ => none }
def walPlaysRow : OpenClaim := { program := "ytpafnokcmhlbgaa", sum := "1861c1b6f434283144eaec826673516c992cbed808db03b81910ff04e229d59f", func := "elasticstore/elasticstorelaw25.WalPlays", spec := "walPlays", apart := false }
def WalPlaysSaid : Prop := walPlaysRow.holds Try.pinned (OpenSpec.ofChange walPlaysSpec)

/-- ITS FALSE NEIGHBOUR: 'it returns false'. Refute it at one input. -/
def walPlaysWrong : ChangeSpec := { name := "walPlays", fn := fun _ => fun
  | [d1, d2] => { results := [.lit (.bool false)], args := [d1, d2] }
  | _ => none }
def WalPlaysWrongFalsely : Prop := walPlaysRow.holds Try.pinned (OpenSpec.ofChange walPlaysWrong)

/-- 'elasticstorelaw25.WalFalls': WHATEVER THE INPUT: true; the input reads as it did. -/
def walFallsSpec : ChangeSpec := { name := "walFalls", fn := fun _ => fun
  | [d1, d2, d3, d4, d5, d6, d7] => { results := [.lit (.bool true)], args := [d1, d2, d3, d4, d5, d6, d7] }
  | _ => none }
def walFallsRow : OpenClaim := { program := "ytpafnokcmhlbgaa", sum := "1861c1b6f434283144eaec826673516c992cbed808db03b81910ff04e229d59f", func := "elasticstore/elasticstorelaw25.WalFalls", spec := "walFalls", apart := false }
def WalFallsSaid : Prop := walFallsRow.holds Try.pinned (OpenSpec.ofChange walFallsSpec)

/-- ITS FALSE NEIGHBOUR: 'it returns false'. Refute it at one input. -/
def walFallsWrong : ChangeSpec := { name := "walFalls", fn := fun _ => fun
  | [d1, d2, d3, d4, d5, d6, d7] => { results := [.lit (.bool false)], args := [d1, d2, d3, d4, d5, d6, d7] }
  | _ => none }
def WalFallsWrongFalsely : Prop := walFallsRow.holds Try.pinned (OpenSpec.ofChange walFallsWrong)

/-- 'elasticstorelaw25.WalFailed': WHATEVER THE INPUT: true; the input reads as it did. -/
def walFailedSpec : ChangeSpec := { name := "walFailed", fn := fun _ => fun
  | [d1, d2, d3] => { results := [.lit (.bool true)], args := [d1, d2, d3] }
  | _ => none }
def walFailedRow : OpenClaim := { program := "ytpafnokcmhlbgaa", sum := "1861c1b6f434283144eaec826673516c992cbed808db03b81910ff04e229d59f", func := "elasticstore/elasticstorelaw25.WalFailed", spec := "walFailed", apart := false }
def WalFailedSaid : Prop := walFailedRow.holds Try.pinned (OpenSpec.ofChange walFailedSpec)

/-- ITS FALSE NEIGHBOUR: 'it returns false'. Refute it at one input. -/
def walFailedWrong : ChangeSpec := { name := "walFailed", fn := fun _ => fun
  | [d1, d2, d3] => { results := [.lit (.bool false)], args := [d1, d2, d3] }
  | _ => none }
def WalFailedWrongFalsely : Prop := walFailedRow.holds Try.pinned (OpenSpec.ofChange walFailedWrong)

/- THE SECOND FORM. 'bulk': how many values and letters a reading holds, each counted each time it is reached (what is shared counts as often as it is met; a slice's spare places count too). A statement '..UptoSaid' is the law's where the arguments, and the package variables that the reading takes, are together of bulk at most 1048576: NARROWER than '..Said'. Prove '..Said' where nothing that the law and all that it calls make is longer than what came in: it says more and counts as full. Else prove '..UptoSaid'. A law counts once. -/
mutual
def uptoBulk {H : Type} : DataW H → Nat
  | .lit (.string bytes) => bytes.length + 1
  | .lit _ => 1
  | .nil => 1
  | .ptr d => uptoBulk d + 1
  | .slice elems spare => uptoBulkAll elems + uptoBulkAll spare + 1
  | .agg parts => uptoBulkAll parts + 1
  | .iface _ d => uptoBulk d + 1
  | .map entries => uptoBulkEntries entries + 1
  | .held _ => 1
def uptoBulkAll {H : Type} : List (DataW H) → Nat
  | [] => 0
  | d :: r => uptoBulk d + uptoBulkAll r
def uptoBulkEntries {H : Type} : List (Lit × DataW H) → Nat
  | [] => 0
  | x :: r => uptoBulkEntry x + uptoBulkEntries r
def uptoBulkEntry {H : Type} : Lit × DataW H → Nat
  | (.string bytes, d) => bytes.length + uptoBulk d + 1
  | (_, d) => uptoBulk d + 1
 end
def uptoSmall : (H : Type) → List (DataW H) → Bool := fun _ ds => decide (uptoBulkAll ds ≤ 1048576)
def OpenSpec.upto (s : _root_.Go.ChangeSpec) : _root_.Go.OpenSpec := { _root_.Go.OpenSpec.ofChange s with cond := some uptoSmall }

/-- 'elasticstorelaw25.WalRaw', WHERE WHAT IT READS IS OF BULK AT MOST 1048576: true; the input reads as it did. -/
def walRawUptoRow : OpenClaim := { program := "ytpafnokcmhlbgaa", sum := "1861c1b6f434283144eaec826673516c992cbed808db03b81910ff04e229d59f", func := "elasticstore/elasticstorelaw25.WalRaw", spec := "walRaw", apart := false, narrowed := true }
def WalRawUptoSaid : Prop := walRawUptoRow.holds Try.pinned (OpenSpec.upto walRawSpec)

/-- 'elasticstorelaw25.WalRoom', WHERE WHAT IT READS IS OF BULK AT MOST 1048576: true; the input reads as it did. -/
def walRoomUptoRow : OpenClaim := { program := "ytpafnokcmhlbgaa", sum := "1861c1b6f434283144eaec826673516c992cbed808db03b81910ff04e229d59f", func := "elasticstore/elasticstorelaw25.WalRoom", spec := "walRoom", apart := false, narrowed := true }
def WalRoomUptoSaid : Prop := walRoomUptoRow.holds Try.pinned (OpenSpec.upto walRoomSpec)

/-- 'elasticstorelaw25.WalReplace', WHERE WHAT IT READS IS OF BULK AT MOST 1048576: true; the input reads as it did. -/
def walReplaceUptoRow : OpenClaim := { program := "ytpafnokcmhlbgaa", sum := "1861c1b6f434283144eaec826673516c992cbed808db03b81910ff04e229d59f", func := "elasticstore/elasticstorelaw25.WalReplace", spec := "walReplace", apart := false, narrowed := true }
def WalReplaceUptoSaid : Prop := walReplaceUptoRow.holds Try.pinned (OpenSpec.upto walReplaceSpec)

/-- 'elasticstorelaw25.WalTurned', WHERE WHAT IT READS IS OF BULK AT MOST 1048576: true; the input reads as it did. -/
def walTurnedUptoRow : OpenClaim := { program := "ytpafnokcmhlbgaa", sum := "1861c1b6f434283144eaec826673516c992cbed808db03b81910ff04e229d59f", func := "elasticstore/elasticstorelaw25.WalTurned", spec := "walTurned", apart := false, narrowed := true }
def WalTurnedUptoSaid : Prop := walTurnedUptoRow.holds Try.pinned (OpenSpec.upto walTurnedSpec)

/-- 'elasticstorelaw25.WalOwn', WHERE WHAT IT READS IS OF BULK AT MOST 1048576: true; the input reads as it did. -/
def walOwnUptoRow : OpenClaim := { program := "ytpafnokcmhlbgaa", sum := "1861c1b6f434283144eaec826673516c992cbed808db03b81910ff04e229d59f", func := "elasticstore/elasticstorelaw25.WalOwn", spec := "walOwn", apart := false, narrowed := true }
def WalOwnUptoSaid : Prop := walOwnUptoRow.holds Try.pinned (OpenSpec.upto walOwnSpec)

/-- 'elasticstorelaw25.WalPlays', WHERE WHAT IT READS IS OF BULK AT MOST 1048576: true; the input reads as it did. -/
def walPlaysUptoRow : OpenClaim := { program := "ytpafnokcmhlbgaa", sum := "1861c1b6f434283144eaec826673516c992cbed808db03b81910ff04e229d59f", func := "elasticstore/elasticstorelaw25.WalPlays", spec := "walPlays", apart := false, narrowed := true }
def WalPlaysUptoSaid : Prop := walPlaysUptoRow.holds Try.pinned (OpenSpec.upto walPlaysSpec)

/-- 'elasticstorelaw25.WalFalls', WHERE WHAT IT READS IS OF BULK AT MOST 1048576: true; the input reads as it did. -/
def walFallsUptoRow : OpenClaim := { program := "ytpafnokcmhlbgaa", sum := "1861c1b6f434283144eaec826673516c992cbed808db03b81910ff04e229d59f", func := "elasticstore/elasticstorelaw25.WalFalls", spec := "walFalls", apart := false, narrowed := true }
def WalFallsUptoSaid : Prop := walFallsUptoRow.holds Try.pinned (OpenSpec.upto walFallsSpec)

/-- 'elasticstorelaw25.WalFailed', WHERE WHAT IT READS IS OF BULK AT MOST 1048576: true; the input reads as it did. -/
def walFailedUptoRow : OpenClaim := { program := "ytpafnokcmhlbgaa", sum := "1861c1b6f434283144eaec826673516c992cbed808db03b81910ff04e229d59f", func := "elasticstore/elasticstorelaw25.WalFailed", spec := "walFailed", apart := false, narrowed := true }
def WalFailedUptoSaid : Prop := walFailedUptoRow.holds Try.pinned (OpenSpec.upto walFailedSpec)

end Rows
end Go.Proofs.Ytpafnokcmhlbgaa
