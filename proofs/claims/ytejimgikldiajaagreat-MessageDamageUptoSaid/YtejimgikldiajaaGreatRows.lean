/-
  No cell of these rows narrows 'for every input' (looked for: loops, veiled, ifaces, maps, wideKeys, modest, calm, conditions, laid).
  DERIVED. THE GIVEN ROWS OF THIS SEAT. 3 by the template 'for every input the law returns true; each argument reads behind the call as it read before'; 0 by the template 'total and deterministic' (their statements: YtejimgikldiajaaGreatTotals.lean).
  GIVEN WITH THE SEED: the statements are not yours to turn. If you find one false, say at which input.
  Laid BY PROGRAM, IN A SANDBOX (cutbox-rows.mjs): the forced cells as the released guide's own fill.sh prints them over the translation 01caa7415628ba7c… (all of the seat's roots in one cut). By AI agents, Wed Nov 11 2026. No macro, syntax, notation, axiom, sorry.
-/
import Derived.Test.YtejimgikldiajaaGreatChecked
import GoSem.Claim
import GoSem.ClaimJoined
import GoSem.ClaimMapViews
import Derived.JoinedTies
import Derived.KernelRfl
namespace Go.Proofs.YtejimgikldiajaaGreat
/- THE CELL 'sum', in the pinned program and in every row, IS THE sha256 OF THE DUMP (.gsa) THAT YtejimgikldiajaaGreatProg.lean LOADS. Nothing in Lean hashes anything: it is a label: what it is worth is what the hold of that sum in a sandbox is worth. -/
noncomputable def Tryz.pinned : Pinned := { name := "ytejimgikldiajaagreat", sum := "01caa7415628ba7c3372f1134a95ac28c1aa8b8abdd4d1f30aa9ead1494a7945", checked := Tryz.checked }
namespace Rows
def none {H : Type} : Left H := { results := [], args := [] }

/-- 'elasticstorelaw14.MessageValidate': WHATEVER THE INPUT: true; the input reads as it did. -/
def messageValidateSpec : ChangeSpec := { name := "messageValidate", fn := fun _ => fun
  | [d] => { results := [.lit (.bool true)], args := [d] }
  | _ => none }
def messageValidateRow : OpenClaim := { program := "ytejimgikldiajaagreat", sum := "01caa7415628ba7c3372f1134a95ac28c1aa8b8abdd4d1f30aa9ead1494a7945", func := "elasticstore/elasticstorelaw14.MessageValidate", spec := "messageValidate", unfollowed := true, recurses := true, apart := false }
def MessageValidateSaid : Prop := messageValidateRow.holds Tryz.pinned (OpenSpec.ofChange messageValidateSpec)

/-- ITS FALSE NEIGHBOUR: 'it returns false'. Refute it at one input. -/
def messageValidateWrong : ChangeSpec := { name := "messageValidate", fn := fun _ => fun
  | [d] => { results := [.lit (.bool false)], args := [d] }
  | _ => none }
def MessageValidateWrongFalsely : Prop := messageValidateRow.holds Tryz.pinned (OpenSpec.ofChange messageValidateWrong)

/-- 'elasticstorelaw14.MessageDecode': WHATEVER THE INPUT: true; the input reads as it did. -/
def messageDecodeSpec : ChangeSpec := { name := "messageDecode", fn := fun _ => fun
  | [d] => { results := [.lit (.bool true)], args := [d] }
  | _ => none }
def messageDecodeRow : OpenClaim := { program := "ytejimgikldiajaagreat", sum := "01caa7415628ba7c3372f1134a95ac28c1aa8b8abdd4d1f30aa9ead1494a7945", func := "elasticstore/elasticstorelaw14.MessageDecode", spec := "messageDecode", unfollowed := true, recurses := true, apart := false }
def MessageDecodeSaid : Prop := messageDecodeRow.holds Tryz.pinned (OpenSpec.ofChange messageDecodeSpec)

/-- ITS FALSE NEIGHBOUR: 'it returns false'. Refute it at one input. -/
def messageDecodeWrong : ChangeSpec := { name := "messageDecode", fn := fun _ => fun
  | [d] => { results := [.lit (.bool false)], args := [d] }
  | _ => none }
def MessageDecodeWrongFalsely : Prop := messageDecodeRow.holds Tryz.pinned (OpenSpec.ofChange messageDecodeWrong)

/-- 'elasticstorelaw14.MessageDamage': WHATEVER THE INPUT: true; the input reads as it did. -/
def messageDamageSpec : ChangeSpec := { name := "messageDamage", fn := fun _ => fun
  | [d1, d2, d3, d4, d5, d6, d7, d8] => { results := [.lit (.bool true)], args := [d1, d2, d3, d4, d5, d6, d7, d8] }
  | _ => none }
def messageDamageRow : OpenClaim := { program := "ytejimgikldiajaagreat", sum := "01caa7415628ba7c3372f1134a95ac28c1aa8b8abdd4d1f30aa9ead1494a7945", func := "elasticstore/elasticstorelaw14.MessageDamage", spec := "messageDamage", unfollowed := true, recurses := true, apart := false }
def MessageDamageSaid : Prop := messageDamageRow.holds Tryz.pinned (OpenSpec.ofChange messageDamageSpec)

/-- ITS FALSE NEIGHBOUR: 'it returns false'. Refute it at one input. -/
def messageDamageWrong : ChangeSpec := { name := "messageDamage", fn := fun _ => fun
  | [d1, d2, d3, d4, d5, d6, d7, d8] => { results := [.lit (.bool false)], args := [d1, d2, d3, d4, d5, d6, d7, d8] }
  | _ => none }
def MessageDamageWrongFalsely : Prop := messageDamageRow.holds Tryz.pinned (OpenSpec.ofChange messageDamageWrong)

/- THE SECOND FORM. 'bulk': how many values and letters a reading holds, each counted each time it is reached (what is shared counts as often as it is met; a slice's spare places count too). A statement '..UptoSaid' is the law's where the arguments, and the package variables that the reading takes, are together of bulk at most 1048576: NARROWER than '..Said'. Prove '..Said' where nothing that the law and all that it calls make is longer than what came in: it says more and counts as full. Else prove '..UptoSaid'. A law counts once. -/
mutual
def uptoBulk {H : Type} : DataW H → Nat
  | .lit (.string bytes) => bytes.length + 1
  | .lit _ => 1
  | .nil => 1
  | .ptr d => uptoBulk d + 1
  | .slice elems spare => uptoBulkAll elems + uptoBulkAll spare + 1
  | .agg parts => uptoBulkAll parts + 1
  | .iface _ d => uptoBulk d + 1
  | .map entries => uptoBulkEntries entries + 1
  | .held _ => 1
def uptoBulkAll {H : Type} : List (DataW H) → Nat
  | [] => 0
  | d :: r => uptoBulk d + uptoBulkAll r
def uptoBulkEntries {H : Type} : List (Lit × DataW H) → Nat
  | [] => 0
  | x :: r => uptoBulkEntry x + uptoBulkEntries r
def uptoBulkEntry {H : Type} : Lit × DataW H → Nat
  | (.string bytes, d) => bytes.length + uptoBulk d + 1
  | (_, d) => uptoBulk d + 1
 end
def uptoSmall : (H : Type) → List (DataW H) → Bool := fun _ ds => decide (uptoBulkAll ds ≤ 1048576)
def OpenSpec.upto (s : _root_.Go.ChangeSpec) : _root_.Go.OpenSpec := { _root_.Go.OpenSpec.ofChange s with cond := some uptoSmall }

/-- 'elasticstorelaw14.MessageValidate', WHERE WHAT IT READS IS OF BULK AT MOST 1048576: true; the input reads as it did. -/
def messageValidateUptoRow : OpenClaim := { program := "ytejimgikldiajaagreat", sum := "01caa7415628ba7c3372f1134a95ac28c1aa8b8abdd4d1f30aa9ead1494a7945", func := "elasticstore/elasticstorelaw14.MessageValidate", spec := "messageValidate", unfollowed := true, recurses := true, apart := false, narrowed := true }
def MessageValidateUptoSaid : Prop := messageValidateUptoRow.holds Tryz.pinned (OpenSpec.upto messageValidateSpec)

/-- 'elasticstorelaw14.MessageDecode', WHERE WHAT IT READS IS OF BULK AT MOST 1048576: true; the input reads as it did. -/
def messageDecodeUptoRow : OpenClaim := { program := "ytejimgikldiajaagreat", sum := "01caa7415628ba7c3372f1134a95ac28c1aa8b8abdd4d1f30aa9ead1494a7945", func := "elasticstore/elasticstorelaw14.MessageDecode", spec := "messageDecode", unfollowed := true, recurses := true, apart := false, narrowed := true }
def MessageDecodeUptoSaid : Prop := messageDecodeUptoRow.holds Tryz.pinned (OpenSpec.upto messageDecodeSpec)

/-- 'elasticstorelaw14.MessageDamage', WHERE WHAT IT READS IS OF BULK AT MOST 1048576: true; the input reads as it did. -/
def messageDamageUptoRow : OpenClaim := { program := "ytejimgikldiajaagreat", sum := "01caa7415628ba7c3372f1134a95ac28c1aa8b8abdd4d1f30aa9ead1494a7945", func := "elasticstore/elasticstorelaw14.MessageDamage", spec := "messageDamage", unfollowed := true, recurses := true, apart := false, narrowed := true }
def MessageDamageUptoSaid : Prop := messageDamageUptoRow.holds Tryz.pinned (OpenSpec.upto messageDamageSpec)

end Rows
end Go.Proofs.YtejimgikldiajaaGreat
