/-
  No cell of these rows narrows 'for every input' (looked for: loops, veiled, ifaces, maps, wideKeys, modest, calm, conditions, laid).
  DERIVED. THE GIVEN ROWS OF THIS SEAT. 6 by the template 'for every input the law returns true; each argument reads behind the call as it read before'; 0 by the template 'total and deterministic' (their statements: YtpfjfihfnplhfaaTotals.lean).
  GIVEN WITH THE SEED: the statements are not yours to turn. If you find one false, say at which input.
  Laid BY PROGRAM, IN A SANDBOX (cutbox-rows.mjs): the forced cells as the released guide's own fill.sh prints them over the translation 7da50c2a4753cc07… (all of the seat's roots in one cut). By AI agents, Wed Nov 11 2026. No macro, syntax, notation, axiom, sorry.
-/
import Derived.Test.YtpfjfihfnplhfaaChecked
import GoSem.Claim
import GoSem.ClaimJoined
import GoSem.ClaimMapViews
import Derived.JoinedTies
import Derived.KernelRfl
namespace Go.Proofs.Ytpfjfihfnplhfaa
/- THE CELL 'sum', in the pinned program and in every row, IS THE sha256 OF THE DUMP (.gsa) THAT YtpfjfihfnplhfaaProg.lean LOADS. Nothing in Lean hashes anything: it is a label: what it is worth is what the hold of that sum in a sandbox is worth. -/
noncomputable def Try.pinned : Pinned := { name := "ytpfjfihfnplhfaa", sum := "7da50c2a4753cc0740485cacedc88c4eb795a1704f9b9fee03716ddbf4b3abea", checked := Try.checked }
namespace Rows
def none {H : Type} : Left H := { results := [], args := [] }

/-- 'hornbooklaw03.DigestHex': WHATEVER THE INPUT: true; the input reads as it did. -/
def digestHexSpec : ChangeSpec := { name := "digestHex", fn := fun _ => fun
  | [d] => { results := [.lit (.bool true)], args := [d] }
  | _ => none }
def digestHexRow : OpenClaim := { program := "ytpfjfihfnplhfaa", sum := "7da50c2a4753cc0740485cacedc88c4eb795a1704f9b9fee03716ddbf4b3abea", func := "hornbook/hornbooklaw03.DigestHex", spec := "digestHex", inPlace := ["internal/abi.NoEscape", "internal/bytealg.IndexByteString"], apart := false }
def DigestHexSaid : Prop := digestHexRow.holds Try.pinned (OpenSpec.ofChange digestHexSpec)

/-- ITS FALSE NEIGHBOUR: 'it returns false'. Refute it at one input. -/
def digestHexWrong : ChangeSpec := { name := "digestHex", fn := fun _ => fun
  | [d] => { results := [.lit (.bool false)], args := [d] }
  | _ => none }
def DigestHexWrongFalsely : Prop := digestHexRow.holds Try.pinned (OpenSpec.ofChange digestHexWrong)

/-- 'hornbooklaw03.DigestIs': WHATEVER THE INPUT: true; the input reads as it did. -/
def digestIsSpec : ChangeSpec := { name := "digestIs", fn := fun _ => fun
  | [d] => { results := [.lit (.bool true)], args := [d] }
  | _ => none }
def digestIsRow : OpenClaim := { program := "ytpfjfihfnplhfaa", sum := "7da50c2a4753cc0740485cacedc88c4eb795a1704f9b9fee03716ddbf4b3abea", func := "hornbook/hornbooklaw03.DigestIs", spec := "digestIs", unfollowed := true, recurses := true, apart := false }
def DigestIsSaid : Prop := digestIsRow.holds Try.pinned (OpenSpec.ofChange digestIsSpec)

/-- ITS FALSE NEIGHBOUR: 'it returns false'. Refute it at one input. -/
def digestIsWrong : ChangeSpec := { name := "digestIs", fn := fun _ => fun
  | [d] => { results := [.lit (.bool false)], args := [d] }
  | _ => none }
def DigestIsWrongFalsely : Prop := digestIsRow.holds Try.pinned (OpenSpec.ofChange digestIsWrong)

/-- 'hornbooklaw03.DigestRoots': WHATEVER THE INPUT: true; the input reads as it did. -/
def digestRootsSpec : ChangeSpec := { name := "digestRoots", fn := fun _ => fun
  | [d] => { results := [.lit (.bool true)], args := [d] }
  | _ => none }
def digestRootsRow : OpenClaim := { program := "ytpfjfihfnplhfaa", sum := "7da50c2a4753cc0740485cacedc88c4eb795a1704f9b9fee03716ddbf4b3abea", func := "hornbook/hornbooklaw03.DigestRoots", spec := "digestRoots", unfollowed := true, recurses := true, apart := false }
def DigestRootsSaid : Prop := digestRootsRow.holds Try.pinned (OpenSpec.ofChange digestRootsSpec)

/-- ITS FALSE NEIGHBOUR: 'it returns false'. Refute it at one input. -/
def digestRootsWrong : ChangeSpec := { name := "digestRoots", fn := fun _ => fun
  | [d] => { results := [.lit (.bool false)], args := [d] }
  | _ => none }
def DigestRootsWrongFalsely : Prop := digestRootsRow.holds Try.pinned (OpenSpec.ofChange digestRootsWrong)

/-- 'hornbooklaw03.DigestParts': WHATEVER THE INPUT: true; the input reads as it did. -/
def digestPartsSpec : ChangeSpec := { name := "digestParts", fn := fun _ => fun
  | [d] => { results := [.lit (.bool true)], args := [d] }
  | _ => none }
def digestPartsRow : OpenClaim := { program := "ytpfjfihfnplhfaa", sum := "7da50c2a4753cc0740485cacedc88c4eb795a1704f9b9fee03716ddbf4b3abea", func := "hornbook/hornbooklaw03.DigestParts", spec := "digestParts", unfollowed := true, recurses := true, apart := false }
def DigestPartsSaid : Prop := digestPartsRow.holds Try.pinned (OpenSpec.ofChange digestPartsSpec)

/-- ITS FALSE NEIGHBOUR: 'it returns false'. Refute it at one input. -/
def digestPartsWrong : ChangeSpec := { name := "digestParts", fn := fun _ => fun
  | [d] => { results := [.lit (.bool false)], args := [d] }
  | _ => none }
def DigestPartsWrongFalsely : Prop := digestPartsRow.holds Try.pinned (OpenSpec.ofChange digestPartsWrong)

/-- 'hornbooklaw03.DigestApart': WHATEVER THE INPUT: true; the input reads as it did. -/
def digestApartSpec : ChangeSpec := { name := "digestApart", fn := fun _ => fun
  | [d1, d2] => { results := [.lit (.bool true)], args := [d1, d2] }
  | _ => none }
def digestApartRow : OpenClaim := { program := "ytpfjfihfnplhfaa", sum := "7da50c2a4753cc0740485cacedc88c4eb795a1704f9b9fee03716ddbf4b3abea", func := "hornbook/hornbooklaw03.DigestApart", spec := "digestApart", unfollowed := true, recurses := true, apart := false }
def DigestApartSaid : Prop := digestApartRow.holds Try.pinned (OpenSpec.ofChange digestApartSpec)

/-- ITS FALSE NEIGHBOUR: 'it returns false'. Refute it at one input. -/
def digestApartWrong : ChangeSpec := { name := "digestApart", fn := fun _ => fun
  | [d1, d2] => { results := [.lit (.bool false)], args := [d1, d2] }
  | _ => none }
def DigestApartWrongFalsely : Prop := digestApartRow.holds Try.pinned (OpenSpec.ofChange digestApartWrong)

/-- 'hornbooklaw03.DigestBack': WHATEVER THE INPUT: true; the input reads as it did. -/
def digestBackSpec : ChangeSpec := { name := "digestBack", fn := fun _ => fun
  | [d] => { results := [.lit (.bool true)], args := [d] }
  | _ => none }
def digestBackRow : OpenClaim := { program := "ytpfjfihfnplhfaa", sum := "7da50c2a4753cc0740485cacedc88c4eb795a1704f9b9fee03716ddbf4b3abea", func := "hornbook/hornbooklaw03.DigestBack", spec := "digestBack", inPlace := ["internal/abi.NoEscape", "internal/bytealg.IndexByteString"], unfollowed := true, recurses := true, apart := false }
def DigestBackSaid : Prop := digestBackRow.holds Try.pinned (OpenSpec.ofChange digestBackSpec)

/-- ITS FALSE NEIGHBOUR: 'it returns false'. Refute it at one input. -/
def digestBackWrong : ChangeSpec := { name := "digestBack", fn := fun _ => fun
  | [d] => { results := [.lit (.bool false)], args := [d] }
  | _ => none }
def DigestBackWrongFalsely : Prop := digestBackRow.holds Try.pinned (OpenSpec.ofChange digestBackWrong)

/- THE SECOND FORM. 'bulk': how many values and letters a reading holds, each counted each time it is reached (what is shared counts as often as it is met; a slice's spare places count too). A statement '..UptoSaid' is the law's where the arguments, and the package variables that the reading takes, are together of bulk at most 1048576: NARROWER than '..Said'. Prove '..Said' where nothing that the law and all that it calls make is longer than what came in: it says more and counts as full. Else prove '..UptoSaid'. A law counts once. -/
mutual
def uptoBulk {H : Type} : DataW H → Nat
  | .lit (.string bytes) => bytes.length + 1
  | .lit _ => 1
  | .nil => 1
  | .ptr d => uptoBulk d + 1
  | .slice elems spare => uptoBulkAll elems + uptoBulkAll spare + 1
  | .agg parts => uptoBulkAll parts + 1
  | .iface _ d => uptoBulk d + 1
  | .map entries => uptoBulkEntries entries + 1
  | .held _ => 1
def uptoBulkAll {H : Type} : List (DataW H) → Nat
  | [] => 0
  | d :: r => uptoBulk d + uptoBulkAll r
def uptoBulkEntries {H : Type} : List (Lit × DataW H) → Nat
  | [] => 0
  | x :: r => uptoBulkEntry x + uptoBulkEntries r
def uptoBulkEntry {H : Type} : Lit × DataW H → Nat
  | (.string bytes, d) => bytes.length + uptoBulk d + 1
  | (_, d) => uptoBulk d + 1
 end
def uptoSmall : (H : Type) → List (DataW H) → Bool := fun _ ds => decide (uptoBulkAll ds ≤ 1048576)
def OpenSpec.upto (s : _root_.Go.ChangeSpec) : _root_.Go.OpenSpec := { _root_.Go.OpenSpec.ofChange s with cond := some uptoSmall }

/-- 'hornbooklaw03.DigestHex', WHERE WHAT IT READS IS OF BULK AT MOST 1048576: true; the input reads as it did. -/
def digestHexUptoRow : OpenClaim := { program := "ytpfjfihfnplhfaa", sum := "7da50c2a4753cc0740485cacedc88c4eb795a1704f9b9fee03716ddbf4b3abea", func := "hornbook/hornbooklaw03.DigestHex", spec := "digestHex", inPlace := ["internal/abi.NoEscape", "internal/bytealg.IndexByteString"], apart := false, narrowed := true }
def DigestHexUptoSaid : Prop := digestHexUptoRow.holds Try.pinned (OpenSpec.upto digestHexSpec)

/-- 'hornbooklaw03.DigestIs', WHERE WHAT IT READS IS OF BULK AT MOST 1048576: true; the input reads as it did. -/
def digestIsUptoRow : OpenClaim := { program := "ytpfjfihfnplhfaa", sum := "7da50c2a4753cc0740485cacedc88c4eb795a1704f9b9fee03716ddbf4b3abea", func := "hornbook/hornbooklaw03.DigestIs", spec := "digestIs", unfollowed := true, recurses := true, apart := false, narrowed := true }
def DigestIsUptoSaid : Prop := digestIsUptoRow.holds Try.pinned (OpenSpec.upto digestIsSpec)

/-- 'hornbooklaw03.DigestRoots', WHERE WHAT IT READS IS OF BULK AT MOST 1048576: true; the input reads as it did. -/
def digestRootsUptoRow : OpenClaim := { program := "ytpfjfihfnplhfaa", sum := "7da50c2a4753cc0740485cacedc88c4eb795a1704f9b9fee03716ddbf4b3abea", func := "hornbook/hornbooklaw03.DigestRoots", spec := "digestRoots", unfollowed := true, recurses := true, apart := false, narrowed := true }
def DigestRootsUptoSaid : Prop := digestRootsUptoRow.holds Try.pinned (OpenSpec.upto digestRootsSpec)

/-- 'hornbooklaw03.DigestParts', WHERE WHAT IT READS IS OF BULK AT MOST 1048576: true; the input reads as it did. -/
def digestPartsUptoRow : OpenClaim := { program := "ytpfjfihfnplhfaa", sum := "7da50c2a4753cc0740485cacedc88c4eb795a1704f9b9fee03716ddbf4b3abea", func := "hornbook/hornbooklaw03.DigestParts", spec := "digestParts", unfollowed := true, recurses := true, apart := false, narrowed := true }
def DigestPartsUptoSaid : Prop := digestPartsUptoRow.holds Try.pinned (OpenSpec.upto digestPartsSpec)

/-- 'hornbooklaw03.DigestApart', WHERE WHAT IT READS IS OF BULK AT MOST 1048576: true; the input reads as it did. -/
def digestApartUptoRow : OpenClaim := { program := "ytpfjfihfnplhfaa", sum := "7da50c2a4753cc0740485cacedc88c4eb795a1704f9b9fee03716ddbf4b3abea", func := "hornbook/hornbooklaw03.DigestApart", spec := "digestApart", unfollowed := true, recurses := true, apart := false, narrowed := true }
def DigestApartUptoSaid : Prop := digestApartUptoRow.holds Try.pinned (OpenSpec.upto digestApartSpec)

/-- 'hornbooklaw03.DigestBack', WHERE WHAT IT READS IS OF BULK AT MOST 1048576: true; the input reads as it did. -/
def digestBackUptoRow : OpenClaim := { program := "ytpfjfihfnplhfaa", sum := "7da50c2a4753cc0740485cacedc88c4eb795a1704f9b9fee03716ddbf4b3abea", func := "hornbook/hornbooklaw03.DigestBack", spec := "digestBack", inPlace := ["internal/abi.NoEscape", "internal/bytealg.IndexByteString"], unfollowed := true, recurses := true, apart := false, narrowed := true }
def DigestBackUptoSaid : Prop := digestBackUptoRow.holds Try.pinned (OpenSpec.upto digestBackSpec)

end Rows
end Go.Proofs.Ytpfjfihfnplhfaa
