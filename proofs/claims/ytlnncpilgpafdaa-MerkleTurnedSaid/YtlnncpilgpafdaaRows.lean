/-
  No cell of these rows narrows 'for every input' (looked for: loops, veiled, ifaces, maps, wideKeys, modest, calm, conditions, laid).
  DERIVED. THE GIVEN ROWS OF THIS SEAT. 6 by the template 'for every input the law returns true; each argument reads behind the call as it read before'; 0 by the template 'total and deterministic' (their statements: YtlnncpilgpafdaaTotals.lean).
  GIVEN WITH THE SEED: the statements are not yours to turn. If you find one false, say at which input.
  Laid BY PROGRAM, IN A SANDBOX (cutbox-rows.mjs): the forced cells as the released guide's own fill.sh prints them over the translation 0d8bdc4e617e5d12… (all of the seat's roots in one cut). By AI agents, Wed Nov 11 2026. No macro, syntax, notation, axiom, sorry.
-/
import Derived.Test.YtlnncpilgpafdaaChecked
import GoSem.Claim
import GoSem.ClaimJoined
import GoSem.ClaimMapViews
import Derived.JoinedTies
import Derived.KernelRfl
namespace Go.Proofs.Ytlnncpilgpafdaa
/- THE CELL 'sum', in the pinned program and in every row, IS THE sha256 OF THE DUMP (.gsa) THAT YtlnncpilgpafdaaProg.lean LOADS. Nothing in Lean hashes anything: it is a label: what it is worth is what the hold of that sum in a sandbox is worth. -/
noncomputable def Try.pinned : Pinned := { name := "ytlnncpilgpafdaa", sum := "0d8bdc4e617e5d12911246293b98f73886e81ca6c9216ef12a96074d1f794145", checked := Try.checked }
namespace Rows
def none {H : Type} : Left H := { results := [], args := [] }

/-- 'hornbooklaw05.MerkleChecks': WHATEVER THE INPUT: true; the input reads as it did. -/
def merkleChecksSpec : ChangeSpec := { name := "merkleChecks", fn := fun _ => fun
  | [d1, d2, d3, d4, d5] => { results := [.lit (.bool true)], args := [d1, d2, d3, d4, d5] }
  | _ => none }
def merkleChecksRow : OpenClaim := { program := "ytlnncpilgpafdaa", sum := "0d8bdc4e617e5d12911246293b98f73886e81ca6c9216ef12a96074d1f794145", func := "hornbook/hornbooklaw05.MerkleChecks", spec := "merkleChecks", unfollowed := true, recurses := true, apart := false }
def MerkleChecksSaid : Prop := merkleChecksRow.holds Try.pinned (OpenSpec.ofChange merkleChecksSpec)

/-- ITS FALSE NEIGHBOUR: 'it returns false'. Refute it at one input. -/
def merkleChecksWrong : ChangeSpec := { name := "merkleChecks", fn := fun _ => fun
  | [d1, d2, d3, d4, d5] => { results := [.lit (.bool false)], args := [d1, d2, d3, d4, d5] }
  | _ => none }
def MerkleChecksWrongFalsely : Prop := merkleChecksRow.holds Try.pinned (OpenSpec.ofChange merkleChecksWrong)

/-- 'hornbooklaw05.MerkleProves': WHATEVER THE INPUT: true; the input reads as it did. -/
def merkleProvesSpec : ChangeSpec := { name := "merkleProves", fn := fun _ => fun
  | [d1, d2] => { results := [.lit (.bool true)], args := [d1, d2] }
  | _ => none }
def merkleProvesRow : OpenClaim := { program := "ytlnncpilgpafdaa", sum := "0d8bdc4e617e5d12911246293b98f73886e81ca6c9216ef12a96074d1f794145", func := "hornbook/hornbooklaw05.MerkleProves", spec := "merkleProves", unfollowed := true, recurses := true, apart := false }
def MerkleProvesSaid : Prop := merkleProvesRow.holds Try.pinned (OpenSpec.ofChange merkleProvesSpec)

/-- ITS FALSE NEIGHBOUR: 'it returns false'. Refute it at one input. -/
def merkleProvesWrong : ChangeSpec := { name := "merkleProves", fn := fun _ => fun
  | [d1, d2] => { results := [.lit (.bool false)], args := [d1, d2] }
  | _ => none }
def MerkleProvesWrongFalsely : Prop := merkleProvesRow.holds Try.pinned (OpenSpec.ofChange merkleProvesWrong)

/-- 'hornbooklaw05.MerkleRoots': WHATEVER THE INPUT: true; the input reads as it did. -/
def merkleRootsSpec : ChangeSpec := { name := "merkleRoots", fn := fun _ => fun
  | [d1, d2] => { results := [.lit (.bool true)], args := [d1, d2] }
  | _ => none }
def merkleRootsRow : OpenClaim := { program := "ytlnncpilgpafdaa", sum := "0d8bdc4e617e5d12911246293b98f73886e81ca6c9216ef12a96074d1f794145", func := "hornbook/hornbooklaw05.MerkleRoots", spec := "merkleRoots", unfollowed := true, recurses := true, apart := false }
def MerkleRootsSaid : Prop := merkleRootsRow.holds Try.pinned (OpenSpec.ofChange merkleRootsSpec)

/-- ITS FALSE NEIGHBOUR: 'it returns false'. Refute it at one input. -/
def merkleRootsWrong : ChangeSpec := { name := "merkleRoots", fn := fun _ => fun
  | [d1, d2] => { results := [.lit (.bool false)], args := [d1, d2] }
  | _ => none }
def MerkleRootsWrongFalsely : Prop := merkleRootsRow.holds Try.pinned (OpenSpec.ofChange merkleRootsWrong)

/-- 'hornbooklaw05.MerkleSound': WHATEVER THE INPUT: true; the input reads as it did. -/
def merkleSoundSpec : ChangeSpec := { name := "merkleSound", fn := fun _ => fun
  | [d1, d2, d3, d4, d5] => { results := [.lit (.bool true)], args := [d1, d2, d3, d4, d5] }
  | _ => none }
def merkleSoundRow : OpenClaim := { program := "ytlnncpilgpafdaa", sum := "0d8bdc4e617e5d12911246293b98f73886e81ca6c9216ef12a96074d1f794145", func := "hornbook/hornbooklaw05.MerkleSound", spec := "merkleSound", unfollowed := true, recurses := true, apart := false }
def MerkleSoundSaid : Prop := merkleSoundRow.holds Try.pinned (OpenSpec.ofChange merkleSoundSpec)

/-- ITS FALSE NEIGHBOUR: 'it returns false'. Refute it at one input. -/
def merkleSoundWrong : ChangeSpec := { name := "merkleSound", fn := fun _ => fun
  | [d1, d2, d3, d4, d5] => { results := [.lit (.bool false)], args := [d1, d2, d3, d4, d5] }
  | _ => none }
def MerkleSoundWrongFalsely : Prop := merkleSoundRow.holds Try.pinned (OpenSpec.ofChange merkleSoundWrong)

/-- 'hornbooklaw05.MerkleShows': WHATEVER THE INPUT: true; the input reads as it did. -/
def merkleShowsSpec : ChangeSpec := { name := "merkleShows", fn := fun _ => fun
  | [d] => { results := [.lit (.bool true)], args := [d] }
  | _ => none }
def merkleShowsRow : OpenClaim := { program := "ytlnncpilgpafdaa", sum := "0d8bdc4e617e5d12911246293b98f73886e81ca6c9216ef12a96074d1f794145", func := "hornbook/hornbooklaw05.MerkleShows", spec := "merkleShows", unfollowed := true, recurses := true, apart := false }
def MerkleShowsSaid : Prop := merkleShowsRow.holds Try.pinned (OpenSpec.ofChange merkleShowsSpec)

/-- ITS FALSE NEIGHBOUR: 'it returns false'. Refute it at one input. -/
def merkleShowsWrong : ChangeSpec := { name := "merkleShows", fn := fun _ => fun
  | [d] => { results := [.lit (.bool false)], args := [d] }
  | _ => none }
def MerkleShowsWrongFalsely : Prop := merkleShowsRow.holds Try.pinned (OpenSpec.ofChange merkleShowsWrong)

/-- 'hornbooklaw05.MerkleTurned': WHATEVER THE INPUT: true; the input reads as it did. -/
def merkleTurnedSpec : ChangeSpec := { name := "merkleTurned", fn := fun _ => fun
  | [d1, d2, d3, d4] => { results := [.lit (.bool true)], args := [d1, d2, d3, d4] }
  | _ => none }
def merkleTurnedRow : OpenClaim := { program := "ytlnncpilgpafdaa", sum := "0d8bdc4e617e5d12911246293b98f73886e81ca6c9216ef12a96074d1f794145", func := "hornbook/hornbooklaw05.MerkleTurned", spec := "merkleTurned", unfollowed := true, recurses := true, apart := false }
def MerkleTurnedSaid : Prop := merkleTurnedRow.holds Try.pinned (OpenSpec.ofChange merkleTurnedSpec)

/-- ITS FALSE NEIGHBOUR: 'it returns false'. Refute it at one input. -/
def merkleTurnedWrong : ChangeSpec := { name := "merkleTurned", fn := fun _ => fun
  | [d1, d2, d3, d4] => { results := [.lit (.bool false)], args := [d1, d2, d3, d4] }
  | _ => none }
def MerkleTurnedWrongFalsely : Prop := merkleTurnedRow.holds Try.pinned (OpenSpec.ofChange merkleTurnedWrong)

/- THE SECOND FORM. 'bulk': how many values and letters a reading holds, each counted each time it is reached (what is shared counts as often as it is met; a slice's spare places count too). A statement '..UptoSaid' is the law's where the arguments, and the package variables that the reading takes, are together of bulk at most 1048576: NARROWER than '..Said'. Prove '..Said' where nothing that the law and all that it calls make is longer than what came in: it says more and counts as full. Else prove '..UptoSaid'. A law counts once. -/
mutual
def uptoBulk {H : Type} : DataW H → Nat
  | .lit (.string bytes) => bytes.length + 1
  | .lit _ => 1
  | .nil => 1
  | .ptr d => uptoBulk d + 1
  | .slice elems spare => uptoBulkAll elems + uptoBulkAll spare + 1
  | .agg parts => uptoBulkAll parts + 1
  | .iface _ d => uptoBulk d + 1
  | .map entries => uptoBulkEntries entries + 1
  | .held _ => 1
def uptoBulkAll {H : Type} : List (DataW H) → Nat
  | [] => 0
  | d :: r => uptoBulk d + uptoBulkAll r
def uptoBulkEntries {H : Type} : List (Lit × DataW H) → Nat
  | [] => 0
  | x :: r => uptoBulkEntry x + uptoBulkEntries r
def uptoBulkEntry {H : Type} : Lit × DataW H → Nat
  | (.string bytes, d) => bytes.length + uptoBulk d + 1
  | (_, d) => uptoBulk d + 1
 end
def uptoSmall : (H : Type) → List (DataW H) → Bool := fun _ ds => decide (uptoBulkAll ds ≤ 1048576)
def OpenSpec.upto (s : _root_.Go.ChangeSpec) : _root_.Go.OpenSpec := { _root_.Go.OpenSpec.ofChange s with cond := some uptoSmall }

/-- 'hornbooklaw05.MerkleChecks', WHERE WHAT IT READS IS OF BULK AT MOST 1048576: true; the input reads as it did. -/
def merkleChecksUptoRow : OpenClaim := { program := "ytlnncpilgpafdaa", sum := "0d8bdc4e617e5d12911246293b98f73886e81ca6c9216ef12a96074d1f794145", func := "hornbook/hornbooklaw05.MerkleChecks", spec := "merkleChecks", unfollowed := true, recurses := true, apart := false, narrowed := true }
def MerkleChecksUptoSaid : Prop := merkleChecksUptoRow.holds Try.pinned (OpenSpec.upto merkleChecksSpec)

/-- 'hornbooklaw05.MerkleProves', WHERE WHAT IT READS IS OF BULK AT MOST 1048576: true; the input reads as it did. -/
def merkleProvesUptoRow : OpenClaim := { program := "ytlnncpilgpafdaa", sum := "0d8bdc4e617e5d12911246293b98f73886e81ca6c9216ef12a96074d1f794145", func := "hornbook/hornbooklaw05.MerkleProves", spec := "merkleProves", unfollowed := true, recurses := true, apart := false, narrowed := true }
def MerkleProvesUptoSaid : Prop := merkleProvesUptoRow.holds Try.pinned (OpenSpec.upto merkleProvesSpec)

/-- 'hornbooklaw05.MerkleRoots', WHERE WHAT IT READS IS OF BULK AT MOST 1048576: true; the input reads as it did. -/
def merkleRootsUptoRow : OpenClaim := { program := "ytlnncpilgpafdaa", sum := "0d8bdc4e617e5d12911246293b98f73886e81ca6c9216ef12a96074d1f794145", func := "hornbook/hornbooklaw05.MerkleRoots", spec := "merkleRoots", unfollowed := true, recurses := true, apart := false, narrowed := true }
def MerkleRootsUptoSaid : Prop := merkleRootsUptoRow.holds Try.pinned (OpenSpec.upto merkleRootsSpec)

/-- 'hornbooklaw05.MerkleSound', WHERE WHAT IT READS IS OF BULK AT MOST 1048576: true; the input reads as it did. -/
def merkleSoundUptoRow : OpenClaim := { program := "ytlnncpilgpafdaa", sum := "0d8bdc4e617e5d12911246293b98f73886e81ca6c9216ef12a96074d1f794145", func := "hornbook/hornbooklaw05.MerkleSound", spec := "merkleSound", unfollowed := true, recurses := true, apart := false, narrowed := true }
def MerkleSoundUptoSaid : Prop := merkleSoundUptoRow.holds Try.pinned (OpenSpec.upto merkleSoundSpec)

/-- 'hornbooklaw05.MerkleShows', WHERE WHAT IT READS IS OF BULK AT MOST 1048576: true; the input reads as it did. -/
def merkleShowsUptoRow : OpenClaim := { program := "ytlnncpilgpafdaa", sum := "0d8bdc4e617e5d12911246293b98f73886e81ca6c9216ef12a96074d1f794145", func := "hornbook/hornbooklaw05.MerkleShows", spec := "merkleShows", unfollowed := true, recurses := true, apart := false, narrowed := true }
def MerkleShowsUptoSaid : Prop := merkleShowsUptoRow.holds Try.pinned (OpenSpec.upto merkleShowsSpec)

/-- 'hornbooklaw05.MerkleTurned', WHERE WHAT IT READS IS OF BULK AT MOST 1048576: true; the input reads as it did. -/
def merkleTurnedUptoRow : OpenClaim := { program := "ytlnncpilgpafdaa", sum := "0d8bdc4e617e5d12911246293b98f73886e81ca6c9216ef12a96074d1f794145", func := "hornbook/hornbooklaw05.MerkleTurned", spec := "merkleTurned", unfollowed := true, recurses := true, apart := false, narrowed := true }
def MerkleTurnedUptoSaid : Prop := merkleTurnedUptoRow.holds Try.pinned (OpenSpec.upto merkleTurnedSpec)

end Rows
end Go.Proofs.Ytlnncpilgpafdaa
