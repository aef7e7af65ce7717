/-
  No cell of these rows narrows 'for every input' (looked for: loops, veiled, ifaces, maps, wideKeys, modest, calm, conditions, laid).
  DERIVED. THE GIVEN ROWS OF THIS SEAT. 4 by the template 'for every input the law returns true; each argument reads behind the call as it read before'; 0 by the template 'total and deterministic' (their statements: YtngaeencnklbdaaTotals.lean).
  GIVEN WITH THE SEED: the statements are not yours to turn. If you find one false, say at which input.
  Laid BY PROGRAM, IN A SANDBOX (cutbox-rows.mjs): the forced cells as the released guide's own fill.sh prints them over the translation 4485cdaebd9747f7… (all of the seat's roots in one cut). By AI agents, Wed Nov 11 2026. No macro, syntax, notation, axiom, sorry.
-/
import Derived.Test.YtngaeencnklbdaaChecked
import GoSem.Claim
import GoSem.ClaimJoined
import GoSem.ClaimMapViews
import Derived.JoinedTies
import Derived.KernelRfl
namespace Go.Proofs.Ytngaeencnklbdaa
/- THE CELL 'sum', in the pinned program and in every row, IS THE sha256 OF THE DUMP (.gsa) THAT YtngaeencnklbdaaProg.lean LOADS. Nothing in Lean hashes anything: it is a label: what it is worth is what the hold of that sum in a sandbox is worth. -/
noncomputable def Try.pinned : Pinned := { name := "ytngaeencnklbdaa", sum := "4485cdaebd9747f77c5458fc91b7f28e61d101cdd520e4a34ce7b6026523a538", checked := Try.checked }
namespace Rows
def none {H : Type} : Left H := { results := [], args := [] }

/-- 'hornbooklaw06.StorePuts': WHATEVER THE INPUT: true; the input reads as it did. -/
def storePutsSpec : ChangeSpec := { name := "storePuts", fn := fun _ => fun
  | [d1, d2] => { results := [.lit (.bool true)], args := [d1, d2] }
  | _ => none }
def storePutsRow : OpenClaim := { program := "ytngaeencnklbdaa", sum := "4485cdaebd9747f77c5458fc91b7f28e61d101cdd520e4a34ce7b6026523a538", func := "hornbook/hornbooklaw06.StorePuts", spec := "storePuts", inPlace := ["slices.overlaps[hornbook/api.Item]"], unfollowed := true, recurses := true, apart := false }
def StorePutsSaid : Prop := storePutsRow.holds Try.pinned (OpenSpec.ofChange storePutsSpec)

/-- ITS FALSE NEIGHBOUR: 'it returns false'. Refute it at one input. -/
def storePutsWrong : ChangeSpec := { name := "storePuts", fn := fun _ => fun
  | [d1, d2] => { results := [.lit (.bool false)], args := [d1, d2] }
  | _ => none }
def StorePutsWrongFalsely : Prop := storePutsRow.holds Try.pinned (OpenSpec.ofChange storePutsWrong)

/-- 'hornbooklaw06.StoreRights': WHATEVER THE INPUT: true; the input reads as it did. -/
def storeRightsSpec : ChangeSpec := { name := "storeRights", fn := fun _ => fun
  | [d] => { results := [.lit (.bool true)], args := [d] }
  | _ => none }
def storeRightsRow : OpenClaim := { program := "ytngaeencnklbdaa", sum := "4485cdaebd9747f77c5458fc91b7f28e61d101cdd520e4a34ce7b6026523a538", func := "hornbook/hornbooklaw06.StoreRights", spec := "storeRights", inPlace := ["slices.overlaps[hornbook/api.Item]"], unfollowed := true, recurses := true, apart := false }
def StoreRightsSaid : Prop := storeRightsRow.holds Try.pinned (OpenSpec.ofChange storeRightsSpec)

/-- ITS FALSE NEIGHBOUR: 'it returns false'. Refute it at one input. -/
def storeRightsWrong : ChangeSpec := { name := "storeRights", fn := fun _ => fun
  | [d] => { results := [.lit (.bool false)], args := [d] }
  | _ => none }
def StoreRightsWrongFalsely : Prop := storeRightsRow.holds Try.pinned (OpenSpec.ofChange storeRightsWrong)

/-- 'hornbooklaw06.StoreGets': WHATEVER THE INPUT: true; the input reads as it did. -/
def storeGetsSpec : ChangeSpec := { name := "storeGets", fn := fun _ => fun
  | [d1, d2] => { results := [.lit (.bool true)], args := [d1, d2] }
  | _ => none }
def storeGetsRow : OpenClaim := { program := "ytngaeencnklbdaa", sum := "4485cdaebd9747f77c5458fc91b7f28e61d101cdd520e4a34ce7b6026523a538", func := "hornbook/hornbooklaw06.StoreGets", spec := "storeGets", inPlace := ["slices.overlaps[hornbook/api.Item]"], unfollowed := true, recurses := true, apart := false }
def StoreGetsSaid : Prop := storeGetsRow.holds Try.pinned (OpenSpec.ofChange storeGetsSpec)

/-- ITS FALSE NEIGHBOUR: 'it returns false'. Refute it at one input. -/
def storeGetsWrong : ChangeSpec := { name := "storeGets", fn := fun _ => fun
  | [d1, d2] => { results := [.lit (.bool false)], args := [d1, d2] }
  | _ => none }
def StoreGetsWrongFalsely : Prop := storeGetsRow.holds Try.pinned (OpenSpec.ofChange storeGetsWrong)

/-- 'hornbooklaw06.StoreDrops': WHATEVER THE INPUT: true; the input reads as it did. -/
def storeDropsSpec : ChangeSpec := { name := "storeDrops", fn := fun _ => fun
  | [d1, d2] => { results := [.lit (.bool true)], args := [d1, d2] }
  | _ => none }
def storeDropsRow : OpenClaim := { program := "ytngaeencnklbdaa", sum := "4485cdaebd9747f77c5458fc91b7f28e61d101cdd520e4a34ce7b6026523a538", func := "hornbook/hornbooklaw06.StoreDrops", spec := "storeDrops", inPlace := ["slices.overlaps[hornbook/api.Item]"], unfollowed := true, recurses := true, apart := false }
def StoreDropsSaid : Prop := storeDropsRow.holds Try.pinned (OpenSpec.ofChange storeDropsSpec)

/-- ITS FALSE NEIGHBOUR: 'it returns false'. Refute it at one input. -/
def storeDropsWrong : ChangeSpec := { name := "storeDrops", fn := fun _ => fun
  | [d1, d2] => { results := [.lit (.bool false)], args := [d1, d2] }
  | _ => none }
def StoreDropsWrongFalsely : Prop := storeDropsRow.holds Try.pinned (OpenSpec.ofChange storeDropsWrong)

/- THE SECOND FORM. 'bulk': how many values and letters a reading holds, each counted each time it is reached (what is shared counts as often as it is met; a slice's spare places count too). A statement '..UptoSaid' is the law's where the arguments, and the package variables that the reading takes, are together of bulk at most 1048576: NARROWER than '..Said'. Prove '..Said' where nothing that the law and all that it calls make is longer than what came in: it says more and counts as full. Else prove '..UptoSaid'. A law counts once. -/
mutual
def uptoBulk {H : Type} : DataW H → Nat
  | .lit (.string bytes) => bytes.length + 1
  | .lit _ => 1
  | .nil => 1
  | .ptr d => uptoBulk d + 1
  | .slice elems spare => uptoBulkAll elems + uptoBulkAll spare + 1
  | .agg parts => uptoBulkAll parts + 1
  | .iface _ d => uptoBulk d + 1
  | .map entries => uptoBulkEntries entries + 1
  | .held _ => 1
def uptoBulkAll {H : Type} : List (DataW H) → Nat
  | [] => 0
  | d :: r => uptoBulk d + uptoBulkAll r
def uptoBulkEntries {H : Type} : List (Lit × DataW H) → Nat
  | [] => 0
  | x :: r => uptoBulkEntry x + uptoBulkEntries r
def uptoBulkEntry {H : Type} : Lit × DataW H → Nat
  | (.string bytes, d) => bytes.length + uptoBulk d + 1
  | (_, d) => uptoBulk d + 1
 end
def uptoSmall : (H : Type) → List (DataW H) → Bool := fun _ ds => decide (uptoBulkAll ds ≤ 1048576)
def OpenSpec.upto (s : _root_.Go.ChangeSpec) : _root_.Go.OpenSpec := { _root_.Go.OpenSpec.ofChange s with cond := some uptoSmall }

/-- 'hornbooklaw06.StorePuts', WHERE WHAT IT READS IS OF BULK AT MOST 1048576: true; the input reads as it did. -/
def storePutsUptoRow : OpenClaim := { program := "ytngaeencnklbdaa", sum := "4485cdaebd9747f77c5458fc91b7f28e61d101cdd520e4a34ce7b6026523a538", func := "hornbook/hornbooklaw06.StorePuts", spec := "storePuts", inPlace := ["slices.overlaps[hornbook/api.Item]"], unfollowed := true, recurses := true, apart := false, narrowed := true }
def StorePutsUptoSaid : Prop := storePutsUptoRow.holds Try.pinned (OpenSpec.upto storePutsSpec)

/-- 'hornbooklaw06.StoreRights', WHERE WHAT IT READS IS OF BULK AT MOST 1048576: true; the input reads as it did. -/
def storeRightsUptoRow : OpenClaim := { program := "ytngaeencnklbdaa", sum := "4485cdaebd9747f77c5458fc91b7f28e61d101cdd520e4a34ce7b6026523a538", func := "hornbook/hornbooklaw06.StoreRights", spec := "storeRights", inPlace := ["slices.overlaps[hornbook/api.Item]"], unfollowed := true, recurses := true, apart := false, narrowed := true }
def StoreRightsUptoSaid : Prop := storeRightsUptoRow.holds Try.pinned (OpenSpec.upto storeRightsSpec)

/-- 'hornbooklaw06.StoreGets', WHERE WHAT IT READS IS OF BULK AT MOST 1048576: true; the input reads as it did. -/
def storeGetsUptoRow : OpenClaim := { program := "ytngaeencnklbdaa", sum := "4485cdaebd9747f77c5458fc91b7f28e61d101cdd520e4a34ce7b6026523a538", func := "hornbook/hornbooklaw06.StoreGets", spec := "storeGets", inPlace := ["slices.overlaps[hornbook/api.Item]"], unfollowed := true, recurses := true, apart := false, narrowed := true }
def StoreGetsUptoSaid : Prop := storeGetsUptoRow.holds Try.pinned (OpenSpec.upto storeGetsSpec)

/-- 'hornbooklaw06.StoreDrops', WHERE WHAT IT READS IS OF BULK AT MOST 1048576: true; the input reads as it did. -/
def storeDropsUptoRow : OpenClaim := { program := "ytngaeencnklbdaa", sum := "4485cdaebd9747f77c5458fc91b7f28e61d101cdd520e4a34ce7b6026523a538", func := "hornbook/hornbooklaw06.StoreDrops", spec := "storeDrops", inPlace := ["slices.overlaps[hornbook/api.Item]"], unfollowed := true, recurses := true, apart := false, narrowed := true }
def StoreDropsUptoSaid : Prop := storeDropsUptoRow.holds Try.pinned (OpenSpec.upto storeDropsSpec)

end Rows
end Go.Proofs.Ytngaeencnklbdaa
