/-
  No cell of these rows narrows 'for every input' (looked for: loops, veiled, ifaces, maps, wideKeys, modest, calm, conditions, laid).
  DERIVED. THE GIVEN ROWS OF THIS SEAT. 4 by the template 'for every input the law returns true; each argument reads behind the call as it read before'; 0 by the template 'total and deterministic' (their statements: YtfafinnklniniaaTotals.lean).
  GIVEN WITH THE SEED: the statements are not yours to turn. If you find one false, say at which input.
  Laid BY PROGRAM, IN A SANDBOX (cutbox-rows.mjs): the forced cells as the released guide's own fill.sh prints them over the translation 7d483149b0279232… (all of the seat's roots in one cut). By AI agents, Wed Nov 11 2026. No macro, syntax, notation, axiom, sorry.
-/
import Derived.Test.YtfafinnklniniaaChecked
import GoSem.Claim
import GoSem.ClaimJoined
import GoSem.ClaimMapViews
import Derived.JoinedTies
import Derived.KernelRfl
namespace Go.Proofs.Ytfafinnklniniaa
/- THE CELL 'sum', in the pinned program and in every row, IS THE sha256 OF THE DUMP (.gsa) THAT YtfafinnklniniaaProg.lean LOADS. Nothing in Lean hashes anything: it is a label: what it is worth is what the hold of that sum in a sandbox is worth. -/
noncomputable def Try.pinned : Pinned := { name := "ytfafinnklniniaa", sum := "7d483149b0279232eb2bbe83655b86f039306fd31b94fd14a2aebea9e01fe17f", checked := Try.checked }
namespace Rows
def none {H : Type} : Left H := { results := [], args := [] }

/-- 'hornbooklaw08.PluralReads': WHATEVER THE INPUT: true; the input reads as it did. -/
def pluralReadsSpec : ChangeSpec := { name := "pluralReads", fn := fun _ => fun
  | [d] => { results := [.lit (.bool true)], args := [d] }
  | _ => none }
def pluralReadsRow : OpenClaim := { program := "ytfafinnklniniaa", sum := "7d483149b0279232eb2bbe83655b86f039306fd31b94fd14a2aebea9e01fe17f", func := "hornbook/hornbooklaw08.PluralReads", spec := "pluralReads", unfollowed := true, recurses := true, apart := false }
def PluralReadsSaid : Prop := pluralReadsRow.holds Try.pinned (OpenSpec.ofChange pluralReadsSpec)

/-- ITS FALSE NEIGHBOUR: 'it returns false'. Refute it at one input. -/
def pluralReadsWrong : ChangeSpec := { name := "pluralReads", fn := fun _ => fun
  | [d] => { results := [.lit (.bool false)], args := [d] }
  | _ => none }
def PluralReadsWrongFalsely : Prop := pluralReadsRow.holds Try.pinned (OpenSpec.ofChange pluralReadsWrong)

/-- 'hornbooklaw08.PluralHolds': WHATEVER THE INPUT: true; the input reads as it did. -/
def pluralHoldsSpec : ChangeSpec := { name := "pluralHolds", fn := fun _ => fun
  | [d1, d2] => { results := [.lit (.bool true)], args := [d1, d2] }
  | _ => none }
def pluralHoldsRow : OpenClaim := { program := "ytfafinnklniniaa", sum := "7d483149b0279232eb2bbe83655b86f039306fd31b94fd14a2aebea9e01fe17f", func := "hornbook/hornbooklaw08.PluralHolds", spec := "pluralHolds", unfollowed := true, recurses := true, apart := false }
def PluralHoldsSaid : Prop := pluralHoldsRow.holds Try.pinned (OpenSpec.ofChange pluralHoldsSpec)

/-- ITS FALSE NEIGHBOUR: 'it returns false'. Refute it at one input. -/
def pluralHoldsWrong : ChangeSpec := { name := "pluralHolds", fn := fun _ => fun
  | [d1, d2] => { results := [.lit (.bool false)], args := [d1, d2] }
  | _ => none }
def PluralHoldsWrongFalsely : Prop := pluralHoldsRow.holds Try.pinned (OpenSpec.ofChange pluralHoldsWrong)

/-- 'hornbooklaw08.PluralTells': WHATEVER THE INPUT: true; the input reads as it did. -/
def pluralTellsSpec : ChangeSpec := { name := "pluralTells", fn := fun _ => fun
  | [d1, d2] => { results := [.lit (.bool true)], args := [d1, d2] }
  | _ => none }
def pluralTellsRow : OpenClaim := { program := "ytfafinnklniniaa", sum := "7d483149b0279232eb2bbe83655b86f039306fd31b94fd14a2aebea9e01fe17f", func := "hornbook/hornbooklaw08.PluralTells", spec := "pluralTells", unfollowed := true, recurses := true, apart := false }
def PluralTellsSaid : Prop := pluralTellsRow.holds Try.pinned (OpenSpec.ofChange pluralTellsSpec)

/-- ITS FALSE NEIGHBOUR: 'it returns false'. Refute it at one input. -/
def pluralTellsWrong : ChangeSpec := { name := "pluralTells", fn := fun _ => fun
  | [d1, d2] => { results := [.lit (.bool false)], args := [d1, d2] }
  | _ => none }
def PluralTellsWrongFalsely : Prop := pluralTellsRow.holds Try.pinned (OpenSpec.ofChange pluralTellsWrong)

/-- 'hornbooklaw08.PluralTables': WHATEVER THE INPUT: true; the input reads as it did. -/
def pluralTablesSpec : ChangeSpec := { name := "pluralTables", fn := fun _ => fun
  | [d1, d2] => { results := [.lit (.bool true)], args := [d1, d2] }
  | _ => none }
def pluralTablesRow : OpenClaim := { program := "ytfafinnklniniaa", sum := "7d483149b0279232eb2bbe83655b86f039306fd31b94fd14a2aebea9e01fe17f", func := "hornbook/hornbooklaw08.PluralTables", spec := "pluralTables", unfollowed := true, recurses := true, apart := false }
def PluralTablesSaid : Prop := pluralTablesRow.holds Try.pinned (OpenSpec.ofChange pluralTablesSpec)

/-- ITS FALSE NEIGHBOUR: 'it returns false'. Refute it at one input. -/
def pluralTablesWrong : ChangeSpec := { name := "pluralTables", fn := fun _ => fun
  | [d1, d2] => { results := [.lit (.bool false)], args := [d1, d2] }
  | _ => none }
def PluralTablesWrongFalsely : Prop := pluralTablesRow.holds Try.pinned (OpenSpec.ofChange pluralTablesWrong)

/- THE SECOND FORM. 'bulk': how many values and letters a reading holds, each counted each time it is reached (what is shared counts as often as it is met; a slice's spare places count too). A statement '..UptoSaid' is the law's where the arguments, and the package variables that the reading takes, are together of bulk at most 1048576: NARROWER than '..Said'. Prove '..Said' where nothing that the law and all that it calls make is longer than what came in: it says more and counts as full. Else prove '..UptoSaid'. A law counts once. -/
mutual
def uptoBulk {H : Type} : DataW H → Nat
  | .lit (.string bytes) => bytes.length + 1
  | .lit _ => 1
  | .nil => 1
  | .ptr d => uptoBulk d + 1
  | .slice elems spare => uptoBulkAll elems + uptoBulkAll spare + 1
  | .agg parts => uptoBulkAll parts + 1
  | .iface _ d => uptoBulk d + 1
  | .map entries => uptoBulkEntries entries + 1
  | .held _ => 1
def uptoBulkAll {H : Type} : List (DataW H) → Nat
  | [] => 0
  | d :: r => uptoBulk d + uptoBulkAll r
def uptoBulkEntries {H : Type} : List (Lit × DataW H) → Nat
  | [] => 0
  | x :: r => uptoBulkEntry x + uptoBulkEntries r
def uptoBulkEntry {H : Type} : Lit × DataW H → Nat
  | (.string bytes, d) => bytes.length + uptoBulk d + 1
  | (_, d) => uptoBulk d + 1
 end
def uptoSmall : (H : Type) → List (DataW H) → Bool := fun _ ds => decide (uptoBulkAll ds ≤ 1048576)
def OpenSpec.upto (s : _root_.Go.ChangeSpec) : _root_.Go.OpenSpec := { _root_.Go.OpenSpec.ofChange s with cond := some uptoSmall }

/-- 'hornbooklaw08.PluralReads', WHERE WHAT IT READS IS OF BULK AT MOST 1048576: true; the input reads as it did. -/
def pluralReadsUptoRow : OpenClaim := { program := "ytfafinnklniniaa", sum := "7d483149b0279232eb2bbe83655b86f039306fd31b94fd14a2aebea9e01fe17f", func := "hornbook/hornbooklaw08.PluralReads", spec := "pluralReads", unfollowed := true, recurses := true, apart := false, narrowed := true }
def PluralReadsUptoSaid : Prop := pluralReadsUptoRow.holds Try.pinned (OpenSpec.upto pluralReadsSpec)

/-- 'hornbooklaw08.PluralHolds', WHERE WHAT IT READS IS OF BULK AT MOST 1048576: true; the input reads as it did. -/
def pluralHoldsUptoRow : OpenClaim := { program := "ytfafinnklniniaa", sum := "7d483149b0279232eb2bbe83655b86f039306fd31b94fd14a2aebea9e01fe17f", func := "hornbook/hornbooklaw08.PluralHolds", spec := "pluralHolds", unfollowed := true, recurses := true, apart := false, narrowed := true }
def PluralHoldsUptoSaid : Prop := pluralHoldsUptoRow.holds Try.pinned (OpenSpec.upto pluralHoldsSpec)

/-- 'hornbooklaw08.PluralTells', WHERE WHAT IT READS IS OF BULK AT MOST 1048576: true; the input reads as it did. -/
def pluralTellsUptoRow : OpenClaim := { program := "ytfafinnklniniaa", sum := "7d483149b0279232eb2bbe83655b86f039306fd31b94fd14a2aebea9e01fe17f", func := "hornbook/hornbooklaw08.PluralTells", spec := "pluralTells", unfollowed := true, recurses := true, apart := false, narrowed := true }
def PluralTellsUptoSaid : Prop := pluralTellsUptoRow.holds Try.pinned (OpenSpec.upto pluralTellsSpec)

/-- 'hornbooklaw08.PluralTables', WHERE WHAT IT READS IS OF BULK AT MOST 1048576: true; the input reads as it did. -/
def pluralTablesUptoRow : OpenClaim := { program := "ytfafinnklniniaa", sum := "7d483149b0279232eb2bbe83655b86f039306fd31b94fd14a2aebea9e01fe17f", func := "hornbook/hornbooklaw08.PluralTables", spec := "pluralTables", unfollowed := true, recurses := true, apart := false, narrowed := true }
def PluralTablesUptoSaid : Prop := pluralTablesUptoRow.holds Try.pinned (OpenSpec.upto pluralTablesSpec)

end Rows
end Go.Proofs.Ytfafinnklniniaa
