/-
  No cell of these rows narrows 'for every input' (looked for: loops, veiled, ifaces, maps, wideKeys, modest, calm, conditions, laid).
  DERIVED. THE GIVEN ROWS OF THIS SEAT. 6 by the template 'for every input the law returns true; each argument reads behind the call as it read before'; 0 by the template 'total and deterministic' (their statements: YthaddhdlmlnclaaTotals.lean).
  GIVEN WITH THE SEED: the statements are not yours to turn. If you find one false, say at which input.
  Laid BY PROGRAM, IN A SANDBOX (cutbox-rows.mjs): the forced cells as the released guide's own fill.sh prints them over the translation 481f5c5fa634a0b3… (all of the seat's roots in one cut). By AI agents, Wed Nov 11 2026. No macro, syntax, notation, axiom, sorry.
-/
import Derived.Test.YthaddhdlmlnclaaChecked
import GoSem.Claim
import GoSem.ClaimJoined
import GoSem.ClaimMapViews
import Derived.JoinedTies
import Derived.KernelRfl
namespace Go.Proofs.Ythaddhdlmlnclaa
/- THE CELL 'sum', in the pinned program and in every row, IS THE sha256 OF THE DUMP (.gsa) THAT YthaddhdlmlnclaaProg.lean LOADS. Nothing in Lean hashes anything: it is a label: what it is worth is what the hold of that sum in a sandbox is worth. -/
noncomputable def Try.pinned : Pinned := { name := "ythaddhdlmlnclaa", sum := "481f5c5fa634a0b3ea3c548281bad39df4bdbddf4b454e0635546a08dda00674", checked := Try.checked }
namespace Rows
def none {H : Type} : Left H := { results := [], args := [] }

/-- 'hornbooklaw15.JournalLooks': WHATEVER THE INPUT: true; the input reads as it did. -/
def journalLooksSpec : ChangeSpec := { name := "journalLooks", fn := fun _ => fun
  | [d1, d2, d3, d4] => { results := [.lit (.bool true)], args := [d1, d2, d3, d4] }
  | _ => none }
def journalLooksRow : OpenClaim := { program := "ythaddhdlmlnclaa", sum := "481f5c5fa634a0b3ea3c548281bad39df4bdbddf4b454e0635546a08dda00674", func := "hornbook/hornbooklaw15.JournalLooks", spec := "journalLooks", apart := false }
def JournalLooksSaid : Prop := journalLooksRow.holds Try.pinned (OpenSpec.ofChange journalLooksSpec)

/-- ITS FALSE NEIGHBOUR: 'it returns false'. Refute it at one input. -/
def journalLooksWrong : ChangeSpec := { name := "journalLooks", fn := fun _ => fun
  | [d1, d2, d3, d4] => { results := [.lit (.bool false)], args := [d1, d2, d3, d4] }
  | _ => none }
def JournalLooksWrongFalsely : Prop := journalLooksRow.holds Try.pinned (OpenSpec.ofChange journalLooksWrong)

/-- 'hornbooklaw15.JournalCuts': WHATEVER THE INPUT: true; the input reads as it did. -/
def journalCutsSpec : ChangeSpec := { name := "journalCuts", fn := fun _ => fun
  | [d1, d2, d3, d4] => { results := [.lit (.bool true)], args := [d1, d2, d3, d4] }
  | _ => none }
def journalCutsRow : OpenClaim := { program := "ythaddhdlmlnclaa", sum := "481f5c5fa634a0b3ea3c548281bad39df4bdbddf4b454e0635546a08dda00674", func := "hornbook/hornbooklaw15.JournalCuts", spec := "journalCuts", apart := false }
def JournalCutsSaid : Prop := journalCutsRow.holds Try.pinned (OpenSpec.ofChange journalCutsSpec)

/-- ITS FALSE NEIGHBOUR: 'it returns false'. Refute it at one input. -/
def journalCutsWrong : ChangeSpec := { name := "journalCuts", fn := fun _ => fun
  | [d1, d2, d3, d4] => { results := [.lit (.bool false)], args := [d1, d2, d3, d4] }
  | _ => none }
def JournalCutsWrongFalsely : Prop := journalCutsRow.holds Try.pinned (OpenSpec.ofChange journalCutsWrong)

/-- 'hornbooklaw15.JournalMerges': WHATEVER THE INPUT: true; the input reads as it did. -/
def journalMergesSpec : ChangeSpec := { name := "journalMerges", fn := fun _ => fun
  | [d1, d2, d3, d4] => { results := [.lit (.bool true)], args := [d1, d2, d3, d4] }
  | _ => none }
def journalMergesRow : OpenClaim := { program := "ythaddhdlmlnclaa", sum := "481f5c5fa634a0b3ea3c548281bad39df4bdbddf4b454e0635546a08dda00674", func := "hornbook/hornbooklaw15.JournalMerges", spec := "journalMerges", apart := false }
def JournalMergesSaid : Prop := journalMergesRow.holds Try.pinned (OpenSpec.ofChange journalMergesSpec)

/-- ITS FALSE NEIGHBOUR: 'it returns false'. Refute it at one input. -/
def journalMergesWrong : ChangeSpec := { name := "journalMerges", fn := fun _ => fun
  | [d1, d2, d3, d4] => { results := [.lit (.bool false)], args := [d1, d2, d3, d4] }
  | _ => none }
def JournalMergesWrongFalsely : Prop := journalMergesRow.holds Try.pinned (OpenSpec.ofChange journalMergesWrong)

/-- 'hornbooklaw15.JournalFits': WHATEVER THE INPUT: true; the input reads as it did. -/
def journalFitsSpec : ChangeSpec := { name := "journalFits", fn := fun _ => fun
  | [d1, d2, d3, d4] => { results := [.lit (.bool true)], args := [d1, d2, d3, d4] }
  | _ => none }
def journalFitsRow : OpenClaim := { program := "ythaddhdlmlnclaa", sum := "481f5c5fa634a0b3ea3c548281bad39df4bdbddf4b454e0635546a08dda00674", func := "hornbook/hornbooklaw15.JournalFits", spec := "journalFits", apart := false }
def JournalFitsSaid : Prop := journalFitsRow.holds Try.pinned (OpenSpec.ofChange journalFitsSpec)

/-- ITS FALSE NEIGHBOUR: 'it returns false'. Refute it at one input. -/
def journalFitsWrong : ChangeSpec := { name := "journalFits", fn := fun _ => fun
  | [d1, d2, d3, d4] => { results := [.lit (.bool false)], args := [d1, d2, d3, d4] }
  | _ => none }
def JournalFitsWrongFalsely : Prop := journalFitsRow.holds Try.pinned (OpenSpec.ofChange journalFitsWrong)

/-- 'hornbooklaw15.JournalMatches': WHATEVER THE INPUT: true; the input reads as it did. -/
def journalMatchesSpec : ChangeSpec := { name := "journalMatches", fn := fun _ => fun
  | [d1, d2, d3, d4] => { results := [.lit (.bool true)], args := [d1, d2, d3, d4] }
  | _ => none }
def journalMatchesRow : OpenClaim := { program := "ythaddhdlmlnclaa", sum := "481f5c5fa634a0b3ea3c548281bad39df4bdbddf4b454e0635546a08dda00674", func := "hornbook/hornbooklaw15.JournalMatches", spec := "journalMatches", apart := false }
def JournalMatchesSaid : Prop := journalMatchesRow.holds Try.pinned (OpenSpec.ofChange journalMatchesSpec)

/-- ITS FALSE NEIGHBOUR: 'it returns false'. Refute it at one input. -/
def journalMatchesWrong : ChangeSpec := { name := "journalMatches", fn := fun _ => fun
  | [d1, d2, d3, d4] => { results := [.lit (.bool false)], args := [d1, d2, d3, d4] }
  | _ => none }
def JournalMatchesWrongFalsely : Prop := journalMatchesRow.holds Try.pinned (OpenSpec.ofChange journalMatchesWrong)

/-- 'hornbooklaw15.JournalCompacts': WHATEVER THE INPUT: true; the input reads as it did. -/
def journalCompactsSpec : ChangeSpec := { name := "journalCompacts", fn := fun _ => fun
  | [d1, d2, d3, d4, d5] => { results := [.lit (.bool true)], args := [d1, d2, d3, d4, d5] }
  | _ => none }
def journalCompactsRow : OpenClaim := { program := "ythaddhdlmlnclaa", sum := "481f5c5fa634a0b3ea3c548281bad39df4bdbddf4b454e0635546a08dda00674", func := "hornbook/hornbooklaw15.JournalCompacts", spec := "journalCompacts", apart := false }
def JournalCompactsSaid : Prop := journalCompactsRow.holds Try.pinned (OpenSpec.ofChange journalCompactsSpec)

/-- ITS FALSE NEIGHBOUR: 'it returns false'. Refute it at one input. -/
def journalCompactsWrong : ChangeSpec := { name := "journalCompacts", fn := fun _ => fun
  | [d1, d2, d3, d4, d5] => { results := [.lit (.bool false)], args := [d1, d2, d3, d4, d5] }
  | _ => none }
def JournalCompactsWrongFalsely : Prop := journalCompactsRow.holds Try.pinned (OpenSpec.ofChange journalCompactsWrong)

/- THE SECOND FORM. 'bulk': how many values and letters a reading holds, each counted each time it is reached (what is shared counts as often as it is met; a slice's spare places count too). A statement '..UptoSaid' is the law's where the arguments, and the package variables that the reading takes, are together of bulk at most 1048576: NARROWER than '..Said'. Prove '..Said' where nothing that the law and all that it calls make is longer than what came in: it says more and counts as full. Else prove '..UptoSaid'. A law counts once. -/
mutual
def uptoBulk {H : Type} : DataW H → Nat
  | .lit (.string bytes) => bytes.length + 1
  | .lit _ => 1
  | .nil => 1
  | .ptr d => uptoBulk d + 1
  | .slice elems spare => uptoBulkAll elems + uptoBulkAll spare + 1
  | .agg parts => uptoBulkAll parts + 1
  | .iface _ d => uptoBulk d + 1
  | .map entries => uptoBulkEntries entries + 1
  | .held _ => 1
def uptoBulkAll {H : Type} : List (DataW H) → Nat
  | [] => 0
  | d :: r => uptoBulk d + uptoBulkAll r
def uptoBulkEntries {H : Type} : List (Lit × DataW H) → Nat
  | [] => 0
  | x :: r => uptoBulkEntry x + uptoBulkEntries r
def uptoBulkEntry {H : Type} : Lit × DataW H → Nat
  | (.string bytes, d) => bytes.length + uptoBulk d + 1
  | (_, d) => uptoBulk d + 1
 end
def uptoSmall : (H : Type) → List (DataW H) → Bool := fun _ ds => decide (uptoBulkAll ds ≤ 1048576)
def OpenSpec.upto (s : _root_.Go.ChangeSpec) : _root_.Go.OpenSpec := { _root_.Go.OpenSpec.ofChange s with cond := some uptoSmall }

/-- 'hornbooklaw15.JournalLooks', WHERE WHAT IT READS IS OF BULK AT MOST 1048576: true; the input reads as it did. -/
def journalLooksUptoRow : OpenClaim := { program := "ythaddhdlmlnclaa", sum := "481f5c5fa634a0b3ea3c548281bad39df4bdbddf4b454e0635546a08dda00674", func := "hornbook/hornbooklaw15.JournalLooks", spec := "journalLooks", apart := false, narrowed := true }
def JournalLooksUptoSaid : Prop := journalLooksUptoRow.holds Try.pinned (OpenSpec.upto journalLooksSpec)

/-- 'hornbooklaw15.JournalCuts', WHERE WHAT IT READS IS OF BULK AT MOST 1048576: true; the input reads as it did. -/
def journalCutsUptoRow : OpenClaim := { program := "ythaddhdlmlnclaa", sum := "481f5c5fa634a0b3ea3c548281bad39df4bdbddf4b454e0635546a08dda00674", func := "hornbook/hornbooklaw15.JournalCuts", spec := "journalCuts", apart := false, narrowed := true }
def JournalCutsUptoSaid : Prop := journalCutsUptoRow.holds Try.pinned (OpenSpec.upto journalCutsSpec)

/-- 'hornbooklaw15.JournalMerges', WHERE WHAT IT READS IS OF BULK AT MOST 1048576: true; the input reads as it did. -/
def journalMergesUptoRow : OpenClaim := { program := "ythaddhdlmlnclaa", sum := "481f5c5fa634a0b3ea3c548281bad39df4bdbddf4b454e0635546a08dda00674", func := "hornbook/hornbooklaw15.JournalMerges", spec := "journalMerges", apart := false, narrowed := true }
def JournalMergesUptoSaid : Prop := journalMergesUptoRow.holds Try.pinned (OpenSpec.upto journalMergesSpec)

/-- 'hornbooklaw15.JournalFits', WHERE WHAT IT READS IS OF BULK AT MOST 1048576: true; the input reads as it did. -/
def journalFitsUptoRow : OpenClaim := { program := "ythaddhdlmlnclaa", sum := "481f5c5fa634a0b3ea3c548281bad39df4bdbddf4b454e0635546a08dda00674", func := "hornbook/hornbooklaw15.JournalFits", spec := "journalFits", apart := false, narrowed := true }
def JournalFitsUptoSaid : Prop := journalFitsUptoRow.holds Try.pinned (OpenSpec.upto journalFitsSpec)

/-- 'hornbooklaw15.JournalMatches', WHERE WHAT IT READS IS OF BULK AT MOST 1048576: true; the input reads as it did. -/
def journalMatchesUptoRow : OpenClaim := { program := "ythaddhdlmlnclaa", sum := "481f5c5fa634a0b3ea3c548281bad39df4bdbddf4b454e0635546a08dda00674", func := "hornbook/hornbooklaw15.JournalMatches", spec := "journalMatches", apart := false, narrowed := true }
def JournalMatchesUptoSaid : Prop := journalMatchesUptoRow.holds Try.pinned (OpenSpec.upto journalMatchesSpec)

/-- 'hornbooklaw15.JournalCompacts', WHERE WHAT IT READS IS OF BULK AT MOST 1048576: true; the input reads as it did. -/
def journalCompactsUptoRow : OpenClaim := { program := "ythaddhdlmlnclaa", sum := "481f5c5fa634a0b3ea3c548281bad39df4bdbddf4b454e0635546a08dda00674", func := "hornbook/hornbooklaw15.JournalCompacts", spec := "journalCompacts", apart := false, narrowed := true }
def JournalCompactsUptoSaid : Prop := journalCompactsUptoRow.holds Try.pinned (OpenSpec.upto journalCompactsSpec)

end Rows
end Go.Proofs.Ythaddhdlmlnclaa
