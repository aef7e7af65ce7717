/-
  No cell of these rows narrows 'for every input' (looked for: loops, veiled, ifaces, maps, wideKeys, modest, calm, conditions, laid).
  DERIVED. THE GIVEN ROWS OF THIS SEAT. 3 by the template 'for every input the law returns true; each argument reads behind the call as it read before'; 0 by the template 'total and deterministic' (their statements: YtfaigomhnhgjfaaTotals.lean).
  GIVEN WITH THE SEED: the statements are not yours to turn. If you find one false, say at which input.
  Laid BY PROGRAM, IN A SANDBOX (cutbox-rows.mjs): the forced cells as the released guide's own fill.sh prints them over the translation 6a20f4e1c2d63947… (all of the seat's roots in one cut). By AI agents, Wed Nov 11 2026. No macro, syntax, notation, axiom, sorry.
-/
import Derived.Test.YtfaigomhnhgjfaaChecked
import GoSem.Claim
import GoSem.ClaimJoined
import GoSem.ClaimMapViews
import Derived.JoinedTies
import Derived.KernelRfl
namespace Go.Proofs.Ytfaigomhnhgjfaa
/- THE CELL 'sum', in the pinned program and in every row, IS THE sha256 OF THE DUMP (.gsa) THAT YtfaigomhnhgjfaaProg.lean LOADS. Nothing in Lean hashes anything: it is a label: what it is worth is what the hold of that sum in a sandbox is worth. -/
noncomputable def Try.pinned : Pinned := { name := "ytfaigomhnhgjfaa", sum := "6a20f4e1c2d63947d1a49206986aaa3246f05d228ad6624751a33f889c06f883", checked := Try.checked }
namespace Rows
def none {H : Type} : Left H := { results := [], args := [] }

/-- 'hornbooklaw16.QuorumWins': WHATEVER THE INPUT: true; the input reads as it did. -/
def quorumWinsSpec : ChangeSpec := { name := "quorumWins", fn := fun _ => fun
  | [d1, d2] => { results := [.lit (.bool true)], args := [d1, d2] }
  | _ => none }
def quorumWinsRow : OpenClaim := { program := "ytfaigomhnhgjfaa", sum := "6a20f4e1c2d63947d1a49206986aaa3246f05d228ad6624751a33f889c06f883", func := "hornbook/hornbooklaw16.QuorumWins", spec := "quorumWins", unfollowed := true, recurses := true, apart := false }
def QuorumWinsSaid : Prop := quorumWinsRow.holds Try.pinned (OpenSpec.ofChange quorumWinsSpec)

/-- ITS FALSE NEIGHBOUR: 'it returns false'. Refute it at one input. -/
def quorumWinsWrong : ChangeSpec := { name := "quorumWins", fn := fun _ => fun
  | [d1, d2] => { results := [.lit (.bool false)], args := [d1, d2] }
  | _ => none }
def QuorumWinsWrongFalsely : Prop := quorumWinsRow.holds Try.pinned (OpenSpec.ofChange quorumWinsWrong)

/-- 'hornbooklaw16.QuorumMeets': WHATEVER THE INPUT: true; the input reads as it did. -/
def quorumMeetsSpec : ChangeSpec := { name := "quorumMeets", fn := fun _ => fun
  | [d1, d2, d3, d4] => { results := [.lit (.bool true)], args := [d1, d2, d3, d4] }
  | _ => none }
def quorumMeetsRow : OpenClaim := { program := "ytfaigomhnhgjfaa", sum := "6a20f4e1c2d63947d1a49206986aaa3246f05d228ad6624751a33f889c06f883", func := "hornbook/hornbooklaw16.QuorumMeets", spec := "quorumMeets", unfollowed := true, recurses := true, apart := false }
def QuorumMeetsSaid : Prop := quorumMeetsRow.holds Try.pinned (OpenSpec.ofChange quorumMeetsSpec)

/-- ITS FALSE NEIGHBOUR: 'it returns false'. Refute it at one input. -/
def quorumMeetsWrong : ChangeSpec := { name := "quorumMeets", fn := fun _ => fun
  | [d1, d2, d3, d4] => { results := [.lit (.bool false)], args := [d1, d2, d3, d4] }
  | _ => none }
def QuorumMeetsWrongFalsely : Prop := quorumMeetsRow.holds Try.pinned (OpenSpec.ofChange quorumMeetsWrong)

/-- 'hornbooklaw16.QuorumSure': WHATEVER THE INPUT: true; the input reads as it did. -/
def quorumSureSpec : ChangeSpec := { name := "quorumSure", fn := fun _ => fun
  | [d1, d2, d3, d4] => { results := [.lit (.bool true)], args := [d1, d2, d3, d4] }
  | _ => none }
def quorumSureRow : OpenClaim := { program := "ytfaigomhnhgjfaa", sum := "6a20f4e1c2d63947d1a49206986aaa3246f05d228ad6624751a33f889c06f883", func := "hornbook/hornbooklaw16.QuorumSure", spec := "quorumSure", recurses := true, apart := false }
def QuorumSureSaid : Prop := quorumSureRow.holds Try.pinned (OpenSpec.ofChange quorumSureSpec)

/-- ITS FALSE NEIGHBOUR: 'it returns false'. Refute it at one input. -/
def quorumSureWrong : ChangeSpec := { name := "quorumSure", fn := fun _ => fun
  | [d1, d2, d3, d4] => { results := [.lit (.bool false)], args := [d1, d2, d3, d4] }
  | _ => none }
def QuorumSureWrongFalsely : Prop := quorumSureRow.holds Try.pinned (OpenSpec.ofChange quorumSureWrong)

/- THE SECOND FORM. 'bulk': how many values and letters a reading holds, each counted each time it is reached (what is shared counts as often as it is met; a slice's spare places count too). A statement '..UptoSaid' is the law's where the arguments, and the package variables that the reading takes, are together of bulk at most 1048576: NARROWER than '..Said'. Prove '..Said' where nothing that the law and all that it calls make is longer than what came in: it says more and counts as full. Else prove '..UptoSaid'. A law counts once. -/
mutual
def uptoBulk {H : Type} : DataW H → Nat
  | .lit (.string bytes) => bytes.length + 1
  | .lit _ => 1
  | .nil => 1
  | .ptr d => uptoBulk d + 1
  | .slice elems spare => uptoBulkAll elems + uptoBulkAll spare + 1
  | .agg parts => uptoBulkAll parts + 1
  | .iface _ d => uptoBulk d + 1
  | .map entries => uptoBulkEntries entries + 1
  | .held _ => 1
def uptoBulkAll {H : Type} : List (DataW H) → Nat
  | [] => 0
  | d :: r => uptoBulk d + uptoBulkAll r
def uptoBulkEntries {H : Type} : List (Lit × DataW H) → Nat
  | [] => 0
  | x :: r => uptoBulkEntry x + uptoBulkEntries r
def uptoBulkEntry {H : Type} : Lit × DataW H → Nat
  | (.string bytes, d) => bytes.length + uptoBulk d + 1
  | (_, d) => uptoBulk d + 1
 end
def uptoSmall : (H : Type) → List (DataW H) → Bool := fun _ ds => decide (uptoBulkAll ds ≤ 1048576)
def OpenSpec.upto (s : _root_.Go.ChangeSpec) : _root_.Go.OpenSpec := { _root_.Go.OpenSpec.ofChange s with cond := some uptoSmall }

/-- 'hornbooklaw16.QuorumWins', WHERE WHAT IT READS IS OF BULK AT MOST 1048576: true; the input reads as it did. -/
def quorumWinsUptoRow : OpenClaim := { program := "ytfaigomhnhgjfaa", sum := "6a20f4e1c2d63947d1a49206986aaa3246f05d228ad6624751a33f889c06f883", func := "hornbook/hornbooklaw16.QuorumWins", spec := "quorumWins", unfollowed := true, recurses := true, apart := false, narrowed := true }
def QuorumWinsUptoSaid : Prop := quorumWinsUptoRow.holds Try.pinned (OpenSpec.upto quorumWinsSpec)

/-- 'hornbooklaw16.QuorumMeets', WHERE WHAT IT READS IS OF BULK AT MOST 1048576: true; the input reads as it did. -/
def quorumMeetsUptoRow : OpenClaim := { program := "ytfaigomhnhgjfaa", sum := "6a20f4e1c2d63947d1a49206986aaa3246f05d228ad6624751a33f889c06f883", func := "hornbook/hornbooklaw16.QuorumMeets", spec := "quorumMeets", unfollowed := true, recurses := true, apart := false, narrowed := true }
def QuorumMeetsUptoSaid : Prop := quorumMeetsUptoRow.holds Try.pinned (OpenSpec.upto quorumMeetsSpec)

/-- 'hornbooklaw16.QuorumSure', WHERE WHAT IT READS IS OF BULK AT MOST 1048576: true; the input reads as it did. -/
def quorumSureUptoRow : OpenClaim := { program := "ytfaigomhnhgjfaa", sum := "6a20f4e1c2d63947d1a49206986aaa3246f05d228ad6624751a33f889c06f883", func := "hornbook/hornbooklaw16.QuorumSure", spec := "quorumSure", recurses := true, apart := false, narrowed := true }
def QuorumSureUptoSaid : Prop := quorumSureUptoRow.holds Try.pinned (OpenSpec.upto quorumSureSpec)

end Rows
end Go.Proofs.Ytfaigomhnhgjfaa
