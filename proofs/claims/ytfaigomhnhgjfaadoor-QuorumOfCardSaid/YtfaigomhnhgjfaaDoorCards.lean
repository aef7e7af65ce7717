/-
  DERIVED. GIVEN WITH THE SEED: THE CARDS: each row of YtfaigomhnhgjfaaDoorRows.lean that lists a variable, with what it lists TIED to the program's text (the seventh form; the later family's looks); each row that meets fmt, with fmt's text TOLD by the authors' own Lean function (tested against real Go, not proved from fmt's source: count such statements apart). THE CARD IS WHAT COUNTS. Prove the row's statement (the work); the ties are given (YtfaigomhnhgjfaaDoorTie.lean); close each card by the builder's one call (the guide's Derived/Test/ToyasCard.lean, 'card_holds'). Laid BY PROGRAM, IN A SANDBOX (cutbox-door.mjs). By AI agents, Wed Nov 11 2026. No macro, syntax, notation, axiom, sorry.
-/
import Derived.Test.YtfaigomhnhgjfaaDoorRows
import GoSem.ClaimSeven
namespace Go.Proofs.YtfaigomhnhgjfaaDoor
namespace Rows

/-- THE TIED CARD OF 'hornbooklaw16.QuorumOf'. -/
def quorumOfCard : Claim7 := { stood := { row := quorumOfRow, standIns := [], harness := (true, "24e55ca155e656f9adad2ab222c3cf715cc3fe213162ff3d790d8446e6ca4b61"), looks := false }, kinds := [], alts := [], laidByText := true, laidKinds := [.data, .pinned], laidTests := true, laidLooks := .later }
def QuorumOfCardSaid : Prop := Claim7.holds Tryd.pinned (.plain (OpenSpec.ofChange quorumOfSpec)) quorumOfCard

/-- THE TIED CARD OF 'hornbooklaw16.QuorumTexts'. -/
def quorumTextsCard : Claim7 := { stood := { row := quorumTextsRow, standIns := [], harness := (true, "24e55ca155e656f9adad2ab222c3cf715cc3fe213162ff3d790d8446e6ca4b61"), looks := false }, kinds := [], alts := [], laidByText := true, laidKinds := [.data, .pinned], laidTests := true, laidLooks := .later }
def QuorumTextsCardSaid : Prop := Claim7.holds Tryd.pinned (.plain (OpenSpec.ofChange quorumTextsSpec)) quorumTextsCard

/-- THE TIED CARD OF 'hornbooklaw16.QuorumBack'. -/
def quorumBackCard : Claim7 := { stood := { row := quorumBackRow, standIns := [], harness := (true, "24e55ca155e656f9adad2ab222c3cf715cc3fe213162ff3d790d8446e6ca4b61"), looks := false }, kinds := [], alts := [], laidByText := true, laidKinds := [.data, .pinned], laidTests := true, laidLooks := .later }
def QuorumBackCardSaid : Prop := Claim7.holds Tryd.pinned (.plain (OpenSpec.ofChange quorumBackSpec)) quorumBackCard

/-- THE SECOND FORM's CARD OF 'hornbooklaw16.QuorumOf'. -/
def quorumOfUptoCard : Claim7 := { stood := { row := quorumOfUptoRow, standIns := [], harness := (true, "24e55ca155e656f9adad2ab222c3cf715cc3fe213162ff3d790d8446e6ca4b61"), looks := false }, kinds := [], alts := [], laidByText := true, laidKinds := [.data, .pinned], laidTests := true, laidLooks := .later }
def QuorumOfUptoCardSaid : Prop := Claim7.holds Tryd.pinned (.plain (OpenSpec.upto quorumOfSpec)) quorumOfUptoCard

/-- THE SECOND FORM's CARD OF 'hornbooklaw16.QuorumTexts'. -/
def quorumTextsUptoCard : Claim7 := { stood := { row := quorumTextsUptoRow, standIns := [], harness := (true, "24e55ca155e656f9adad2ab222c3cf715cc3fe213162ff3d790d8446e6ca4b61"), looks := false }, kinds := [], alts := [], laidByText := true, laidKinds := [.data, .pinned], laidTests := true, laidLooks := .later }
def QuorumTextsUptoCardSaid : Prop := Claim7.holds Tryd.pinned (.plain (OpenSpec.upto quorumTextsSpec)) quorumTextsUptoCard

/-- THE SECOND FORM's CARD OF 'hornbooklaw16.QuorumBack'. -/
def quorumBackUptoCard : Claim7 := { stood := { row := quorumBackUptoRow, standIns := [], harness := (true, "24e55ca155e656f9adad2ab222c3cf715cc3fe213162ff3d790d8446e6ca4b61"), looks := false }, kinds := [], alts := [], laidByText := true, laidKinds := [.data, .pinned], laidTests := true, laidLooks := .later }
def QuorumBackUptoCardSaid : Prop := Claim7.holds Tryd.pinned (.plain (OpenSpec.upto quorumBackSpec)) quorumBackUptoCard
end Rows
end Go.Proofs.YtfaigomhnhgjfaaDoor
