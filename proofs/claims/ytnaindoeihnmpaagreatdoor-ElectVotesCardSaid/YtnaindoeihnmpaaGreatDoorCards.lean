/-
  DERIVED. GIVEN WITH THE SEED: THE CARDS: each row of YtnaindoeihnmpaaGreatDoorRows.lean that lists a variable, with what it lists TIED to the program's text (the seventh form; the later family's looks); each row that meets fmt, with fmt's text TOLD by the authors' own Lean function (tested against real Go, not proved from fmt's source: count such statements apart). THE CARD IS WHAT COUNTS. Prove the row's statement (the work); the ties are given (YtnaindoeihnmpaaGreatDoorTie.lean); close each card by the builder's one call (the guide's Derived/Test/ToyasCard.lean, 'card_holds'). Laid BY PROGRAM, IN A SANDBOX (cutbox-door.mjs). By AI agents, Wed Nov 11 2026. No macro, syntax, notation, axiom, sorry.
-/
import Derived.Test.YtnaindoeihnmpaaGreatDoorRows
import GoSem.ClaimSeven
namespace Go.Proofs.YtnaindoeihnmpaaGreatDoor
namespace Rows

/-- THE TIED CARD OF 'hornbooklaw17.ElectLater'. -/
def electLaterCard : Claim7 := { stood := { row := electLaterRow, standIns := [], harness := (true, "656bde10becbc695021d6fa4dfec484dbdac3c6bd2b5862162d1bfd24b152824"), looks := false }, kinds := [], alts := [], laidByText := true, laidKinds := [.data, .data, .data, .data, .pinned], laidTests := true, laidLooks := .later }
def ElectLaterCardSaid : Prop := Claim7.holds Tryz.pinned (.plain (OpenSpec.ofChange electLaterSpec)) electLaterCard

/-- THE TIED CARD OF 'hornbooklaw17.ElectVotes'. -/
def electVotesCard : Claim7 := { stood := { row := electVotesRow, standIns := [], harness := (true, "656bde10becbc695021d6fa4dfec484dbdac3c6bd2b5862162d1bfd24b152824"), looks := false }, kinds := [], alts := [], laidByText := true, laidKinds := [.data, .data, .data, .data, .pinned], laidTests := true, laidLooks := .later }
def ElectVotesCardSaid : Prop := Claim7.holds Tryz.pinned (.plain (OpenSpec.ofChange electVotesSpec)) electVotesCard

/-- THE SECOND FORM's CARD OF 'hornbooklaw17.ElectLater'. -/
def electLaterUptoCard : Claim7 := { stood := { row := electLaterUptoRow, standIns := [], harness := (true, "656bde10becbc695021d6fa4dfec484dbdac3c6bd2b5862162d1bfd24b152824"), looks := false }, kinds := [], alts := [], laidByText := true, laidKinds := [.data, .data, .data, .data, .pinned], laidTests := true, laidLooks := .later }
def ElectLaterUptoCardSaid : Prop := Claim7.holds Tryz.pinned (.plain (OpenSpec.upto electLaterSpec)) electLaterUptoCard

/-- THE SECOND FORM's CARD OF 'hornbooklaw17.ElectVotes'. -/
def electVotesUptoCard : Claim7 := { stood := { row := electVotesUptoRow, standIns := [], harness := (true, "656bde10becbc695021d6fa4dfec484dbdac3c6bd2b5862162d1bfd24b152824"), looks := false }, kinds := [], alts := [], laidByText := true, laidKinds := [.data, .data, .data, .data, .pinned], laidTests := true, laidLooks := .later }
def ElectVotesUptoCardSaid : Prop := Claim7.holds Tryz.pinned (.plain (OpenSpec.upto electVotesSpec)) electVotesUptoCard
end Rows
end Go.Proofs.YtnaindoeihnmpaaGreatDoor
