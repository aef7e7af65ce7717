/-
  DERIVED. GIVEN WITH THE SEED: THE CARDS: each row of YtnaindoeihnmpaaDoorRows.lean that lists a variable, with what it lists TIED to the program's text (the seventh form; the later family's looks); each row that meets fmt, with fmt's text TOLD by the authors' own Lean function (tested against real Go, not proved from fmt's source: count such statements apart). THE CARD IS WHAT COUNTS. Prove the row's statement (the work); the ties are given (YtnaindoeihnmpaaDoorTie.lean); close each card by the builder's one call (the guide's Derived/Test/ToyasCard.lean, 'card_holds'). Laid BY PROGRAM, IN A SANDBOX (cutbox-door.mjs). By AI agents, Wed Nov 11 2026. No macro, syntax, notation, axiom, sorry.
-/
import Derived.Test.YtnaindoeihnmpaaDoorRows
import GoSem.ClaimSeven
namespace Go.Proofs.YtnaindoeihnmpaaDoor
namespace Rows

/-- THE TIED CARD OF 'hornbooklaw17.ElectRights'. -/
def electRightsCard : Claim7 := { stood := { row := electRightsRow, standIns := [], harness := (true, "f3cf4301636d79b27939e864b59291ce28e89a128376a2faaac03f2401c557a3"), looks := false }, kinds := [], alts := [], laidByText := true, laidKinds := [.data, .data, .data], laidTests := true, laidLooks := .later }
def ElectRightsCardSaid : Prop := Claim7.holds Tryd.pinned (.plain (OpenSpec.ofChange electRightsSpec)) electRightsCard

/-- THE TIED CARD OF 'hornbooklaw17.ElectOnce'. -/
def electOnceCard : Claim7 := { stood := { row := electOnceRow, standIns := [], harness := (true, "f3cf4301636d79b27939e864b59291ce28e89a128376a2faaac03f2401c557a3"), looks := false }, kinds := [], alts := [], laidByText := true, laidKinds := [.data, .data, .data], laidTests := true, laidLooks := .later }
def ElectOnceCardSaid : Prop := Claim7.holds Tryd.pinned (.plain (OpenSpec.ofChange electOnceSpec)) electOnceCard

/-- THE TIED CARD OF 'hornbooklaw17.ElectKeeps'. -/
def electKeepsCard : Claim7 := { stood := { row := electKeepsRow, standIns := [], harness := (true, "f3cf4301636d79b27939e864b59291ce28e89a128376a2faaac03f2401c557a3"), looks := false }, kinds := [], alts := [], laidByText := true, laidKinds := [.data, .data, .data, .data, .pinned], laidTests := true, laidLooks := .later }
def ElectKeepsCardSaid : Prop := Claim7.holds Tryd.pinned (.plain (OpenSpec.ofChange electKeepsSpec)) electKeepsCard

/-- THE TIED CARD OF 'hornbooklaw17.ElectOne'. -/
def electOneCard : Claim7 := { stood := { row := electOneRow, standIns := [], harness := (true, "f3cf4301636d79b27939e864b59291ce28e89a128376a2faaac03f2401c557a3"), looks := false }, kinds := [], alts := [], laidByText := true, laidKinds := [.data, .data, .data, .data, .pinned], laidTests := true, laidLooks := .later }
def ElectOneCardSaid : Prop := Claim7.holds Tryd.pinned (.plain (OpenSpec.ofChange electOneSpec)) electOneCard

/-- THE SECOND FORM's CARD OF 'hornbooklaw17.ElectRights'. -/
def electRightsUptoCard : Claim7 := { stood := { row := electRightsUptoRow, standIns := [], harness := (true, "f3cf4301636d79b27939e864b59291ce28e89a128376a2faaac03f2401c557a3"), looks := false }, kinds := [], alts := [], laidByText := true, laidKinds := [.data, .data, .data], laidTests := true, laidLooks := .later }
def ElectRightsUptoCardSaid : Prop := Claim7.holds Tryd.pinned (.plain (OpenSpec.upto electRightsSpec)) electRightsUptoCard

/-- THE SECOND FORM's CARD OF 'hornbooklaw17.ElectOnce'. -/
def electOnceUptoCard : Claim7 := { stood := { row := electOnceUptoRow, standIns := [], harness := (true, "f3cf4301636d79b27939e864b59291ce28e89a128376a2faaac03f2401c557a3"), looks := false }, kinds := [], alts := [], laidByText := true, laidKinds := [.data, .data, .data], laidTests := true, laidLooks := .later }
def ElectOnceUptoCardSaid : Prop := Claim7.holds Tryd.pinned (.plain (OpenSpec.upto electOnceSpec)) electOnceUptoCard

/-- THE SECOND FORM's CARD OF 'hornbooklaw17.ElectKeeps'. -/
def electKeepsUptoCard : Claim7 := { stood := { row := electKeepsUptoRow, standIns := [], harness := (true, "f3cf4301636d79b27939e864b59291ce28e89a128376a2faaac03f2401c557a3"), looks := false }, kinds := [], alts := [], laidByText := true, laidKinds := [.data, .data, .data, .data, .pinned], laidTests := true, laidLooks := .later }
def ElectKeepsUptoCardSaid : Prop := Claim7.holds Tryd.pinned (.plain (OpenSpec.upto electKeepsSpec)) electKeepsUptoCard

/-- THE SECOND FORM's CARD OF 'hornbooklaw17.ElectOne'. -/
def electOneUptoCard : Claim7 := { stood := { row := electOneUptoRow, standIns := [], harness := (true, "f3cf4301636d79b27939e864b59291ce28e89a128376a2faaac03f2401c557a3"), looks := false }, kinds := [], alts := [], laidByText := true, laidKinds := [.data, .data, .data, .data, .pinned], laidTests := true, laidLooks := .later }
def ElectOneUptoCardSaid : Prop := Claim7.holds Tryd.pinned (.plain (OpenSpec.upto electOneSpec)) electOneUptoCard
end Rows
end Go.Proofs.YtnaindoeihnmpaaDoor
