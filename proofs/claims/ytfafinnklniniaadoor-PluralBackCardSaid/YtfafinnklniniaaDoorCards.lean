/-
  DERIVED. GIVEN WITH THE SEED: THE CARDS: each row of YtfafinnklniniaaDoorRows.lean that lists a variable, with what it lists TIED to the program's text (the seventh form; the later family's looks); each row that meets fmt, with fmt's text TOLD by the authors' own Lean function (tested against real Go, not proved from fmt's source: count such statements apart). THE CARD IS WHAT COUNTS. Prove the row's statement (the work); the ties are given (YtfafinnklniniaaDoorTie.lean); close each card by the builder's one call (the guide's Derived/Test/ToyasCard.lean, 'card_holds'). Laid BY PROGRAM, IN A SANDBOX (cutbox-door.mjs). By AI agents, Wed Nov 11 2026. No macro, syntax, notation, axiom, sorry.
-/
import Derived.Test.YtfafinnklniniaaDoorRows
import GoSem.ClaimSeven
namespace Go.Proofs.YtfafinnklniniaaDoor
namespace Rows

/-- THE TIED CARD OF 'hornbooklaw08.PluralPrints'. -/
def pluralPrintsCard : Claim7 := { stood := { row := pluralPrintsRow, standIns := [], harness := (true, "52e6c385816bc4816fa1982a8af31dbac7e893c3fbd7661ae219f95e1a8ec81b"), looks := false }, kinds := [], alts := [], laidByText := true, laidKinds := [.data, .data, .data], laidTests := true, laidLooks := .later }
def PluralPrintsCardSaid : Prop := Claim7.holds Tryd.pinned (.plain (OpenSpec.ofChange pluralPrintsSpec)) pluralPrintsCard

/-- THE TIED CARD OF 'hornbooklaw08.PluralBack'. -/
def pluralBackCard : Claim7 := { stood := { row := pluralBackRow, standIns := [], harness := (true, "52e6c385816bc4816fa1982a8af31dbac7e893c3fbd7661ae219f95e1a8ec81b"), looks := false }, kinds := [], alts := [], laidByText := true, laidKinds := [.data, .data, .data], laidTests := true, laidLooks := .later }
def PluralBackCardSaid : Prop := Claim7.holds Tryd.pinned (.plain (OpenSpec.ofChange pluralBackSpec)) pluralBackCard

/-- THE SECOND FORM's CARD OF 'hornbooklaw08.PluralPrints'. -/
def pluralPrintsUptoCard : Claim7 := { stood := { row := pluralPrintsUptoRow, standIns := [], harness := (true, "52e6c385816bc4816fa1982a8af31dbac7e893c3fbd7661ae219f95e1a8ec81b"), looks := false }, kinds := [], alts := [], laidByText := true, laidKinds := [.data, .data, .data], laidTests := true, laidLooks := .later }
def PluralPrintsUptoCardSaid : Prop := Claim7.holds Tryd.pinned (.plain (OpenSpec.upto pluralPrintsSpec)) pluralPrintsUptoCard

/-- THE SECOND FORM's CARD OF 'hornbooklaw08.PluralBack'. -/
def pluralBackUptoCard : Claim7 := { stood := { row := pluralBackUptoRow, standIns := [], harness := (true, "52e6c385816bc4816fa1982a8af31dbac7e893c3fbd7661ae219f95e1a8ec81b"), looks := false }, kinds := [], alts := [], laidByText := true, laidKinds := [.data, .data, .data], laidTests := true, laidLooks := .later }
def PluralBackUptoCardSaid : Prop := Claim7.holds Tryd.pinned (.plain (OpenSpec.upto pluralBackSpec)) pluralBackUptoCard
end Rows
end Go.Proofs.YtfafinnklniniaaDoor
