/-
  DERIVED. GIVEN WITH THE SEED: THE CARDS: each row of YtncdjmpdbinanaaGreatDoorRows.lean that lists a variable, with what it lists TIED to the program's text (the seventh form; the later family's looks); each row that meets fmt, with fmt's text TOLD by the authors' own Lean function (tested against real Go, not proved from fmt's source: count such statements apart). THE CARD IS WHAT COUNTS. Prove the row's statement (the work); the ties are given (YtncdjmpdbinanaaGreatDoorTie.lean); close each card by the builder's one call (the guide's Derived/Test/ToyasCard.lean, 'card_holds'). Laid BY PROGRAM, IN A SANDBOX (cutbox-door.mjs). By AI agents, Wed Nov 11 2026. No macro, syntax, notation, axiom, sorry.
-/
import Derived.Test.YtncdjmpdbinanaaGreatDoorRows
import GoSem.ClaimSeven
namespace Go.Proofs.YtncdjmpdbinanaaGreatDoor
namespace Rows

/-- THE TIED CARD OF 'hornbooklaw19.SnapInstalls'. -/
def snapInstallsCard : Claim7 := { stood := { row := snapInstallsRow, standIns := [], harness := (true, "f5c26ee51ad05b3002db235e77270ee652417e274601f73fa50f5f325a9e5f76"), looks := false }, kinds := [], alts := [], laidByText := true, laidKinds := [.data, .data, .data, .data, .pinned], laidTests := true, laidLooks := .later }
def SnapInstallsCardSaid : Prop := Claim7.holds Tryz.pinned (.plain (OpenSpec.ofChange snapInstallsSpec)) snapInstallsCard

/-- THE TIED CARD OF 'hornbooklaw18.ExtendLeads'. -/
def extendLeadsCard : Claim7 := { stood := { row := extendLeadsRow, standIns := [], harness := (true, "f5c26ee51ad05b3002db235e77270ee652417e274601f73fa50f5f325a9e5f76"), looks := false }, kinds := [], alts := [], laidByText := true, laidKinds := [.data, .data, .data, .data, .pinned], laidTests := true, laidLooks := .later }
def ExtendLeadsCardSaid : Prop := Claim7.holds Tryz.pinned (.plain (OpenSpec.ofChange extendLeadsSpec)) extendLeadsCard

/-- THE TIED CARD OF 'hornbooklaw18.ExtendAdds'. -/
def extendAddsCard : Claim7 := { stood := { row := extendAddsRow, standIns := [], harness := (true, "f5c26ee51ad05b3002db235e77270ee652417e274601f73fa50f5f325a9e5f76"), looks := false }, kinds := [], alts := [], laidByText := true, laidKinds := [.data, .data, .data, .data, .pinned], laidTests := true, laidLooks := .later }
def ExtendAddsCardSaid : Prop := Claim7.holds Tryz.pinned (.plain (OpenSpec.ofChange extendAddsSpec)) extendAddsCard

/-- THE TIED CARD OF 'hornbooklaw18.ExtendFits'. -/
def extendFitsCard : Claim7 := { stood := { row := extendFitsRow, standIns := [], harness := (true, "f5c26ee51ad05b3002db235e77270ee652417e274601f73fa50f5f325a9e5f76"), looks := false }, kinds := [], alts := [], laidByText := true, laidKinds := [.data, .data, .data, .data, .pinned], laidTests := true, laidLooks := .later }
def ExtendFitsCardSaid : Prop := Claim7.holds Tryz.pinned (.plain (OpenSpec.ofChange extendFitsSpec)) extendFitsCard

/-- THE TIED CARD OF 'hornbooklaw18.ExtendTakes'. -/
def extendTakesCard : Claim7 := { stood := { row := extendTakesRow, standIns := [], harness := (true, "f5c26ee51ad05b3002db235e77270ee652417e274601f73fa50f5f325a9e5f76"), looks := false }, kinds := [], alts := [], laidByText := true, laidKinds := [.data, .data, .data, .data, .pinned], laidTests := true, laidLooks := .later }
def ExtendTakesCardSaid : Prop := Claim7.holds Tryz.pinned (.plain (OpenSpec.ofChange extendTakesSpec)) extendTakesCard

/-- THE TIED CARD OF 'hornbooklaw18.ExtendMeets'. -/
def extendMeetsCard : Claim7 := { stood := { row := extendMeetsRow, standIns := [], harness := (true, "f5c26ee51ad05b3002db235e77270ee652417e274601f73fa50f5f325a9e5f76"), looks := false }, kinds := [], alts := [], laidByText := true, laidKinds := [.data, .data, .data, .data, .pinned], laidTests := true, laidLooks := .later }
def ExtendMeetsCardSaid : Prop := Claim7.holds Tryz.pinned (.plain (OpenSpec.ofChange extendMeetsSpec)) extendMeetsCard

/-- THE TIED CARD OF 'hornbooklaw18.ExtendKeeps'. -/
def extendKeepsCard : Claim7 := { stood := { row := extendKeepsRow, standIns := [], harness := (true, "f5c26ee51ad05b3002db235e77270ee652417e274601f73fa50f5f325a9e5f76"), looks := false }, kinds := [], alts := [], laidByText := true, laidKinds := [.data, .data, .data, .data, .pinned], laidTests := true, laidLooks := .later }
def ExtendKeepsCardSaid : Prop := Claim7.holds Tryz.pinned (.plain (OpenSpec.ofChange extendKeepsSpec)) extendKeepsCard

/-- THE TIED CARD OF 'hornbooklaw20.NodeSteps'. -/
def nodeStepsCard : Claim7 := { stood := { row := nodeStepsRow, standIns := [], harness := (true, "f5c26ee51ad05b3002db235e77270ee652417e274601f73fa50f5f325a9e5f76"), looks := false }, kinds := [], alts := [], laidByText := true, laidKinds := [.data, .data, .data, .data, .pinned], laidTests := true, laidLooks := .later }
def NodeStepsCardSaid : Prop := Claim7.holds Tryz.pinned (.plain (OpenSpec.ofChange nodeStepsSpec)) nodeStepsCard

/-- THE TIED CARD OF 'hornbooklaw20.NodeReceives'. -/
def nodeReceivesCard : Claim7 := { stood := { row := nodeReceivesRow, standIns := [], harness := (true, "f5c26ee51ad05b3002db235e77270ee652417e274601f73fa50f5f325a9e5f76"), looks := false }, kinds := [], alts := [], laidByText := true, laidKinds := [.data, .data, .data, .data, .pinned], laidTests := true, laidLooks := .later }
def NodeReceivesCardSaid : Prop := Claim7.holds Tryz.pinned (.plain (OpenSpec.ofChange nodeReceivesSpec)) nodeReceivesCard

/-- THE TIED CARD OF 'hornbooklaw20.NodeKeeps'. -/
def nodeKeepsCard : Claim7 := { stood := { row := nodeKeepsRow, standIns := [], harness := (true, "f5c26ee51ad05b3002db235e77270ee652417e274601f73fa50f5f325a9e5f76"), looks := false }, kinds := [], alts := [], laidByText := true, laidKinds := [.data, .data, .data, .data, .pinned], laidTests := true, laidLooks := .later }
def NodeKeepsCardSaid : Prop := Claim7.holds Tryz.pinned (.plain (OpenSpec.ofChange nodeKeepsSpec)) nodeKeepsCard

/-- THE TIED CARD OF 'hornbooklaw20.NodeCatches'. -/
def nodeCatchesCard : Claim7 := { stood := { row := nodeCatchesRow, standIns := [], harness := (true, "f5c26ee51ad05b3002db235e77270ee652417e274601f73fa50f5f325a9e5f76"), looks := false }, kinds := [], alts := [], laidByText := true, laidKinds := [.data, .data, .data, .data, .pinned], laidTests := true, laidLooks := .later }
def NodeCatchesCardSaid : Prop := Claim7.holds Tryz.pinned (.plain (OpenSpec.ofChange nodeCatchesSpec)) nodeCatchesCard

/-- THE TIED CARD OF 'hornbooklaw20.NodeAgrees'. -/
def nodeAgreesCard : Claim7 := { stood := { row := nodeAgreesRow, standIns := [], harness := (true, "f5c26ee51ad05b3002db235e77270ee652417e274601f73fa50f5f325a9e5f76"), looks := false }, kinds := [], alts := [], laidByText := true, laidKinds := [.data, .data, .data, .data, .pinned], laidTests := true, laidLooks := .later }
def NodeAgreesCardSaid : Prop := Claim7.holds Tryz.pinned (.plain (OpenSpec.ofChange nodeAgreesSpec)) nodeAgreesCard

/-- THE TIED CARD OF 'hornbooklaw20.NodeSettles'. -/
def nodeSettlesCard : Claim7 := { stood := { row := nodeSettlesRow, standIns := [], harness := (true, "f5c26ee51ad05b3002db235e77270ee652417e274601f73fa50f5f325a9e5f76"), looks := false }, kinds := [], alts := [], laidByText := true, laidKinds := [.data, .data, .data, .data, .pinned], laidTests := true, laidLooks := .later }
def NodeSettlesCardSaid : Prop := Claim7.holds Tryz.pinned (.plain (OpenSpec.ofChange nodeSettlesSpec)) nodeSettlesCard

/-- THE SECOND FORM's CARD OF 'hornbooklaw19.SnapInstalls'. -/
def snapInstallsUptoCard : Claim7 := { stood := { row := snapInstallsUptoRow, standIns := [], harness := (true, "f5c26ee51ad05b3002db235e77270ee652417e274601f73fa50f5f325a9e5f76"), looks := false }, kinds := [], alts := [], laidByText := true, laidKinds := [.data, .data, .data, .data, .pinned], laidTests := true, laidLooks := .later }
def SnapInstallsUptoCardSaid : Prop := Claim7.holds Tryz.pinned (.plain (OpenSpec.upto snapInstallsSpec)) snapInstallsUptoCard

/-- THE SECOND FORM's CARD OF 'hornbooklaw18.ExtendLeads'. -/
def extendLeadsUptoCard : Claim7 := { stood := { row := extendLeadsUptoRow, standIns := [], harness := (true, "f5c26ee51ad05b3002db235e77270ee652417e274601f73fa50f5f325a9e5f76"), looks := false }, kinds := [], alts := [], laidByText := true, laidKinds := [.data, .data, .data, .data, .pinned], laidTests := true, laidLooks := .later }
def ExtendLeadsUptoCardSaid : Prop := Claim7.holds Tryz.pinned (.plain (OpenSpec.upto extendLeadsSpec)) extendLeadsUptoCard

/-- THE SECOND FORM's CARD OF 'hornbooklaw18.ExtendAdds'. -/
def extendAddsUptoCard : Claim7 := { stood := { row := extendAddsUptoRow, standIns := [], harness := (true, "f5c26ee51ad05b3002db235e77270ee652417e274601f73fa50f5f325a9e5f76"), looks := false }, kinds := [], alts := [], laidByText := true, laidKinds := [.data, .data, .data, .data, .pinned], laidTests := true, laidLooks := .later }
def ExtendAddsUptoCardSaid : Prop := Claim7.holds Tryz.pinned (.plain (OpenSpec.upto extendAddsSpec)) extendAddsUptoCard

/-- THE SECOND FORM's CARD OF 'hornbooklaw18.ExtendFits'. -/
def extendFitsUptoCard : Claim7 := { stood := { row := extendFitsUptoRow, standIns := [], harness := (true, "f5c26ee51ad05b3002db235e77270ee652417e274601f73fa50f5f325a9e5f76"), looks := false }, kinds := [], alts := [], laidByText := true, laidKinds := [.data, .data, .data, .data, .pinned], laidTests := true, laidLooks := .later }
def ExtendFitsUptoCardSaid : Prop := Claim7.holds Tryz.pinned (.plain (OpenSpec.upto extendFitsSpec)) extendFitsUptoCard

/-- THE SECOND FORM's CARD OF 'hornbooklaw18.ExtendTakes'. -/
def extendTakesUptoCard : Claim7 := { stood := { row := extendTakesUptoRow, standIns := [], harness := (true, "f5c26ee51ad05b3002db235e77270ee652417e274601f73fa50f5f325a9e5f76"), looks := false }, kinds := [], alts := [], laidByText := true, laidKinds := [.data, .data, .data, .data, .pinned], laidTests := true, laidLooks := .later }
def ExtendTakesUptoCardSaid : Prop := Claim7.holds Tryz.pinned (.plain (OpenSpec.upto extendTakesSpec)) extendTakesUptoCard

/-- THE SECOND FORM's CARD OF 'hornbooklaw18.ExtendMeets'. -/
def extendMeetsUptoCard : Claim7 := { stood := { row := extendMeetsUptoRow, standIns := [], harness := (true, "f5c26ee51ad05b3002db235e77270ee652417e274601f73fa50f5f325a9e5f76"), looks := false }, kinds := [], alts := [], laidByText := true, laidKinds := [.data, .data, .data, .data, .pinned], laidTests := true, laidLooks := .later }
def ExtendMeetsUptoCardSaid : Prop := Claim7.holds Tryz.pinned (.plain (OpenSpec.upto extendMeetsSpec)) extendMeetsUptoCard

/-- THE SECOND FORM's CARD OF 'hornbooklaw18.ExtendKeeps'. -/
def extendKeepsUptoCard : Claim7 := { stood := { row := extendKeepsUptoRow, standIns := [], harness := (true, "f5c26ee51ad05b3002db235e77270ee652417e274601f73fa50f5f325a9e5f76"), looks := false }, kinds := [], alts := [], laidByText := true, laidKinds := [.data, .data, .data, .data, .pinned], laidTests := true, laidLooks := .later }
def ExtendKeepsUptoCardSaid : Prop := Claim7.holds Tryz.pinned (.plain (OpenSpec.upto extendKeepsSpec)) extendKeepsUptoCard

/-- THE SECOND FORM's CARD OF 'hornbooklaw20.NodeSteps'. -/
def nodeStepsUptoCard : Claim7 := { stood := { row := nodeStepsUptoRow, standIns := [], harness := (true, "f5c26ee51ad05b3002db235e77270ee652417e274601f73fa50f5f325a9e5f76"), looks := false }, kinds := [], alts := [], laidByText := true, laidKinds := [.data, .data, .data, .data, .pinned], laidTests := true, laidLooks := .later }
def NodeStepsUptoCardSaid : Prop := Claim7.holds Tryz.pinned (.plain (OpenSpec.upto nodeStepsSpec)) nodeStepsUptoCard

/-- THE SECOND FORM's CARD OF 'hornbooklaw20.NodeReceives'. -/
def nodeReceivesUptoCard : Claim7 := { stood := { row := nodeReceivesUptoRow, standIns := [], harness := (true, "f5c26ee51ad05b3002db235e77270ee652417e274601f73fa50f5f325a9e5f76"), looks := false }, kinds := [], alts := [], laidByText := true, laidKinds := [.data, .data, .data, .data, .pinned], laidTests := true, laidLooks := .later }
def NodeReceivesUptoCardSaid : Prop := Claim7.holds Tryz.pinned (.plain (OpenSpec.upto nodeReceivesSpec)) nodeReceivesUptoCard

/-- THE SECOND FORM's CARD OF 'hornbooklaw20.NodeKeeps'. -/
def nodeKeepsUptoCard : Claim7 := { stood := { row := nodeKeepsUptoRow, standIns := [], harness := (true, "f5c26ee51ad05b3002db235e77270ee652417e274601f73fa50f5f325a9e5f76"), looks := false }, kinds := [], alts := [], laidByText := true, laidKinds := [.data, .data, .data, .data, .pinned], laidTests := true, laidLooks := .later }
def NodeKeepsUptoCardSaid : Prop := Claim7.holds Tryz.pinned (.plain (OpenSpec.upto nodeKeepsSpec)) nodeKeepsUptoCard

/-- THE SECOND FORM's CARD OF 'hornbooklaw20.NodeCatches'. -/
def nodeCatchesUptoCard : Claim7 := { stood := { row := nodeCatchesUptoRow, standIns := [], harness := (true, "f5c26ee51ad05b3002db235e77270ee652417e274601f73fa50f5f325a9e5f76"), looks := false }, kinds := [], alts := [], laidByText := true, laidKinds := [.data, .data, .data, .data, .pinned], laidTests := true, laidLooks := .later }
def NodeCatchesUptoCardSaid : Prop := Claim7.holds Tryz.pinned (.plain (OpenSpec.upto nodeCatchesSpec)) nodeCatchesUptoCard

/-- THE SECOND FORM's CARD OF 'hornbooklaw20.NodeAgrees'. -/
def nodeAgreesUptoCard : Claim7 := { stood := { row := nodeAgreesUptoRow, standIns := [], harness := (true, "f5c26ee51ad05b3002db235e77270ee652417e274601f73fa50f5f325a9e5f76"), looks := false }, kinds := [], alts := [], laidByText := true, laidKinds := [.data, .data, .data, .data, .pinned], laidTests := true, laidLooks := .later }
def NodeAgreesUptoCardSaid : Prop := Claim7.holds Tryz.pinned (.plain (OpenSpec.upto nodeAgreesSpec)) nodeAgreesUptoCard

/-- THE SECOND FORM's CARD OF 'hornbooklaw20.NodeSettles'. -/
def nodeSettlesUptoCard : Claim7 := { stood := { row := nodeSettlesUptoRow, standIns := [], harness := (true, "f5c26ee51ad05b3002db235e77270ee652417e274601f73fa50f5f325a9e5f76"), looks := false }, kinds := [], alts := [], laidByText := true, laidKinds := [.data, .data, .data, .data, .pinned], laidTests := true, laidLooks := .later }
def NodeSettlesUptoCardSaid : Prop := Claim7.holds Tryz.pinned (.plain (OpenSpec.upto nodeSettlesSpec)) nodeSettlesUptoCard
end Rows
end Go.Proofs.YtncdjmpdbinanaaGreatDoor
