/-
  DERIVED. GIVEN WITH THE SEED: THE CARDS: each row of YtemaeembndobaaaGreatDoorRows.lean that lists a variable, with what it lists TIED to the program's text (the seventh form; the later family's looks); each row that meets fmt, with fmt's text TOLD by the authors' own Lean function (tested against real Go, not proved from fmt's source: count such statements apart). THE CARD IS WHAT COUNTS. Prove the row's statement (the work); the ties are given (YtemaeembndobaaaGreatDoorTie.lean); close each card by the builder's one call (the guide's Derived/Test/ToyasCard.lean, 'card_holds'). Laid BY PROGRAM, IN A SANDBOX (cutbox-door.mjs). By AI agents, Wed Nov 11 2026. No macro, syntax, notation, axiom, sorry.
-/
import Derived.Test.YtemaeembndobaaaGreatDoorRows
import GoSem.ClaimSeven
namespace Go.Proofs.YtemaeembndobaaaGreatDoor
namespace Rows

/-- THE TIED CARD OF 'tarnlaw13.FluxSigns'. -/
def fluxSignsCard : Claim7 := { stood := { row := fluxSignsRow, standIns := [], harness := (true, "4387efd8faab32e8b1cb328ee5edda2c64748e17442f5b4a15e781128faa0162"), looks := false }, kinds := [], alts := [], laidByText := true, laidKinds := [.wider, .data], laidTests := true, laidLooks := .later }
def FluxSignsCardSaid : Prop := Claim7.holds Tryz.pinned (.plain (OpenSpec.ofChange fluxSignsSpec)) fluxSignsCard

/-- THE TIED CARD OF 'tarnlaw13.FluxEdges'. -/
def fluxEdgesCard : Claim7 := { stood := { row := fluxEdgesRow, standIns := [], harness := (true, "4387efd8faab32e8b1cb328ee5edda2c64748e17442f5b4a15e781128faa0162"), looks := false }, kinds := [], alts := [], laidByText := true, laidKinds := [.wider, .data], laidTests := true, laidLooks := .later }
def FluxEdgesCardSaid : Prop := Claim7.holds Tryz.pinned (.plain (OpenSpec.ofChange fluxEdgesSpec)) fluxEdgesCard

/-- THE TIED CARD OF 'tarnlaw13.FluxStill'. -/
def fluxStillCard : Claim7 := { stood := { row := fluxStillRow, standIns := [], harness := (true, "4387efd8faab32e8b1cb328ee5edda2c64748e17442f5b4a15e781128faa0162"), looks := false }, kinds := [], alts := [], laidByText := true, laidKinds := [.wider, .data], laidTests := true, laidLooks := .later }
def FluxStillCardSaid : Prop := Claim7.holds Tryz.pinned (.plain (OpenSpec.ofChange fluxStillSpec)) fluxStillCard

/-- THE TIED CARD OF 'tarnlaw13.FluxKeeps'. -/
def fluxKeepsCard : Claim7 := { stood := { row := fluxKeepsRow, standIns := [], harness := (true, "4387efd8faab32e8b1cb328ee5edda2c64748e17442f5b4a15e781128faa0162"), looks := false }, kinds := [], alts := [], laidByText := true, laidKinds := [.wider, .data], laidTests := true, laidLooks := .later }
def FluxKeepsCardSaid : Prop := Claim7.holds Tryz.pinned (.plain (OpenSpec.ofChange fluxKeepsSpec)) fluxKeepsCard

/-- THE TIED CARD OF 'tarnlaw13.FluxQuanta'. -/
def fluxQuantaCard : Claim7 := { stood := { row := fluxQuantaRow, standIns := [], harness := (true, "4387efd8faab32e8b1cb328ee5edda2c64748e17442f5b4a15e781128faa0162"), looks := false }, kinds := [], alts := [], laidByText := true, laidKinds := [.wider, .data], laidTests := true, laidLooks := .later }
def FluxQuantaCardSaid : Prop := Claim7.holds Tryz.pinned (.plain (OpenSpec.ofChange fluxQuantaSpec)) fluxQuantaCard

/-- THE TIED CARD OF 'tarnlaw16.ForceFalls'. -/
def forceFallsCard : Claim7 := { stood := { row := forceFallsRow, standIns := [], harness := (true, "4387efd8faab32e8b1cb328ee5edda2c64748e17442f5b4a15e781128faa0162"), looks := false }, kinds := [], alts := [], laidByText := true, laidKinds := [.wider, .data], laidTests := true, laidLooks := .later }
def ForceFallsCardSaid : Prop := Claim7.holds Tryz.pinned (.plain (OpenSpec.ofChange forceFallsSpec)) forceFallsCard

/-- THE TIED CARD OF 'tarnlaw16.ForceKeeps'. -/
def forceKeepsCard : Claim7 := { stood := { row := forceKeepsRow, standIns := [], harness := (true, "4387efd8faab32e8b1cb328ee5edda2c64748e17442f5b4a15e781128faa0162"), looks := false }, kinds := [], alts := [], laidByText := true, laidKinds := [.wider, .data], laidTests := true, laidLooks := .later }
def ForceKeepsCardSaid : Prop := Claim7.holds Tryz.pinned (.plain (OpenSpec.ofChange forceKeepsSpec)) forceKeepsCard

/-- THE TIED CARD OF 'tarnlaw12.ReconMemory'. -/
def reconMemoryCard : Claim7 := { stood := { row := reconMemoryRow, standIns := [], harness := (true, "4387efd8faab32e8b1cb328ee5edda2c64748e17442f5b4a15e781128faa0162"), looks := false }, kinds := [], alts := [], laidByText := true, laidKinds := [.wider, .data], laidTests := true, laidLooks := .later }
def ReconMemoryCardSaid : Prop := Claim7.holds Tryz.pinned (.plain (OpenSpec.ofChange reconMemorySpec)) reconMemoryCard

/-- THE TIED CARD OF 'tarnlaw12.ReconTurned'. -/
def reconTurnedCard : Claim7 := { stood := { row := reconTurnedRow, standIns := [], harness := (true, "4387efd8faab32e8b1cb328ee5edda2c64748e17442f5b4a15e781128faa0162"), looks := false }, kinds := [], alts := [], laidByText := true, laidKinds := [.wider, .data], laidTests := true, laidLooks := .later }
def ReconTurnedCardSaid : Prop := Claim7.holds Tryz.pinned (.plain (OpenSpec.ofChange reconTurnedSpec)) reconTurnedCard

/-- THE SECOND FORM's CARD OF 'tarnlaw13.FluxSigns'. -/
def fluxSignsUptoCard : Claim7 := { stood := { row := fluxSignsUptoRow, standIns := [], harness := (true, "4387efd8faab32e8b1cb328ee5edda2c64748e17442f5b4a15e781128faa0162"), looks := false }, kinds := [], alts := [], laidByText := true, laidKinds := [.wider, .data], laidTests := true, laidLooks := .later }
def FluxSignsUptoCardSaid : Prop := Claim7.holds Tryz.pinned (.plain (OpenSpec.upto fluxSignsSpec)) fluxSignsUptoCard

/-- THE SECOND FORM's CARD OF 'tarnlaw13.FluxEdges'. -/
def fluxEdgesUptoCard : Claim7 := { stood := { row := fluxEdgesUptoRow, standIns := [], harness := (true, "4387efd8faab32e8b1cb328ee5edda2c64748e17442f5b4a15e781128faa0162"), looks := false }, kinds := [], alts := [], laidByText := true, laidKinds := [.wider, .data], laidTests := true, laidLooks := .later }
def FluxEdgesUptoCardSaid : Prop := Claim7.holds Tryz.pinned (.plain (OpenSpec.upto fluxEdgesSpec)) fluxEdgesUptoCard

/-- THE SECOND FORM's CARD OF 'tarnlaw13.FluxStill'. -/
def fluxStillUptoCard : Claim7 := { stood := { row := fluxStillUptoRow, standIns := [], harness := (true, "4387efd8faab32e8b1cb328ee5edda2c64748e17442f5b4a15e781128faa0162"), looks := false }, kinds := [], alts := [], laidByText := true, laidKinds := [.wider, .data], laidTests := true, laidLooks := .later }
def FluxStillUptoCardSaid : Prop := Claim7.holds Tryz.pinned (.plain (OpenSpec.upto fluxStillSpec)) fluxStillUptoCard

/-- THE SECOND FORM's CARD OF 'tarnlaw13.FluxKeeps'. -/
def fluxKeepsUptoCard : Claim7 := { stood := { row := fluxKeepsUptoRow, standIns := [], harness := (true, "4387efd8faab32e8b1cb328ee5edda2c64748e17442f5b4a15e781128faa0162"), looks := false }, kinds := [], alts := [], laidByText := true, laidKinds := [.wider, .data], laidTests := true, laidLooks := .later }
def FluxKeepsUptoCardSaid : Prop := Claim7.holds Tryz.pinned (.plain (OpenSpec.upto fluxKeepsSpec)) fluxKeepsUptoCard

/-- THE SECOND FORM's CARD OF 'tarnlaw13.FluxQuanta'. -/
def fluxQuantaUptoCard : Claim7 := { stood := { row := fluxQuantaUptoRow, standIns := [], harness := (true, "4387efd8faab32e8b1cb328ee5edda2c64748e17442f5b4a15e781128faa0162"), looks := false }, kinds := [], alts := [], laidByText := true, laidKinds := [.wider, .data], laidTests := true, laidLooks := .later }
def FluxQuantaUptoCardSaid : Prop := Claim7.holds Tryz.pinned (.plain (OpenSpec.upto fluxQuantaSpec)) fluxQuantaUptoCard

/-- THE SECOND FORM's CARD OF 'tarnlaw16.ForceFalls'. -/
def forceFallsUptoCard : Claim7 := { stood := { row := forceFallsUptoRow, standIns := [], harness := (true, "4387efd8faab32e8b1cb328ee5edda2c64748e17442f5b4a15e781128faa0162"), looks := false }, kinds := [], alts := [], laidByText := true, laidKinds := [.wider, .data], laidTests := true, laidLooks := .later }
def ForceFallsUptoCardSaid : Prop := Claim7.holds Tryz.pinned (.plain (OpenSpec.upto forceFallsSpec)) forceFallsUptoCard

/-- THE SECOND FORM's CARD OF 'tarnlaw16.ForceKeeps'. -/
def forceKeepsUptoCard : Claim7 := { stood := { row := forceKeepsUptoRow, standIns := [], harness := (true, "4387efd8faab32e8b1cb328ee5edda2c64748e17442f5b4a15e781128faa0162"), looks := false }, kinds := [], alts := [], laidByText := true, laidKinds := [.wider, .data], laidTests := true, laidLooks := .later }
def ForceKeepsUptoCardSaid : Prop := Claim7.holds Tryz.pinned (.plain (OpenSpec.upto forceKeepsSpec)) forceKeepsUptoCard

/-- THE SECOND FORM's CARD OF 'tarnlaw12.ReconMemory'. -/
def reconMemoryUptoCard : Claim7 := { stood := { row := reconMemoryUptoRow, standIns := [], harness := (true, "4387efd8faab32e8b1cb328ee5edda2c64748e17442f5b4a15e781128faa0162"), looks := false }, kinds := [], alts := [], laidByText := true, laidKinds := [.wider, .data], laidTests := true, laidLooks := .later }
def ReconMemoryUptoCardSaid : Prop := Claim7.holds Tryz.pinned (.plain (OpenSpec.upto reconMemorySpec)) reconMemoryUptoCard

/-- THE SECOND FORM's CARD OF 'tarnlaw12.ReconTurned'. -/
def reconTurnedUptoCard : Claim7 := { stood := { row := reconTurnedUptoRow, standIns := [], harness := (true, "4387efd8faab32e8b1cb328ee5edda2c64748e17442f5b4a15e781128faa0162"), looks := false }, kinds := [], alts := [], laidByText := true, laidKinds := [.wider, .data], laidTests := true, laidLooks := .later }
def ReconTurnedUptoCardSaid : Prop := Claim7.holds Tryz.pinned (.plain (OpenSpec.upto reconTurnedSpec)) reconTurnedUptoCard
end Rows
end Go.Proofs.YtemaeembndobaaaGreatDoor
