/-
  DERIVED. GIVEN WITH THE SEED: THE CARDS: each row of YtajnkcoanapboaaGreatDoorRows.lean that lists a variable, with what it lists TIED to the program's text (the seventh form; the later family's looks); each row that meets fmt, with fmt's text TOLD by the authors' own Lean function (tested against real Go, not proved from fmt's source: count such statements apart). THE CARD IS WHAT COUNTS. Prove the row's statement (the work); the ties are given (YtajnkcoanapboaaGreatDoorTie.lean); close each card by the builder's one call (the guide's Derived/Test/ToyasCard.lean, 'card_holds'). Laid BY PROGRAM, IN A SANDBOX (cutbox-door.mjs). By AI agents, Wed Nov 11 2026. No macro, syntax, notation, axiom, sorry.
-/
import Derived.Test.YtajnkcoanapboaaGreatDoorRows
import GoSem.ClaimSeven
namespace Go.Proofs.YtajnkcoanapboaaGreatDoor
namespace Rows

/-- THE TIED CARD OF 'tarnlaw16.ForceRest'. -/
def forceRestCard : Claim7 := { stood := { row := forceRestRow, standIns := [], harness := (true, "e82c4809195d7a0a472b601e2738019d43b03058b7821895fe5e37f2471726a9"), looks := false }, kinds := [], alts := [], laidByText := true, laidKinds := [.wider, .data], laidTests := true, laidLooks := .later }
def ForceRestCardSaid : Prop := Claim7.holds Tryz.pinned (.plain (OpenSpec.ofChange forceRestSpec)) forceRestCard

/-- THE TIED CARD OF 'tarnlaw16.ForceMirror'. -/
def forceMirrorCard : Claim7 := { stood := { row := forceMirrorRow, standIns := [], harness := (true, "e82c4809195d7a0a472b601e2738019d43b03058b7821895fe5e37f2471726a9"), looks := false }, kinds := [], alts := [], laidByText := true, laidKinds := [.wider, .data], laidTests := true, laidLooks := .later }
def ForceMirrorCardSaid : Prop := Claim7.holds Tryz.pinned (.plain (OpenSpec.ofChange forceMirrorSpec)) forceMirrorCard

/-- THE TIED CARD OF 'tarnlaw16.ForceLocal'. -/
def forceLocalCard : Claim7 := { stood := { row := forceLocalRow, standIns := [], harness := (true, "e82c4809195d7a0a472b601e2738019d43b03058b7821895fe5e37f2471726a9"), looks := false }, kinds := [], alts := [], laidByText := true, laidKinds := [.wider, .data], laidTests := true, laidLooks := .later }
def ForceLocalCardSaid : Prop := Claim7.holds Tryz.pinned (.plain (OpenSpec.ofChange forceLocalSpec)) forceLocalCard

/-- THE TIED CARD OF 'tarnlaw16.ForceFalls'. -/
def forceFallsCard : Claim7 := { stood := { row := forceFallsRow, standIns := [], harness := (true, "e82c4809195d7a0a472b601e2738019d43b03058b7821895fe5e37f2471726a9"), looks := false }, kinds := [], alts := [], laidByText := true, laidKinds := [.wider, .data], laidTests := true, laidLooks := .later }
def ForceFallsCardSaid : Prop := Claim7.holds Tryz.pinned (.plain (OpenSpec.ofChange forceFallsSpec)) forceFallsCard

/-- THE TIED CARD OF 'tarnlaw16.ForceKeeps'. -/
def forceKeepsCard : Claim7 := { stood := { row := forceKeepsRow, standIns := [], harness := (true, "e82c4809195d7a0a472b601e2738019d43b03058b7821895fe5e37f2471726a9"), looks := false }, kinds := [], alts := [], laidByText := true, laidKinds := [.wider, .data], laidTests := true, laidLooks := .later }
def ForceKeepsCardSaid : Prop := Claim7.holds Tryz.pinned (.plain (OpenSpec.ofChange forceKeepsSpec)) forceKeepsCard

/-- THE TIED CARD OF 'tarnlaw12.ReconSigns'. -/
def reconSignsCard : Claim7 := { stood := { row := reconSignsRow, standIns := [], harness := (true, "e82c4809195d7a0a472b601e2738019d43b03058b7821895fe5e37f2471726a9"), looks := false }, kinds := [], alts := [], laidByText := true, laidKinds := [.wider, .data], laidTests := true, laidLooks := .later }
def ReconSignsCardSaid : Prop := Claim7.holds Tryz.pinned (.plain (OpenSpec.ofChange reconSignsSpec)) reconSignsCard

/-- THE TIED CARD OF 'tarnlaw12.ReconGate'. -/
def reconGateCard : Claim7 := { stood := { row := reconGateRow, standIns := [], harness := (true, "e82c4809195d7a0a472b601e2738019d43b03058b7821895fe5e37f2471726a9"), looks := false }, kinds := [], alts := [], laidByText := true, laidKinds := [.wider, .data], laidTests := true, laidLooks := .later }
def ReconGateCardSaid : Prop := Claim7.holds Tryz.pinned (.plain (OpenSpec.ofChange reconGateSpec)) reconGateCard

/-- THE TIED CARD OF 'tarnlaw12.ReconFlat'. -/
def reconFlatCard : Claim7 := { stood := { row := reconFlatRow, standIns := [], harness := (true, "e82c4809195d7a0a472b601e2738019d43b03058b7821895fe5e37f2471726a9"), looks := false }, kinds := [], alts := [], laidByText := true, laidKinds := [.wider, .data], laidTests := true, laidLooks := .later }
def ReconFlatCardSaid : Prop := Claim7.holds Tryz.pinned (.plain (OpenSpec.ofChange reconFlatSpec)) reconFlatCard

/-- THE TIED CARD OF 'tarnlaw12.ReconLocal'. -/
def reconLocalCard : Claim7 := { stood := { row := reconLocalRow, standIns := [], harness := (true, "e82c4809195d7a0a472b601e2738019d43b03058b7821895fe5e37f2471726a9"), looks := false }, kinds := [], alts := [], laidByText := true, laidKinds := [.wider, .data], laidTests := true, laidLooks := .later }
def ReconLocalCardSaid : Prop := Claim7.holds Tryz.pinned (.plain (OpenSpec.ofChange reconLocalSpec)) reconLocalCard

/-- THE TIED CARD OF 'tarnlaw13.FluxSigns'. -/
def fluxSignsCard : Claim7 := { stood := { row := fluxSignsRow, standIns := [], harness := (true, "e82c4809195d7a0a472b601e2738019d43b03058b7821895fe5e37f2471726a9"), looks := false }, kinds := [], alts := [], laidByText := true, laidKinds := [.wider, .data], laidTests := true, laidLooks := .later }
def FluxSignsCardSaid : Prop := Claim7.holds Tryz.pinned (.plain (OpenSpec.ofChange fluxSignsSpec)) fluxSignsCard

/-- THE TIED CARD OF 'tarnlaw13.FluxEdges'. -/
def fluxEdgesCard : Claim7 := { stood := { row := fluxEdgesRow, standIns := [], harness := (true, "e82c4809195d7a0a472b601e2738019d43b03058b7821895fe5e37f2471726a9"), looks := false }, kinds := [], alts := [], laidByText := true, laidKinds := [.wider, .data], laidTests := true, laidLooks := .later }
def FluxEdgesCardSaid : Prop := Claim7.holds Tryz.pinned (.plain (OpenSpec.ofChange fluxEdgesSpec)) fluxEdgesCard

/-- THE SECOND FORM's CARD OF 'tarnlaw16.ForceRest'. -/
def forceRestUptoCard : Claim7 := { stood := { row := forceRestUptoRow, standIns := [], harness := (true, "e82c4809195d7a0a472b601e2738019d43b03058b7821895fe5e37f2471726a9"), looks := false }, kinds := [], alts := [], laidByText := true, laidKinds := [.wider, .data], laidTests := true, laidLooks := .later }
def ForceRestUptoCardSaid : Prop := Claim7.holds Tryz.pinned (.plain (OpenSpec.upto forceRestSpec)) forceRestUptoCard

/-- THE SECOND FORM's CARD OF 'tarnlaw16.ForceMirror'. -/
def forceMirrorUptoCard : Claim7 := { stood := { row := forceMirrorUptoRow, standIns := [], harness := (true, "e82c4809195d7a0a472b601e2738019d43b03058b7821895fe5e37f2471726a9"), looks := false }, kinds := [], alts := [], laidByText := true, laidKinds := [.wider, .data], laidTests := true, laidLooks := .later }
def ForceMirrorUptoCardSaid : Prop := Claim7.holds Tryz.pinned (.plain (OpenSpec.upto forceMirrorSpec)) forceMirrorUptoCard

/-- THE SECOND FORM's CARD OF 'tarnlaw16.ForceLocal'. -/
def forceLocalUptoCard : Claim7 := { stood := { row := forceLocalUptoRow, standIns := [], harness := (true, "e82c4809195d7a0a472b601e2738019d43b03058b7821895fe5e37f2471726a9"), looks := false }, kinds := [], alts := [], laidByText := true, laidKinds := [.wider, .data], laidTests := true, laidLooks := .later }
def ForceLocalUptoCardSaid : Prop := Claim7.holds Tryz.pinned (.plain (OpenSpec.upto forceLocalSpec)) forceLocalUptoCard

/-- THE SECOND FORM's CARD OF 'tarnlaw16.ForceFalls'. -/
def forceFallsUptoCard : Claim7 := { stood := { row := forceFallsUptoRow, standIns := [], harness := (true, "e82c4809195d7a0a472b601e2738019d43b03058b7821895fe5e37f2471726a9"), looks := false }, kinds := [], alts := [], laidByText := true, laidKinds := [.wider, .data], laidTests := true, laidLooks := .later }
def ForceFallsUptoCardSaid : Prop := Claim7.holds Tryz.pinned (.plain (OpenSpec.upto forceFallsSpec)) forceFallsUptoCard

/-- THE SECOND FORM's CARD OF 'tarnlaw16.ForceKeeps'. -/
def forceKeepsUptoCard : Claim7 := { stood := { row := forceKeepsUptoRow, standIns := [], harness := (true, "e82c4809195d7a0a472b601e2738019d43b03058b7821895fe5e37f2471726a9"), looks := false }, kinds := [], alts := [], laidByText := true, laidKinds := [.wider, .data], laidTests := true, laidLooks := .later }
def ForceKeepsUptoCardSaid : Prop := Claim7.holds Tryz.pinned (.plain (OpenSpec.upto forceKeepsSpec)) forceKeepsUptoCard

/-- THE SECOND FORM's CARD OF 'tarnlaw12.ReconSigns'. -/
def reconSignsUptoCard : Claim7 := { stood := { row := reconSignsUptoRow, standIns := [], harness := (true, "e82c4809195d7a0a472b601e2738019d43b03058b7821895fe5e37f2471726a9"), looks := false }, kinds := [], alts := [], laidByText := true, laidKinds := [.wider, .data], laidTests := true, laidLooks := .later }
def ReconSignsUptoCardSaid : Prop := Claim7.holds Tryz.pinned (.plain (OpenSpec.upto reconSignsSpec)) reconSignsUptoCard

/-- THE SECOND FORM's CARD OF 'tarnlaw12.ReconGate'. -/
def reconGateUptoCard : Claim7 := { stood := { row := reconGateUptoRow, standIns := [], harness := (true, "e82c4809195d7a0a472b601e2738019d43b03058b7821895fe5e37f2471726a9"), looks := false }, kinds := [], alts := [], laidByText := true, laidKinds := [.wider, .data], laidTests := true, laidLooks := .later }
def ReconGateUptoCardSaid : Prop := Claim7.holds Tryz.pinned (.plain (OpenSpec.upto reconGateSpec)) reconGateUptoCard

/-- THE SECOND FORM's CARD OF 'tarnlaw12.ReconFlat'. -/
def reconFlatUptoCard : Claim7 := { stood := { row := reconFlatUptoRow, standIns := [], harness := (true, "e82c4809195d7a0a472b601e2738019d43b03058b7821895fe5e37f2471726a9"), looks := false }, kinds := [], alts := [], laidByText := true, laidKinds := [.wider, .data], laidTests := true, laidLooks := .later }
def ReconFlatUptoCardSaid : Prop := Claim7.holds Tryz.pinned (.plain (OpenSpec.upto reconFlatSpec)) reconFlatUptoCard

/-- THE SECOND FORM's CARD OF 'tarnlaw12.ReconLocal'. -/
def reconLocalUptoCard : Claim7 := { stood := { row := reconLocalUptoRow, standIns := [], harness := (true, "e82c4809195d7a0a472b601e2738019d43b03058b7821895fe5e37f2471726a9"), looks := false }, kinds := [], alts := [], laidByText := true, laidKinds := [.wider, .data], laidTests := true, laidLooks := .later }
def ReconLocalUptoCardSaid : Prop := Claim7.holds Tryz.pinned (.plain (OpenSpec.upto reconLocalSpec)) reconLocalUptoCard

/-- THE SECOND FORM's CARD OF 'tarnlaw13.FluxSigns'. -/
def fluxSignsUptoCard : Claim7 := { stood := { row := fluxSignsUptoRow, standIns := [], harness := (true, "e82c4809195d7a0a472b601e2738019d43b03058b7821895fe5e37f2471726a9"), looks := false }, kinds := [], alts := [], laidByText := true, laidKinds := [.wider, .data], laidTests := true, laidLooks := .later }
def FluxSignsUptoCardSaid : Prop := Claim7.holds Tryz.pinned (.plain (OpenSpec.upto fluxSignsSpec)) fluxSignsUptoCard

/-- THE SECOND FORM's CARD OF 'tarnlaw13.FluxEdges'. -/
def fluxEdgesUptoCard : Claim7 := { stood := { row := fluxEdgesUptoRow, standIns := [], harness := (true, "e82c4809195d7a0a472b601e2738019d43b03058b7821895fe5e37f2471726a9"), looks := false }, kinds := [], alts := [], laidByText := true, laidKinds := [.wider, .data], laidTests := true, laidLooks := .later }
def FluxEdgesUptoCardSaid : Prop := Claim7.holds Tryz.pinned (.plain (OpenSpec.upto fluxEdgesSpec)) fluxEdgesUptoCard
end Rows
end Go.Proofs.YtajnkcoanapboaaGreatDoor
