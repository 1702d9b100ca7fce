/-
  DERIVED. GIVEN WITH THE SEED: THE CARDS: each row of YthoofdnnfahhaaaGreatDoorRows.lean that lists a variable, with what it lists TIED to the program's text (the seventh form; the later family's looks); each row that meets fmt, with fmt's text TOLD by the authors' own Lean function (tested against real Go, not proved from fmt's source: count such statements apart). THE CARD IS WHAT COUNTS. Prove the row's statement (the work); the ties are given (YthoofdnnfahhaaaGreatDoorTie.lean); close each card by the builder's one call (the guide's Derived/Test/ToyasCard.lean, 'card_holds'). Laid BY PROGRAM, IN A SANDBOX (cutbox-door.mjs). By AI agents, Wed Nov 11 2026. No macro, syntax, notation, axiom, sorry.
-/
import Derived.Test.YthoofdnnfahhaaaGreatDoorRows
import GoSem.ClaimSeven
namespace Go.Proofs.YthoofdnnfahhaaaGreatDoor
namespace Rows

/-- THE TIED CARD OF 'tarnlaw08.GeomAll'. -/
def geomAllCard : Claim7 := { stood := { row := geomAllRow, standIns := [], harness := (true, "bf3ace20cc2e9359859b258286acbe6964e2a7329101e681c430f298ce7cbc1c"), looks := false }, kinds := [], alts := [], laidByText := true, laidKinds := [.wider, .data], laidTests := true, laidLooks := .later }
def GeomAllCardSaid : Prop := Claim7.holds Tryz.pinned (.plain (OpenSpec.ofChange geomAllSpec)) geomAllCard

/-- THE TIED CARD OF 'tarnlaw09.GridExact'. -/
def gridExactCard : Claim7 := { stood := { row := gridExactRow, standIns := [], harness := (true, "bf3ace20cc2e9359859b258286acbe6964e2a7329101e681c430f298ce7cbc1c"), looks := false }, kinds := [], alts := [], laidByText := true, laidKinds := [.wider, .data], laidTests := true, laidLooks := .later }
def GridExactCardSaid : Prop := Claim7.holds Tryz.pinned (.plain (OpenSpec.ofChange gridExactSpec)) gridExactCard

/-- THE TIED CARD OF 'tarnlaw15.MassExact'. -/
def massExactCard : Claim7 := { stood := { row := massExactRow, standIns := [], harness := (true, "bf3ace20cc2e9359859b258286acbe6964e2a7329101e681c430f298ce7cbc1c"), looks := false }, kinds := [], alts := [], laidByText := true, laidKinds := [.wider, .data], laidTests := true, laidLooks := .later }
def MassExactCardSaid : Prop := Claim7.holds Tryz.pinned (.plain (OpenSpec.ofChange massExactSpec)) massExactCard

/-- THE TIED CARD OF 'tarnlaw12.ReconExact'. -/
def reconExactCard : Claim7 := { stood := { row := reconExactRow, standIns := [], harness := (true, "bf3ace20cc2e9359859b258286acbe6964e2a7329101e681c430f298ce7cbc1c"), looks := false }, kinds := [], alts := [], laidByText := true, laidKinds := [.wider, .data], laidTests := true, laidLooks := .later }
def ReconExactCardSaid : Prop := Claim7.holds Tryz.pinned (.plain (OpenSpec.ofChange reconExactSpec)) reconExactCard

/-- THE TIED CARD OF 'tarnlaw22.SplitAll'. -/
def splitAllCard : Claim7 := { stood := { row := splitAllRow, standIns := [], harness := (true, "bf3ace20cc2e9359859b258286acbe6964e2a7329101e681c430f298ce7cbc1c"), looks := false }, kinds := [], alts := [], laidByText := true, laidKinds := [.wider, .data], laidTests := true, laidLooks := .later }
def SplitAllCardSaid : Prop := Claim7.holds Tryz.pinned (.plain (OpenSpec.ofChange splitAllSpec)) splitAllCard

/-- THE TIED CARD OF 'tarnlaw22.SplitLocal'. -/
def splitLocalCard : Claim7 := { stood := { row := splitLocalRow, standIns := [], harness := (true, "bf3ace20cc2e9359859b258286acbe6964e2a7329101e681c430f298ce7cbc1c"), looks := false }, kinds := [], alts := [], laidByText := true, laidKinds := [.wider, .data], laidTests := true, laidLooks := .later }
def SplitLocalCardSaid : Prop := Claim7.holds Tryz.pinned (.plain (OpenSpec.ofChange splitLocalSpec)) splitLocalCard

/-- THE TIED CARD OF 'tarnlaw16.ForceAll'. -/
def forceAllCard : Claim7 := { stood := { row := forceAllRow, standIns := [], harness := (true, "bf3ace20cc2e9359859b258286acbe6964e2a7329101e681c430f298ce7cbc1c"), looks := false }, kinds := [], alts := [], laidByText := true, laidKinds := [.wider, .data], laidTests := true, laidLooks := .later }
def ForceAllCardSaid : Prop := Claim7.holds Tryz.pinned (.plain (OpenSpec.ofChange forceAllSpec)) forceAllCard

/-- THE TIED CARD OF 'tarnlaw12.ReconDepths'. -/
def reconDepthsCard : Claim7 := { stood := { row := reconDepthsRow, standIns := [], harness := (true, "bf3ace20cc2e9359859b258286acbe6964e2a7329101e681c430f298ce7cbc1c"), looks := false }, kinds := [], alts := [], laidByText := true, laidKinds := [.wider, .data], laidTests := true, laidLooks := .later }
def ReconDepthsCardSaid : Prop := Claim7.holds Tryz.pinned (.plain (OpenSpec.ofChange reconDepthsSpec)) reconDepthsCard

/-- THE TIED CARD OF 'tarnlaw13.FluxAll'. -/
def fluxAllCard : Claim7 := { stood := { row := fluxAllRow, standIns := [], harness := (true, "bf3ace20cc2e9359859b258286acbe6964e2a7329101e681c430f298ce7cbc1c"), looks := false }, kinds := [], alts := [], laidByText := true, laidKinds := [.wider, .data], laidTests := true, laidLooks := .later }
def FluxAllCardSaid : Prop := Claim7.holds Tryz.pinned (.plain (OpenSpec.ofChange fluxAllSpec)) fluxAllCard

/-- THE SECOND FORM's CARD OF 'tarnlaw08.GeomAll'. -/
def geomAllUptoCard : Claim7 := { stood := { row := geomAllUptoRow, standIns := [], harness := (true, "bf3ace20cc2e9359859b258286acbe6964e2a7329101e681c430f298ce7cbc1c"), looks := false }, kinds := [], alts := [], laidByText := true, laidKinds := [.wider, .data], laidTests := true, laidLooks := .later }
def GeomAllUptoCardSaid : Prop := Claim7.holds Tryz.pinned (.plain (OpenSpec.upto geomAllSpec)) geomAllUptoCard

/-- THE SECOND FORM's CARD OF 'tarnlaw09.GridExact'. -/
def gridExactUptoCard : Claim7 := { stood := { row := gridExactUptoRow, standIns := [], harness := (true, "bf3ace20cc2e9359859b258286acbe6964e2a7329101e681c430f298ce7cbc1c"), looks := false }, kinds := [], alts := [], laidByText := true, laidKinds := [.wider, .data], laidTests := true, laidLooks := .later }
def GridExactUptoCardSaid : Prop := Claim7.holds Tryz.pinned (.plain (OpenSpec.upto gridExactSpec)) gridExactUptoCard

/-- THE SECOND FORM's CARD OF 'tarnlaw15.MassExact'. -/
def massExactUptoCard : Claim7 := { stood := { row := massExactUptoRow, standIns := [], harness := (true, "bf3ace20cc2e9359859b258286acbe6964e2a7329101e681c430f298ce7cbc1c"), looks := false }, kinds := [], alts := [], laidByText := true, laidKinds := [.wider, .data], laidTests := true, laidLooks := .later }
def MassExactUptoCardSaid : Prop := Claim7.holds Tryz.pinned (.plain (OpenSpec.upto massExactSpec)) massExactUptoCard

/-- THE SECOND FORM's CARD OF 'tarnlaw12.ReconExact'. -/
def reconExactUptoCard : Claim7 := { stood := { row := reconExactUptoRow, standIns := [], harness := (true, "bf3ace20cc2e9359859b258286acbe6964e2a7329101e681c430f298ce7cbc1c"), looks := false }, kinds := [], alts := [], laidByText := true, laidKinds := [.wider, .data], laidTests := true, laidLooks := .later }
def ReconExactUptoCardSaid : Prop := Claim7.holds Tryz.pinned (.plain (OpenSpec.upto reconExactSpec)) reconExactUptoCard

/-- THE SECOND FORM's CARD OF 'tarnlaw22.SplitAll'. -/
def splitAllUptoCard : Claim7 := { stood := { row := splitAllUptoRow, standIns := [], harness := (true, "bf3ace20cc2e9359859b258286acbe6964e2a7329101e681c430f298ce7cbc1c"), looks := false }, kinds := [], alts := [], laidByText := true, laidKinds := [.wider, .data], laidTests := true, laidLooks := .later }
def SplitAllUptoCardSaid : Prop := Claim7.holds Tryz.pinned (.plain (OpenSpec.upto splitAllSpec)) splitAllUptoCard

/-- THE SECOND FORM's CARD OF 'tarnlaw22.SplitLocal'. -/
def splitLocalUptoCard : Claim7 := { stood := { row := splitLocalUptoRow, standIns := [], harness := (true, "bf3ace20cc2e9359859b258286acbe6964e2a7329101e681c430f298ce7cbc1c"), looks := false }, kinds := [], alts := [], laidByText := true, laidKinds := [.wider, .data], laidTests := true, laidLooks := .later }
def SplitLocalUptoCardSaid : Prop := Claim7.holds Tryz.pinned (.plain (OpenSpec.upto splitLocalSpec)) splitLocalUptoCard

/-- THE SECOND FORM's CARD OF 'tarnlaw16.ForceAll'. -/
def forceAllUptoCard : Claim7 := { stood := { row := forceAllUptoRow, standIns := [], harness := (true, "bf3ace20cc2e9359859b258286acbe6964e2a7329101e681c430f298ce7cbc1c"), looks := false }, kinds := [], alts := [], laidByText := true, laidKinds := [.wider, .data], laidTests := true, laidLooks := .later }
def ForceAllUptoCardSaid : Prop := Claim7.holds Tryz.pinned (.plain (OpenSpec.upto forceAllSpec)) forceAllUptoCard

/-- THE SECOND FORM's CARD OF 'tarnlaw12.ReconDepths'. -/
def reconDepthsUptoCard : Claim7 := { stood := { row := reconDepthsUptoRow, standIns := [], harness := (true, "bf3ace20cc2e9359859b258286acbe6964e2a7329101e681c430f298ce7cbc1c"), looks := false }, kinds := [], alts := [], laidByText := true, laidKinds := [.wider, .data], laidTests := true, laidLooks := .later }
def ReconDepthsUptoCardSaid : Prop := Claim7.holds Tryz.pinned (.plain (OpenSpec.upto reconDepthsSpec)) reconDepthsUptoCard

/-- THE SECOND FORM's CARD OF 'tarnlaw13.FluxAll'. -/
def fluxAllUptoCard : Claim7 := { stood := { row := fluxAllUptoRow, standIns := [], harness := (true, "bf3ace20cc2e9359859b258286acbe6964e2a7329101e681c430f298ce7cbc1c"), looks := false }, kinds := [], alts := [], laidByText := true, laidKinds := [.wider, .data], laidTests := true, laidLooks := .later }
def FluxAllUptoCardSaid : Prop := Claim7.holds Tryz.pinned (.plain (OpenSpec.upto fluxAllSpec)) fluxAllUptoCard
end Rows
end Go.Proofs.YthoofdnnfahhaaaGreatDoor
