/-
  DERIVED. GIVEN WITH THE SEED: THE CARDS: each row of YtbfdbpmdibjanaaDoorRows.lean that lists a variable, with what it lists TIED to the program's text (the seventh form; the later family's looks); each row that meets fmt, with fmt's text TOLD by the authors' own Lean function (tested against real Go, not proved from fmt's source: count such statements apart). THE CARD IS WHAT COUNTS. Prove the row's statement (the work); the ties are given (YtbfdbpmdibjanaaDoorTie.lean); close each card by the builder's one call (the guide's Derived/Test/ToyasCard.lean, 'card_holds'). Laid BY PROGRAM, IN A SANDBOX (cutbox-door.mjs). By AI agents, Wed Nov 11 2026. No macro, syntax, notation, axiom, sorry.
-/
import Derived.Test.YtbfdbpmdibjanaaDoorRows
import GoSem.ClaimSeven
namespace Go.Proofs.YtbfdbpmdibjanaaDoor
namespace Rows

/-- THE TIED CARD OF 'tarnlaw08.GeomSides'. -/
def geomSidesCard : Claim7 := { stood := { row := geomSidesRow, standIns := [], harness := (true, "711f9a9ad0609b584029c3e94315609c90d3ac3980ec42168e82812fd3056b92"), looks := false }, kinds := [], alts := [], laidByText := true, laidKinds := [.wider, .data], laidTests := true, laidLooks := .later }
def GeomSidesCardSaid : Prop := Claim7.holds Tryd.pinned (.plain (OpenSpec.ofChange geomSidesSpec)) geomSidesCard

/-- THE TIED CARD OF 'tarnlaw08.GeomBounds'. -/
def geomBoundsCard : Claim7 := { stood := { row := geomBoundsRow, standIns := [], harness := (true, "711f9a9ad0609b584029c3e94315609c90d3ac3980ec42168e82812fd3056b92"), looks := false }, kinds := [], alts := [], laidByText := true, laidKinds := [.wider, .data], laidTests := true, laidLooks := .later }
def GeomBoundsCardSaid : Prop := Claim7.holds Tryd.pinned (.plain (OpenSpec.ofChange geomBoundsSpec)) geomBoundsCard

/-- THE TIED CARD OF 'tarnlaw08.GeomNone'. -/
def geomNoneCard : Claim7 := { stood := { row := geomNoneRow, standIns := [], harness := (true, "711f9a9ad0609b584029c3e94315609c90d3ac3980ec42168e82812fd3056b92"), looks := false }, kinds := [], alts := [], laidByText := true, laidKinds := [.wider, .data], laidTests := true, laidLooks := .later }
def GeomNoneCardSaid : Prop := Claim7.holds Tryd.pinned (.plain (OpenSpec.ofChange geomNoneSpec)) geomNoneCard

/-- THE TIED CARD OF 'tarnlaw08.GeomTurns'. -/
def geomTurnsCard : Claim7 := { stood := { row := geomTurnsRow, standIns := [], harness := (true, "711f9a9ad0609b584029c3e94315609c90d3ac3980ec42168e82812fd3056b92"), looks := false }, kinds := [], alts := [], laidByText := true, laidKinds := [.wider, .data], laidTests := true, laidLooks := .later }
def GeomTurnsCardSaid : Prop := Claim7.holds Tryd.pinned (.plain (OpenSpec.ofChange geomTurnsSpec)) geomTurnsCard

/-- THE TIED CARD OF 'tarnlaw09.GridBehind'. -/
def gridBehindCard : Claim7 := { stood := { row := gridBehindRow, standIns := [], harness := (true, "711f9a9ad0609b584029c3e94315609c90d3ac3980ec42168e82812fd3056b92"), looks := false }, kinds := [], alts := [], laidByText := true, laidKinds := [.wider, .data], laidTests := true, laidLooks := .later }
def GridBehindCardSaid : Prop := Claim7.holds Tryd.pinned (.plain (OpenSpec.ofChange gridBehindSpec)) gridBehindCard

/-- THE TIED CARD OF 'tarnlaw09.GridEdges'. -/
def gridEdgesCard : Claim7 := { stood := { row := gridEdgesRow, standIns := [], harness := (true, "711f9a9ad0609b584029c3e94315609c90d3ac3980ec42168e82812fd3056b92"), looks := false }, kinds := [], alts := [], laidByText := true, laidKinds := [.wider, .data], laidTests := true, laidLooks := .later }
def GridEdgesCardSaid : Prop := Claim7.holds Tryd.pinned (.plain (OpenSpec.ofChange gridEdgesSpec)) gridEdgesCard

/-- THE TIED CARD OF 'tarnlaw09.GridAround'. -/
def gridAroundCard : Claim7 := { stood := { row := gridAroundRow, standIns := [], harness := (true, "711f9a9ad0609b584029c3e94315609c90d3ac3980ec42168e82812fd3056b92"), looks := false }, kinds := [], alts := [], laidByText := true, laidKinds := [.wider, .data], laidTests := true, laidLooks := .later }
def GridAroundCardSaid : Prop := Claim7.holds Tryd.pinned (.plain (OpenSpec.ofChange gridAroundSpec)) gridAroundCard

/-- THE TIED CARD OF 'tarnlaw09.GridSizes'. -/
def gridSizesCard : Claim7 := { stood := { row := gridSizesRow, standIns := [], harness := (true, "711f9a9ad0609b584029c3e94315609c90d3ac3980ec42168e82812fd3056b92"), looks := false }, kinds := [], alts := [], laidByText := true, laidKinds := [.wider, .data], laidTests := true, laidLooks := .later }
def GridSizesCardSaid : Prop := Claim7.holds Tryd.pinned (.plain (OpenSpec.ofChange gridSizesSpec)) gridSizesCard

/-- THE TIED CARD OF 'tarnlaw09.GridTurned'. -/
def gridTurnedCard : Claim7 := { stood := { row := gridTurnedRow, standIns := [], harness := (true, "711f9a9ad0609b584029c3e94315609c90d3ac3980ec42168e82812fd3056b92"), looks := false }, kinds := [], alts := [], laidByText := true, laidKinds := [.wider, .data], laidTests := true, laidLooks := .later }
def GridTurnedCardSaid : Prop := Claim7.holds Tryd.pinned (.plain (OpenSpec.ofChange gridTurnedSpec)) gridTurnedCard

/-- THE SECOND FORM's CARD OF 'tarnlaw08.GeomSides'. -/
def geomSidesUptoCard : Claim7 := { stood := { row := geomSidesUptoRow, standIns := [], harness := (true, "711f9a9ad0609b584029c3e94315609c90d3ac3980ec42168e82812fd3056b92"), looks := false }, kinds := [], alts := [], laidByText := true, laidKinds := [.wider, .data], laidTests := true, laidLooks := .later }
def GeomSidesUptoCardSaid : Prop := Claim7.holds Tryd.pinned (.plain (OpenSpec.upto geomSidesSpec)) geomSidesUptoCard

/-- THE SECOND FORM's CARD OF 'tarnlaw08.GeomBounds'. -/
def geomBoundsUptoCard : Claim7 := { stood := { row := geomBoundsUptoRow, standIns := [], harness := (true, "711f9a9ad0609b584029c3e94315609c90d3ac3980ec42168e82812fd3056b92"), looks := false }, kinds := [], alts := [], laidByText := true, laidKinds := [.wider, .data], laidTests := true, laidLooks := .later }
def GeomBoundsUptoCardSaid : Prop := Claim7.holds Tryd.pinned (.plain (OpenSpec.upto geomBoundsSpec)) geomBoundsUptoCard

/-- THE SECOND FORM's CARD OF 'tarnlaw08.GeomNone'. -/
def geomNoneUptoCard : Claim7 := { stood := { row := geomNoneUptoRow, standIns := [], harness := (true, "711f9a9ad0609b584029c3e94315609c90d3ac3980ec42168e82812fd3056b92"), looks := false }, kinds := [], alts := [], laidByText := true, laidKinds := [.wider, .data], laidTests := true, laidLooks := .later }
def GeomNoneUptoCardSaid : Prop := Claim7.holds Tryd.pinned (.plain (OpenSpec.upto geomNoneSpec)) geomNoneUptoCard

/-- THE SECOND FORM's CARD OF 'tarnlaw08.GeomTurns'. -/
def geomTurnsUptoCard : Claim7 := { stood := { row := geomTurnsUptoRow, standIns := [], harness := (true, "711f9a9ad0609b584029c3e94315609c90d3ac3980ec42168e82812fd3056b92"), looks := false }, kinds := [], alts := [], laidByText := true, laidKinds := [.wider, .data], laidTests := true, laidLooks := .later }
def GeomTurnsUptoCardSaid : Prop := Claim7.holds Tryd.pinned (.plain (OpenSpec.upto geomTurnsSpec)) geomTurnsUptoCard

/-- THE SECOND FORM's CARD OF 'tarnlaw09.GridBehind'. -/
def gridBehindUptoCard : Claim7 := { stood := { row := gridBehindUptoRow, standIns := [], harness := (true, "711f9a9ad0609b584029c3e94315609c90d3ac3980ec42168e82812fd3056b92"), looks := false }, kinds := [], alts := [], laidByText := true, laidKinds := [.wider, .data], laidTests := true, laidLooks := .later }
def GridBehindUptoCardSaid : Prop := Claim7.holds Tryd.pinned (.plain (OpenSpec.upto gridBehindSpec)) gridBehindUptoCard

/-- THE SECOND FORM's CARD OF 'tarnlaw09.GridEdges'. -/
def gridEdgesUptoCard : Claim7 := { stood := { row := gridEdgesUptoRow, standIns := [], harness := (true, "711f9a9ad0609b584029c3e94315609c90d3ac3980ec42168e82812fd3056b92"), looks := false }, kinds := [], alts := [], laidByText := true, laidKinds := [.wider, .data], laidTests := true, laidLooks := .later }
def GridEdgesUptoCardSaid : Prop := Claim7.holds Tryd.pinned (.plain (OpenSpec.upto gridEdgesSpec)) gridEdgesUptoCard

/-- THE SECOND FORM's CARD OF 'tarnlaw09.GridAround'. -/
def gridAroundUptoCard : Claim7 := { stood := { row := gridAroundUptoRow, standIns := [], harness := (true, "711f9a9ad0609b584029c3e94315609c90d3ac3980ec42168e82812fd3056b92"), looks := false }, kinds := [], alts := [], laidByText := true, laidKinds := [.wider, .data], laidTests := true, laidLooks := .later }
def GridAroundUptoCardSaid : Prop := Claim7.holds Tryd.pinned (.plain (OpenSpec.upto gridAroundSpec)) gridAroundUptoCard

/-- THE SECOND FORM's CARD OF 'tarnlaw09.GridSizes'. -/
def gridSizesUptoCard : Claim7 := { stood := { row := gridSizesUptoRow, standIns := [], harness := (true, "711f9a9ad0609b584029c3e94315609c90d3ac3980ec42168e82812fd3056b92"), looks := false }, kinds := [], alts := [], laidByText := true, laidKinds := [.wider, .data], laidTests := true, laidLooks := .later }
def GridSizesUptoCardSaid : Prop := Claim7.holds Tryd.pinned (.plain (OpenSpec.upto gridSizesSpec)) gridSizesUptoCard

/-- THE SECOND FORM's CARD OF 'tarnlaw09.GridTurned'. -/
def gridTurnedUptoCard : Claim7 := { stood := { row := gridTurnedUptoRow, standIns := [], harness := (true, "711f9a9ad0609b584029c3e94315609c90d3ac3980ec42168e82812fd3056b92"), looks := false }, kinds := [], alts := [], laidByText := true, laidKinds := [.wider, .data], laidTests := true, laidLooks := .later }
def GridTurnedUptoCardSaid : Prop := Claim7.holds Tryd.pinned (.plain (OpenSpec.upto gridTurnedSpec)) gridTurnedUptoCard
end Rows
end Go.Proofs.YtbfdbpmdibjanaaDoor
