/-
  DERIVED. GIVEN WITH THE SEED: THE CARDS: each row of YtgoljofmbidkfaaGreatDoorRows.lean that lists a variable, with what it lists TIED to the program's text (the seventh form; the later family's looks); each row that meets fmt, with fmt's text TOLD by the authors' own Lean function (tested against real Go, not proved from fmt's source: count such statements apart). THE CARD IS WHAT COUNTS. Prove the row's statement (the work); the ties are given (YtgoljofmbidkfaaGreatDoorTie.lean); close each card by the builder's one call (the guide's Derived/Test/ToyasCard.lean, 'card_holds'). Laid BY PROGRAM, IN A SANDBOX (cutbox-door.mjs). By AI agents, Wed Nov 11 2026. No macro, syntax, notation, axiom, sorry.
-/
import Derived.Test.YtgoljofmbidkfaaGreatDoorRows
import GoSem.ClaimSeven
namespace Go.Proofs.YtgoljofmbidkfaaGreatDoor
namespace Rows

/-- THE TIED CARD OF 'tarnlaw22.SplitAll'. -/
def splitAllCard : Claim7 := { stood := { row := splitAllRow, standIns := [], harness := (true, "6a2759aa14fefb370a91d499db92705ce90c4bcfb17086d2b4fabd49b7d63514"), looks := false }, kinds := [], alts := [], laidByText := true, laidKinds := [.wider, .data], laidTests := true, laidLooks := .later }
def SplitAllCardSaid : Prop := Claim7.holds Tryz.pinned (.plain (OpenSpec.ofChange splitAllSpec)) splitAllCard

/-- THE TIED CARD OF 'tarnlaw22.SplitLocal'. -/
def splitLocalCard : Claim7 := { stood := { row := splitLocalRow, standIns := [], harness := (true, "6a2759aa14fefb370a91d499db92705ce90c4bcfb17086d2b4fabd49b7d63514"), looks := false }, kinds := [], alts := [], laidByText := true, laidKinds := [.wider, .data], laidTests := true, laidLooks := .later }
def SplitLocalCardSaid : Prop := Claim7.holds Tryz.pinned (.plain (OpenSpec.ofChange splitLocalSpec)) splitLocalCard

/-- THE TIED CARD OF 'tarnlaw20.StatePlans'. -/
def statePlansCard : Claim7 := { stood := { row := statePlansRow, standIns := [], harness := (true, "6a2759aa14fefb370a91d499db92705ce90c4bcfb17086d2b4fabd49b7d63514"), looks := false }, kinds := [], alts := [], laidByText := true, laidKinds := [.wider, .data], laidTests := true, laidLooks := .later }
def StatePlansCardSaid : Prop := Claim7.holds Tryz.pinned (.plain (OpenSpec.ofChange statePlansSpec)) statePlansCard

/-- THE TIED CARD OF 'tarnlaw20.StateChecks'. -/
def stateChecksCard : Claim7 := { stood := { row := stateChecksRow, standIns := [], harness := (true, "6a2759aa14fefb370a91d499db92705ce90c4bcfb17086d2b4fabd49b7d63514"), looks := false }, kinds := [], alts := [], laidByText := true, laidKinds := [.wider, .data], laidTests := true, laidLooks := .later }
def StateChecksCardSaid : Prop := Claim7.holds Tryz.pinned (.plain (OpenSpec.ofChange stateChecksSpec)) stateChecksCard

/-- THE TIED CARD OF 'tarnlaw20.StateSames'. -/
def stateSamesCard : Claim7 := { stood := { row := stateSamesRow, standIns := [], harness := (true, "6a2759aa14fefb370a91d499db92705ce90c4bcfb17086d2b4fabd49b7d63514"), looks := false }, kinds := [], alts := [], laidByText := true, laidKinds := [.wider, .data], laidTests := true, laidLooks := .later }
def StateSamesCardSaid : Prop := Claim7.holds Tryz.pinned (.plain (OpenSpec.ofChange stateSamesSpec)) stateSamesCard

/-- THE TIED CARD OF 'tarnlaw20.StateTurned'. -/
def stateTurnedCard : Claim7 := { stood := { row := stateTurnedRow, standIns := [], harness := (true, "6a2759aa14fefb370a91d499db92705ce90c4bcfb17086d2b4fabd49b7d63514"), looks := false }, kinds := [], alts := [], laidByText := true, laidKinds := [.wider, .data], laidTests := true, laidLooks := .later }
def StateTurnedCardSaid : Prop := Claim7.holds Tryz.pinned (.plain (OpenSpec.ofChange stateTurnedSpec)) stateTurnedCard

/-- THE TIED CARD OF 'tarnlaw20.StateGroup'. -/
def stateGroupCard : Claim7 := { stood := { row := stateGroupRow, standIns := [], harness := (true, "6a2759aa14fefb370a91d499db92705ce90c4bcfb17086d2b4fabd49b7d63514"), looks := false }, kinds := [], alts := [], laidByText := true, laidKinds := [.wider, .data], laidTests := true, laidLooks := .later }
def StateGroupCardSaid : Prop := Claim7.holds Tryz.pinned (.plain (OpenSpec.ofChange stateGroupSpec)) stateGroupCard

/-- THE TIED CARD OF 'tarnlaw20.StateMoves'. -/
def stateMovesCard : Claim7 := { stood := { row := stateMovesRow, standIns := [], harness := (true, "6a2759aa14fefb370a91d499db92705ce90c4bcfb17086d2b4fabd49b7d63514"), looks := false }, kinds := [], alts := [], laidByText := true, laidKinds := [.wider, .data], laidTests := true, laidLooks := .later }
def StateMovesCardSaid : Prop := Claim7.holds Tryz.pinned (.plain (OpenSpec.ofChange stateMovesSpec)) stateMovesCard

/-- THE TIED CARD OF 'tarnlaw20.StateLakes'. -/
def stateLakesCard : Claim7 := { stood := { row := stateLakesRow, standIns := [], harness := (true, "6a2759aa14fefb370a91d499db92705ce90c4bcfb17086d2b4fabd49b7d63514"), looks := false }, kinds := [], alts := [], laidByText := true, laidKinds := [.wider, .data], laidTests := true, laidLooks := .later }
def StateLakesCardSaid : Prop := Claim7.holds Tryz.pinned (.plain (OpenSpec.ofChange stateLakesSpec)) stateLakesCard

/-- THE TIED CARD OF 'tarnlaw20.StateKeeps'. -/
def stateKeepsCard : Claim7 := { stood := { row := stateKeepsRow, standIns := [], harness := (true, "6a2759aa14fefb370a91d499db92705ce90c4bcfb17086d2b4fabd49b7d63514"), looks := false }, kinds := [], alts := [], laidByText := true, laidKinds := [.wider, .data], laidTests := true, laidLooks := .later }
def StateKeepsCardSaid : Prop := Claim7.holds Tryz.pinned (.plain (OpenSpec.ofChange stateKeepsSpec)) stateKeepsCard

/-- THE SECOND FORM's CARD OF 'tarnlaw22.SplitAll'. -/
def splitAllUptoCard : Claim7 := { stood := { row := splitAllUptoRow, standIns := [], harness := (true, "6a2759aa14fefb370a91d499db92705ce90c4bcfb17086d2b4fabd49b7d63514"), looks := false }, kinds := [], alts := [], laidByText := true, laidKinds := [.wider, .data], laidTests := true, laidLooks := .later }
def SplitAllUptoCardSaid : Prop := Claim7.holds Tryz.pinned (.plain (OpenSpec.upto splitAllSpec)) splitAllUptoCard

/-- THE SECOND FORM's CARD OF 'tarnlaw22.SplitLocal'. -/
def splitLocalUptoCard : Claim7 := { stood := { row := splitLocalUptoRow, standIns := [], harness := (true, "6a2759aa14fefb370a91d499db92705ce90c4bcfb17086d2b4fabd49b7d63514"), looks := false }, kinds := [], alts := [], laidByText := true, laidKinds := [.wider, .data], laidTests := true, laidLooks := .later }
def SplitLocalUptoCardSaid : Prop := Claim7.holds Tryz.pinned (.plain (OpenSpec.upto splitLocalSpec)) splitLocalUptoCard

/-- THE SECOND FORM's CARD OF 'tarnlaw20.StatePlans'. -/
def statePlansUptoCard : Claim7 := { stood := { row := statePlansUptoRow, standIns := [], harness := (true, "6a2759aa14fefb370a91d499db92705ce90c4bcfb17086d2b4fabd49b7d63514"), looks := false }, kinds := [], alts := [], laidByText := true, laidKinds := [.wider, .data], laidTests := true, laidLooks := .later }
def StatePlansUptoCardSaid : Prop := Claim7.holds Tryz.pinned (.plain (OpenSpec.upto statePlansSpec)) statePlansUptoCard

/-- THE SECOND FORM's CARD OF 'tarnlaw20.StateChecks'. -/
def stateChecksUptoCard : Claim7 := { stood := { row := stateChecksUptoRow, standIns := [], harness := (true, "6a2759aa14fefb370a91d499db92705ce90c4bcfb17086d2b4fabd49b7d63514"), looks := false }, kinds := [], alts := [], laidByText := true, laidKinds := [.wider, .data], laidTests := true, laidLooks := .later }
def StateChecksUptoCardSaid : Prop := Claim7.holds Tryz.pinned (.plain (OpenSpec.upto stateChecksSpec)) stateChecksUptoCard

/-- THE SECOND FORM's CARD OF 'tarnlaw20.StateSames'. -/
def stateSamesUptoCard : Claim7 := { stood := { row := stateSamesUptoRow, standIns := [], harness := (true, "6a2759aa14fefb370a91d499db92705ce90c4bcfb17086d2b4fabd49b7d63514"), looks := false }, kinds := [], alts := [], laidByText := true, laidKinds := [.wider, .data], laidTests := true, laidLooks := .later }
def StateSamesUptoCardSaid : Prop := Claim7.holds Tryz.pinned (.plain (OpenSpec.upto stateSamesSpec)) stateSamesUptoCard

/-- THE SECOND FORM's CARD OF 'tarnlaw20.StateTurned'. -/
def stateTurnedUptoCard : Claim7 := { stood := { row := stateTurnedUptoRow, standIns := [], harness := (true, "6a2759aa14fefb370a91d499db92705ce90c4bcfb17086d2b4fabd49b7d63514"), looks := false }, kinds := [], alts := [], laidByText := true, laidKinds := [.wider, .data], laidTests := true, laidLooks := .later }
def StateTurnedUptoCardSaid : Prop := Claim7.holds Tryz.pinned (.plain (OpenSpec.upto stateTurnedSpec)) stateTurnedUptoCard

/-- THE SECOND FORM's CARD OF 'tarnlaw20.StateGroup'. -/
def stateGroupUptoCard : Claim7 := { stood := { row := stateGroupUptoRow, standIns := [], harness := (true, "6a2759aa14fefb370a91d499db92705ce90c4bcfb17086d2b4fabd49b7d63514"), looks := false }, kinds := [], alts := [], laidByText := true, laidKinds := [.wider, .data], laidTests := true, laidLooks := .later }
def StateGroupUptoCardSaid : Prop := Claim7.holds Tryz.pinned (.plain (OpenSpec.upto stateGroupSpec)) stateGroupUptoCard

/-- THE SECOND FORM's CARD OF 'tarnlaw20.StateMoves'. -/
def stateMovesUptoCard : Claim7 := { stood := { row := stateMovesUptoRow, standIns := [], harness := (true, "6a2759aa14fefb370a91d499db92705ce90c4bcfb17086d2b4fabd49b7d63514"), looks := false }, kinds := [], alts := [], laidByText := true, laidKinds := [.wider, .data], laidTests := true, laidLooks := .later }
def StateMovesUptoCardSaid : Prop := Claim7.holds Tryz.pinned (.plain (OpenSpec.upto stateMovesSpec)) stateMovesUptoCard

/-- THE SECOND FORM's CARD OF 'tarnlaw20.StateLakes'. -/
def stateLakesUptoCard : Claim7 := { stood := { row := stateLakesUptoRow, standIns := [], harness := (true, "6a2759aa14fefb370a91d499db92705ce90c4bcfb17086d2b4fabd49b7d63514"), looks := false }, kinds := [], alts := [], laidByText := true, laidKinds := [.wider, .data], laidTests := true, laidLooks := .later }
def StateLakesUptoCardSaid : Prop := Claim7.holds Tryz.pinned (.plain (OpenSpec.upto stateLakesSpec)) stateLakesUptoCard

/-- THE SECOND FORM's CARD OF 'tarnlaw20.StateKeeps'. -/
def stateKeepsUptoCard : Claim7 := { stood := { row := stateKeepsUptoRow, standIns := [], harness := (true, "6a2759aa14fefb370a91d499db92705ce90c4bcfb17086d2b4fabd49b7d63514"), looks := false }, kinds := [], alts := [], laidByText := true, laidKinds := [.wider, .data], laidTests := true, laidLooks := .later }
def StateKeepsUptoCardSaid : Prop := Claim7.holds Tryz.pinned (.plain (OpenSpec.upto stateKeepsSpec)) stateKeepsUptoCard
end Rows
end Go.Proofs.YtgoljofmbidkfaaGreatDoor
