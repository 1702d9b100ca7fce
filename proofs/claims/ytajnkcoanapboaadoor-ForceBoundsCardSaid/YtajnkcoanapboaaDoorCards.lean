/-
  DERIVED. GIVEN WITH THE SEED: THE CARDS: each row of YtajnkcoanapboaaDoorRows.lean that lists a variable, with what it lists TIED to the program's text (the seventh form; the later family's looks); each row that meets fmt, with fmt's text TOLD by the authors' own Lean function (tested against real Go, not proved from fmt's source: count such statements apart). THE CARD IS WHAT COUNTS. Prove the row's statement (the work); the ties are given (YtajnkcoanapboaaDoorTie.lean); close each card by the builder's one call (the guide's Derived/Test/ToyasCard.lean, 'card_holds'). Laid BY PROGRAM, IN A SANDBOX (cutbox-door.mjs). By AI agents, Wed Nov 11 2026. No macro, syntax, notation, axiom, sorry.
-/
import Derived.Test.YtajnkcoanapboaaDoorRows
import GoSem.ClaimSeven
namespace Go.Proofs.YtajnkcoanapboaaDoor
namespace Rows

/-- THE TIED CARD OF 'tarnlaw16.ForceBounds'. -/
def forceBoundsCard : Claim7 := { stood := { row := forceBoundsRow, standIns := [], harness := (true, "f6553a0ada5b368c37943fa14eb9b6e333b3e211c08113c985ec94fc31d30b61"), looks := false }, kinds := [], alts := [], laidByText := true, laidKinds := [.wider, .data], laidTests := true, laidLooks := .later }
def ForceBoundsCardSaid : Prop := Claim7.holds Tryd.pinned (.plain (OpenSpec.ofChange forceBoundsSpec)) forceBoundsCard

/-- THE SECOND FORM's CARD OF 'tarnlaw16.ForceBounds'. -/
def forceBoundsUptoCard : Claim7 := { stood := { row := forceBoundsUptoRow, standIns := [], harness := (true, "f6553a0ada5b368c37943fa14eb9b6e333b3e211c08113c985ec94fc31d30b61"), looks := false }, kinds := [], alts := [], laidByText := true, laidKinds := [.wider, .data], laidTests := true, laidLooks := .later }
def ForceBoundsUptoCardSaid : Prop := Claim7.holds Tryd.pinned (.plain (OpenSpec.upto forceBoundsSpec)) forceBoundsUptoCard
end Rows
end Go.Proofs.YtajnkcoanapboaaDoor
