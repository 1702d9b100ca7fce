/-
  DERIVED. GIVEN WITH THE SEED: THE CARDS: each row of YtemaeembndobaaaDoorRows.lean that lists a variable, with what it lists TIED to the program's text (the seventh form; the later family's looks); each row that meets fmt, with fmt's text TOLD by the authors' own Lean function (tested against real Go, not proved from fmt's source: count such statements apart). THE CARD IS WHAT COUNTS. Prove the row's statement (the work); the ties are given (YtemaeembndobaaaDoorTie.lean); close each card by the builder's one call (the guide's Derived/Test/ToyasCard.lean, 'card_holds'). Laid BY PROGRAM, IN A SANDBOX (cutbox-door.mjs). By AI agents, Wed Nov 11 2026. No macro, syntax, notation, axiom, sorry.
-/
import Derived.Test.YtemaeembndobaaaDoorRows
import GoSem.ClaimSeven
namespace Go.Proofs.YtemaeembndobaaaDoor
namespace Rows

/-- THE TIED CARD OF 'tarnlaw15.MassMemory'. -/
def massMemoryCard : Claim7 := { stood := { row := massMemoryRow, standIns := [], harness := (true, "e8fbebc5bf12c1aab18fd260d1103f96ae837fa63aa3ef3ed8a3b7f9b53ce8b3"), looks := false }, kinds := [], alts := [], laidByText := true, laidKinds := [.wider, .data], laidTests := true, laidLooks := .later }
def MassMemoryCardSaid : Prop := Claim7.holds Tryd.pinned (.plain (OpenSpec.ofChange massMemorySpec)) massMemoryCard

/-- THE TIED CARD OF 'tarnlaw22.SplitParts'. -/
def splitPartsCard : Claim7 := { stood := { row := splitPartsRow, standIns := [], harness := (true, "e8fbebc5bf12c1aab18fd260d1103f96ae837fa63aa3ef3ed8a3b7f9b53ce8b3"), looks := false }, kinds := [], alts := [], laidByText := true, laidKinds := [.wider, .data], laidTests := true, laidLooks := .later }
def SplitPartsCardSaid : Prop := Claim7.holds Tryd.pinned (.plain (OpenSpec.ofChange splitPartsSpec)) splitPartsCard

/-- THE TIED CARD OF 'tarnlaw22.SplitShown'. -/
def splitShownCard : Claim7 := { stood := { row := splitShownRow, standIns := [], harness := (true, "e8fbebc5bf12c1aab18fd260d1103f96ae837fa63aa3ef3ed8a3b7f9b53ce8b3"), looks := false }, kinds := [], alts := [], laidByText := true, laidKinds := [.wider, .data], laidTests := true, laidLooks := .later }
def SplitShownCardSaid : Prop := Claim7.holds Tryd.pinned (.plain (OpenSpec.ofChange splitShownSpec)) splitShownCard

/-- THE SECOND FORM's CARD OF 'tarnlaw15.MassMemory'. -/
def massMemoryUptoCard : Claim7 := { stood := { row := massMemoryUptoRow, standIns := [], harness := (true, "e8fbebc5bf12c1aab18fd260d1103f96ae837fa63aa3ef3ed8a3b7f9b53ce8b3"), looks := false }, kinds := [], alts := [], laidByText := true, laidKinds := [.wider, .data], laidTests := true, laidLooks := .later }
def MassMemoryUptoCardSaid : Prop := Claim7.holds Tryd.pinned (.plain (OpenSpec.upto massMemorySpec)) massMemoryUptoCard

/-- THE SECOND FORM's CARD OF 'tarnlaw22.SplitParts'. -/
def splitPartsUptoCard : Claim7 := { stood := { row := splitPartsUptoRow, standIns := [], harness := (true, "e8fbebc5bf12c1aab18fd260d1103f96ae837fa63aa3ef3ed8a3b7f9b53ce8b3"), looks := false }, kinds := [], alts := [], laidByText := true, laidKinds := [.wider, .data], laidTests := true, laidLooks := .later }
def SplitPartsUptoCardSaid : Prop := Claim7.holds Tryd.pinned (.plain (OpenSpec.upto splitPartsSpec)) splitPartsUptoCard

/-- THE SECOND FORM's CARD OF 'tarnlaw22.SplitShown'. -/
def splitShownUptoCard : Claim7 := { stood := { row := splitShownUptoRow, standIns := [], harness := (true, "e8fbebc5bf12c1aab18fd260d1103f96ae837fa63aa3ef3ed8a3b7f9b53ce8b3"), looks := false }, kinds := [], alts := [], laidByText := true, laidKinds := [.wider, .data], laidTests := true, laidLooks := .later }
def SplitShownUptoCardSaid : Prop := Claim7.holds Tryd.pinned (.plain (OpenSpec.upto splitShownSpec)) splitShownUptoCard
end Rows
end Go.Proofs.YtemaeembndobaaaDoor
