/-
  DERIVED. GIVEN WITH THE SEED: THE CARDS: each row of YtjpkfdhfofaehaaDoorRows.lean that lists a variable, with what it lists TIED to the program's text (the seventh form; the later family's looks); each row that meets fmt, with fmt's text TOLD by the authors' own Lean function (tested against real Go, not proved from fmt's source: count such statements apart). THE CARD IS WHAT COUNTS. Prove the row's statement (the work); the ties are given (YtjpkfdhfofaehaaDoorTie.lean); close each card by the builder's one call (the guide's Derived/Test/ToyasCard.lean, 'card_holds'). Laid BY PROGRAM, IN A SANDBOX (cutbox-door.mjs). By AI agents, Wed Nov 11 2026. No macro, syntax, notation, axiom, sorry.
-/
import Derived.Test.YtjpkfdhfofaehaaDoorRows
import GoSem.ClaimSeven
namespace Go.Proofs.YtjpkfdhfofaehaaDoor
namespace Rows

/-- THE TIED CARD OF 'tarnlaw15.MassTotals'. -/
def massTotalsCard : Claim7 := { stood := { row := massTotalsRow, standIns := [], harness := (true, "c7cd848fccdb71c86bc1eeb059bd12d451d3db5fce284aa8eb79b1ba2fb04724"), looks := false }, kinds := [], alts := [], laidByText := true, laidKinds := [.wider, .data], laidTests := true, laidLooks := .later }
def MassTotalsCardSaid : Prop := Claim7.holds Tryd.pinned (.plain (OpenSpec.ofChange massTotalsSpec)) massTotalsCard

/-- THE TIED CARD OF 'tarnlaw15.MassParts'. -/
def massPartsCard : Claim7 := { stood := { row := massPartsRow, standIns := [], harness := (true, "c7cd848fccdb71c86bc1eeb059bd12d451d3db5fce284aa8eb79b1ba2fb04724"), looks := false }, kinds := [], alts := [], laidByText := true, laidKinds := [.wider, .data], laidTests := true, laidLooks := .later }
def MassPartsCardSaid : Prop := Claim7.holds Tryd.pinned (.plain (OpenSpec.ofChange massPartsSpec)) massPartsCard

/-- THE TIED CARD OF 'tarnlaw15.MassKept'. -/
def massKeptCard : Claim7 := { stood := { row := massKeptRow, standIns := [], harness := (true, "c7cd848fccdb71c86bc1eeb059bd12d451d3db5fce284aa8eb79b1ba2fb04724"), looks := false }, kinds := [], alts := [], laidByText := true, laidKinds := [.wider, .data], laidTests := true, laidLooks := .later }
def MassKeptCardSaid : Prop := Claim7.holds Tryd.pinned (.plain (OpenSpec.ofChange massKeptSpec)) massKeptCard

/-- THE TIED CARD OF 'tarnlaw15.MassOne'. -/
def massOneCard : Claim7 := { stood := { row := massOneRow, standIns := [], harness := (true, "c7cd848fccdb71c86bc1eeb059bd12d451d3db5fce284aa8eb79b1ba2fb04724"), looks := false }, kinds := [], alts := [], laidByText := true, laidKinds := [.wider, .data], laidTests := true, laidLooks := .later }
def MassOneCardSaid : Prop := Claim7.holds Tryd.pinned (.plain (OpenSpec.ofChange massOneSpec)) massOneCard

/-- THE TIED CARD OF 'tarnlaw15.MassTwo'. -/
def massTwoCard : Claim7 := { stood := { row := massTwoRow, standIns := [], harness := (true, "c7cd848fccdb71c86bc1eeb059bd12d451d3db5fce284aa8eb79b1ba2fb04724"), looks := false }, kinds := [], alts := [], laidByText := true, laidKinds := [.wider, .data], laidTests := true, laidLooks := .later }
def MassTwoCardSaid : Prop := Claim7.holds Tryd.pinned (.plain (OpenSpec.ofChange massTwoSpec)) massTwoCard

/-- THE TIED CARD OF 'tarnlaw15.MassMemory'. -/
def massMemoryCard : Claim7 := { stood := { row := massMemoryRow, standIns := [], harness := (true, "c7cd848fccdb71c86bc1eeb059bd12d451d3db5fce284aa8eb79b1ba2fb04724"), looks := false }, kinds := [], alts := [], laidByText := true, laidKinds := [.wider, .data], laidTests := true, laidLooks := .later }
def MassMemoryCardSaid : Prop := Claim7.holds Tryd.pinned (.plain (OpenSpec.ofChange massMemorySpec)) massMemoryCard

/-- THE TIED CARD OF 'tarnlaw22.SplitParts'. -/
def splitPartsCard : Claim7 := { stood := { row := splitPartsRow, standIns := [], harness := (true, "c7cd848fccdb71c86bc1eeb059bd12d451d3db5fce284aa8eb79b1ba2fb04724"), looks := false }, kinds := [], alts := [], laidByText := true, laidKinds := [.wider, .data], laidTests := true, laidLooks := .later }
def SplitPartsCardSaid : Prop := Claim7.holds Tryd.pinned (.plain (OpenSpec.ofChange splitPartsSpec)) splitPartsCard

/-- THE TIED CARD OF 'tarnlaw22.SplitShown'. -/
def splitShownCard : Claim7 := { stood := { row := splitShownRow, standIns := [], harness := (true, "c7cd848fccdb71c86bc1eeb059bd12d451d3db5fce284aa8eb79b1ba2fb04724"), looks := false }, kinds := [], alts := [], laidByText := true, laidKinds := [.wider, .data], laidTests := true, laidLooks := .later }
def SplitShownCardSaid : Prop := Claim7.holds Tryd.pinned (.plain (OpenSpec.ofChange splitShownSpec)) splitShownCard

/-- THE TIED CARD OF 'tarnlaw22.SplitKeeps'. -/
def splitKeepsCard : Claim7 := { stood := { row := splitKeepsRow, standIns := [], harness := (true, "c7cd848fccdb71c86bc1eeb059bd12d451d3db5fce284aa8eb79b1ba2fb04724"), looks := false }, kinds := [], alts := [], laidByText := true, laidKinds := [.wider, .data], laidTests := true, laidLooks := .later }
def SplitKeepsCardSaid : Prop := Claim7.holds Tryd.pinned (.plain (OpenSpec.ofChange splitKeepsSpec)) splitKeepsCard

/-- THE SECOND FORM's CARD OF 'tarnlaw15.MassTotals'. -/
def massTotalsUptoCard : Claim7 := { stood := { row := massTotalsUptoRow, standIns := [], harness := (true, "c7cd848fccdb71c86bc1eeb059bd12d451d3db5fce284aa8eb79b1ba2fb04724"), looks := false }, kinds := [], alts := [], laidByText := true, laidKinds := [.wider, .data], laidTests := true, laidLooks := .later }
def MassTotalsUptoCardSaid : Prop := Claim7.holds Tryd.pinned (.plain (OpenSpec.upto massTotalsSpec)) massTotalsUptoCard

/-- THE SECOND FORM's CARD OF 'tarnlaw15.MassParts'. -/
def massPartsUptoCard : Claim7 := { stood := { row := massPartsUptoRow, standIns := [], harness := (true, "c7cd848fccdb71c86bc1eeb059bd12d451d3db5fce284aa8eb79b1ba2fb04724"), looks := false }, kinds := [], alts := [], laidByText := true, laidKinds := [.wider, .data], laidTests := true, laidLooks := .later }
def MassPartsUptoCardSaid : Prop := Claim7.holds Tryd.pinned (.plain (OpenSpec.upto massPartsSpec)) massPartsUptoCard

/-- THE SECOND FORM's CARD OF 'tarnlaw15.MassKept'. -/
def massKeptUptoCard : Claim7 := { stood := { row := massKeptUptoRow, standIns := [], harness := (true, "c7cd848fccdb71c86bc1eeb059bd12d451d3db5fce284aa8eb79b1ba2fb04724"), looks := false }, kinds := [], alts := [], laidByText := true, laidKinds := [.wider, .data], laidTests := true, laidLooks := .later }
def MassKeptUptoCardSaid : Prop := Claim7.holds Tryd.pinned (.plain (OpenSpec.upto massKeptSpec)) massKeptUptoCard

/-- THE SECOND FORM's CARD OF 'tarnlaw15.MassOne'. -/
def massOneUptoCard : Claim7 := { stood := { row := massOneUptoRow, standIns := [], harness := (true, "c7cd848fccdb71c86bc1eeb059bd12d451d3db5fce284aa8eb79b1ba2fb04724"), looks := false }, kinds := [], alts := [], laidByText := true, laidKinds := [.wider, .data], laidTests := true, laidLooks := .later }
def MassOneUptoCardSaid : Prop := Claim7.holds Tryd.pinned (.plain (OpenSpec.upto massOneSpec)) massOneUptoCard

/-- THE SECOND FORM's CARD OF 'tarnlaw15.MassTwo'. -/
def massTwoUptoCard : Claim7 := { stood := { row := massTwoUptoRow, standIns := [], harness := (true, "c7cd848fccdb71c86bc1eeb059bd12d451d3db5fce284aa8eb79b1ba2fb04724"), looks := false }, kinds := [], alts := [], laidByText := true, laidKinds := [.wider, .data], laidTests := true, laidLooks := .later }
def MassTwoUptoCardSaid : Prop := Claim7.holds Tryd.pinned (.plain (OpenSpec.upto massTwoSpec)) massTwoUptoCard

/-- THE SECOND FORM's CARD OF 'tarnlaw15.MassMemory'. -/
def massMemoryUptoCard : Claim7 := { stood := { row := massMemoryUptoRow, standIns := [], harness := (true, "c7cd848fccdb71c86bc1eeb059bd12d451d3db5fce284aa8eb79b1ba2fb04724"), looks := false }, kinds := [], alts := [], laidByText := true, laidKinds := [.wider, .data], laidTests := true, laidLooks := .later }
def MassMemoryUptoCardSaid : Prop := Claim7.holds Tryd.pinned (.plain (OpenSpec.upto massMemorySpec)) massMemoryUptoCard

/-- THE SECOND FORM's CARD OF 'tarnlaw22.SplitParts'. -/
def splitPartsUptoCard : Claim7 := { stood := { row := splitPartsUptoRow, standIns := [], harness := (true, "c7cd848fccdb71c86bc1eeb059bd12d451d3db5fce284aa8eb79b1ba2fb04724"), looks := false }, kinds := [], alts := [], laidByText := true, laidKinds := [.wider, .data], laidTests := true, laidLooks := .later }
def SplitPartsUptoCardSaid : Prop := Claim7.holds Tryd.pinned (.plain (OpenSpec.upto splitPartsSpec)) splitPartsUptoCard

/-- THE SECOND FORM's CARD OF 'tarnlaw22.SplitShown'. -/
def splitShownUptoCard : Claim7 := { stood := { row := splitShownUptoRow, standIns := [], harness := (true, "c7cd848fccdb71c86bc1eeb059bd12d451d3db5fce284aa8eb79b1ba2fb04724"), looks := false }, kinds := [], alts := [], laidByText := true, laidKinds := [.wider, .data], laidTests := true, laidLooks := .later }
def SplitShownUptoCardSaid : Prop := Claim7.holds Tryd.pinned (.plain (OpenSpec.upto splitShownSpec)) splitShownUptoCard

/-- THE SECOND FORM's CARD OF 'tarnlaw22.SplitKeeps'. -/
def splitKeepsUptoCard : Claim7 := { stood := { row := splitKeepsUptoRow, standIns := [], harness := (true, "c7cd848fccdb71c86bc1eeb059bd12d451d3db5fce284aa8eb79b1ba2fb04724"), looks := false }, kinds := [], alts := [], laidByText := true, laidKinds := [.wider, .data], laidTests := true, laidLooks := .later }
def SplitKeepsUptoCardSaid : Prop := Claim7.holds Tryd.pinned (.plain (OpenSpec.upto splitKeepsSpec)) splitKeepsUptoCard
end Rows
end Go.Proofs.YtjpkfdhfofaehaaDoor
