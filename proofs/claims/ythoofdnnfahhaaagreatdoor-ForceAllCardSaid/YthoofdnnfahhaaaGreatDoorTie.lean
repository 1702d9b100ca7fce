/-
  DERIVED. GIVEN WITH THE SEED: THE PROGRAM's TIES (one call each: nine closed facts by the kernel) AND EACH ROW's TIE, after the 31st guide's Derived/Test/Toyas{Tie, Card}.lean. No idea stands in it: it is a product of the set-up. Laid BY PROGRAM, IN A SANDBOX (cutbox-door.mjs). By AI agents, Wed Nov 11 2026. No macro, syntax, notation, axiom, sorry.
-/
import Derived.Test.YthoofdnnfahhaaaGreatDoorRows
import Derived.LaidByTextLater
import Derived.SevenTiedAt
import Derived.LaidSub
import Derived.LaidOnce
namespace Go.Proofs.YthoofdnnfahhaaaGreatDoor
open Go
set_option maxRecDepth 100000
theorem seatTie1 : Tryz.prog.laidByTextLater [("tarn/cube.frames", Rows.laid_tarn_cube_frames), ("tarn/geom.frames", Rows.laid_tarn_geom_frames)] [.wider, .data] true :=
  Program.laidByTextLater_by_one 67 8 55 (by kernel_rfl) (by kernel_rfl) (by kernel_rfl) (by kernel_rfl) (by kernel_rfl) (by kernel_rfl) (fun _ _ => by kernel_rfl)
theorem noOwnUnsafe : Tryz.pinned.checked.prog.headLifts.contains "ownunsafe" = false := by kernel_rfl
theorem tie : Tryz.prog.laidByTextLater [("tarn/cube.frames", Rows.laid_tarn_cube_frames), ("tarn/geom.frames", Rows.laid_tarn_geom_frames)] [.wider, .data] true :=
  Program.laidByTextLater.sub seatTie1 ["tarn/cube.frames", "tarn/geom.frames"] (by kernel_rfl) (by kernel_rfl)
theorem geomAll_row_tie : Rows.geomAllRow.laidByTextAt .later Tryz.pinned [.wider, .data] true :=
  OpenClaim.laidByTextAt_later rfl rfl tie noOwnUnsafe
theorem gridExact_row_tie : Rows.gridExactRow.laidByTextAt .later Tryz.pinned [.wider, .data] true :=
  OpenClaim.laidByTextAt_later rfl rfl tie noOwnUnsafe
theorem massExact_row_tie : Rows.massExactRow.laidByTextAt .later Tryz.pinned [.wider, .data] true :=
  OpenClaim.laidByTextAt_later rfl rfl tie noOwnUnsafe
theorem reconExact_row_tie : Rows.reconExactRow.laidByTextAt .later Tryz.pinned [.wider, .data] true :=
  OpenClaim.laidByTextAt_later rfl rfl tie noOwnUnsafe
theorem splitAll_row_tie : Rows.splitAllRow.laidByTextAt .later Tryz.pinned [.wider, .data] true :=
  OpenClaim.laidByTextAt_later rfl rfl tie noOwnUnsafe
theorem splitLocal_row_tie : Rows.splitLocalRow.laidByTextAt .later Tryz.pinned [.wider, .data] true :=
  OpenClaim.laidByTextAt_later rfl rfl tie noOwnUnsafe
theorem forceAll_row_tie : Rows.forceAllRow.laidByTextAt .later Tryz.pinned [.wider, .data] true :=
  OpenClaim.laidByTextAt_later rfl rfl tie noOwnUnsafe
theorem reconDepths_row_tie : Rows.reconDepthsRow.laidByTextAt .later Tryz.pinned [.wider, .data] true :=
  OpenClaim.laidByTextAt_later rfl rfl tie noOwnUnsafe
theorem fluxAll_row_tie : Rows.fluxAllRow.laidByTextAt .later Tryz.pinned [.wider, .data] true :=
  OpenClaim.laidByTextAt_later rfl rfl tie noOwnUnsafe
theorem geomAllUpto_row_tie : Rows.geomAllUptoRow.laidByTextAt .later Tryz.pinned [.wider, .data] true :=
  OpenClaim.laidByTextAt_later rfl rfl tie noOwnUnsafe
theorem gridExactUpto_row_tie : Rows.gridExactUptoRow.laidByTextAt .later Tryz.pinned [.wider, .data] true :=
  OpenClaim.laidByTextAt_later rfl rfl tie noOwnUnsafe
theorem massExactUpto_row_tie : Rows.massExactUptoRow.laidByTextAt .later Tryz.pinned [.wider, .data] true :=
  OpenClaim.laidByTextAt_later rfl rfl tie noOwnUnsafe
theorem reconExactUpto_row_tie : Rows.reconExactUptoRow.laidByTextAt .later Tryz.pinned [.wider, .data] true :=
  OpenClaim.laidByTextAt_later rfl rfl tie noOwnUnsafe
theorem splitAllUpto_row_tie : Rows.splitAllUptoRow.laidByTextAt .later Tryz.pinned [.wider, .data] true :=
  OpenClaim.laidByTextAt_later rfl rfl tie noOwnUnsafe
theorem splitLocalUpto_row_tie : Rows.splitLocalUptoRow.laidByTextAt .later Tryz.pinned [.wider, .data] true :=
  OpenClaim.laidByTextAt_later rfl rfl tie noOwnUnsafe
theorem forceAllUpto_row_tie : Rows.forceAllUptoRow.laidByTextAt .later Tryz.pinned [.wider, .data] true :=
  OpenClaim.laidByTextAt_later rfl rfl tie noOwnUnsafe
theorem reconDepthsUpto_row_tie : Rows.reconDepthsUptoRow.laidByTextAt .later Tryz.pinned [.wider, .data] true :=
  OpenClaim.laidByTextAt_later rfl rfl tie noOwnUnsafe
theorem fluxAllUpto_row_tie : Rows.fluxAllUptoRow.laidByTextAt .later Tryz.pinned [.wider, .data] true :=
  OpenClaim.laidByTextAt_later rfl rfl tie noOwnUnsafe
end Go.Proofs.YthoofdnnfahhaaaGreatDoor
