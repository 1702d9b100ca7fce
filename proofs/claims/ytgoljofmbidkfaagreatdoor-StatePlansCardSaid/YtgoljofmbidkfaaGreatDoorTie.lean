/-
  DERIVED. GIVEN WITH THE SEED: THE PROGRAM's TIES (one call each: nine closed facts by the kernel) AND EACH ROW's TIE, after the 31st guide's Derived/Test/Toyas{Tie, Card}.lean. No idea stands in it: it is a product of the set-up. Laid BY PROGRAM, IN A SANDBOX (cutbox-door.mjs). By AI agents, Wed Nov 11 2026. No macro, syntax, notation, axiom, sorry.
-/
import Derived.Test.YtgoljofmbidkfaaGreatDoorRows
import Derived.LaidByTextLater
import Derived.SevenTiedAt
import Derived.LaidSub
import Derived.LaidOnce
namespace Go.Proofs.YtgoljofmbidkfaaGreatDoor
open Go
set_option maxRecDepth 100000
theorem seatTie1 : Tryz.prog.laidByTextLater [("tarn/cube.frames", Rows.laid_tarn_cube_frames), ("tarn/geom.frames", Rows.laid_tarn_geom_frames)] [.wider, .data] true :=
  Program.laidByTextLater_by_one 67 8 55 (by kernel_rfl) (by kernel_rfl) (by kernel_rfl) (by kernel_rfl) (by kernel_rfl) (by kernel_rfl) (fun _ _ => by kernel_rfl)
theorem noOwnUnsafe : Tryz.pinned.checked.prog.headLifts.contains "ownunsafe" = false := by kernel_rfl
theorem tie : Tryz.prog.laidByTextLater [("tarn/cube.frames", Rows.laid_tarn_cube_frames), ("tarn/geom.frames", Rows.laid_tarn_geom_frames)] [.wider, .data] true :=
  Program.laidByTextLater.sub seatTie1 ["tarn/cube.frames", "tarn/geom.frames"] (by kernel_rfl) (by kernel_rfl)
theorem splitAll_row_tie : Rows.splitAllRow.laidByTextAt .later Tryz.pinned [.wider, .data] true :=
  OpenClaim.laidByTextAt_later rfl rfl tie noOwnUnsafe
theorem splitLocal_row_tie : Rows.splitLocalRow.laidByTextAt .later Tryz.pinned [.wider, .data] true :=
  OpenClaim.laidByTextAt_later rfl rfl tie noOwnUnsafe
theorem statePlans_row_tie : Rows.statePlansRow.laidByTextAt .later Tryz.pinned [.wider, .data] true :=
  OpenClaim.laidByTextAt_later rfl rfl tie noOwnUnsafe
theorem stateChecks_row_tie : Rows.stateChecksRow.laidByTextAt .later Tryz.pinned [.wider, .data] true :=
  OpenClaim.laidByTextAt_later rfl rfl tie noOwnUnsafe
theorem stateSames_row_tie : Rows.stateSamesRow.laidByTextAt .later Tryz.pinned [.wider, .data] true :=
  OpenClaim.laidByTextAt_later rfl rfl tie noOwnUnsafe
theorem stateTurned_row_tie : Rows.stateTurnedRow.laidByTextAt .later Tryz.pinned [.wider, .data] true :=
  OpenClaim.laidByTextAt_later rfl rfl tie noOwnUnsafe
theorem stateGroup_row_tie : Rows.stateGroupRow.laidByTextAt .later Tryz.pinned [.wider, .data] true :=
  OpenClaim.laidByTextAt_later rfl rfl tie noOwnUnsafe
theorem stateMoves_row_tie : Rows.stateMovesRow.laidByTextAt .later Tryz.pinned [.wider, .data] true :=
  OpenClaim.laidByTextAt_later rfl rfl tie noOwnUnsafe
theorem stateLakes_row_tie : Rows.stateLakesRow.laidByTextAt .later Tryz.pinned [.wider, .data] true :=
  OpenClaim.laidByTextAt_later rfl rfl tie noOwnUnsafe
theorem stateKeeps_row_tie : Rows.stateKeepsRow.laidByTextAt .later Tryz.pinned [.wider, .data] true :=
  OpenClaim.laidByTextAt_later rfl rfl tie noOwnUnsafe
theorem splitAllUpto_row_tie : Rows.splitAllUptoRow.laidByTextAt .later Tryz.pinned [.wider, .data] true :=
  OpenClaim.laidByTextAt_later rfl rfl tie noOwnUnsafe
theorem splitLocalUpto_row_tie : Rows.splitLocalUptoRow.laidByTextAt .later Tryz.pinned [.wider, .data] true :=
  OpenClaim.laidByTextAt_later rfl rfl tie noOwnUnsafe
theorem statePlansUpto_row_tie : Rows.statePlansUptoRow.laidByTextAt .later Tryz.pinned [.wider, .data] true :=
  OpenClaim.laidByTextAt_later rfl rfl tie noOwnUnsafe
theorem stateChecksUpto_row_tie : Rows.stateChecksUptoRow.laidByTextAt .later Tryz.pinned [.wider, .data] true :=
  OpenClaim.laidByTextAt_later rfl rfl tie noOwnUnsafe
theorem stateSamesUpto_row_tie : Rows.stateSamesUptoRow.laidByTextAt .later Tryz.pinned [.wider, .data] true :=
  OpenClaim.laidByTextAt_later rfl rfl tie noOwnUnsafe
theorem stateTurnedUpto_row_tie : Rows.stateTurnedUptoRow.laidByTextAt .later Tryz.pinned [.wider, .data] true :=
  OpenClaim.laidByTextAt_later rfl rfl tie noOwnUnsafe
theorem stateGroupUpto_row_tie : Rows.stateGroupUptoRow.laidByTextAt .later Tryz.pinned [.wider, .data] true :=
  OpenClaim.laidByTextAt_later rfl rfl tie noOwnUnsafe
theorem stateMovesUpto_row_tie : Rows.stateMovesUptoRow.laidByTextAt .later Tryz.pinned [.wider, .data] true :=
  OpenClaim.laidByTextAt_later rfl rfl tie noOwnUnsafe
theorem stateLakesUpto_row_tie : Rows.stateLakesUptoRow.laidByTextAt .later Tryz.pinned [.wider, .data] true :=
  OpenClaim.laidByTextAt_later rfl rfl tie noOwnUnsafe
theorem stateKeepsUpto_row_tie : Rows.stateKeepsUptoRow.laidByTextAt .later Tryz.pinned [.wider, .data] true :=
  OpenClaim.laidByTextAt_later rfl rfl tie noOwnUnsafe
end Go.Proofs.YtgoljofmbidkfaaGreatDoor
