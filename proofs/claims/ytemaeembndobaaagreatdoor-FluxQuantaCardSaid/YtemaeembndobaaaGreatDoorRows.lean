/-
  NARROWER THAN 'FOR EVERY INPUT', by the rows' own cells (each row's printed sentence says how): FluxSigns: laid · FluxEdges: laid · FluxStill: laid · FluxKeeps: laid · FluxQuanta: laid · ForceFalls: laid · ForceKeeps: laid · ReconMemory: laid · ReconTurned: laid.
  DERIVED. THE GIVEN ROWS OF THIS SEAT. 9 by the template 'for every input the law returns true; each argument reads behind the call as it read before'; 0 by the template 'total and deterministic' (their statements: YtemaeembndobaaaGreatDoorTotals.lean).
  GIVEN WITH THE SEED: the statements are not yours to turn. If you find one false, say at which input.
  Laid BY PROGRAM, IN A SANDBOX (cutbox-rows.mjs): the forced cells as the released guide's own fill.sh prints them over the translation ac22ef779a69d4d1… (all of the seat's roots in one cut). By AI agents, Wed Nov 11 2026. No macro, syntax, notation, axiom, sorry.
-/
import Derived.Test.YtemaeembndobaaaGreatDoorChecked
import GoSem.Claim
import GoSem.ClaimJoined
import GoSem.ClaimMapViews
import Derived.JoinedTies
import Derived.KernelRfl
namespace Go.Proofs.YtemaeembndobaaaGreatDoor
/- THE CELL 'sum', in the pinned program and in every row, IS THE sha256 OF THE DUMP (.gsa) THAT YtemaeembndobaaaGreatDoorProg.lean LOADS. Nothing in Lean hashes anything: it is a label: what it is worth is what the hold of that sum in a sandbox is worth. -/
noncomputable def Tryz.pinned : Pinned := { name := "ytemaeembndobaaagreatdoor", sum := "ac22ef779a69d4d162cf9c928af8aa8a4aee2a23b527fffc145d19a9c3f77dc9", checked := Tryz.checked }
namespace Rows
def none {H : Type} : Left H := { results := [], args := [] }

/- WHAT THE LISTED PACKAGE-LEVEL VARIABLES READ AS WHEN THE CALL BEGINS. Each datum BY PROGRAM (the guide's laid-datum.mjs) off the statement by which the dump's own 'gosem.cut.vars' lays the variable. In a bare row this is a premise. The card (YtemaeembndobaaaGreatDoorCards.lean) ties it to the program's text. -/
def laid_tarn_cube_frames {H : Type} : DataW H := .agg [.agg [.agg [.lit (.int .i64 1), .lit (.int .i64 0), .lit (.int .i64 0)], .agg [.lit (.int .i64 0), .lit (.int .i64 1), .lit (.int .i64 0)], .agg [.lit (.int .i64 0), .lit (.int .i64 0), .lit (.int .i64 1)]], .agg [.agg [.lit (.int .i64 0), .lit (.int .i64 1), .lit (.int .i64 0)], .agg [.lit (.int .i64 (-1)), .lit (.int .i64 0), .lit (.int .i64 0)], .agg [.lit (.int .i64 0), .lit (.int .i64 0), .lit (.int .i64 1)]], .agg [.agg [.lit (.int .i64 (-1)), .lit (.int .i64 0), .lit (.int .i64 0)], .agg [.lit (.int .i64 0), .lit (.int .i64 (-1)), .lit (.int .i64 0)], .agg [.lit (.int .i64 0), .lit (.int .i64 0), .lit (.int .i64 1)]], .agg [.agg [.lit (.int .i64 0), .lit (.int .i64 (-1)), .lit (.int .i64 0)], .agg [.lit (.int .i64 1), .lit (.int .i64 0), .lit (.int .i64 0)], .agg [.lit (.int .i64 0), .lit (.int .i64 0), .lit (.int .i64 1)]], .agg [.agg [.lit (.int .i64 0), .lit (.int .i64 0), .lit (.int .i64 1)], .agg [.lit (.int .i64 0), .lit (.int .i64 1), .lit (.int .i64 0)], .agg [.lit (.int .i64 (-1)), .lit (.int .i64 0), .lit (.int .i64 0)]], .agg [.agg [.lit (.int .i64 0), .lit (.int .i64 0), .lit (.int .i64 (-1))], .agg [.lit (.int .i64 0), .lit (.int .i64 1), .lit (.int .i64 0)], .agg [.lit (.int .i64 1), .lit (.int .i64 0), .lit (.int .i64 0)]]]
def laid_tarn_geom_frames {H : Type} : DataW H := .agg [.agg [.agg [.lit (.int .i64 1), .lit (.int .i64 0), .lit (.int .i64 0)], .agg [.lit (.int .i64 0), .lit (.int .i64 1), .lit (.int .i64 0)], .agg [.lit (.int .i64 0), .lit (.int .i64 0), .lit (.int .i64 1)]], .agg [.agg [.lit (.int .i64 0), .lit (.int .i64 1), .lit (.int .i64 0)], .agg [.lit (.int .i64 (-1)), .lit (.int .i64 0), .lit (.int .i64 0)], .agg [.lit (.int .i64 0), .lit (.int .i64 0), .lit (.int .i64 1)]], .agg [.agg [.lit (.int .i64 (-1)), .lit (.int .i64 0), .lit (.int .i64 0)], .agg [.lit (.int .i64 0), .lit (.int .i64 (-1)), .lit (.int .i64 0)], .agg [.lit (.int .i64 0), .lit (.int .i64 0), .lit (.int .i64 1)]], .agg [.agg [.lit (.int .i64 0), .lit (.int .i64 (-1)), .lit (.int .i64 0)], .agg [.lit (.int .i64 1), .lit (.int .i64 0), .lit (.int .i64 0)], .agg [.lit (.int .i64 0), .lit (.int .i64 0), .lit (.int .i64 1)]], .agg [.agg [.lit (.int .i64 0), .lit (.int .i64 0), .lit (.int .i64 1)], .agg [.lit (.int .i64 0), .lit (.int .i64 1), .lit (.int .i64 0)], .agg [.lit (.int .i64 (-1)), .lit (.int .i64 0), .lit (.int .i64 0)]], .agg [.agg [.lit (.int .i64 0), .lit (.int .i64 0), .lit (.int .i64 (-1))], .agg [.lit (.int .i64 0), .lit (.int .i64 1), .lit (.int .i64 0)], .agg [.lit (.int .i64 1), .lit (.int .i64 0), .lit (.int .i64 0)]]]

/-- 'tarnlaw13.FluxSigns': WHATEVER THE INPUT: true; the input reads as it did. -/
def fluxSignsSpec : ChangeSpec := { name := "fluxSigns", fn := fun _ => fun
  | [d1, d2] => { results := [.lit (.bool true)], args := [d1, d2] }
  | _ => none }
def fluxSignsRow : OpenClaim := { program := "ytemaeembndobaaagreatdoor", sum := "ac22ef779a69d4d162cf9c928af8aa8a4aee2a23b527fffc145d19a9c3f77dc9", func := "tarn/tarnlaw13.FluxSigns", spec := "fluxSigns", inPlace := ["math.Float64frombits", "math.Float64bits", "math.sqrt", "math.archFloor", "math.archTrunc"], unfollowed := true, recurses := true, named := ["tarn/cube.frames", "tarn/geom.frames"], plainKeys := false, apart := false, laid := [("tarn/cube.frames", laid_tarn_cube_frames), ("tarn/geom.frames", laid_tarn_geom_frames)] }
def FluxSignsSaid : Prop := fluxSignsRow.holds Tryz.pinned (OpenSpec.ofChange fluxSignsSpec)

/-- ITS FALSE NEIGHBOUR: 'it returns false'. Refute it at one input. -/
def fluxSignsWrong : ChangeSpec := { name := "fluxSigns", fn := fun _ => fun
  | [d1, d2] => { results := [.lit (.bool false)], args := [d1, d2] }
  | _ => none }
def FluxSignsWrongFalsely : Prop := fluxSignsRow.holds Tryz.pinned (OpenSpec.ofChange fluxSignsWrong)

/-- 'tarnlaw13.FluxEdges': WHATEVER THE INPUT: true; the input reads as it did. -/
def fluxEdgesSpec : ChangeSpec := { name := "fluxEdges", fn := fun _ => fun
  | [d1, d2, d3, d4, d5] => { results := [.lit (.bool true)], args := [d1, d2, d3, d4, d5] }
  | _ => none }
def fluxEdgesRow : OpenClaim := { program := "ytemaeembndobaaagreatdoor", sum := "ac22ef779a69d4d162cf9c928af8aa8a4aee2a23b527fffc145d19a9c3f77dc9", func := "tarn/tarnlaw13.FluxEdges", spec := "fluxEdges", inPlace := ["math.Float64frombits", "math.Float64bits", "math.sqrt", "math.archFloor", "math.archTrunc"], unfollowed := true, recurses := true, named := ["tarn/cube.frames", "tarn/geom.frames"], plainKeys := false, apart := false, laid := [("tarn/cube.frames", laid_tarn_cube_frames), ("tarn/geom.frames", laid_tarn_geom_frames)] }
def FluxEdgesSaid : Prop := fluxEdgesRow.holds Tryz.pinned (OpenSpec.ofChange fluxEdgesSpec)

/-- ITS FALSE NEIGHBOUR: 'it returns false'. Refute it at one input. -/
def fluxEdgesWrong : ChangeSpec := { name := "fluxEdges", fn := fun _ => fun
  | [d1, d2, d3, d4, d5] => { results := [.lit (.bool false)], args := [d1, d2, d3, d4, d5] }
  | _ => none }
def FluxEdgesWrongFalsely : Prop := fluxEdgesRow.holds Tryz.pinned (OpenSpec.ofChange fluxEdgesWrong)

/-- 'tarnlaw13.FluxStill': WHATEVER THE INPUT: true; the input reads as it did. -/
def fluxStillSpec : ChangeSpec := { name := "fluxStill", fn := fun _ => fun
  | [d1, d2, d3] => { results := [.lit (.bool true)], args := [d1, d2, d3] }
  | _ => none }
def fluxStillRow : OpenClaim := { program := "ytemaeembndobaaagreatdoor", sum := "ac22ef779a69d4d162cf9c928af8aa8a4aee2a23b527fffc145d19a9c3f77dc9", func := "tarn/tarnlaw13.FluxStill", spec := "fluxStill", inPlace := ["math.Float64frombits", "math.Float64bits", "math.sqrt", "math.archFloor", "math.archTrunc"], unfollowed := true, recurses := true, named := ["tarn/cube.frames", "tarn/geom.frames"], plainKeys := false, apart := false, laid := [("tarn/cube.frames", laid_tarn_cube_frames), ("tarn/geom.frames", laid_tarn_geom_frames)] }
def FluxStillSaid : Prop := fluxStillRow.holds Tryz.pinned (OpenSpec.ofChange fluxStillSpec)

/-- ITS FALSE NEIGHBOUR: 'it returns false'. Refute it at one input. -/
def fluxStillWrong : ChangeSpec := { name := "fluxStill", fn := fun _ => fun
  | [d1, d2, d3] => { results := [.lit (.bool false)], args := [d1, d2, d3] }
  | _ => none }
def FluxStillWrongFalsely : Prop := fluxStillRow.holds Tryz.pinned (OpenSpec.ofChange fluxStillWrong)

/-- 'tarnlaw13.FluxKeeps': WHATEVER THE INPUT: true; the input reads as it did. -/
def fluxKeepsSpec : ChangeSpec := { name := "fluxKeeps", fn := fun _ => fun
  | [d1, d2, d3] => { results := [.lit (.bool true)], args := [d1, d2, d3] }
  | _ => none }
def fluxKeepsRow : OpenClaim := { program := "ytemaeembndobaaagreatdoor", sum := "ac22ef779a69d4d162cf9c928af8aa8a4aee2a23b527fffc145d19a9c3f77dc9", func := "tarn/tarnlaw13.FluxKeeps", spec := "fluxKeeps", inPlace := ["math.Float64frombits", "math.Float64bits", "math.sqrt", "math.archFloor", "math.archTrunc"], unfollowed := true, recurses := true, named := ["tarn/cube.frames", "tarn/geom.frames"], plainKeys := false, apart := false, laid := [("tarn/cube.frames", laid_tarn_cube_frames), ("tarn/geom.frames", laid_tarn_geom_frames)] }
def FluxKeepsSaid : Prop := fluxKeepsRow.holds Tryz.pinned (OpenSpec.ofChange fluxKeepsSpec)

/-- ITS FALSE NEIGHBOUR: 'it returns false'. Refute it at one input. -/
def fluxKeepsWrong : ChangeSpec := { name := "fluxKeeps", fn := fun _ => fun
  | [d1, d2, d3] => { results := [.lit (.bool false)], args := [d1, d2, d3] }
  | _ => none }
def FluxKeepsWrongFalsely : Prop := fluxKeepsRow.holds Tryz.pinned (OpenSpec.ofChange fluxKeepsWrong)

/-- 'tarnlaw13.FluxQuanta': WHATEVER THE INPUT: true; the input reads as it did. -/
def fluxQuantaSpec : ChangeSpec := { name := "fluxQuanta", fn := fun _ => fun
  | [d] => { results := [.lit (.bool true)], args := [d] }
  | _ => none }
def fluxQuantaRow : OpenClaim := { program := "ytemaeembndobaaagreatdoor", sum := "ac22ef779a69d4d162cf9c928af8aa8a4aee2a23b527fffc145d19a9c3f77dc9", func := "tarn/tarnlaw13.FluxQuanta", spec := "fluxQuanta", inPlace := ["math.Float64frombits", "math.Float64bits", "math.sqrt", "math.archFloor", "math.archTrunc"], unfollowed := true, recurses := true, named := ["tarn/cube.frames", "tarn/geom.frames"], plainKeys := false, apart := false, laid := [("tarn/cube.frames", laid_tarn_cube_frames), ("tarn/geom.frames", laid_tarn_geom_frames)] }
def FluxQuantaSaid : Prop := fluxQuantaRow.holds Tryz.pinned (OpenSpec.ofChange fluxQuantaSpec)

/-- ITS FALSE NEIGHBOUR: 'it returns false'. Refute it at one input. -/
def fluxQuantaWrong : ChangeSpec := { name := "fluxQuanta", fn := fun _ => fun
  | [d] => { results := [.lit (.bool false)], args := [d] }
  | _ => none }
def FluxQuantaWrongFalsely : Prop := fluxQuantaRow.holds Tryz.pinned (OpenSpec.ofChange fluxQuantaWrong)

/-- 'tarnlaw16.ForceFalls': WHATEVER THE INPUT: true; the input reads as it did. -/
def forceFallsSpec : ChangeSpec := { name := "forceFalls", fn := fun _ => fun
  | [d1, d2, d3, d4] => { results := [.lit (.bool true)], args := [d1, d2, d3, d4] }
  | _ => none }
def forceFallsRow : OpenClaim := { program := "ytemaeembndobaaagreatdoor", sum := "ac22ef779a69d4d162cf9c928af8aa8a4aee2a23b527fffc145d19a9c3f77dc9", func := "tarn/tarnlaw16.ForceFalls", spec := "forceFalls", inPlace := ["math.Float64frombits", "math.Float64bits", "math.sqrt", "math.archFloor", "math.archTrunc"], unfollowed := true, recurses := true, named := ["tarn/cube.frames", "tarn/geom.frames"], plainKeys := false, apart := false, laid := [("tarn/cube.frames", laid_tarn_cube_frames), ("tarn/geom.frames", laid_tarn_geom_frames)] }
def ForceFallsSaid : Prop := forceFallsRow.holds Tryz.pinned (OpenSpec.ofChange forceFallsSpec)

/-- ITS FALSE NEIGHBOUR: 'it returns false'. Refute it at one input. -/
def forceFallsWrong : ChangeSpec := { name := "forceFalls", fn := fun _ => fun
  | [d1, d2, d3, d4] => { results := [.lit (.bool false)], args := [d1, d2, d3, d4] }
  | _ => none }
def ForceFallsWrongFalsely : Prop := forceFallsRow.holds Tryz.pinned (OpenSpec.ofChange forceFallsWrong)

/-- 'tarnlaw16.ForceKeeps': WHATEVER THE INPUT: true; the input reads as it did. -/
def forceKeepsSpec : ChangeSpec := { name := "forceKeeps", fn := fun _ => fun
  | [d1, d2, d3] => { results := [.lit (.bool true)], args := [d1, d2, d3] }
  | _ => none }
def forceKeepsRow : OpenClaim := { program := "ytemaeembndobaaagreatdoor", sum := "ac22ef779a69d4d162cf9c928af8aa8a4aee2a23b527fffc145d19a9c3f77dc9", func := "tarn/tarnlaw16.ForceKeeps", spec := "forceKeeps", inPlace := ["math.Float64frombits", "math.Float64bits", "math.sqrt", "math.archFloor", "math.archTrunc"], unfollowed := true, recurses := true, named := ["tarn/cube.frames", "tarn/geom.frames"], plainKeys := false, apart := false, laid := [("tarn/cube.frames", laid_tarn_cube_frames), ("tarn/geom.frames", laid_tarn_geom_frames)] }
def ForceKeepsSaid : Prop := forceKeepsRow.holds Tryz.pinned (OpenSpec.ofChange forceKeepsSpec)

/-- ITS FALSE NEIGHBOUR: 'it returns false'. Refute it at one input. -/
def forceKeepsWrong : ChangeSpec := { name := "forceKeeps", fn := fun _ => fun
  | [d1, d2, d3] => { results := [.lit (.bool false)], args := [d1, d2, d3] }
  | _ => none }
def ForceKeepsWrongFalsely : Prop := forceKeepsRow.holds Tryz.pinned (OpenSpec.ofChange forceKeepsWrong)

/-- 'tarnlaw12.ReconMemory': WHATEVER THE INPUT: true; the input reads as it did. -/
def reconMemorySpec : ChangeSpec := { name := "reconMemory", fn := fun _ => fun
  | [d] => { results := [.lit (.bool true)], args := [d] }
  | _ => none }
def reconMemoryRow : OpenClaim := { program := "ytemaeembndobaaagreatdoor", sum := "ac22ef779a69d4d162cf9c928af8aa8a4aee2a23b527fffc145d19a9c3f77dc9", func := "tarn/tarnlaw12.ReconMemory", spec := "reconMemory", inPlace := ["math.Float64frombits", "math.Float64bits", "math.sqrt", "math.archFloor", "math.archTrunc"], unfollowed := true, recurses := true, named := ["tarn/cube.frames", "tarn/geom.frames"], plainKeys := false, apart := false, laid := [("tarn/cube.frames", laid_tarn_cube_frames), ("tarn/geom.frames", laid_tarn_geom_frames)] }
def ReconMemorySaid : Prop := reconMemoryRow.holds Tryz.pinned (OpenSpec.ofChange reconMemorySpec)

/-- ITS FALSE NEIGHBOUR: 'it returns false'. Refute it at one input. -/
def reconMemoryWrong : ChangeSpec := { name := "reconMemory", fn := fun _ => fun
  | [d] => { results := [.lit (.bool false)], args := [d] }
  | _ => none }
def ReconMemoryWrongFalsely : Prop := reconMemoryRow.holds Tryz.pinned (OpenSpec.ofChange reconMemoryWrong)

/-- 'tarnlaw12.ReconTurned': WHATEVER THE INPUT: true; the input reads as it did. -/
def reconTurnedSpec : ChangeSpec := { name := "reconTurned", fn := fun _ => fun
  | [d1, d2, d3] => { results := [.lit (.bool true)], args := [d1, d2, d3] }
  | _ => none }
def reconTurnedRow : OpenClaim := { program := "ytemaeembndobaaagreatdoor", sum := "ac22ef779a69d4d162cf9c928af8aa8a4aee2a23b527fffc145d19a9c3f77dc9", func := "tarn/tarnlaw12.ReconTurned", spec := "reconTurned", inPlace := ["math.Float64frombits", "math.Float64bits", "math.sqrt", "math.archFloor", "math.archTrunc"], unfollowed := true, recurses := true, named := ["tarn/cube.frames", "tarn/geom.frames"], plainKeys := false, apart := false, laid := [("tarn/cube.frames", laid_tarn_cube_frames), ("tarn/geom.frames", laid_tarn_geom_frames)] }
def ReconTurnedSaid : Prop := reconTurnedRow.holds Tryz.pinned (OpenSpec.ofChange reconTurnedSpec)

/-- ITS FALSE NEIGHBOUR: 'it returns false'. Refute it at one input. -/
def reconTurnedWrong : ChangeSpec := { name := "reconTurned", fn := fun _ => fun
  | [d1, d2, d3] => { results := [.lit (.bool false)], args := [d1, d2, d3] }
  | _ => none }
def ReconTurnedWrongFalsely : Prop := reconTurnedRow.holds Tryz.pinned (OpenSpec.ofChange reconTurnedWrong)

/- THE SECOND FORM. 'bulk': how many values and letters a reading holds, each counted each time it is reached (what is shared counts as often as it is met; a slice's spare places count too). A statement '..UptoSaid' is the law's where the arguments, and the package variables that the reading takes, are together of bulk at most 1048576: NARROWER than '..Said'. Prove '..Said' where nothing that the law and all that it calls make is longer than what came in: it says more and counts as full. Else prove '..UptoSaid'. A law counts once. -/
mutual
def uptoBulk {H : Type} : DataW H → Nat
  | .lit (.string bytes) => bytes.length + 1
  | .lit _ => 1
  | .nil => 1
  | .ptr d => uptoBulk d + 1
  | .slice elems spare => uptoBulkAll elems + uptoBulkAll spare + 1
  | .agg parts => uptoBulkAll parts + 1
  | .iface _ d => uptoBulk d + 1
  | .map entries => uptoBulkEntries entries + 1
  | .held _ => 1
def uptoBulkAll {H : Type} : List (DataW H) → Nat
  | [] => 0
  | d :: r => uptoBulk d + uptoBulkAll r
def uptoBulkEntries {H : Type} : List (Lit × DataW H) → Nat
  | [] => 0
  | x :: r => uptoBulkEntry x + uptoBulkEntries r
def uptoBulkEntry {H : Type} : Lit × DataW H → Nat
  | (.string bytes, d) => bytes.length + uptoBulk d + 1
  | (_, d) => uptoBulk d + 1
 end
def uptoSmall : (H : Type) → List (DataW H) → Bool := fun _ ds => decide (uptoBulkAll ds ≤ 1048576)
def OpenSpec.upto (s : _root_.Go.ChangeSpec) : _root_.Go.OpenSpec := { _root_.Go.OpenSpec.ofChange s with cond := some uptoSmall }

/-- 'tarnlaw13.FluxSigns', WHERE WHAT IT READS IS OF BULK AT MOST 1048576: true; the input reads as it did. -/
def fluxSignsUptoRow : OpenClaim := { program := "ytemaeembndobaaagreatdoor", sum := "ac22ef779a69d4d162cf9c928af8aa8a4aee2a23b527fffc145d19a9c3f77dc9", func := "tarn/tarnlaw13.FluxSigns", spec := "fluxSigns", inPlace := ["math.Float64frombits", "math.Float64bits", "math.sqrt", "math.archFloor", "math.archTrunc"], unfollowed := true, recurses := true, named := ["tarn/cube.frames", "tarn/geom.frames"], plainKeys := false, apart := false, laid := [("tarn/cube.frames", laid_tarn_cube_frames), ("tarn/geom.frames", laid_tarn_geom_frames)], narrowed := true }
def FluxSignsUptoSaid : Prop := fluxSignsUptoRow.holds Tryz.pinned (OpenSpec.upto fluxSignsSpec)

/-- 'tarnlaw13.FluxEdges', WHERE WHAT IT READS IS OF BULK AT MOST 1048576: true; the input reads as it did. -/
def fluxEdgesUptoRow : OpenClaim := { program := "ytemaeembndobaaagreatdoor", sum := "ac22ef779a69d4d162cf9c928af8aa8a4aee2a23b527fffc145d19a9c3f77dc9", func := "tarn/tarnlaw13.FluxEdges", spec := "fluxEdges", inPlace := ["math.Float64frombits", "math.Float64bits", "math.sqrt", "math.archFloor", "math.archTrunc"], unfollowed := true, recurses := true, named := ["tarn/cube.frames", "tarn/geom.frames"], plainKeys := false, apart := false, laid := [("tarn/cube.frames", laid_tarn_cube_frames), ("tarn/geom.frames", laid_tarn_geom_frames)], narrowed := true }
def FluxEdgesUptoSaid : Prop := fluxEdgesUptoRow.holds Tryz.pinned (OpenSpec.upto fluxEdgesSpec)

/-- 'tarnlaw13.FluxStill', WHERE WHAT IT READS IS OF BULK AT MOST 1048576: true; the input reads as it did. -/
def fluxStillUptoRow : OpenClaim := { program := "ytemaeembndobaaagreatdoor", sum := "ac22ef779a69d4d162cf9c928af8aa8a4aee2a23b527fffc145d19a9c3f77dc9", func := "tarn/tarnlaw13.FluxStill", spec := "fluxStill", inPlace := ["math.Float64frombits", "math.Float64bits", "math.sqrt", "math.archFloor", "math.archTrunc"], unfollowed := true, recurses := true, named := ["tarn/cube.frames", "tarn/geom.frames"], plainKeys := false, apart := false, laid := [("tarn/cube.frames", laid_tarn_cube_frames), ("tarn/geom.frames", laid_tarn_geom_frames)], narrowed := true }
def FluxStillUptoSaid : Prop := fluxStillUptoRow.holds Tryz.pinned (OpenSpec.upto fluxStillSpec)

/-- 'tarnlaw13.FluxKeeps', WHERE WHAT IT READS IS OF BULK AT MOST 1048576: true; the input reads as it did. -/
def fluxKeepsUptoRow : OpenClaim := { program := "ytemaeembndobaaagreatdoor", sum := "ac22ef779a69d4d162cf9c928af8aa8a4aee2a23b527fffc145d19a9c3f77dc9", func := "tarn/tarnlaw13.FluxKeeps", spec := "fluxKeeps", inPlace := ["math.Float64frombits", "math.Float64bits", "math.sqrt", "math.archFloor", "math.archTrunc"], unfollowed := true, recurses := true, named := ["tarn/cube.frames", "tarn/geom.frames"], plainKeys := false, apart := false, laid := [("tarn/cube.frames", laid_tarn_cube_frames), ("tarn/geom.frames", laid_tarn_geom_frames)], narrowed := true }
def FluxKeepsUptoSaid : Prop := fluxKeepsUptoRow.holds Tryz.pinned (OpenSpec.upto fluxKeepsSpec)

/-- 'tarnlaw13.FluxQuanta', WHERE WHAT IT READS IS OF BULK AT MOST 1048576: true; the input reads as it did. -/
def fluxQuantaUptoRow : OpenClaim := { program := "ytemaeembndobaaagreatdoor", sum := "ac22ef779a69d4d162cf9c928af8aa8a4aee2a23b527fffc145d19a9c3f77dc9", func := "tarn/tarnlaw13.FluxQuanta", spec := "fluxQuanta", inPlace := ["math.Float64frombits", "math.Float64bits", "math.sqrt", "math.archFloor", "math.archTrunc"], unfollowed := true, recurses := true, named := ["tarn/cube.frames", "tarn/geom.frames"], plainKeys := false, apart := false, laid := [("tarn/cube.frames", laid_tarn_cube_frames), ("tarn/geom.frames", laid_tarn_geom_frames)], narrowed := true }
def FluxQuantaUptoSaid : Prop := fluxQuantaUptoRow.holds Tryz.pinned (OpenSpec.upto fluxQuantaSpec)

/-- 'tarnlaw16.ForceFalls', WHERE WHAT IT READS IS OF BULK AT MOST 1048576: true; the input reads as it did. -/
def forceFallsUptoRow : OpenClaim := { program := "ytemaeembndobaaagreatdoor", sum := "ac22ef779a69d4d162cf9c928af8aa8a4aee2a23b527fffc145d19a9c3f77dc9", func := "tarn/tarnlaw16.ForceFalls", spec := "forceFalls", inPlace := ["math.Float64frombits", "math.Float64bits", "math.sqrt", "math.archFloor", "math.archTrunc"], unfollowed := true, recurses := true, named := ["tarn/cube.frames", "tarn/geom.frames"], plainKeys := false, apart := false, laid := [("tarn/cube.frames", laid_tarn_cube_frames), ("tarn/geom.frames", laid_tarn_geom_frames)], narrowed := true }
def ForceFallsUptoSaid : Prop := forceFallsUptoRow.holds Tryz.pinned (OpenSpec.upto forceFallsSpec)

/-- 'tarnlaw16.ForceKeeps', WHERE WHAT IT READS IS OF BULK AT MOST 1048576: true; the input reads as it did. -/
def forceKeepsUptoRow : OpenClaim := { program := "ytemaeembndobaaagreatdoor", sum := "ac22ef779a69d4d162cf9c928af8aa8a4aee2a23b527fffc145d19a9c3f77dc9", func := "tarn/tarnlaw16.ForceKeeps", spec := "forceKeeps", inPlace := ["math.Float64frombits", "math.Float64bits", "math.sqrt", "math.archFloor", "math.archTrunc"], unfollowed := true, recurses := true, named := ["tarn/cube.frames", "tarn/geom.frames"], plainKeys := false, apart := false, laid := [("tarn/cube.frames", laid_tarn_cube_frames), ("tarn/geom.frames", laid_tarn_geom_frames)], narrowed := true }
def ForceKeepsUptoSaid : Prop := forceKeepsUptoRow.holds Tryz.pinned (OpenSpec.upto forceKeepsSpec)

/-- 'tarnlaw12.ReconMemory', WHERE WHAT IT READS IS OF BULK AT MOST 1048576: true; the input reads as it did. -/
def reconMemoryUptoRow : OpenClaim := { program := "ytemaeembndobaaagreatdoor", sum := "ac22ef779a69d4d162cf9c928af8aa8a4aee2a23b527fffc145d19a9c3f77dc9", func := "tarn/tarnlaw12.ReconMemory", spec := "reconMemory", inPlace := ["math.Float64frombits", "math.Float64bits", "math.sqrt", "math.archFloor", "math.archTrunc"], unfollowed := true, recurses := true, named := ["tarn/cube.frames", "tarn/geom.frames"], plainKeys := false, apart := false, laid := [("tarn/cube.frames", laid_tarn_cube_frames), ("tarn/geom.frames", laid_tarn_geom_frames)], narrowed := true }
def ReconMemoryUptoSaid : Prop := reconMemoryUptoRow.holds Tryz.pinned (OpenSpec.upto reconMemorySpec)

/-- 'tarnlaw12.ReconTurned', WHERE WHAT IT READS IS OF BULK AT MOST 1048576: true; the input reads as it did. -/
def reconTurnedUptoRow : OpenClaim := { program := "ytemaeembndobaaagreatdoor", sum := "ac22ef779a69d4d162cf9c928af8aa8a4aee2a23b527fffc145d19a9c3f77dc9", func := "tarn/tarnlaw12.ReconTurned", spec := "reconTurned", inPlace := ["math.Float64frombits", "math.Float64bits", "math.sqrt", "math.archFloor", "math.archTrunc"], unfollowed := true, recurses := true, named := ["tarn/cube.frames", "tarn/geom.frames"], plainKeys := false, apart := false, laid := [("tarn/cube.frames", laid_tarn_cube_frames), ("tarn/geom.frames", laid_tarn_geom_frames)], narrowed := true }
def ReconTurnedUptoSaid : Prop := reconTurnedUptoRow.holds Tryz.pinned (OpenSpec.upto reconTurnedSpec)

end Rows
end Go.Proofs.YtemaeembndobaaaGreatDoor
