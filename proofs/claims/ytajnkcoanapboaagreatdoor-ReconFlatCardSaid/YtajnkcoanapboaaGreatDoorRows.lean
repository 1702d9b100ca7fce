/-
  NARROWER THAN 'FOR EVERY INPUT', by the rows' own cells (each row's printed sentence says how): ForceRest: laid · ForceMirror: laid · ForceLocal: laid · ForceFalls: laid · ForceKeeps: laid · ReconSigns: laid · ReconGate: laid · ReconFlat: laid · ReconLocal: laid · FluxSigns: laid · FluxEdges: laid.
  DERIVED. THE GIVEN ROWS OF THIS SEAT. 11 by the template 'for every input the law returns true; each argument reads behind the call as it read before'; 0 by the template 'total and deterministic' (their statements: YtajnkcoanapboaaGreatDoorTotals.lean).
  GIVEN WITH THE SEED: the statements are not yours to turn. If you find one false, say at which input.
  Laid BY PROGRAM, IN A SANDBOX (cutbox-rows.mjs): the forced cells as the released guide's own fill.sh prints them over the translation 1ede2b0bace8c11a… (all of the seat's roots in one cut). By AI agents, Wed Nov 11 2026. No macro, syntax, notation, axiom, sorry.
-/
import Derived.Test.YtajnkcoanapboaaGreatDoorChecked
import GoSem.Claim
import GoSem.ClaimJoined
import GoSem.ClaimMapViews
import Derived.JoinedTies
import Derived.KernelRfl
namespace Go.Proofs.YtajnkcoanapboaaGreatDoor
/- THE CELL 'sum', in the pinned program and in every row, IS THE sha256 OF THE DUMP (.gsa) THAT YtajnkcoanapboaaGreatDoorProg.lean LOADS. Nothing in Lean hashes anything: it is a label: what it is worth is what the hold of that sum in a sandbox is worth. -/
noncomputable def Tryz.pinned : Pinned := { name := "ytajnkcoanapboaagreatdoor", sum := "1ede2b0bace8c11a45abf9f38eb3ef544689f1a9d6e1bd638aa8da24aafacc34", checked := Tryz.checked }
namespace Rows
def none {H : Type} : Left H := { results := [], args := [] }

/- WHAT THE LISTED PACKAGE-LEVEL VARIABLES READ AS WHEN THE CALL BEGINS. Each datum BY PROGRAM (the guide's laid-datum.mjs) off the statement by which the dump's own 'gosem.cut.vars' lays the variable. In a bare row this is a premise. The card (YtajnkcoanapboaaGreatDoorCards.lean) ties it to the program's text. -/
def laid_tarn_cube_frames {H : Type} : DataW H := .agg [.agg [.agg [.lit (.int .i64 1), .lit (.int .i64 0), .lit (.int .i64 0)], .agg [.lit (.int .i64 0), .lit (.int .i64 1), .lit (.int .i64 0)], .agg [.lit (.int .i64 0), .lit (.int .i64 0), .lit (.int .i64 1)]], .agg [.agg [.lit (.int .i64 0), .lit (.int .i64 1), .lit (.int .i64 0)], .agg [.lit (.int .i64 (-1)), .lit (.int .i64 0), .lit (.int .i64 0)], .agg [.lit (.int .i64 0), .lit (.int .i64 0), .lit (.int .i64 1)]], .agg [.agg [.lit (.int .i64 (-1)), .lit (.int .i64 0), .lit (.int .i64 0)], .agg [.lit (.int .i64 0), .lit (.int .i64 (-1)), .lit (.int .i64 0)], .agg [.lit (.int .i64 0), .lit (.int .i64 0), .lit (.int .i64 1)]], .agg [.agg [.lit (.int .i64 0), .lit (.int .i64 (-1)), .lit (.int .i64 0)], .agg [.lit (.int .i64 1), .lit (.int .i64 0), .lit (.int .i64 0)], .agg [.lit (.int .i64 0), .lit (.int .i64 0), .lit (.int .i64 1)]], .agg [.agg [.lit (.int .i64 0), .lit (.int .i64 0), .lit (.int .i64 1)], .agg [.lit (.int .i64 0), .lit (.int .i64 1), .lit (.int .i64 0)], .agg [.lit (.int .i64 (-1)), .lit (.int .i64 0), .lit (.int .i64 0)]], .agg [.agg [.lit (.int .i64 0), .lit (.int .i64 0), .lit (.int .i64 (-1))], .agg [.lit (.int .i64 0), .lit (.int .i64 1), .lit (.int .i64 0)], .agg [.lit (.int .i64 1), .lit (.int .i64 0), .lit (.int .i64 0)]]]
def laid_tarn_geom_frames {H : Type} : DataW H := .agg [.agg [.agg [.lit (.int .i64 1), .lit (.int .i64 0), .lit (.int .i64 0)], .agg [.lit (.int .i64 0), .lit (.int .i64 1), .lit (.int .i64 0)], .agg [.lit (.int .i64 0), .lit (.int .i64 0), .lit (.int .i64 1)]], .agg [.agg [.lit (.int .i64 0), .lit (.int .i64 1), .lit (.int .i64 0)], .agg [.lit (.int .i64 (-1)), .lit (.int .i64 0), .lit (.int .i64 0)], .agg [.lit (.int .i64 0), .lit (.int .i64 0), .lit (.int .i64 1)]], .agg [.agg [.lit (.int .i64 (-1)), .lit (.int .i64 0), .lit (.int .i64 0)], .agg [.lit (.int .i64 0), .lit (.int .i64 (-1)), .lit (.int .i64 0)], .agg [.lit (.int .i64 0), .lit (.int .i64 0), .lit (.int .i64 1)]], .agg [.agg [.lit (.int .i64 0), .lit (.int .i64 (-1)), .lit (.int .i64 0)], .agg [.lit (.int .i64 1), .lit (.int .i64 0), .lit (.int .i64 0)], .agg [.lit (.int .i64 0), .lit (.int .i64 0), .lit (.int .i64 1)]], .agg [.agg [.lit (.int .i64 0), .lit (.int .i64 0), .lit (.int .i64 1)], .agg [.lit (.int .i64 0), .lit (.int .i64 1), .lit (.int .i64 0)], .agg [.lit (.int .i64 (-1)), .lit (.int .i64 0), .lit (.int .i64 0)]], .agg [.agg [.lit (.int .i64 0), .lit (.int .i64 0), .lit (.int .i64 (-1))], .agg [.lit (.int .i64 0), .lit (.int .i64 1), .lit (.int .i64 0)], .agg [.lit (.int .i64 1), .lit (.int .i64 0), .lit (.int .i64 0)]]]

/-- 'tarnlaw16.ForceRest': WHATEVER THE INPUT: true; the input reads as it did. -/
def forceRestSpec : ChangeSpec := { name := "forceRest", fn := fun _ => fun
  | [d1, d2, d3] => { results := [.lit (.bool true)], args := [d1, d2, d3] }
  | _ => none }
def forceRestRow : OpenClaim := { program := "ytajnkcoanapboaagreatdoor", sum := "1ede2b0bace8c11a45abf9f38eb3ef544689f1a9d6e1bd638aa8da24aafacc34", func := "tarn/tarnlaw16.ForceRest", spec := "forceRest", inPlace := ["math.Float64frombits", "math.Float64bits", "math.sqrt", "math.archFloor", "math.archTrunc"], unfollowed := true, recurses := true, named := ["tarn/cube.frames", "tarn/geom.frames"], plainKeys := false, apart := false, laid := [("tarn/cube.frames", laid_tarn_cube_frames), ("tarn/geom.frames", laid_tarn_geom_frames)] }
def ForceRestSaid : Prop := forceRestRow.holds Tryz.pinned (OpenSpec.ofChange forceRestSpec)

/-- ITS FALSE NEIGHBOUR: 'it returns false'. Refute it at one input. -/
def forceRestWrong : ChangeSpec := { name := "forceRest", fn := fun _ => fun
  | [d1, d2, d3] => { results := [.lit (.bool false)], args := [d1, d2, d3] }
  | _ => none }
def ForceRestWrongFalsely : Prop := forceRestRow.holds Tryz.pinned (OpenSpec.ofChange forceRestWrong)

/-- 'tarnlaw16.ForceMirror': WHATEVER THE INPUT: true; the input reads as it did. -/
def forceMirrorSpec : ChangeSpec := { name := "forceMirror", fn := fun _ => fun
  | [d1, d2, d3, d4] => { results := [.lit (.bool true)], args := [d1, d2, d3, d4] }
  | _ => none }
def forceMirrorRow : OpenClaim := { program := "ytajnkcoanapboaagreatdoor", sum := "1ede2b0bace8c11a45abf9f38eb3ef544689f1a9d6e1bd638aa8da24aafacc34", func := "tarn/tarnlaw16.ForceMirror", spec := "forceMirror", inPlace := ["math.Float64frombits", "math.Float64bits", "math.sqrt", "math.archFloor", "math.archTrunc"], unfollowed := true, recurses := true, named := ["tarn/cube.frames", "tarn/geom.frames"], plainKeys := false, apart := false, laid := [("tarn/cube.frames", laid_tarn_cube_frames), ("tarn/geom.frames", laid_tarn_geom_frames)] }
def ForceMirrorSaid : Prop := forceMirrorRow.holds Tryz.pinned (OpenSpec.ofChange forceMirrorSpec)

/-- ITS FALSE NEIGHBOUR: 'it returns false'. Refute it at one input. -/
def forceMirrorWrong : ChangeSpec := { name := "forceMirror", fn := fun _ => fun
  | [d1, d2, d3, d4] => { results := [.lit (.bool false)], args := [d1, d2, d3, d4] }
  | _ => none }
def ForceMirrorWrongFalsely : Prop := forceMirrorRow.holds Tryz.pinned (OpenSpec.ofChange forceMirrorWrong)

/-- 'tarnlaw16.ForceLocal': WHATEVER THE INPUT: true; the input reads as it did. -/
def forceLocalSpec : ChangeSpec := { name := "forceLocal", fn := fun _ => fun
  | [d1, d2, d3, d4, d5] => { results := [.lit (.bool true)], args := [d1, d2, d3, d4, d5] }
  | _ => none }
def forceLocalRow : OpenClaim := { program := "ytajnkcoanapboaagreatdoor", sum := "1ede2b0bace8c11a45abf9f38eb3ef544689f1a9d6e1bd638aa8da24aafacc34", func := "tarn/tarnlaw16.ForceLocal", spec := "forceLocal", inPlace := ["math.Float64frombits", "math.Float64bits", "math.sqrt", "math.archFloor", "math.archTrunc"], unfollowed := true, recurses := true, named := ["tarn/cube.frames", "tarn/geom.frames"], plainKeys := false, apart := false, laid := [("tarn/cube.frames", laid_tarn_cube_frames), ("tarn/geom.frames", laid_tarn_geom_frames)] }
def ForceLocalSaid : Prop := forceLocalRow.holds Tryz.pinned (OpenSpec.ofChange forceLocalSpec)

/-- ITS FALSE NEIGHBOUR: 'it returns false'. Refute it at one input. -/
def forceLocalWrong : ChangeSpec := { name := "forceLocal", fn := fun _ => fun
  | [d1, d2, d3, d4, d5] => { results := [.lit (.bool false)], args := [d1, d2, d3, d4, d5] }
  | _ => none }
def ForceLocalWrongFalsely : Prop := forceLocalRow.holds Tryz.pinned (OpenSpec.ofChange forceLocalWrong)

/-- 'tarnlaw16.ForceFalls': WHATEVER THE INPUT: true; the input reads as it did. -/
def forceFallsSpec : ChangeSpec := { name := "forceFalls", fn := fun _ => fun
  | [d1, d2, d3, d4] => { results := [.lit (.bool true)], args := [d1, d2, d3, d4] }
  | _ => none }
def forceFallsRow : OpenClaim := { program := "ytajnkcoanapboaagreatdoor", sum := "1ede2b0bace8c11a45abf9f38eb3ef544689f1a9d6e1bd638aa8da24aafacc34", func := "tarn/tarnlaw16.ForceFalls", spec := "forceFalls", inPlace := ["math.Float64frombits", "math.Float64bits", "math.sqrt", "math.archFloor", "math.archTrunc"], unfollowed := true, recurses := true, named := ["tarn/cube.frames", "tarn/geom.frames"], plainKeys := false, apart := false, laid := [("tarn/cube.frames", laid_tarn_cube_frames), ("tarn/geom.frames", laid_tarn_geom_frames)] }
def ForceFallsSaid : Prop := forceFallsRow.holds Tryz.pinned (OpenSpec.ofChange forceFallsSpec)

/-- ITS FALSE NEIGHBOUR: 'it returns false'. Refute it at one input. -/
def forceFallsWrong : ChangeSpec := { name := "forceFalls", fn := fun _ => fun
  | [d1, d2, d3, d4] => { results := [.lit (.bool false)], args := [d1, d2, d3, d4] }
  | _ => none }
def ForceFallsWrongFalsely : Prop := forceFallsRow.holds Tryz.pinned (OpenSpec.ofChange forceFallsWrong)

/-- 'tarnlaw16.ForceKeeps': WHATEVER THE INPUT: true; the input reads as it did. -/
def forceKeepsSpec : ChangeSpec := { name := "forceKeeps", fn := fun _ => fun
  | [d1, d2, d3] => { results := [.lit (.bool true)], args := [d1, d2, d3] }
  | _ => none }
def forceKeepsRow : OpenClaim := { program := "ytajnkcoanapboaagreatdoor", sum := "1ede2b0bace8c11a45abf9f38eb3ef544689f1a9d6e1bd638aa8da24aafacc34", func := "tarn/tarnlaw16.ForceKeeps", spec := "forceKeeps", inPlace := ["math.Float64frombits", "math.Float64bits", "math.sqrt", "math.archFloor", "math.archTrunc"], unfollowed := true, recurses := true, named := ["tarn/cube.frames", "tarn/geom.frames"], plainKeys := false, apart := false, laid := [("tarn/cube.frames", laid_tarn_cube_frames), ("tarn/geom.frames", laid_tarn_geom_frames)] }
def ForceKeepsSaid : Prop := forceKeepsRow.holds Tryz.pinned (OpenSpec.ofChange forceKeepsSpec)

/-- ITS FALSE NEIGHBOUR: 'it returns false'. Refute it at one input. -/
def forceKeepsWrong : ChangeSpec := { name := "forceKeeps", fn := fun _ => fun
  | [d1, d2, d3] => { results := [.lit (.bool false)], args := [d1, d2, d3] }
  | _ => none }
def ForceKeepsWrongFalsely : Prop := forceKeepsRow.holds Tryz.pinned (OpenSpec.ofChange forceKeepsWrong)

/-- 'tarnlaw12.ReconSigns': WHATEVER THE INPUT: true; the input reads as it did. -/
def reconSignsSpec : ChangeSpec := { name := "reconSigns", fn := fun _ => fun
  | [d1, d2, d3] => { results := [.lit (.bool true)], args := [d1, d2, d3] }
  | _ => none }
def reconSignsRow : OpenClaim := { program := "ytajnkcoanapboaagreatdoor", sum := "1ede2b0bace8c11a45abf9f38eb3ef544689f1a9d6e1bd638aa8da24aafacc34", func := "tarn/tarnlaw12.ReconSigns", spec := "reconSigns", inPlace := ["math.Float64frombits", "math.Float64bits", "math.sqrt", "math.archFloor", "math.archTrunc"], unfollowed := true, recurses := true, named := ["tarn/cube.frames", "tarn/geom.frames"], plainKeys := false, apart := false, laid := [("tarn/cube.frames", laid_tarn_cube_frames), ("tarn/geom.frames", laid_tarn_geom_frames)] }
def ReconSignsSaid : Prop := reconSignsRow.holds Tryz.pinned (OpenSpec.ofChange reconSignsSpec)

/-- ITS FALSE NEIGHBOUR: 'it returns false'. Refute it at one input. -/
def reconSignsWrong : ChangeSpec := { name := "reconSigns", fn := fun _ => fun
  | [d1, d2, d3] => { results := [.lit (.bool false)], args := [d1, d2, d3] }
  | _ => none }
def ReconSignsWrongFalsely : Prop := reconSignsRow.holds Tryz.pinned (OpenSpec.ofChange reconSignsWrong)

/-- 'tarnlaw12.ReconGate': WHATEVER THE INPUT: true; the input reads as it did. -/
def reconGateSpec : ChangeSpec := { name := "reconGate", fn := fun _ => fun
  | [d1, d2] => { results := [.lit (.bool true)], args := [d1, d2] }
  | _ => none }
def reconGateRow : OpenClaim := { program := "ytajnkcoanapboaagreatdoor", sum := "1ede2b0bace8c11a45abf9f38eb3ef544689f1a9d6e1bd638aa8da24aafacc34", func := "tarn/tarnlaw12.ReconGate", spec := "reconGate", inPlace := ["math.Float64frombits", "math.Float64bits", "math.sqrt", "math.archFloor", "math.archTrunc"], unfollowed := true, recurses := true, named := ["tarn/cube.frames", "tarn/geom.frames"], plainKeys := false, apart := false, laid := [("tarn/cube.frames", laid_tarn_cube_frames), ("tarn/geom.frames", laid_tarn_geom_frames)] }
def ReconGateSaid : Prop := reconGateRow.holds Tryz.pinned (OpenSpec.ofChange reconGateSpec)

/-- ITS FALSE NEIGHBOUR: 'it returns false'. Refute it at one input. -/
def reconGateWrong : ChangeSpec := { name := "reconGate", fn := fun _ => fun
  | [d1, d2] => { results := [.lit (.bool false)], args := [d1, d2] }
  | _ => none }
def ReconGateWrongFalsely : Prop := reconGateRow.holds Tryz.pinned (OpenSpec.ofChange reconGateWrong)

/-- 'tarnlaw12.ReconFlat': WHATEVER THE INPUT: true; the input reads as it did. -/
def reconFlatSpec : ChangeSpec := { name := "reconFlat", fn := fun _ => fun
  | [d1, d2] => { results := [.lit (.bool true)], args := [d1, d2] }
  | _ => none }
def reconFlatRow : OpenClaim := { program := "ytajnkcoanapboaagreatdoor", sum := "1ede2b0bace8c11a45abf9f38eb3ef544689f1a9d6e1bd638aa8da24aafacc34", func := "tarn/tarnlaw12.ReconFlat", spec := "reconFlat", inPlace := ["math.Float64frombits", "math.Float64bits", "math.sqrt", "math.archFloor", "math.archTrunc"], unfollowed := true, recurses := true, named := ["tarn/cube.frames", "tarn/geom.frames"], plainKeys := false, apart := false, laid := [("tarn/cube.frames", laid_tarn_cube_frames), ("tarn/geom.frames", laid_tarn_geom_frames)] }
def ReconFlatSaid : Prop := reconFlatRow.holds Tryz.pinned (OpenSpec.ofChange reconFlatSpec)

/-- ITS FALSE NEIGHBOUR: 'it returns false'. Refute it at one input. -/
def reconFlatWrong : ChangeSpec := { name := "reconFlat", fn := fun _ => fun
  | [d1, d2] => { results := [.lit (.bool false)], args := [d1, d2] }
  | _ => none }
def ReconFlatWrongFalsely : Prop := reconFlatRow.holds Tryz.pinned (OpenSpec.ofChange reconFlatWrong)

/-- 'tarnlaw12.ReconLocal': WHATEVER THE INPUT: true; the input reads as it did. -/
def reconLocalSpec : ChangeSpec := { name := "reconLocal", fn := fun _ => fun
  | [d1, d2, d3] => { results := [.lit (.bool true)], args := [d1, d2, d3] }
  | _ => none }
def reconLocalRow : OpenClaim := { program := "ytajnkcoanapboaagreatdoor", sum := "1ede2b0bace8c11a45abf9f38eb3ef544689f1a9d6e1bd638aa8da24aafacc34", func := "tarn/tarnlaw12.ReconLocal", spec := "reconLocal", inPlace := ["math.Float64frombits", "math.Float64bits", "math.sqrt", "math.archFloor", "math.archTrunc"], unfollowed := true, recurses := true, named := ["tarn/cube.frames", "tarn/geom.frames"], plainKeys := false, apart := false, laid := [("tarn/cube.frames", laid_tarn_cube_frames), ("tarn/geom.frames", laid_tarn_geom_frames)] }
def ReconLocalSaid : Prop := reconLocalRow.holds Tryz.pinned (OpenSpec.ofChange reconLocalSpec)

/-- ITS FALSE NEIGHBOUR: 'it returns false'. Refute it at one input. -/
def reconLocalWrong : ChangeSpec := { name := "reconLocal", fn := fun _ => fun
  | [d1, d2, d3] => { results := [.lit (.bool false)], args := [d1, d2, d3] }
  | _ => none }
def ReconLocalWrongFalsely : Prop := reconLocalRow.holds Tryz.pinned (OpenSpec.ofChange reconLocalWrong)

/-- 'tarnlaw13.FluxSigns': WHATEVER THE INPUT: true; the input reads as it did. -/
def fluxSignsSpec : ChangeSpec := { name := "fluxSigns", fn := fun _ => fun
  | [d1, d2] => { results := [.lit (.bool true)], args := [d1, d2] }
  | _ => none }
def fluxSignsRow : OpenClaim := { program := "ytajnkcoanapboaagreatdoor", sum := "1ede2b0bace8c11a45abf9f38eb3ef544689f1a9d6e1bd638aa8da24aafacc34", func := "tarn/tarnlaw13.FluxSigns", spec := "fluxSigns", inPlace := ["math.Float64frombits", "math.Float64bits", "math.sqrt", "math.archFloor", "math.archTrunc"], unfollowed := true, recurses := true, named := ["tarn/cube.frames", "tarn/geom.frames"], plainKeys := false, apart := false, laid := [("tarn/cube.frames", laid_tarn_cube_frames), ("tarn/geom.frames", laid_tarn_geom_frames)] }
def FluxSignsSaid : Prop := fluxSignsRow.holds Tryz.pinned (OpenSpec.ofChange fluxSignsSpec)

/-- ITS FALSE NEIGHBOUR: 'it returns false'. Refute it at one input. -/
def fluxSignsWrong : ChangeSpec := { name := "fluxSigns", fn := fun _ => fun
  | [d1, d2] => { results := [.lit (.bool false)], args := [d1, d2] }
  | _ => none }
def FluxSignsWrongFalsely : Prop := fluxSignsRow.holds Tryz.pinned (OpenSpec.ofChange fluxSignsWrong)

/-- 'tarnlaw13.FluxEdges': WHATEVER THE INPUT: true; the input reads as it did. -/
def fluxEdgesSpec : ChangeSpec := { name := "fluxEdges", fn := fun _ => fun
  | [d1, d2, d3, d4, d5] => { results := [.lit (.bool true)], args := [d1, d2, d3, d4, d5] }
  | _ => none }
def fluxEdgesRow : OpenClaim := { program := "ytajnkcoanapboaagreatdoor", sum := "1ede2b0bace8c11a45abf9f38eb3ef544689f1a9d6e1bd638aa8da24aafacc34", func := "tarn/tarnlaw13.FluxEdges", spec := "fluxEdges", inPlace := ["math.Float64frombits", "math.Float64bits", "math.sqrt", "math.archFloor", "math.archTrunc"], unfollowed := true, recurses := true, named := ["tarn/cube.frames", "tarn/geom.frames"], plainKeys := false, apart := false, laid := [("tarn/cube.frames", laid_tarn_cube_frames), ("tarn/geom.frames", laid_tarn_geom_frames)] }
def FluxEdgesSaid : Prop := fluxEdgesRow.holds Tryz.pinned (OpenSpec.ofChange fluxEdgesSpec)

/-- ITS FALSE NEIGHBOUR: 'it returns false'. Refute it at one input. -/
def fluxEdgesWrong : ChangeSpec := { name := "fluxEdges", fn := fun _ => fun
  | [d1, d2, d3, d4, d5] => { results := [.lit (.bool false)], args := [d1, d2, d3, d4, d5] }
  | _ => none }
def FluxEdgesWrongFalsely : Prop := fluxEdgesRow.holds Tryz.pinned (OpenSpec.ofChange fluxEdgesWrong)

/- THE SECOND FORM. 'bulk': how many values and letters a reading holds, each counted each time it is reached (what is shared counts as often as it is met; a slice's spare places count too). A statement '..UptoSaid' is the law's where the arguments, and the package variables that the reading takes, are together of bulk at most 1048576: NARROWER than '..Said'. Prove '..Said' where nothing that the law and all that it calls make is longer than what came in: it says more and counts as full. Else prove '..UptoSaid'. A law counts once. -/
mutual
def uptoBulk {H : Type} : DataW H → Nat
  | .lit (.string bytes) => bytes.length + 1
  | .lit _ => 1
  | .nil => 1
  | .ptr d => uptoBulk d + 1
  | .slice elems spare => uptoBulkAll elems + uptoBulkAll spare + 1
  | .agg parts => uptoBulkAll parts + 1
  | .iface _ d => uptoBulk d + 1
  | .map entries => uptoBulkEntries entries + 1
  | .held _ => 1
def uptoBulkAll {H : Type} : List (DataW H) → Nat
  | [] => 0
  | d :: r => uptoBulk d + uptoBulkAll r
def uptoBulkEntries {H : Type} : List (Lit × DataW H) → Nat
  | [] => 0
  | x :: r => uptoBulkEntry x + uptoBulkEntries r
def uptoBulkEntry {H : Type} : Lit × DataW H → Nat
  | (.string bytes, d) => bytes.length + uptoBulk d + 1
  | (_, d) => uptoBulk d + 1
 end
def uptoSmall : (H : Type) → List (DataW H) → Bool := fun _ ds => decide (uptoBulkAll ds ≤ 1048576)
def OpenSpec.upto (s : _root_.Go.ChangeSpec) : _root_.Go.OpenSpec := { _root_.Go.OpenSpec.ofChange s with cond := some uptoSmall }

/-- 'tarnlaw16.ForceRest', WHERE WHAT IT READS IS OF BULK AT MOST 1048576: true; the input reads as it did. -/
def forceRestUptoRow : OpenClaim := { program := "ytajnkcoanapboaagreatdoor", sum := "1ede2b0bace8c11a45abf9f38eb3ef544689f1a9d6e1bd638aa8da24aafacc34", func := "tarn/tarnlaw16.ForceRest", spec := "forceRest", inPlace := ["math.Float64frombits", "math.Float64bits", "math.sqrt", "math.archFloor", "math.archTrunc"], unfollowed := true, recurses := true, named := ["tarn/cube.frames", "tarn/geom.frames"], plainKeys := false, apart := false, laid := [("tarn/cube.frames", laid_tarn_cube_frames), ("tarn/geom.frames", laid_tarn_geom_frames)], narrowed := true }
def ForceRestUptoSaid : Prop := forceRestUptoRow.holds Tryz.pinned (OpenSpec.upto forceRestSpec)

/-- 'tarnlaw16.ForceMirror', WHERE WHAT IT READS IS OF BULK AT MOST 1048576: true; the input reads as it did. -/
def forceMirrorUptoRow : OpenClaim := { program := "ytajnkcoanapboaagreatdoor", sum := "1ede2b0bace8c11a45abf9f38eb3ef544689f1a9d6e1bd638aa8da24aafacc34", func := "tarn/tarnlaw16.ForceMirror", spec := "forceMirror", inPlace := ["math.Float64frombits", "math.Float64bits", "math.sqrt", "math.archFloor", "math.archTrunc"], unfollowed := true, recurses := true, named := ["tarn/cube.frames", "tarn/geom.frames"], plainKeys := false, apart := false, laid := [("tarn/cube.frames", laid_tarn_cube_frames), ("tarn/geom.frames", laid_tarn_geom_frames)], narrowed := true }
def ForceMirrorUptoSaid : Prop := forceMirrorUptoRow.holds Tryz.pinned (OpenSpec.upto forceMirrorSpec)

/-- 'tarnlaw16.ForceLocal', WHERE WHAT IT READS IS OF BULK AT MOST 1048576: true; the input reads as it did. -/
def forceLocalUptoRow : OpenClaim := { program := "ytajnkcoanapboaagreatdoor", sum := "1ede2b0bace8c11a45abf9f38eb3ef544689f1a9d6e1bd638aa8da24aafacc34", func := "tarn/tarnlaw16.ForceLocal", spec := "forceLocal", inPlace := ["math.Float64frombits", "math.Float64bits", "math.sqrt", "math.archFloor", "math.archTrunc"], unfollowed := true, recurses := true, named := ["tarn/cube.frames", "tarn/geom.frames"], plainKeys := false, apart := false, laid := [("tarn/cube.frames", laid_tarn_cube_frames), ("tarn/geom.frames", laid_tarn_geom_frames)], narrowed := true }
def ForceLocalUptoSaid : Prop := forceLocalUptoRow.holds Tryz.pinned (OpenSpec.upto forceLocalSpec)

/-- 'tarnlaw16.ForceFalls', WHERE WHAT IT READS IS OF BULK AT MOST 1048576: true; the input reads as it did. -/
def forceFallsUptoRow : OpenClaim := { program := "ytajnkcoanapboaagreatdoor", sum := "1ede2b0bace8c11a45abf9f38eb3ef544689f1a9d6e1bd638aa8da24aafacc34", func := "tarn/tarnlaw16.ForceFalls", spec := "forceFalls", inPlace := ["math.Float64frombits", "math.Float64bits", "math.sqrt", "math.archFloor", "math.archTrunc"], unfollowed := true, recurses := true, named := ["tarn/cube.frames", "tarn/geom.frames"], plainKeys := false, apart := false, laid := [("tarn/cube.frames", laid_tarn_cube_frames), ("tarn/geom.frames", laid_tarn_geom_frames)], narrowed := true }
def ForceFallsUptoSaid : Prop := forceFallsUptoRow.holds Tryz.pinned (OpenSpec.upto forceFallsSpec)

/-- 'tarnlaw16.ForceKeeps', WHERE WHAT IT READS IS OF BULK AT MOST 1048576: true; the input reads as it did. -/
def forceKeepsUptoRow : OpenClaim := { program := "ytajnkcoanapboaagreatdoor", sum := "1ede2b0bace8c11a45abf9f38eb3ef544689f1a9d6e1bd638aa8da24aafacc34", func := "tarn/tarnlaw16.ForceKeeps", spec := "forceKeeps", inPlace := ["math.Float64frombits", "math.Float64bits", "math.sqrt", "math.archFloor", "math.archTrunc"], unfollowed := true, recurses := true, named := ["tarn/cube.frames", "tarn/geom.frames"], plainKeys := false, apart := false, laid := [("tarn/cube.frames", laid_tarn_cube_frames), ("tarn/geom.frames", laid_tarn_geom_frames)], narrowed := true }
def ForceKeepsUptoSaid : Prop := forceKeepsUptoRow.holds Tryz.pinned (OpenSpec.upto forceKeepsSpec)

/-- 'tarnlaw12.ReconSigns', WHERE WHAT IT READS IS OF BULK AT MOST 1048576: true; the input reads as it did. -/
def reconSignsUptoRow : OpenClaim := { program := "ytajnkcoanapboaagreatdoor", sum := "1ede2b0bace8c11a45abf9f38eb3ef544689f1a9d6e1bd638aa8da24aafacc34", func := "tarn/tarnlaw12.ReconSigns", spec := "reconSigns", inPlace := ["math.Float64frombits", "math.Float64bits", "math.sqrt", "math.archFloor", "math.archTrunc"], unfollowed := true, recurses := true, named := ["tarn/cube.frames", "tarn/geom.frames"], plainKeys := false, apart := false, laid := [("tarn/cube.frames", laid_tarn_cube_frames), ("tarn/geom.frames", laid_tarn_geom_frames)], narrowed := true }
def ReconSignsUptoSaid : Prop := reconSignsUptoRow.holds Tryz.pinned (OpenSpec.upto reconSignsSpec)

/-- 'tarnlaw12.ReconGate', WHERE WHAT IT READS IS OF BULK AT MOST 1048576: true; the input reads as it did. -/
def reconGateUptoRow : OpenClaim := { program := "ytajnkcoanapboaagreatdoor", sum := "1ede2b0bace8c11a45abf9f38eb3ef544689f1a9d6e1bd638aa8da24aafacc34", func := "tarn/tarnlaw12.ReconGate", spec := "reconGate", inPlace := ["math.Float64frombits", "math.Float64bits", "math.sqrt", "math.archFloor", "math.archTrunc"], unfollowed := true, recurses := true, named := ["tarn/cube.frames", "tarn/geom.frames"], plainKeys := false, apart := false, laid := [("tarn/cube.frames", laid_tarn_cube_frames), ("tarn/geom.frames", laid_tarn_geom_frames)], narrowed := true }
def ReconGateUptoSaid : Prop := reconGateUptoRow.holds Tryz.pinned (OpenSpec.upto reconGateSpec)

/-- 'tarnlaw12.ReconFlat', WHERE WHAT IT READS IS OF BULK AT MOST 1048576: true; the input reads as it did. -/
def reconFlatUptoRow : OpenClaim := { program := "ytajnkcoanapboaagreatdoor", sum := "1ede2b0bace8c11a45abf9f38eb3ef544689f1a9d6e1bd638aa8da24aafacc34", func := "tarn/tarnlaw12.ReconFlat", spec := "reconFlat", inPlace := ["math.Float64frombits", "math.Float64bits", "math.sqrt", "math.archFloor", "math.archTrunc"], unfollowed := true, recurses := true, named := ["tarn/cube.frames", "tarn/geom.frames"], plainKeys := false, apart := false, laid := [("tarn/cube.frames", laid_tarn_cube_frames), ("tarn/geom.frames", laid_tarn_geom_frames)], narrowed := true }
def ReconFlatUptoSaid : Prop := reconFlatUptoRow.holds Tryz.pinned (OpenSpec.upto reconFlatSpec)

/-- 'tarnlaw12.ReconLocal', WHERE WHAT IT READS IS OF BULK AT MOST 1048576: true; the input reads as it did. -/
def reconLocalUptoRow : OpenClaim := { program := "ytajnkcoanapboaagreatdoor", sum := "1ede2b0bace8c11a45abf9f38eb3ef544689f1a9d6e1bd638aa8da24aafacc34", func := "tarn/tarnlaw12.ReconLocal", spec := "reconLocal", inPlace := ["math.Float64frombits", "math.Float64bits", "math.sqrt", "math.archFloor", "math.archTrunc"], unfollowed := true, recurses := true, named := ["tarn/cube.frames", "tarn/geom.frames"], plainKeys := false, apart := false, laid := [("tarn/cube.frames", laid_tarn_cube_frames), ("tarn/geom.frames", laid_tarn_geom_frames)], narrowed := true }
def ReconLocalUptoSaid : Prop := reconLocalUptoRow.holds Tryz.pinned (OpenSpec.upto reconLocalSpec)

/-- 'tarnlaw13.FluxSigns', WHERE WHAT IT READS IS OF BULK AT MOST 1048576: true; the input reads as it did. -/
def fluxSignsUptoRow : OpenClaim := { program := "ytajnkcoanapboaagreatdoor", sum := "1ede2b0bace8c11a45abf9f38eb3ef544689f1a9d6e1bd638aa8da24aafacc34", func := "tarn/tarnlaw13.FluxSigns", spec := "fluxSigns", inPlace := ["math.Float64frombits", "math.Float64bits", "math.sqrt", "math.archFloor", "math.archTrunc"], unfollowed := true, recurses := true, named := ["tarn/cube.frames", "tarn/geom.frames"], plainKeys := false, apart := false, laid := [("tarn/cube.frames", laid_tarn_cube_frames), ("tarn/geom.frames", laid_tarn_geom_frames)], narrowed := true }
def FluxSignsUptoSaid : Prop := fluxSignsUptoRow.holds Tryz.pinned (OpenSpec.upto fluxSignsSpec)

/-- 'tarnlaw13.FluxEdges', WHERE WHAT IT READS IS OF BULK AT MOST 1048576: true; the input reads as it did. -/
def fluxEdgesUptoRow : OpenClaim := { program := "ytajnkcoanapboaagreatdoor", sum := "1ede2b0bace8c11a45abf9f38eb3ef544689f1a9d6e1bd638aa8da24aafacc34", func := "tarn/tarnlaw13.FluxEdges", spec := "fluxEdges", inPlace := ["math.Float64frombits", "math.Float64bits", "math.sqrt", "math.archFloor", "math.archTrunc"], unfollowed := true, recurses := true, named := ["tarn/cube.frames", "tarn/geom.frames"], plainKeys := false, apart := false, laid := [("tarn/cube.frames", laid_tarn_cube_frames), ("tarn/geom.frames", laid_tarn_geom_frames)], narrowed := true }
def FluxEdgesUptoSaid : Prop := fluxEdgesUptoRow.holds Tryz.pinned (OpenSpec.upto fluxEdgesSpec)

end Rows
end Go.Proofs.YtajnkcoanapboaaGreatDoor
