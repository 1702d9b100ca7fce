/-
  NARROWER THAN 'FOR EVERY INPUT', by the rows' own cells (each row's printed sentence says how): GeomAll: laid · GridExact: laid · MassExact: laid · ReconExact: laid · SplitAll: laid · SplitLocal: laid · ForceAll: laid · ReconDepths: laid · FluxAll: laid.
  DERIVED. THE GIVEN ROWS OF THIS SEAT. 9 by the template 'for every input the law returns true; each argument reads behind the call as it read before'; 0 by the template 'total and deterministic' (their statements: YthoofdnnfahhaaaGreatDoorTotals.lean).
  GIVEN WITH THE SEED: the statements are not yours to turn. If you find one false, say at which input.
  Laid BY PROGRAM, IN A SANDBOX (cutbox-rows.mjs): the forced cells as the released guide's own fill.sh prints them over the translation 34bce79f86084566… (all of the seat's roots in one cut). By AI agents, Wed Nov 11 2026. No macro, syntax, notation, axiom, sorry.
-/
import Derived.Test.YthoofdnnfahhaaaGreatDoorChecked
import GoSem.Claim
import GoSem.ClaimJoined
import GoSem.ClaimMapViews
import Derived.JoinedTies
import Derived.KernelRfl
namespace Go.Proofs.YthoofdnnfahhaaaGreatDoor
/- THE CELL 'sum', in the pinned program and in every row, IS THE sha256 OF THE DUMP (.gsa) THAT YthoofdnnfahhaaaGreatDoorProg.lean LOADS. Nothing in Lean hashes anything: it is a label: what it is worth is what the hold of that sum in a sandbox is worth. -/
noncomputable def Tryz.pinned : Pinned := { name := "ythoofdnnfahhaaagreatdoor", sum := "34bce79f860845665c8cba7be7900899ea437dc98a8f947385caca5d0523e0ec", checked := Tryz.checked }
namespace Rows
def none {H : Type} : Left H := { results := [], args := [] }

/- WHAT THE LISTED PACKAGE-LEVEL VARIABLES READ AS WHEN THE CALL BEGINS. Each datum BY PROGRAM (the guide's laid-datum.mjs) off the statement by which the dump's own 'gosem.cut.vars' lays the variable. In a bare row this is a premise. The card (YthoofdnnfahhaaaGreatDoorCards.lean) ties it to the program's text. -/
def laid_tarn_cube_frames {H : Type} : DataW H := .agg [.agg [.agg [.lit (.int .i64 1), .lit (.int .i64 0), .lit (.int .i64 0)], .agg [.lit (.int .i64 0), .lit (.int .i64 1), .lit (.int .i64 0)], .agg [.lit (.int .i64 0), .lit (.int .i64 0), .lit (.int .i64 1)]], .agg [.agg [.lit (.int .i64 0), .lit (.int .i64 1), .lit (.int .i64 0)], .agg [.lit (.int .i64 (-1)), .lit (.int .i64 0), .lit (.int .i64 0)], .agg [.lit (.int .i64 0), .lit (.int .i64 0), .lit (.int .i64 1)]], .agg [.agg [.lit (.int .i64 (-1)), .lit (.int .i64 0), .lit (.int .i64 0)], .agg [.lit (.int .i64 0), .lit (.int .i64 (-1)), .lit (.int .i64 0)], .agg [.lit (.int .i64 0), .lit (.int .i64 0), .lit (.int .i64 1)]], .agg [.agg [.lit (.int .i64 0), .lit (.int .i64 (-1)), .lit (.int .i64 0)], .agg [.lit (.int .i64 1), .lit (.int .i64 0), .lit (.int .i64 0)], .agg [.lit (.int .i64 0), .lit (.int .i64 0), .lit (.int .i64 1)]], .agg [.agg [.lit (.int .i64 0), .lit (.int .i64 0), .lit (.int .i64 1)], .agg [.lit (.int .i64 0), .lit (.int .i64 1), .lit (.int .i64 0)], .agg [.lit (.int .i64 (-1)), .lit (.int .i64 0), .lit (.int .i64 0)]], .agg [.agg [.lit (.int .i64 0), .lit (.int .i64 0), .lit (.int .i64 (-1))], .agg [.lit (.int .i64 0), .lit (.int .i64 1), .lit (.int .i64 0)], .agg [.lit (.int .i64 1), .lit (.int .i64 0), .lit (.int .i64 0)]]]
def laid_tarn_geom_frames {H : Type} : DataW H := .agg [.agg [.agg [.lit (.int .i64 1), .lit (.int .i64 0), .lit (.int .i64 0)], .agg [.lit (.int .i64 0), .lit (.int .i64 1), .lit (.int .i64 0)], .agg [.lit (.int .i64 0), .lit (.int .i64 0), .lit (.int .i64 1)]], .agg [.agg [.lit (.int .i64 0), .lit (.int .i64 1), .lit (.int .i64 0)], .agg [.lit (.int .i64 (-1)), .lit (.int .i64 0), .lit (.int .i64 0)], .agg [.lit (.int .i64 0), .lit (.int .i64 0), .lit (.int .i64 1)]], .agg [.agg [.lit (.int .i64 (-1)), .lit (.int .i64 0), .lit (.int .i64 0)], .agg [.lit (.int .i64 0), .lit (.int .i64 (-1)), .lit (.int .i64 0)], .agg [.lit (.int .i64 0), .lit (.int .i64 0), .lit (.int .i64 1)]], .agg [.agg [.lit (.int .i64 0), .lit (.int .i64 (-1)), .lit (.int .i64 0)], .agg [.lit (.int .i64 1), .lit (.int .i64 0), .lit (.int .i64 0)], .agg [.lit (.int .i64 0), .lit (.int .i64 0), .lit (.int .i64 1)]], .agg [.agg [.lit (.int .i64 0), .lit (.int .i64 0), .lit (.int .i64 1)], .agg [.lit (.int .i64 0), .lit (.int .i64 1), .lit (.int .i64 0)], .agg [.lit (.int .i64 (-1)), .lit (.int .i64 0), .lit (.int .i64 0)]], .agg [.agg [.lit (.int .i64 0), .lit (.int .i64 0), .lit (.int .i64 (-1))], .agg [.lit (.int .i64 0), .lit (.int .i64 1), .lit (.int .i64 0)], .agg [.lit (.int .i64 1), .lit (.int .i64 0), .lit (.int .i64 0)]]]

/-- 'tarnlaw08.GeomAll': WHATEVER THE INPUT: true; the input reads as it did. -/
def geomAllSpec : ChangeSpec := { name := "geomAll", fn := fun _ => fun
  | [d] => { results := [.lit (.bool true)], args := [d] }
  | _ => none }
def geomAllRow : OpenClaim := { program := "ythoofdnnfahhaaagreatdoor", sum := "34bce79f860845665c8cba7be7900899ea437dc98a8f947385caca5d0523e0ec", func := "tarn/tarnlaw08.GeomAll", spec := "geomAll", inPlace := ["math.Float64frombits", "math.Float64bits", "math.sqrt", "math.archFloor", "math.archTrunc"], unfollowed := true, recurses := true, named := ["tarn/geom.frames", "tarn/cube.frames"], plainKeys := false, apart := false, laid := [("tarn/cube.frames", laid_tarn_cube_frames), ("tarn/geom.frames", laid_tarn_geom_frames)] }
def GeomAllSaid : Prop := geomAllRow.holds Tryz.pinned (OpenSpec.ofChange geomAllSpec)

/-- ITS FALSE NEIGHBOUR: 'it returns false'. Refute it at one input. -/
def geomAllWrong : ChangeSpec := { name := "geomAll", fn := fun _ => fun
  | [d] => { results := [.lit (.bool false)], args := [d] }
  | _ => none }
def GeomAllWrongFalsely : Prop := geomAllRow.holds Tryz.pinned (OpenSpec.ofChange geomAllWrong)

/-- 'tarnlaw09.GridExact': WHATEVER THE INPUT: true; the input reads as it did. -/
def gridExactSpec : ChangeSpec := { name := "gridExact", fn := fun _ => fun
  | [d1, d2] => { results := [.lit (.bool true)], args := [d1, d2] }
  | _ => none }
def gridExactRow : OpenClaim := { program := "ythoofdnnfahhaaagreatdoor", sum := "34bce79f860845665c8cba7be7900899ea437dc98a8f947385caca5d0523e0ec", func := "tarn/tarnlaw09.GridExact", spec := "gridExact", inPlace := ["math.Float64frombits", "math.Float64bits", "math.sqrt", "math.archFloor", "math.archTrunc"], unfollowed := true, recurses := true, named := ["tarn/cube.frames", "tarn/geom.frames"], plainKeys := false, apart := false, laid := [("tarn/cube.frames", laid_tarn_cube_frames), ("tarn/geom.frames", laid_tarn_geom_frames)] }
def GridExactSaid : Prop := gridExactRow.holds Tryz.pinned (OpenSpec.ofChange gridExactSpec)

/-- ITS FALSE NEIGHBOUR: 'it returns false'. Refute it at one input. -/
def gridExactWrong : ChangeSpec := { name := "gridExact", fn := fun _ => fun
  | [d1, d2] => { results := [.lit (.bool false)], args := [d1, d2] }
  | _ => none }
def GridExactWrongFalsely : Prop := gridExactRow.holds Tryz.pinned (OpenSpec.ofChange gridExactWrong)

/-- 'tarnlaw15.MassExact': WHATEVER THE INPUT: true; the input reads as it did. -/
def massExactSpec : ChangeSpec := { name := "massExact", fn := fun _ => fun
  | [d1, d2, d3] => { results := [.lit (.bool true)], args := [d1, d2, d3] }
  | _ => none }
def massExactRow : OpenClaim := { program := "ythoofdnnfahhaaagreatdoor", sum := "34bce79f860845665c8cba7be7900899ea437dc98a8f947385caca5d0523e0ec", func := "tarn/tarnlaw15.MassExact", spec := "massExact", inPlace := ["math.Float64frombits", "math.Float64bits", "math.sqrt", "math.archFloor", "math.archTrunc", "math/bits.Add64", "math/bits.Sub64"], unfollowed := true, recurses := true, named := ["tarn/cube.frames", "tarn/geom.frames"], plainKeys := false, apart := false, laid := [("tarn/cube.frames", laid_tarn_cube_frames), ("tarn/geom.frames", laid_tarn_geom_frames)] }
def MassExactSaid : Prop := massExactRow.holds Tryz.pinned (OpenSpec.ofChange massExactSpec)

/-- ITS FALSE NEIGHBOUR: 'it returns false'. Refute it at one input. -/
def massExactWrong : ChangeSpec := { name := "massExact", fn := fun _ => fun
  | [d1, d2, d3] => { results := [.lit (.bool false)], args := [d1, d2, d3] }
  | _ => none }
def MassExactWrongFalsely : Prop := massExactRow.holds Tryz.pinned (OpenSpec.ofChange massExactWrong)

/-- 'tarnlaw12.ReconExact': WHATEVER THE INPUT: true; the input reads as it did. -/
def reconExactSpec : ChangeSpec := { name := "reconExact", fn := fun _ => fun
  | [d1, d2, d3] => { results := [.lit (.bool true)], args := [d1, d2, d3] }
  | _ => none }
def reconExactRow : OpenClaim := { program := "ythoofdnnfahhaaagreatdoor", sum := "34bce79f860845665c8cba7be7900899ea437dc98a8f947385caca5d0523e0ec", func := "tarn/tarnlaw12.ReconExact", spec := "reconExact", inPlace := ["math.Float64frombits", "math.Float64bits", "math.sqrt", "math.archFloor", "math.archTrunc"], unfollowed := true, recurses := true, named := ["tarn/cube.frames", "tarn/geom.frames"], plainKeys := false, apart := false, laid := [("tarn/cube.frames", laid_tarn_cube_frames), ("tarn/geom.frames", laid_tarn_geom_frames)] }
def ReconExactSaid : Prop := reconExactRow.holds Tryz.pinned (OpenSpec.ofChange reconExactSpec)

/-- ITS FALSE NEIGHBOUR: 'it returns false'. Refute it at one input. -/
def reconExactWrong : ChangeSpec := { name := "reconExact", fn := fun _ => fun
  | [d1, d2, d3] => { results := [.lit (.bool false)], args := [d1, d2, d3] }
  | _ => none }
def ReconExactWrongFalsely : Prop := reconExactRow.holds Tryz.pinned (OpenSpec.ofChange reconExactWrong)

/-- 'tarnlaw22.SplitAll': WHATEVER THE INPUT: true; the input reads as it did. -/
def splitAllSpec : ChangeSpec := { name := "splitAll", fn := fun _ => fun
  | [d1, d2] => { results := [.lit (.bool true)], args := [d1, d2] }
  | _ => none }
def splitAllRow : OpenClaim := { program := "ythoofdnnfahhaaagreatdoor", sum := "34bce79f860845665c8cba7be7900899ea437dc98a8f947385caca5d0523e0ec", func := "tarn/tarnlaw22.SplitAll", spec := "splitAll", inPlace := ["math.Float64frombits", "math.Float64bits", "math.sqrt", "math.archFloor", "math.archTrunc"], unfollowed := true, recurses := true, named := ["tarn/cube.frames", "tarn/geom.frames"], plainKeys := false, apart := false, laid := [("tarn/cube.frames", laid_tarn_cube_frames), ("tarn/geom.frames", laid_tarn_geom_frames)] }
def SplitAllSaid : Prop := splitAllRow.holds Tryz.pinned (OpenSpec.ofChange splitAllSpec)

/-- ITS FALSE NEIGHBOUR: 'it returns false'. Refute it at one input. -/
def splitAllWrong : ChangeSpec := { name := "splitAll", fn := fun _ => fun
  | [d1, d2] => { results := [.lit (.bool false)], args := [d1, d2] }
  | _ => none }
def SplitAllWrongFalsely : Prop := splitAllRow.holds Tryz.pinned (OpenSpec.ofChange splitAllWrong)

/-- 'tarnlaw22.SplitLocal': WHATEVER THE INPUT: true; the input reads as it did. -/
def splitLocalSpec : ChangeSpec := { name := "splitLocal", fn := fun _ => fun
  | [d1, d2, d3, d4, d5] => { results := [.lit (.bool true)], args := [d1, d2, d3, d4, d5] }
  | _ => none }
def splitLocalRow : OpenClaim := { program := "ythoofdnnfahhaaagreatdoor", sum := "34bce79f860845665c8cba7be7900899ea437dc98a8f947385caca5d0523e0ec", func := "tarn/tarnlaw22.SplitLocal", spec := "splitLocal", inPlace := ["math.Float64frombits", "math.Float64bits", "math.sqrt", "math.archFloor", "math.archTrunc"], unfollowed := true, recurses := true, named := ["tarn/cube.frames", "tarn/geom.frames"], plainKeys := false, apart := false, laid := [("tarn/cube.frames", laid_tarn_cube_frames), ("tarn/geom.frames", laid_tarn_geom_frames)] }
def SplitLocalSaid : Prop := splitLocalRow.holds Tryz.pinned (OpenSpec.ofChange splitLocalSpec)

/-- ITS FALSE NEIGHBOUR: 'it returns false'. Refute it at one input. -/
def splitLocalWrong : ChangeSpec := { name := "splitLocal", fn := fun _ => fun
  | [d1, d2, d3, d4, d5] => { results := [.lit (.bool false)], args := [d1, d2, d3, d4, d5] }
  | _ => none }
def SplitLocalWrongFalsely : Prop := splitLocalRow.holds Tryz.pinned (OpenSpec.ofChange splitLocalWrong)

/-- 'tarnlaw16.ForceAll': WHATEVER THE INPUT: true; the input reads as it did. -/
def forceAllSpec : ChangeSpec := { name := "forceAll", fn := fun _ => fun
  | [d1, d2, d3, d4] => { results := [.lit (.bool true)], args := [d1, d2, d3, d4] }
  | _ => none }
def forceAllRow : OpenClaim := { program := "ythoofdnnfahhaaagreatdoor", sum := "34bce79f860845665c8cba7be7900899ea437dc98a8f947385caca5d0523e0ec", func := "tarn/tarnlaw16.ForceAll", spec := "forceAll", inPlace := ["math.Float64frombits", "math.Float64bits", "math.sqrt", "math.archFloor", "math.archTrunc"], unfollowed := true, recurses := true, named := ["tarn/cube.frames", "tarn/geom.frames"], plainKeys := false, apart := false, laid := [("tarn/cube.frames", laid_tarn_cube_frames), ("tarn/geom.frames", laid_tarn_geom_frames)] }
def ForceAllSaid : Prop := forceAllRow.holds Tryz.pinned (OpenSpec.ofChange forceAllSpec)

/-- ITS FALSE NEIGHBOUR: 'it returns false'. Refute it at one input. -/
def forceAllWrong : ChangeSpec := { name := "forceAll", fn := fun _ => fun
  | [d1, d2, d3, d4] => { results := [.lit (.bool false)], args := [d1, d2, d3, d4] }
  | _ => none }
def ForceAllWrongFalsely : Prop := forceAllRow.holds Tryz.pinned (OpenSpec.ofChange forceAllWrong)

/-- 'tarnlaw12.ReconDepths': WHATEVER THE INPUT: true; the input reads as it did. -/
def reconDepthsSpec : ChangeSpec := { name := "reconDepths", fn := fun _ => fun
  | [d] => { results := [.lit (.bool true)], args := [d] }
  | _ => none }
def reconDepthsRow : OpenClaim := { program := "ythoofdnnfahhaaagreatdoor", sum := "34bce79f860845665c8cba7be7900899ea437dc98a8f947385caca5d0523e0ec", func := "tarn/tarnlaw12.ReconDepths", spec := "reconDepths", inPlace := ["math.Float64frombits", "math.Float64bits", "math.sqrt", "math.archFloor", "math.archTrunc"], unfollowed := true, recurses := true, named := ["tarn/cube.frames", "tarn/geom.frames"], plainKeys := false, apart := false, laid := [("tarn/cube.frames", laid_tarn_cube_frames), ("tarn/geom.frames", laid_tarn_geom_frames)] }
def ReconDepthsSaid : Prop := reconDepthsRow.holds Tryz.pinned (OpenSpec.ofChange reconDepthsSpec)

/-- ITS FALSE NEIGHBOUR: 'it returns false'. Refute it at one input. -/
def reconDepthsWrong : ChangeSpec := { name := "reconDepths", fn := fun _ => fun
  | [d] => { results := [.lit (.bool false)], args := [d] }
  | _ => none }
def ReconDepthsWrongFalsely : Prop := reconDepthsRow.holds Tryz.pinned (OpenSpec.ofChange reconDepthsWrong)

/-- 'tarnlaw13.FluxAll': WHATEVER THE INPUT: true; the input reads as it did. -/
def fluxAllSpec : ChangeSpec := { name := "fluxAll", fn := fun _ => fun
  | [d1, d2, d3] => { results := [.lit (.bool true)], args := [d1, d2, d3] }
  | _ => none }
def fluxAllRow : OpenClaim := { program := "ythoofdnnfahhaaagreatdoor", sum := "34bce79f860845665c8cba7be7900899ea437dc98a8f947385caca5d0523e0ec", func := "tarn/tarnlaw13.FluxAll", spec := "fluxAll", inPlace := ["math.Float64frombits", "math.Float64bits", "math.sqrt", "math.archFloor", "math.archTrunc"], unfollowed := true, recurses := true, named := ["tarn/cube.frames", "tarn/geom.frames"], plainKeys := false, apart := false, laid := [("tarn/cube.frames", laid_tarn_cube_frames), ("tarn/geom.frames", laid_tarn_geom_frames)] }
def FluxAllSaid : Prop := fluxAllRow.holds Tryz.pinned (OpenSpec.ofChange fluxAllSpec)

/-- ITS FALSE NEIGHBOUR: 'it returns false'. Refute it at one input. -/
def fluxAllWrong : ChangeSpec := { name := "fluxAll", fn := fun _ => fun
  | [d1, d2, d3] => { results := [.lit (.bool false)], args := [d1, d2, d3] }
  | _ => none }
def FluxAllWrongFalsely : Prop := fluxAllRow.holds Tryz.pinned (OpenSpec.ofChange fluxAllWrong)

/- THE SECOND FORM. 'bulk': how many values and letters a reading holds, each counted each time it is reached (what is shared counts as often as it is met; a slice's spare places count too). A statement '..UptoSaid' is the law's where the arguments, and the package variables that the reading takes, are together of bulk at most 1048576: NARROWER than '..Said'. Prove '..Said' where nothing that the law and all that it calls make is longer than what came in: it says more and counts as full. Else prove '..UptoSaid'. A law counts once. -/
mutual
def uptoBulk {H : Type} : DataW H → Nat
  | .lit (.string bytes) => bytes.length + 1
  | .lit _ => 1
  | .nil => 1
  | .ptr d => uptoBulk d + 1
  | .slice elems spare => uptoBulkAll elems + uptoBulkAll spare + 1
  | .agg parts => uptoBulkAll parts + 1
  | .iface _ d => uptoBulk d + 1
  | .map entries => uptoBulkEntries entries + 1
  | .held _ => 1
def uptoBulkAll {H : Type} : List (DataW H) → Nat
  | [] => 0
  | d :: r => uptoBulk d + uptoBulkAll r
def uptoBulkEntries {H : Type} : List (Lit × DataW H) → Nat
  | [] => 0
  | x :: r => uptoBulkEntry x + uptoBulkEntries r
def uptoBulkEntry {H : Type} : Lit × DataW H → Nat
  | (.string bytes, d) => bytes.length + uptoBulk d + 1
  | (_, d) => uptoBulk d + 1
 end
def uptoSmall : (H : Type) → List (DataW H) → Bool := fun _ ds => decide (uptoBulkAll ds ≤ 1048576)
def OpenSpec.upto (s : _root_.Go.ChangeSpec) : _root_.Go.OpenSpec := { _root_.Go.OpenSpec.ofChange s with cond := some uptoSmall }

/-- 'tarnlaw08.GeomAll', WHERE WHAT IT READS IS OF BULK AT MOST 1048576: true; the input reads as it did. -/
def geomAllUptoRow : OpenClaim := { program := "ythoofdnnfahhaaagreatdoor", sum := "34bce79f860845665c8cba7be7900899ea437dc98a8f947385caca5d0523e0ec", func := "tarn/tarnlaw08.GeomAll", spec := "geomAll", inPlace := ["math.Float64frombits", "math.Float64bits", "math.sqrt", "math.archFloor", "math.archTrunc"], unfollowed := true, recurses := true, named := ["tarn/geom.frames", "tarn/cube.frames"], plainKeys := false, apart := false, laid := [("tarn/cube.frames", laid_tarn_cube_frames), ("tarn/geom.frames", laid_tarn_geom_frames)], narrowed := true }
def GeomAllUptoSaid : Prop := geomAllUptoRow.holds Tryz.pinned (OpenSpec.upto geomAllSpec)

/-- 'tarnlaw09.GridExact', WHERE WHAT IT READS IS OF BULK AT MOST 1048576: true; the input reads as it did. -/
def gridExactUptoRow : OpenClaim := { program := "ythoofdnnfahhaaagreatdoor", sum := "34bce79f860845665c8cba7be7900899ea437dc98a8f947385caca5d0523e0ec", func := "tarn/tarnlaw09.GridExact", spec := "gridExact", inPlace := ["math.Float64frombits", "math.Float64bits", "math.sqrt", "math.archFloor", "math.archTrunc"], unfollowed := true, recurses := true, named := ["tarn/cube.frames", "tarn/geom.frames"], plainKeys := false, apart := false, laid := [("tarn/cube.frames", laid_tarn_cube_frames), ("tarn/geom.frames", laid_tarn_geom_frames)], narrowed := true }
def GridExactUptoSaid : Prop := gridExactUptoRow.holds Tryz.pinned (OpenSpec.upto gridExactSpec)

/-- 'tarnlaw15.MassExact', WHERE WHAT IT READS IS OF BULK AT MOST 1048576: true; the input reads as it did. -/
def massExactUptoRow : OpenClaim := { program := "ythoofdnnfahhaaagreatdoor", sum := "34bce79f860845665c8cba7be7900899ea437dc98a8f947385caca5d0523e0ec", func := "tarn/tarnlaw15.MassExact", spec := "massExact", inPlace := ["math.Float64frombits", "math.Float64bits", "math.sqrt", "math.archFloor", "math.archTrunc", "math/bits.Add64", "math/bits.Sub64"], unfollowed := true, recurses := true, named := ["tarn/cube.frames", "tarn/geom.frames"], plainKeys := false, apart := false, laid := [("tarn/cube.frames", laid_tarn_cube_frames), ("tarn/geom.frames", laid_tarn_geom_frames)], narrowed := true }
def MassExactUptoSaid : Prop := massExactUptoRow.holds Tryz.pinned (OpenSpec.upto massExactSpec)

/-- 'tarnlaw12.ReconExact', WHERE WHAT IT READS IS OF BULK AT MOST 1048576: true; the input reads as it did. -/
def reconExactUptoRow : OpenClaim := { program := "ythoofdnnfahhaaagreatdoor", sum := "34bce79f860845665c8cba7be7900899ea437dc98a8f947385caca5d0523e0ec", func := "tarn/tarnlaw12.ReconExact", spec := "reconExact", inPlace := ["math.Float64frombits", "math.Float64bits", "math.sqrt", "math.archFloor", "math.archTrunc"], unfollowed := true, recurses := true, named := ["tarn/cube.frames", "tarn/geom.frames"], plainKeys := false, apart := false, laid := [("tarn/cube.frames", laid_tarn_cube_frames), ("tarn/geom.frames", laid_tarn_geom_frames)], narrowed := true }
def ReconExactUptoSaid : Prop := reconExactUptoRow.holds Tryz.pinned (OpenSpec.upto reconExactSpec)

/-- 'tarnlaw22.SplitAll', WHERE WHAT IT READS IS OF BULK AT MOST 1048576: true; the input reads as it did. -/
def splitAllUptoRow : OpenClaim := { program := "ythoofdnnfahhaaagreatdoor", sum := "34bce79f860845665c8cba7be7900899ea437dc98a8f947385caca5d0523e0ec", func := "tarn/tarnlaw22.SplitAll", spec := "splitAll", inPlace := ["math.Float64frombits", "math.Float64bits", "math.sqrt", "math.archFloor", "math.archTrunc"], unfollowed := true, recurses := true, named := ["tarn/cube.frames", "tarn/geom.frames"], plainKeys := false, apart := false, laid := [("tarn/cube.frames", laid_tarn_cube_frames), ("tarn/geom.frames", laid_tarn_geom_frames)], narrowed := true }
def SplitAllUptoSaid : Prop := splitAllUptoRow.holds Tryz.pinned (OpenSpec.upto splitAllSpec)

/-- 'tarnlaw22.SplitLocal', WHERE WHAT IT READS IS OF BULK AT MOST 1048576: true; the input reads as it did. -/
def splitLocalUptoRow : OpenClaim := { program := "ythoofdnnfahhaaagreatdoor", sum := "34bce79f860845665c8cba7be7900899ea437dc98a8f947385caca5d0523e0ec", func := "tarn/tarnlaw22.SplitLocal", spec := "splitLocal", inPlace := ["math.Float64frombits", "math.Float64bits", "math.sqrt", "math.archFloor", "math.archTrunc"], unfollowed := true, recurses := true, named := ["tarn/cube.frames", "tarn/geom.frames"], plainKeys := false, apart := false, laid := [("tarn/cube.frames", laid_tarn_cube_frames), ("tarn/geom.frames", laid_tarn_geom_frames)], narrowed := true }
def SplitLocalUptoSaid : Prop := splitLocalUptoRow.holds Tryz.pinned (OpenSpec.upto splitLocalSpec)

/-- 'tarnlaw16.ForceAll', WHERE WHAT IT READS IS OF BULK AT MOST 1048576: true; the input reads as it did. -/
def forceAllUptoRow : OpenClaim := { program := "ythoofdnnfahhaaagreatdoor", sum := "34bce79f860845665c8cba7be7900899ea437dc98a8f947385caca5d0523e0ec", func := "tarn/tarnlaw16.ForceAll", spec := "forceAll", inPlace := ["math.Float64frombits", "math.Float64bits", "math.sqrt", "math.archFloor", "math.archTrunc"], unfollowed := true, recurses := true, named := ["tarn/cube.frames", "tarn/geom.frames"], plainKeys := false, apart := false, laid := [("tarn/cube.frames", laid_tarn_cube_frames), ("tarn/geom.frames", laid_tarn_geom_frames)], narrowed := true }
def ForceAllUptoSaid : Prop := forceAllUptoRow.holds Tryz.pinned (OpenSpec.upto forceAllSpec)

/-- 'tarnlaw12.ReconDepths', WHERE WHAT IT READS IS OF BULK AT MOST 1048576: true; the input reads as it did. -/
def reconDepthsUptoRow : OpenClaim := { program := "ythoofdnnfahhaaagreatdoor", sum := "34bce79f860845665c8cba7be7900899ea437dc98a8f947385caca5d0523e0ec", func := "tarn/tarnlaw12.ReconDepths", spec := "reconDepths", inPlace := ["math.Float64frombits", "math.Float64bits", "math.sqrt", "math.archFloor", "math.archTrunc"], unfollowed := true, recurses := true, named := ["tarn/cube.frames", "tarn/geom.frames"], plainKeys := false, apart := false, laid := [("tarn/cube.frames", laid_tarn_cube_frames), ("tarn/geom.frames", laid_tarn_geom_frames)], narrowed := true }
def ReconDepthsUptoSaid : Prop := reconDepthsUptoRow.holds Tryz.pinned (OpenSpec.upto reconDepthsSpec)

/-- 'tarnlaw13.FluxAll', WHERE WHAT IT READS IS OF BULK AT MOST 1048576: true; the input reads as it did. -/
def fluxAllUptoRow : OpenClaim := { program := "ythoofdnnfahhaaagreatdoor", sum := "34bce79f860845665c8cba7be7900899ea437dc98a8f947385caca5d0523e0ec", func := "tarn/tarnlaw13.FluxAll", spec := "fluxAll", inPlace := ["math.Float64frombits", "math.Float64bits", "math.sqrt", "math.archFloor", "math.archTrunc"], unfollowed := true, recurses := true, named := ["tarn/cube.frames", "tarn/geom.frames"], plainKeys := false, apart := false, laid := [("tarn/cube.frames", laid_tarn_cube_frames), ("tarn/geom.frames", laid_tarn_geom_frames)], narrowed := true }
def FluxAllUptoSaid : Prop := fluxAllUptoRow.holds Tryz.pinned (OpenSpec.upto fluxAllSpec)

end Rows
end Go.Proofs.YthoofdnnfahhaaaGreatDoor
