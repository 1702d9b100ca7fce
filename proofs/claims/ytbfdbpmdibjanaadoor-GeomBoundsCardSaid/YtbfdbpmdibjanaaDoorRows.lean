/-
  NARROWER THAN 'FOR EVERY INPUT', by the rows' own cells (each row's printed sentence says how): GeomSides: laid · GeomBounds: laid · GeomNone: laid · GeomTurns: laid · GridBehind: laid · GridEdges: laid · GridAround: laid · GridSizes: laid · GridTurned: laid.
  DERIVED. THE GIVEN ROWS OF THIS SEAT. 9 by the template 'for every input the law returns true; each argument reads behind the call as it read before'; 0 by the template 'total and deterministic' (their statements: YtbfdbpmdibjanaaDoorTotals.lean).
  GIVEN WITH THE SEED: the statements are not yours to turn. If you find one false, say at which input.
  Laid BY PROGRAM, IN A SANDBOX (cutbox-rows.mjs): the forced cells as the released guide's own fill.sh prints them over the translation 8d252ac8bfcda6da… (all of the seat's roots in one cut). By AI agents, Wed Nov 11 2026. No macro, syntax, notation, axiom, sorry.
-/
import Derived.Test.YtbfdbpmdibjanaaDoorChecked
import GoSem.Claim
import GoSem.ClaimJoined
import GoSem.ClaimMapViews
import Derived.JoinedTies
import Derived.KernelRfl
namespace Go.Proofs.YtbfdbpmdibjanaaDoor
/- THE CELL 'sum', in the pinned program and in every row, IS THE sha256 OF THE DUMP (.gsa) THAT YtbfdbpmdibjanaaDoorProg.lean LOADS. Nothing in Lean hashes anything: it is a label: what it is worth is what the hold of that sum in a sandbox is worth. -/
noncomputable def Tryd.pinned : Pinned := { name := "ytbfdbpmdibjanaadoor", sum := "8d252ac8bfcda6daffed3357c53d781dbf3715293a3dee78121ab0b393e6049f", checked := Tryd.checked }
namespace Rows
def none {H : Type} : Left H := { results := [], args := [] }

/- WHAT THE LISTED PACKAGE-LEVEL VARIABLES READ AS WHEN THE CALL BEGINS. Each datum BY PROGRAM (the guide's laid-datum.mjs) off the statement by which the dump's own 'gosem.cut.vars' lays the variable. In a bare row this is a premise. The card (YtbfdbpmdibjanaaDoorCards.lean) ties it to the program's text. -/
def laid_tarn_cube_frames {H : Type} : DataW H := .agg [.agg [.agg [.lit (.int .i64 1), .lit (.int .i64 0), .lit (.int .i64 0)], .agg [.lit (.int .i64 0), .lit (.int .i64 1), .lit (.int .i64 0)], .agg [.lit (.int .i64 0), .lit (.int .i64 0), .lit (.int .i64 1)]], .agg [.agg [.lit (.int .i64 0), .lit (.int .i64 1), .lit (.int .i64 0)], .agg [.lit (.int .i64 (-1)), .lit (.int .i64 0), .lit (.int .i64 0)], .agg [.lit (.int .i64 0), .lit (.int .i64 0), .lit (.int .i64 1)]], .agg [.agg [.lit (.int .i64 (-1)), .lit (.int .i64 0), .lit (.int .i64 0)], .agg [.lit (.int .i64 0), .lit (.int .i64 (-1)), .lit (.int .i64 0)], .agg [.lit (.int .i64 0), .lit (.int .i64 0), .lit (.int .i64 1)]], .agg [.agg [.lit (.int .i64 0), .lit (.int .i64 (-1)), .lit (.int .i64 0)], .agg [.lit (.int .i64 1), .lit (.int .i64 0), .lit (.int .i64 0)], .agg [.lit (.int .i64 0), .lit (.int .i64 0), .lit (.int .i64 1)]], .agg [.agg [.lit (.int .i64 0), .lit (.int .i64 0), .lit (.int .i64 1)], .agg [.lit (.int .i64 0), .lit (.int .i64 1), .lit (.int .i64 0)], .agg [.lit (.int .i64 (-1)), .lit (.int .i64 0), .lit (.int .i64 0)]], .agg [.agg [.lit (.int .i64 0), .lit (.int .i64 0), .lit (.int .i64 (-1))], .agg [.lit (.int .i64 0), .lit (.int .i64 1), .lit (.int .i64 0)], .agg [.lit (.int .i64 1), .lit (.int .i64 0), .lit (.int .i64 0)]]]
def laid_tarn_geom_frames {H : Type} : DataW H := .agg [.agg [.agg [.lit (.int .i64 1), .lit (.int .i64 0), .lit (.int .i64 0)], .agg [.lit (.int .i64 0), .lit (.int .i64 1), .lit (.int .i64 0)], .agg [.lit (.int .i64 0), .lit (.int .i64 0), .lit (.int .i64 1)]], .agg [.agg [.lit (.int .i64 0), .lit (.int .i64 1), .lit (.int .i64 0)], .agg [.lit (.int .i64 (-1)), .lit (.int .i64 0), .lit (.int .i64 0)], .agg [.lit (.int .i64 0), .lit (.int .i64 0), .lit (.int .i64 1)]], .agg [.agg [.lit (.int .i64 (-1)), .lit (.int .i64 0), .lit (.int .i64 0)], .agg [.lit (.int .i64 0), .lit (.int .i64 (-1)), .lit (.int .i64 0)], .agg [.lit (.int .i64 0), .lit (.int .i64 0), .lit (.int .i64 1)]], .agg [.agg [.lit (.int .i64 0), .lit (.int .i64 (-1)), .lit (.int .i64 0)], .agg [.lit (.int .i64 1), .lit (.int .i64 0), .lit (.int .i64 0)], .agg [.lit (.int .i64 0), .lit (.int .i64 0), .lit (.int .i64 1)]], .agg [.agg [.lit (.int .i64 0), .lit (.int .i64 0), .lit (.int .i64 1)], .agg [.lit (.int .i64 0), .lit (.int .i64 1), .lit (.int .i64 0)], .agg [.lit (.int .i64 (-1)), .lit (.int .i64 0), .lit (.int .i64 0)]], .agg [.agg [.lit (.int .i64 0), .lit (.int .i64 0), .lit (.int .i64 (-1))], .agg [.lit (.int .i64 0), .lit (.int .i64 1), .lit (.int .i64 0)], .agg [.lit (.int .i64 1), .lit (.int .i64 0), .lit (.int .i64 0)]]]

/-- 'tarnlaw08.GeomSides': WHATEVER THE INPUT: true; the input reads as it did. -/
def geomSidesSpec : ChangeSpec := { name := "geomSides", fn := fun _ => fun
  | [d1, d2, d3] => { results := [.lit (.bool true)], args := [d1, d2, d3] }
  | _ => none }
def geomSidesRow : OpenClaim := { program := "ytbfdbpmdibjanaadoor", sum := "8d252ac8bfcda6daffed3357c53d781dbf3715293a3dee78121ab0b393e6049f", func := "tarn/tarnlaw08.GeomSides", spec := "geomSides", inPlace := ["math.Float64frombits", "math.Float64bits", "math.sqrt", "math.archFloor", "math.archTrunc"], unfollowed := true, recurses := true, named := ["tarn/geom.frames", "tarn/cube.frames"], plainKeys := false, apart := false, laid := [("tarn/cube.frames", laid_tarn_cube_frames), ("tarn/geom.frames", laid_tarn_geom_frames)] }
def GeomSidesSaid : Prop := geomSidesRow.holds Tryd.pinned (OpenSpec.ofChange geomSidesSpec)

/-- ITS FALSE NEIGHBOUR: 'it returns false'. Refute it at one input. -/
def geomSidesWrong : ChangeSpec := { name := "geomSides", fn := fun _ => fun
  | [d1, d2, d3] => { results := [.lit (.bool false)], args := [d1, d2, d3] }
  | _ => none }
def GeomSidesWrongFalsely : Prop := geomSidesRow.holds Tryd.pinned (OpenSpec.ofChange geomSidesWrong)

/-- 'tarnlaw08.GeomBounds': WHATEVER THE INPUT: true; the input reads as it did. -/
def geomBoundsSpec : ChangeSpec := { name := "geomBounds", fn := fun _ => fun
  | [d1, d2, d3] => { results := [.lit (.bool true)], args := [d1, d2, d3] }
  | _ => none }
def geomBoundsRow : OpenClaim := { program := "ytbfdbpmdibjanaadoor", sum := "8d252ac8bfcda6daffed3357c53d781dbf3715293a3dee78121ab0b393e6049f", func := "tarn/tarnlaw08.GeomBounds", spec := "geomBounds", inPlace := ["math.Float64frombits", "math.Float64bits", "math.sqrt", "math.archFloor", "math.archTrunc"], unfollowed := true, recurses := true, named := ["tarn/geom.frames", "tarn/cube.frames"], plainKeys := false, apart := false, laid := [("tarn/cube.frames", laid_tarn_cube_frames), ("tarn/geom.frames", laid_tarn_geom_frames)] }
def GeomBoundsSaid : Prop := geomBoundsRow.holds Tryd.pinned (OpenSpec.ofChange geomBoundsSpec)

/-- ITS FALSE NEIGHBOUR: 'it returns false'. Refute it at one input. -/
def geomBoundsWrong : ChangeSpec := { name := "geomBounds", fn := fun _ => fun
  | [d1, d2, d3] => { results := [.lit (.bool false)], args := [d1, d2, d3] }
  | _ => none }
def GeomBoundsWrongFalsely : Prop := geomBoundsRow.holds Tryd.pinned (OpenSpec.ofChange geomBoundsWrong)

/-- 'tarnlaw08.GeomNone': WHATEVER THE INPUT: true; the input reads as it did. -/
def geomNoneSpec : ChangeSpec := { name := "geomNone", fn := fun _ => fun
  | [d] => { results := [.lit (.bool true)], args := [d] }
  | _ => none }
def geomNoneRow : OpenClaim := { program := "ytbfdbpmdibjanaadoor", sum := "8d252ac8bfcda6daffed3357c53d781dbf3715293a3dee78121ab0b393e6049f", func := "tarn/tarnlaw08.GeomNone", spec := "geomNone", inPlace := ["math.Float64frombits", "math.Float64bits", "math.sqrt", "math.archFloor", "math.archTrunc"], unfollowed := true, recurses := true, named := ["tarn/geom.frames", "tarn/cube.frames"], plainKeys := false, apart := false, laid := [("tarn/cube.frames", laid_tarn_cube_frames), ("tarn/geom.frames", laid_tarn_geom_frames)] }
def GeomNoneSaid : Prop := geomNoneRow.holds Tryd.pinned (OpenSpec.ofChange geomNoneSpec)

/-- ITS FALSE NEIGHBOUR: 'it returns false'. Refute it at one input. -/
def geomNoneWrong : ChangeSpec := { name := "geomNone", fn := fun _ => fun
  | [d] => { results := [.lit (.bool false)], args := [d] }
  | _ => none }
def GeomNoneWrongFalsely : Prop := geomNoneRow.holds Tryd.pinned (OpenSpec.ofChange geomNoneWrong)

/-- 'tarnlaw08.GeomTurns': WHATEVER THE INPUT: true; the input reads as it did. -/
def geomTurnsSpec : ChangeSpec := { name := "geomTurns", fn := fun _ => fun
  | [d1, d2, d3, d4] => { results := [.lit (.bool true)], args := [d1, d2, d3, d4] }
  | _ => none }
def geomTurnsRow : OpenClaim := { program := "ytbfdbpmdibjanaadoor", sum := "8d252ac8bfcda6daffed3357c53d781dbf3715293a3dee78121ab0b393e6049f", func := "tarn/tarnlaw08.GeomTurns", spec := "geomTurns", inPlace := ["math.Float64frombits", "math.Float64bits", "math.sqrt", "math.archFloor", "math.archTrunc"], unfollowed := true, recurses := true, named := ["tarn/geom.frames", "tarn/cube.frames"], plainKeys := false, apart := false, laid := [("tarn/cube.frames", laid_tarn_cube_frames), ("tarn/geom.frames", laid_tarn_geom_frames)] }
def GeomTurnsSaid : Prop := geomTurnsRow.holds Tryd.pinned (OpenSpec.ofChange geomTurnsSpec)

/-- ITS FALSE NEIGHBOUR: 'it returns false'. Refute it at one input. -/
def geomTurnsWrong : ChangeSpec := { name := "geomTurns", fn := fun _ => fun
  | [d1, d2, d3, d4] => { results := [.lit (.bool false)], args := [d1, d2, d3, d4] }
  | _ => none }
def GeomTurnsWrongFalsely : Prop := geomTurnsRow.holds Tryd.pinned (OpenSpec.ofChange geomTurnsWrong)

/-- 'tarnlaw09.GridBehind': WHATEVER THE INPUT: true; the input reads as it did. -/
def gridBehindSpec : ChangeSpec := { name := "gridBehind", fn := fun _ => fun
  | [d1, d2] => { results := [.lit (.bool true)], args := [d1, d2] }
  | _ => none }
def gridBehindRow : OpenClaim := { program := "ytbfdbpmdibjanaadoor", sum := "8d252ac8bfcda6daffed3357c53d781dbf3715293a3dee78121ab0b393e6049f", func := "tarn/tarnlaw09.GridBehind", spec := "gridBehind", inPlace := ["math.Float64frombits", "math.Float64bits", "math.sqrt", "math.archFloor", "math.archTrunc"], unfollowed := true, recurses := true, named := ["tarn/cube.frames", "tarn/geom.frames"], plainKeys := false, apart := false, laid := [("tarn/cube.frames", laid_tarn_cube_frames), ("tarn/geom.frames", laid_tarn_geom_frames)] }
def GridBehindSaid : Prop := gridBehindRow.holds Tryd.pinned (OpenSpec.ofChange gridBehindSpec)

/-- ITS FALSE NEIGHBOUR: 'it returns false'. Refute it at one input. -/
def gridBehindWrong : ChangeSpec := { name := "gridBehind", fn := fun _ => fun
  | [d1, d2] => { results := [.lit (.bool false)], args := [d1, d2] }
  | _ => none }
def GridBehindWrongFalsely : Prop := gridBehindRow.holds Tryd.pinned (OpenSpec.ofChange gridBehindWrong)

/-- 'tarnlaw09.GridEdges': WHATEVER THE INPUT: true; the input reads as it did. -/
def gridEdgesSpec : ChangeSpec := { name := "gridEdges", fn := fun _ => fun
  | [d1, d2] => { results := [.lit (.bool true)], args := [d1, d2] }
  | _ => none }
def gridEdgesRow : OpenClaim := { program := "ytbfdbpmdibjanaadoor", sum := "8d252ac8bfcda6daffed3357c53d781dbf3715293a3dee78121ab0b393e6049f", func := "tarn/tarnlaw09.GridEdges", spec := "gridEdges", inPlace := ["math.Float64frombits", "math.Float64bits", "math.sqrt", "math.archFloor", "math.archTrunc"], unfollowed := true, recurses := true, named := ["tarn/cube.frames", "tarn/geom.frames"], plainKeys := false, apart := false, laid := [("tarn/cube.frames", laid_tarn_cube_frames), ("tarn/geom.frames", laid_tarn_geom_frames)] }
def GridEdgesSaid : Prop := gridEdgesRow.holds Tryd.pinned (OpenSpec.ofChange gridEdgesSpec)

/-- ITS FALSE NEIGHBOUR: 'it returns false'. Refute it at one input. -/
def gridEdgesWrong : ChangeSpec := { name := "gridEdges", fn := fun _ => fun
  | [d1, d2] => { results := [.lit (.bool false)], args := [d1, d2] }
  | _ => none }
def GridEdgesWrongFalsely : Prop := gridEdgesRow.holds Tryd.pinned (OpenSpec.ofChange gridEdgesWrong)

/-- 'tarnlaw09.GridAround': WHATEVER THE INPUT: true; the input reads as it did. -/
def gridAroundSpec : ChangeSpec := { name := "gridAround", fn := fun _ => fun
  | [d1, d2, d3] => { results := [.lit (.bool true)], args := [d1, d2, d3] }
  | _ => none }
def gridAroundRow : OpenClaim := { program := "ytbfdbpmdibjanaadoor", sum := "8d252ac8bfcda6daffed3357c53d781dbf3715293a3dee78121ab0b393e6049f", func := "tarn/tarnlaw09.GridAround", spec := "gridAround", inPlace := ["math.Float64frombits", "math.Float64bits", "math.sqrt", "math.archFloor", "math.archTrunc"], unfollowed := true, recurses := true, named := ["tarn/cube.frames", "tarn/geom.frames"], plainKeys := false, apart := false, laid := [("tarn/cube.frames", laid_tarn_cube_frames), ("tarn/geom.frames", laid_tarn_geom_frames)] }
def GridAroundSaid : Prop := gridAroundRow.holds Tryd.pinned (OpenSpec.ofChange gridAroundSpec)

/-- ITS FALSE NEIGHBOUR: 'it returns false'. Refute it at one input. -/
def gridAroundWrong : ChangeSpec := { name := "gridAround", fn := fun _ => fun
  | [d1, d2, d3] => { results := [.lit (.bool false)], args := [d1, d2, d3] }
  | _ => none }
def GridAroundWrongFalsely : Prop := gridAroundRow.holds Tryd.pinned (OpenSpec.ofChange gridAroundWrong)

/-- 'tarnlaw09.GridSizes': WHATEVER THE INPUT: true; the input reads as it did. -/
def gridSizesSpec : ChangeSpec := { name := "gridSizes", fn := fun _ => fun
  | [d1, d2, d3] => { results := [.lit (.bool true)], args := [d1, d2, d3] }
  | _ => none }
def gridSizesRow : OpenClaim := { program := "ytbfdbpmdibjanaadoor", sum := "8d252ac8bfcda6daffed3357c53d781dbf3715293a3dee78121ab0b393e6049f", func := "tarn/tarnlaw09.GridSizes", spec := "gridSizes", inPlace := ["math.Float64frombits", "math.Float64bits", "math.sqrt", "math.archFloor", "math.archTrunc"], unfollowed := true, recurses := true, named := ["tarn/cube.frames", "tarn/geom.frames"], plainKeys := false, apart := false, laid := [("tarn/cube.frames", laid_tarn_cube_frames), ("tarn/geom.frames", laid_tarn_geom_frames)] }
def GridSizesSaid : Prop := gridSizesRow.holds Tryd.pinned (OpenSpec.ofChange gridSizesSpec)

/-- ITS FALSE NEIGHBOUR: 'it returns false'. Refute it at one input. -/
def gridSizesWrong : ChangeSpec := { name := "gridSizes", fn := fun _ => fun
  | [d1, d2, d3] => { results := [.lit (.bool false)], args := [d1, d2, d3] }
  | _ => none }
def GridSizesWrongFalsely : Prop := gridSizesRow.holds Tryd.pinned (OpenSpec.ofChange gridSizesWrong)

/-- 'tarnlaw09.GridTurned': WHATEVER THE INPUT: true; the input reads as it did. -/
def gridTurnedSpec : ChangeSpec := { name := "gridTurned", fn := fun _ => fun
  | [d1, d2, d3] => { results := [.lit (.bool true)], args := [d1, d2, d3] }
  | _ => none }
def gridTurnedRow : OpenClaim := { program := "ytbfdbpmdibjanaadoor", sum := "8d252ac8bfcda6daffed3357c53d781dbf3715293a3dee78121ab0b393e6049f", func := "tarn/tarnlaw09.GridTurned", spec := "gridTurned", inPlace := ["math.Float64frombits", "math.Float64bits", "math.sqrt", "math.archFloor", "math.archTrunc"], unfollowed := true, recurses := true, named := ["tarn/cube.frames", "tarn/geom.frames"], plainKeys := false, apart := false, laid := [("tarn/cube.frames", laid_tarn_cube_frames), ("tarn/geom.frames", laid_tarn_geom_frames)] }
def GridTurnedSaid : Prop := gridTurnedRow.holds Tryd.pinned (OpenSpec.ofChange gridTurnedSpec)

/-- ITS FALSE NEIGHBOUR: 'it returns false'. Refute it at one input. -/
def gridTurnedWrong : ChangeSpec := { name := "gridTurned", fn := fun _ => fun
  | [d1, d2, d3] => { results := [.lit (.bool false)], args := [d1, d2, d3] }
  | _ => none }
def GridTurnedWrongFalsely : Prop := gridTurnedRow.holds Tryd.pinned (OpenSpec.ofChange gridTurnedWrong)

/- THE SECOND FORM. 'bulk': how many values and letters a reading holds, each counted each time it is reached (what is shared counts as often as it is met; a slice's spare places count too). A statement '..UptoSaid' is the law's where the arguments, and the package variables that the reading takes, are together of bulk at most 1048576: NARROWER than '..Said'. Prove '..Said' where nothing that the law and all that it calls make is longer than what came in: it says more and counts as full. Else prove '..UptoSaid'. A law counts once. -/
mutual
def uptoBulk {H : Type} : DataW H → Nat
  | .lit (.string bytes) => bytes.length + 1
  | .lit _ => 1
  | .nil => 1
  | .ptr d => uptoBulk d + 1
  | .slice elems spare => uptoBulkAll elems + uptoBulkAll spare + 1
  | .agg parts => uptoBulkAll parts + 1
  | .iface _ d => uptoBulk d + 1
  | .map entries => uptoBulkEntries entries + 1
  | .held _ => 1
def uptoBulkAll {H : Type} : List (DataW H) → Nat
  | [] => 0
  | d :: r => uptoBulk d + uptoBulkAll r
def uptoBulkEntries {H : Type} : List (Lit × DataW H) → Nat
  | [] => 0
  | x :: r => uptoBulkEntry x + uptoBulkEntries r
def uptoBulkEntry {H : Type} : Lit × DataW H → Nat
  | (.string bytes, d) => bytes.length + uptoBulk d + 1
  | (_, d) => uptoBulk d + 1
 end
def uptoSmall : (H : Type) → List (DataW H) → Bool := fun _ ds => decide (uptoBulkAll ds ≤ 1048576)
def OpenSpec.upto (s : _root_.Go.ChangeSpec) : _root_.Go.OpenSpec := { _root_.Go.OpenSpec.ofChange s with cond := some uptoSmall }

/-- 'tarnlaw08.GeomSides', WHERE WHAT IT READS IS OF BULK AT MOST 1048576: true; the input reads as it did. -/
def geomSidesUptoRow : OpenClaim := { program := "ytbfdbpmdibjanaadoor", sum := "8d252ac8bfcda6daffed3357c53d781dbf3715293a3dee78121ab0b393e6049f", func := "tarn/tarnlaw08.GeomSides", spec := "geomSides", inPlace := ["math.Float64frombits", "math.Float64bits", "math.sqrt", "math.archFloor", "math.archTrunc"], unfollowed := true, recurses := true, named := ["tarn/geom.frames", "tarn/cube.frames"], plainKeys := false, apart := false, laid := [("tarn/cube.frames", laid_tarn_cube_frames), ("tarn/geom.frames", laid_tarn_geom_frames)], narrowed := true }
def GeomSidesUptoSaid : Prop := geomSidesUptoRow.holds Tryd.pinned (OpenSpec.upto geomSidesSpec)

/-- 'tarnlaw08.GeomBounds', WHERE WHAT IT READS IS OF BULK AT MOST 1048576: true; the input reads as it did. -/
def geomBoundsUptoRow : OpenClaim := { program := "ytbfdbpmdibjanaadoor", sum := "8d252ac8bfcda6daffed3357c53d781dbf3715293a3dee78121ab0b393e6049f", func := "tarn/tarnlaw08.GeomBounds", spec := "geomBounds", inPlace := ["math.Float64frombits", "math.Float64bits", "math.sqrt", "math.archFloor", "math.archTrunc"], unfollowed := true, recurses := true, named := ["tarn/geom.frames", "tarn/cube.frames"], plainKeys := false, apart := false, laid := [("tarn/cube.frames", laid_tarn_cube_frames), ("tarn/geom.frames", laid_tarn_geom_frames)], narrowed := true }
def GeomBoundsUptoSaid : Prop := geomBoundsUptoRow.holds Tryd.pinned (OpenSpec.upto geomBoundsSpec)

/-- 'tarnlaw08.GeomNone', WHERE WHAT IT READS IS OF BULK AT MOST 1048576: true; the input reads as it did. -/
def geomNoneUptoRow : OpenClaim := { program := "ytbfdbpmdibjanaadoor", sum := "8d252ac8bfcda6daffed3357c53d781dbf3715293a3dee78121ab0b393e6049f", func := "tarn/tarnlaw08.GeomNone", spec := "geomNone", inPlace := ["math.Float64frombits", "math.Float64bits", "math.sqrt", "math.archFloor", "math.archTrunc"], unfollowed := true, recurses := true, named := ["tarn/geom.frames", "tarn/cube.frames"], plainKeys := false, apart := false, laid := [("tarn/cube.frames", laid_tarn_cube_frames), ("tarn/geom.frames", laid_tarn_geom_frames)], narrowed := true }
def GeomNoneUptoSaid : Prop := geomNoneUptoRow.holds Tryd.pinned (OpenSpec.upto geomNoneSpec)

/-- 'tarnlaw08.GeomTurns', WHERE WHAT IT READS IS OF BULK AT MOST 1048576: true; the input reads as it did. -/
def geomTurnsUptoRow : OpenClaim := { program := "ytbfdbpmdibjanaadoor", sum := "8d252ac8bfcda6daffed3357c53d781dbf3715293a3dee78121ab0b393e6049f", func := "tarn/tarnlaw08.GeomTurns", spec := "geomTurns", inPlace := ["math.Float64frombits", "math.Float64bits", "math.sqrt", "math.archFloor", "math.archTrunc"], unfollowed := true, recurses := true, named := ["tarn/geom.frames", "tarn/cube.frames"], plainKeys := false, apart := false, laid := [("tarn/cube.frames", laid_tarn_cube_frames), ("tarn/geom.frames", laid_tarn_geom_frames)], narrowed := true }
def GeomTurnsUptoSaid : Prop := geomTurnsUptoRow.holds Tryd.pinned (OpenSpec.upto geomTurnsSpec)

/-- 'tarnlaw09.GridBehind', WHERE WHAT IT READS IS OF BULK AT MOST 1048576: true; the input reads as it did. -/
def gridBehindUptoRow : OpenClaim := { program := "ytbfdbpmdibjanaadoor", sum := "8d252ac8bfcda6daffed3357c53d781dbf3715293a3dee78121ab0b393e6049f", func := "tarn/tarnlaw09.GridBehind", spec := "gridBehind", inPlace := ["math.Float64frombits", "math.Float64bits", "math.sqrt", "math.archFloor", "math.archTrunc"], unfollowed := true, recurses := true, named := ["tarn/cube.frames", "tarn/geom.frames"], plainKeys := false, apart := false, laid := [("tarn/cube.frames", laid_tarn_cube_frames), ("tarn/geom.frames", laid_tarn_geom_frames)], narrowed := true }
def GridBehindUptoSaid : Prop := gridBehindUptoRow.holds Tryd.pinned (OpenSpec.upto gridBehindSpec)

/-- 'tarnlaw09.GridEdges', WHERE WHAT IT READS IS OF BULK AT MOST 1048576: true; the input reads as it did. -/
def gridEdgesUptoRow : OpenClaim := { program := "ytbfdbpmdibjanaadoor", sum := "8d252ac8bfcda6daffed3357c53d781dbf3715293a3dee78121ab0b393e6049f", func := "tarn/tarnlaw09.GridEdges", spec := "gridEdges", inPlace := ["math.Float64frombits", "math.Float64bits", "math.sqrt", "math.archFloor", "math.archTrunc"], unfollowed := true, recurses := true, named := ["tarn/cube.frames", "tarn/geom.frames"], plainKeys := false, apart := false, laid := [("tarn/cube.frames", laid_tarn_cube_frames), ("tarn/geom.frames", laid_tarn_geom_frames)], narrowed := true }
def GridEdgesUptoSaid : Prop := gridEdgesUptoRow.holds Tryd.pinned (OpenSpec.upto gridEdgesSpec)

/-- 'tarnlaw09.GridAround', WHERE WHAT IT READS IS OF BULK AT MOST 1048576: true; the input reads as it did. -/
def gridAroundUptoRow : OpenClaim := { program := "ytbfdbpmdibjanaadoor", sum := "8d252ac8bfcda6daffed3357c53d781dbf3715293a3dee78121ab0b393e6049f", func := "tarn/tarnlaw09.GridAround", spec := "gridAround", inPlace := ["math.Float64frombits", "math.Float64bits", "math.sqrt", "math.archFloor", "math.archTrunc"], unfollowed := true, recurses := true, named := ["tarn/cube.frames", "tarn/geom.frames"], plainKeys := false, apart := false, laid := [("tarn/cube.frames", laid_tarn_cube_frames), ("tarn/geom.frames", laid_tarn_geom_frames)], narrowed := true }
def GridAroundUptoSaid : Prop := gridAroundUptoRow.holds Tryd.pinned (OpenSpec.upto gridAroundSpec)

/-- 'tarnlaw09.GridSizes', WHERE WHAT IT READS IS OF BULK AT MOST 1048576: true; the input reads as it did. -/
def gridSizesUptoRow : OpenClaim := { program := "ytbfdbpmdibjanaadoor", sum := "8d252ac8bfcda6daffed3357c53d781dbf3715293a3dee78121ab0b393e6049f", func := "tarn/tarnlaw09.GridSizes", spec := "gridSizes", inPlace := ["math.Float64frombits", "math.Float64bits", "math.sqrt", "math.archFloor", "math.archTrunc"], unfollowed := true, recurses := true, named := ["tarn/cube.frames", "tarn/geom.frames"], plainKeys := false, apart := false, laid := [("tarn/cube.frames", laid_tarn_cube_frames), ("tarn/geom.frames", laid_tarn_geom_frames)], narrowed := true }
def GridSizesUptoSaid : Prop := gridSizesUptoRow.holds Tryd.pinned (OpenSpec.upto gridSizesSpec)

/-- 'tarnlaw09.GridTurned', WHERE WHAT IT READS IS OF BULK AT MOST 1048576: true; the input reads as it did. -/
def gridTurnedUptoRow : OpenClaim := { program := "ytbfdbpmdibjanaadoor", sum := "8d252ac8bfcda6daffed3357c53d781dbf3715293a3dee78121ab0b393e6049f", func := "tarn/tarnlaw09.GridTurned", spec := "gridTurned", inPlace := ["math.Float64frombits", "math.Float64bits", "math.sqrt", "math.archFloor", "math.archTrunc"], unfollowed := true, recurses := true, named := ["tarn/cube.frames", "tarn/geom.frames"], plainKeys := false, apart := false, laid := [("tarn/cube.frames", laid_tarn_cube_frames), ("tarn/geom.frames", laid_tarn_geom_frames)], narrowed := true }
def GridTurnedUptoSaid : Prop := gridTurnedUptoRow.holds Tryd.pinned (OpenSpec.upto gridTurnedSpec)

end Rows
end Go.Proofs.YtbfdbpmdibjanaaDoor
