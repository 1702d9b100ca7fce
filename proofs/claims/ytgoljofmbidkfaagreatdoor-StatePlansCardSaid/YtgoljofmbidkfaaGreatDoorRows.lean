/-
  NARROWER THAN 'FOR EVERY INPUT', by the rows' own cells (each row's printed sentence says how): SplitAll: laid · SplitLocal: laid · StatePlans: laid · StateChecks: laid · StateSames: laid · StateTurned: laid · StateGroup: laid · StateMoves: laid · StateLakes: laid · StateKeeps: laid.
  DERIVED. THE GIVEN ROWS OF THIS SEAT. 10 by the template 'for every input the law returns true; each argument reads behind the call as it read before'; 0 by the template 'total and deterministic' (their statements: YtgoljofmbidkfaaGreatDoorTotals.lean).
  GIVEN WITH THE SEED: the statements are not yours to turn. If you find one false, say at which input.
  Laid BY PROGRAM, IN A SANDBOX (cutbox-rows.mjs): the forced cells as the released guide's own fill.sh prints them over the translation a279b8e9b8e5fa8b… (all of the seat's roots in one cut). By AI agents, Wed Nov 11 2026. No macro, syntax, notation, axiom, sorry.
-/
import Derived.Test.YtgoljofmbidkfaaGreatDoorChecked
import GoSem.Claim
import GoSem.ClaimJoined
import GoSem.ClaimMapViews
import Derived.JoinedTies
import Derived.KernelRfl
namespace Go.Proofs.YtgoljofmbidkfaaGreatDoor
/- THE CELL 'sum', in the pinned program and in every row, IS THE sha256 OF THE DUMP (.gsa) THAT YtgoljofmbidkfaaGreatDoorProg.lean LOADS. Nothing in Lean hashes anything: it is a label: what it is worth is what the hold of that sum in a sandbox is worth. -/
noncomputable def Tryz.pinned : Pinned := { name := "ytgoljofmbidkfaagreatdoor", sum := "a279b8e9b8e5fa8b8f03a101247c0bf583316d19c2d2f2bf82faa3aa8b15320c", checked := Tryz.checked }
namespace Rows
def none {H : Type} : Left H := { results := [], args := [] }

/- WHAT THE LISTED PACKAGE-LEVEL VARIABLES READ AS WHEN THE CALL BEGINS. Each datum BY PROGRAM (the guide's laid-datum.mjs) off the statement by which the dump's own 'gosem.cut.vars' lays the variable. In a bare row this is a premise. The card (YtgoljofmbidkfaaGreatDoorCards.lean) ties it to the program's text. -/
def laid_tarn_cube_frames {H : Type} : DataW H := .agg [.agg [.agg [.lit (.int .i64 1), .lit (.int .i64 0), .lit (.int .i64 0)], .agg [.lit (.int .i64 0), .lit (.int .i64 1), .lit (.int .i64 0)], .agg [.lit (.int .i64 0), .lit (.int .i64 0), .lit (.int .i64 1)]], .agg [.agg [.lit (.int .i64 0), .lit (.int .i64 1), .lit (.int .i64 0)], .agg [.lit (.int .i64 (-1)), .lit (.int .i64 0), .lit (.int .i64 0)], .agg [.lit (.int .i64 0), .lit (.int .i64 0), .lit (.int .i64 1)]], .agg [.agg [.lit (.int .i64 (-1)), .lit (.int .i64 0), .lit (.int .i64 0)], .agg [.lit (.int .i64 0), .lit (.int .i64 (-1)), .lit (.int .i64 0)], .agg [.lit (.int .i64 0), .lit (.int .i64 0), .lit (.int .i64 1)]], .agg [.agg [.lit (.int .i64 0), .lit (.int .i64 (-1)), .lit (.int .i64 0)], .agg [.lit (.int .i64 1), .lit (.int .i64 0), .lit (.int .i64 0)], .agg [.lit (.int .i64 0), .lit (.int .i64 0), .lit (.int .i64 1)]], .agg [.agg [.lit (.int .i64 0), .lit (.int .i64 0), .lit (.int .i64 1)], .agg [.lit (.int .i64 0), .lit (.int .i64 1), .lit (.int .i64 0)], .agg [.lit (.int .i64 (-1)), .lit (.int .i64 0), .lit (.int .i64 0)]], .agg [.agg [.lit (.int .i64 0), .lit (.int .i64 0), .lit (.int .i64 (-1))], .agg [.lit (.int .i64 0), .lit (.int .i64 1), .lit (.int .i64 0)], .agg [.lit (.int .i64 1), .lit (.int .i64 0), .lit (.int .i64 0)]]]
def laid_tarn_geom_frames {H : Type} : DataW H := .agg [.agg [.agg [.lit (.int .i64 1), .lit (.int .i64 0), .lit (.int .i64 0)], .agg [.lit (.int .i64 0), .lit (.int .i64 1), .lit (.int .i64 0)], .agg [.lit (.int .i64 0), .lit (.int .i64 0), .lit (.int .i64 1)]], .agg [.agg [.lit (.int .i64 0), .lit (.int .i64 1), .lit (.int .i64 0)], .agg [.lit (.int .i64 (-1)), .lit (.int .i64 0), .lit (.int .i64 0)], .agg [.lit (.int .i64 0), .lit (.int .i64 0), .lit (.int .i64 1)]], .agg [.agg [.lit (.int .i64 (-1)), .lit (.int .i64 0), .lit (.int .i64 0)], .agg [.lit (.int .i64 0), .lit (.int .i64 (-1)), .lit (.int .i64 0)], .agg [.lit (.int .i64 0), .lit (.int .i64 0), .lit (.int .i64 1)]], .agg [.agg [.lit (.int .i64 0), .lit (.int .i64 (-1)), .lit (.int .i64 0)], .agg [.lit (.int .i64 1), .lit (.int .i64 0), .lit (.int .i64 0)], .agg [.lit (.int .i64 0), .lit (.int .i64 0), .lit (.int .i64 1)]], .agg [.agg [.lit (.int .i64 0), .lit (.int .i64 0), .lit (.int .i64 1)], .agg [.lit (.int .i64 0), .lit (.int .i64 1), .lit (.int .i64 0)], .agg [.lit (.int .i64 (-1)), .lit (.int .i64 0), .lit (.int .i64 0)]], .agg [.agg [.lit (.int .i64 0), .lit (.int .i64 0), .lit (.int .i64 (-1))], .agg [.lit (.int .i64 0), .lit (.int .i64 1), .lit (.int .i64 0)], .agg [.lit (.int .i64 1), .lit (.int .i64 0), .lit (.int .i64 0)]]]

/-- 'tarnlaw22.SplitAll': WHATEVER THE INPUT: true; the input reads as it did. -/
def splitAllSpec : ChangeSpec := { name := "splitAll", fn := fun _ => fun
  | [d1, d2] => { results := [.lit (.bool true)], args := [d1, d2] }
  | _ => none }
def splitAllRow : OpenClaim := { program := "ytgoljofmbidkfaagreatdoor", sum := "a279b8e9b8e5fa8b8f03a101247c0bf583316d19c2d2f2bf82faa3aa8b15320c", func := "tarn/tarnlaw22.SplitAll", spec := "splitAll", inPlace := ["math.Float64frombits", "math.Float64bits", "math.sqrt", "math.archFloor", "math.archTrunc"], unfollowed := true, recurses := true, named := ["tarn/cube.frames", "tarn/geom.frames"], plainKeys := false, apart := false, laid := [("tarn/cube.frames", laid_tarn_cube_frames), ("tarn/geom.frames", laid_tarn_geom_frames)] }
def SplitAllSaid : Prop := splitAllRow.holds Tryz.pinned (OpenSpec.ofChange splitAllSpec)

/-- ITS FALSE NEIGHBOUR: 'it returns false'. Refute it at one input. -/
def splitAllWrong : ChangeSpec := { name := "splitAll", fn := fun _ => fun
  | [d1, d2] => { results := [.lit (.bool false)], args := [d1, d2] }
  | _ => none }
def SplitAllWrongFalsely : Prop := splitAllRow.holds Tryz.pinned (OpenSpec.ofChange splitAllWrong)

/-- 'tarnlaw22.SplitLocal': WHATEVER THE INPUT: true; the input reads as it did. -/
def splitLocalSpec : ChangeSpec := { name := "splitLocal", fn := fun _ => fun
  | [d1, d2, d3, d4, d5] => { results := [.lit (.bool true)], args := [d1, d2, d3, d4, d5] }
  | _ => none }
def splitLocalRow : OpenClaim := { program := "ytgoljofmbidkfaagreatdoor", sum := "a279b8e9b8e5fa8b8f03a101247c0bf583316d19c2d2f2bf82faa3aa8b15320c", func := "tarn/tarnlaw22.SplitLocal", spec := "splitLocal", inPlace := ["math.Float64frombits", "math.Float64bits", "math.sqrt", "math.archFloor", "math.archTrunc"], unfollowed := true, recurses := true, named := ["tarn/cube.frames", "tarn/geom.frames"], plainKeys := false, apart := false, laid := [("tarn/cube.frames", laid_tarn_cube_frames), ("tarn/geom.frames", laid_tarn_geom_frames)] }
def SplitLocalSaid : Prop := splitLocalRow.holds Tryz.pinned (OpenSpec.ofChange splitLocalSpec)

/-- ITS FALSE NEIGHBOUR: 'it returns false'. Refute it at one input. -/
def splitLocalWrong : ChangeSpec := { name := "splitLocal", fn := fun _ => fun
  | [d1, d2, d3, d4, d5] => { results := [.lit (.bool false)], args := [d1, d2, d3, d4, d5] }
  | _ => none }
def SplitLocalWrongFalsely : Prop := splitLocalRow.holds Tryz.pinned (OpenSpec.ofChange splitLocalWrong)

/-- 'tarnlaw20.StatePlans': WHATEVER THE INPUT: true; the input reads as it did. -/
def statePlansSpec : ChangeSpec := { name := "statePlans", fn := fun _ => fun
  | [d] => { results := [.lit (.bool true)], args := [d] }
  | _ => none }
def statePlansRow : OpenClaim := { program := "ytgoljofmbidkfaagreatdoor", sum := "a279b8e9b8e5fa8b8f03a101247c0bf583316d19c2d2f2bf82faa3aa8b15320c", func := "tarn/tarnlaw20.StatePlans", spec := "statePlans", inPlace := ["math.Float64bits", "math.Float64frombits", "math.sqrt", "math.archFloor", "math.archTrunc"], unfollowed := true, recurses := true, named := ["tarn/cube.frames", "tarn/geom.frames"], plainKeys := false, apart := false, laid := [("tarn/cube.frames", laid_tarn_cube_frames), ("tarn/geom.frames", laid_tarn_geom_frames)] }
def StatePlansSaid : Prop := statePlansRow.holds Tryz.pinned (OpenSpec.ofChange statePlansSpec)

/-- ITS FALSE NEIGHBOUR: 'it returns false'. Refute it at one input. -/
def statePlansWrong : ChangeSpec := { name := "statePlans", fn := fun _ => fun
  | [d] => { results := [.lit (.bool false)], args := [d] }
  | _ => none }
def StatePlansWrongFalsely : Prop := statePlansRow.holds Tryz.pinned (OpenSpec.ofChange statePlansWrong)

/-- 'tarnlaw20.StateChecks': WHATEVER THE INPUT: true; the input reads as it did. -/
def stateChecksSpec : ChangeSpec := { name := "stateChecks", fn := fun _ => fun
  | [d1, d2] => { results := [.lit (.bool true)], args := [d1, d2] }
  | _ => none }
def stateChecksRow : OpenClaim := { program := "ytgoljofmbidkfaagreatdoor", sum := "a279b8e9b8e5fa8b8f03a101247c0bf583316d19c2d2f2bf82faa3aa8b15320c", func := "tarn/tarnlaw20.StateChecks", spec := "stateChecks", inPlace := ["math.Float64bits", "math.Float64frombits", "math.sqrt", "math.archFloor", "math.archTrunc"], unfollowed := true, recurses := true, named := ["tarn/cube.frames", "tarn/geom.frames"], plainKeys := false, apart := false, laid := [("tarn/cube.frames", laid_tarn_cube_frames), ("tarn/geom.frames", laid_tarn_geom_frames)] }
def StateChecksSaid : Prop := stateChecksRow.holds Tryz.pinned (OpenSpec.ofChange stateChecksSpec)

/-- ITS FALSE NEIGHBOUR: 'it returns false'. Refute it at one input. -/
def stateChecksWrong : ChangeSpec := { name := "stateChecks", fn := fun _ => fun
  | [d1, d2] => { results := [.lit (.bool false)], args := [d1, d2] }
  | _ => none }
def StateChecksWrongFalsely : Prop := stateChecksRow.holds Tryz.pinned (OpenSpec.ofChange stateChecksWrong)

/-- 'tarnlaw20.StateSames': WHATEVER THE INPUT: true; the input reads as it did. -/
def stateSamesSpec : ChangeSpec := { name := "stateSames", fn := fun _ => fun
  | [d1, d2] => { results := [.lit (.bool true)], args := [d1, d2] }
  | _ => none }
def stateSamesRow : OpenClaim := { program := "ytgoljofmbidkfaagreatdoor", sum := "a279b8e9b8e5fa8b8f03a101247c0bf583316d19c2d2f2bf82faa3aa8b15320c", func := "tarn/tarnlaw20.StateSames", spec := "stateSames", inPlace := ["math.Float64bits", "math.Float64frombits", "math.sqrt", "math.archFloor", "math.archTrunc"], unfollowed := true, recurses := true, named := ["tarn/cube.frames", "tarn/geom.frames"], plainKeys := false, apart := false, laid := [("tarn/cube.frames", laid_tarn_cube_frames), ("tarn/geom.frames", laid_tarn_geom_frames)] }
def StateSamesSaid : Prop := stateSamesRow.holds Tryz.pinned (OpenSpec.ofChange stateSamesSpec)

/-- ITS FALSE NEIGHBOUR: 'it returns false'. Refute it at one input. -/
def stateSamesWrong : ChangeSpec := { name := "stateSames", fn := fun _ => fun
  | [d1, d2] => { results := [.lit (.bool false)], args := [d1, d2] }
  | _ => none }
def StateSamesWrongFalsely : Prop := stateSamesRow.holds Tryz.pinned (OpenSpec.ofChange stateSamesWrong)

/-- 'tarnlaw20.StateTurned': WHATEVER THE INPUT: true; the input reads as it did. -/
def stateTurnedSpec : ChangeSpec := { name := "stateTurned", fn := fun _ => fun
  | [d1, d2, d3] => { results := [.lit (.bool true)], args := [d1, d2, d3] }
  | _ => none }
def stateTurnedRow : OpenClaim := { program := "ytgoljofmbidkfaagreatdoor", sum := "a279b8e9b8e5fa8b8f03a101247c0bf583316d19c2d2f2bf82faa3aa8b15320c", func := "tarn/tarnlaw20.StateTurned", spec := "stateTurned", inPlace := ["math.Float64bits", "math.Float64frombits", "math.sqrt", "math.archFloor", "math.archTrunc"], unfollowed := true, recurses := true, named := ["tarn/cube.frames", "tarn/geom.frames"], plainKeys := false, apart := false, laid := [("tarn/cube.frames", laid_tarn_cube_frames), ("tarn/geom.frames", laid_tarn_geom_frames)] }
def StateTurnedSaid : Prop := stateTurnedRow.holds Tryz.pinned (OpenSpec.ofChange stateTurnedSpec)

/-- ITS FALSE NEIGHBOUR: 'it returns false'. Refute it at one input. -/
def stateTurnedWrong : ChangeSpec := { name := "stateTurned", fn := fun _ => fun
  | [d1, d2, d3] => { results := [.lit (.bool false)], args := [d1, d2, d3] }
  | _ => none }
def StateTurnedWrongFalsely : Prop := stateTurnedRow.holds Tryz.pinned (OpenSpec.ofChange stateTurnedWrong)

/-- 'tarnlaw20.StateGroup': WHATEVER THE INPUT: true; the input reads as it did. -/
def stateGroupSpec : ChangeSpec := { name := "stateGroup", fn := fun _ => fun
  | [d1, d2, d3, d4] => { results := [.lit (.bool true)], args := [d1, d2, d3, d4] }
  | _ => none }
def stateGroupRow : OpenClaim := { program := "ytgoljofmbidkfaagreatdoor", sum := "a279b8e9b8e5fa8b8f03a101247c0bf583316d19c2d2f2bf82faa3aa8b15320c", func := "tarn/tarnlaw20.StateGroup", spec := "stateGroup", inPlace := ["math.Float64bits", "math.Float64frombits", "math.sqrt", "math.archFloor", "math.archTrunc"], unfollowed := true, recurses := true, named := ["tarn/cube.frames", "tarn/geom.frames"], plainKeys := false, apart := false, laid := [("tarn/cube.frames", laid_tarn_cube_frames), ("tarn/geom.frames", laid_tarn_geom_frames)] }
def StateGroupSaid : Prop := stateGroupRow.holds Tryz.pinned (OpenSpec.ofChange stateGroupSpec)

/-- ITS FALSE NEIGHBOUR: 'it returns false'. Refute it at one input. -/
def stateGroupWrong : ChangeSpec := { name := "stateGroup", fn := fun _ => fun
  | [d1, d2, d3, d4] => { results := [.lit (.bool false)], args := [d1, d2, d3, d4] }
  | _ => none }
def StateGroupWrongFalsely : Prop := stateGroupRow.holds Tryz.pinned (OpenSpec.ofChange stateGroupWrong)

/-- 'tarnlaw20.StateMoves': WHATEVER THE INPUT: true; the input reads as it did. -/
def stateMovesSpec : ChangeSpec := { name := "stateMoves", fn := fun _ => fun
  | [d1, d2, d3] => { results := [.lit (.bool true)], args := [d1, d2, d3] }
  | _ => none }
def stateMovesRow : OpenClaim := { program := "ytgoljofmbidkfaagreatdoor", sum := "a279b8e9b8e5fa8b8f03a101247c0bf583316d19c2d2f2bf82faa3aa8b15320c", func := "tarn/tarnlaw20.StateMoves", spec := "stateMoves", inPlace := ["math.Float64bits", "math.Float64frombits", "math.sqrt", "math.archFloor", "math.archTrunc"], unfollowed := true, recurses := true, named := ["tarn/cube.frames", "tarn/geom.frames"], plainKeys := false, apart := false, laid := [("tarn/cube.frames", laid_tarn_cube_frames), ("tarn/geom.frames", laid_tarn_geom_frames)] }
def StateMovesSaid : Prop := stateMovesRow.holds Tryz.pinned (OpenSpec.ofChange stateMovesSpec)

/-- ITS FALSE NEIGHBOUR: 'it returns false'. Refute it at one input. -/
def stateMovesWrong : ChangeSpec := { name := "stateMoves", fn := fun _ => fun
  | [d1, d2, d3] => { results := [.lit (.bool false)], args := [d1, d2, d3] }
  | _ => none }
def StateMovesWrongFalsely : Prop := stateMovesRow.holds Tryz.pinned (OpenSpec.ofChange stateMovesWrong)

/-- 'tarnlaw20.StateLakes': WHATEVER THE INPUT: true; the input reads as it did. -/
def stateLakesSpec : ChangeSpec := { name := "stateLakes", fn := fun _ => fun
  | [d1, d2, d3] => { results := [.lit (.bool true)], args := [d1, d2, d3] }
  | _ => none }
def stateLakesRow : OpenClaim := { program := "ytgoljofmbidkfaagreatdoor", sum := "a279b8e9b8e5fa8b8f03a101247c0bf583316d19c2d2f2bf82faa3aa8b15320c", func := "tarn/tarnlaw20.StateLakes", spec := "stateLakes", inPlace := ["math.Float64bits", "math.Float64frombits", "math.sqrt", "math.archFloor", "math.archTrunc"], unfollowed := true, recurses := true, named := ["tarn/cube.frames", "tarn/geom.frames"], plainKeys := false, apart := false, laid := [("tarn/cube.frames", laid_tarn_cube_frames), ("tarn/geom.frames", laid_tarn_geom_frames)] }
def StateLakesSaid : Prop := stateLakesRow.holds Tryz.pinned (OpenSpec.ofChange stateLakesSpec)

/-- ITS FALSE NEIGHBOUR: 'it returns false'. Refute it at one input. -/
def stateLakesWrong : ChangeSpec := { name := "stateLakes", fn := fun _ => fun
  | [d1, d2, d3] => { results := [.lit (.bool false)], args := [d1, d2, d3] }
  | _ => none }
def StateLakesWrongFalsely : Prop := stateLakesRow.holds Tryz.pinned (OpenSpec.ofChange stateLakesWrong)

/-- 'tarnlaw20.StateKeeps': WHATEVER THE INPUT: true; the input reads as it did. -/
def stateKeepsSpec : ChangeSpec := { name := "stateKeeps", fn := fun _ => fun
  | [d1, d2, d3] => { results := [.lit (.bool true)], args := [d1, d2, d3] }
  | _ => none }
def stateKeepsRow : OpenClaim := { program := "ytgoljofmbidkfaagreatdoor", sum := "a279b8e9b8e5fa8b8f03a101247c0bf583316d19c2d2f2bf82faa3aa8b15320c", func := "tarn/tarnlaw20.StateKeeps", spec := "stateKeeps", inPlace := ["math.Float64bits", "math.Float64frombits", "math.sqrt", "math.archFloor", "math.archTrunc"], unfollowed := true, recurses := true, named := ["tarn/cube.frames", "tarn/geom.frames"], plainKeys := false, apart := false, laid := [("tarn/cube.frames", laid_tarn_cube_frames), ("tarn/geom.frames", laid_tarn_geom_frames)] }
def StateKeepsSaid : Prop := stateKeepsRow.holds Tryz.pinned (OpenSpec.ofChange stateKeepsSpec)

/-- ITS FALSE NEIGHBOUR: 'it returns false'. Refute it at one input. -/
def stateKeepsWrong : ChangeSpec := { name := "stateKeeps", fn := fun _ => fun
  | [d1, d2, d3] => { results := [.lit (.bool false)], args := [d1, d2, d3] }
  | _ => none }
def StateKeepsWrongFalsely : Prop := stateKeepsRow.holds Tryz.pinned (OpenSpec.ofChange stateKeepsWrong)

/- THE SECOND FORM. 'bulk': how many values and letters a reading holds, each counted each time it is reached (what is shared counts as often as it is met; a slice's spare places count too). A statement '..UptoSaid' is the law's where the arguments, and the package variables that the reading takes, are together of bulk at most 1048576: NARROWER than '..Said'. Prove '..Said' where nothing that the law and all that it calls make is longer than what came in: it says more and counts as full. Else prove '..UptoSaid'. A law counts once. -/
mutual
def uptoBulk {H : Type} : DataW H → Nat
  | .lit (.string bytes) => bytes.length + 1
  | .lit _ => 1
  | .nil => 1
  | .ptr d => uptoBulk d + 1
  | .slice elems spare => uptoBulkAll elems + uptoBulkAll spare + 1
  | .agg parts => uptoBulkAll parts + 1
  | .iface _ d => uptoBulk d + 1
  | .map entries => uptoBulkEntries entries + 1
  | .held _ => 1
def uptoBulkAll {H : Type} : List (DataW H) → Nat
  | [] => 0
  | d :: r => uptoBulk d + uptoBulkAll r
def uptoBulkEntries {H : Type} : List (Lit × DataW H) → Nat
  | [] => 0
  | x :: r => uptoBulkEntry x + uptoBulkEntries r
def uptoBulkEntry {H : Type} : Lit × DataW H → Nat
  | (.string bytes, d) => bytes.length + uptoBulk d + 1
  | (_, d) => uptoBulk d + 1
 end
def uptoSmall : (H : Type) → List (DataW H) → Bool := fun _ ds => decide (uptoBulkAll ds ≤ 1048576)
def OpenSpec.upto (s : _root_.Go.ChangeSpec) : _root_.Go.OpenSpec := { _root_.Go.OpenSpec.ofChange s with cond := some uptoSmall }

/-- 'tarnlaw22.SplitAll', WHERE WHAT IT READS IS OF BULK AT MOST 1048576: true; the input reads as it did. -/
def splitAllUptoRow : OpenClaim := { program := "ytgoljofmbidkfaagreatdoor", sum := "a279b8e9b8e5fa8b8f03a101247c0bf583316d19c2d2f2bf82faa3aa8b15320c", func := "tarn/tarnlaw22.SplitAll", spec := "splitAll", inPlace := ["math.Float64frombits", "math.Float64bits", "math.sqrt", "math.archFloor", "math.archTrunc"], unfollowed := true, recurses := true, named := ["tarn/cube.frames", "tarn/geom.frames"], plainKeys := false, apart := false, laid := [("tarn/cube.frames", laid_tarn_cube_frames), ("tarn/geom.frames", laid_tarn_geom_frames)], narrowed := true }
def SplitAllUptoSaid : Prop := splitAllUptoRow.holds Tryz.pinned (OpenSpec.upto splitAllSpec)

/-- 'tarnlaw22.SplitLocal', WHERE WHAT IT READS IS OF BULK AT MOST 1048576: true; the input reads as it did. -/
def splitLocalUptoRow : OpenClaim := { program := "ytgoljofmbidkfaagreatdoor", sum := "a279b8e9b8e5fa8b8f03a101247c0bf583316d19c2d2f2bf82faa3aa8b15320c", func := "tarn/tarnlaw22.SplitLocal", spec := "splitLocal", inPlace := ["math.Float64frombits", "math.Float64bits", "math.sqrt", "math.archFloor", "math.archTrunc"], unfollowed := true, recurses := true, named := ["tarn/cube.frames", "tarn/geom.frames"], plainKeys := false, apart := false, laid := [("tarn/cube.frames", laid_tarn_cube_frames), ("tarn/geom.frames", laid_tarn_geom_frames)], narrowed := true }
def SplitLocalUptoSaid : Prop := splitLocalUptoRow.holds Tryz.pinned (OpenSpec.upto splitLocalSpec)

/-- 'tarnlaw20.StatePlans', WHERE WHAT IT READS IS OF BULK AT MOST 1048576: true; the input reads as it did. -/
def statePlansUptoRow : OpenClaim := { program := "ytgoljofmbidkfaagreatdoor", sum := "a279b8e9b8e5fa8b8f03a101247c0bf583316d19c2d2f2bf82faa3aa8b15320c", func := "tarn/tarnlaw20.StatePlans", spec := "statePlans", inPlace := ["math.Float64bits", "math.Float64frombits", "math.sqrt", "math.archFloor", "math.archTrunc"], unfollowed := true, recurses := true, named := ["tarn/cube.frames", "tarn/geom.frames"], plainKeys := false, apart := false, laid := [("tarn/cube.frames", laid_tarn_cube_frames), ("tarn/geom.frames", laid_tarn_geom_frames)], narrowed := true }
def StatePlansUptoSaid : Prop := statePlansUptoRow.holds Tryz.pinned (OpenSpec.upto statePlansSpec)

/-- 'tarnlaw20.StateChecks', WHERE WHAT IT READS IS OF BULK AT MOST 1048576: true; the input reads as it did. -/
def stateChecksUptoRow : OpenClaim := { program := "ytgoljofmbidkfaagreatdoor", sum := "a279b8e9b8e5fa8b8f03a101247c0bf583316d19c2d2f2bf82faa3aa8b15320c", func := "tarn/tarnlaw20.StateChecks", spec := "stateChecks", inPlace := ["math.Float64bits", "math.Float64frombits", "math.sqrt", "math.archFloor", "math.archTrunc"], unfollowed := true, recurses := true, named := ["tarn/cube.frames", "tarn/geom.frames"], plainKeys := false, apart := false, laid := [("tarn/cube.frames", laid_tarn_cube_frames), ("tarn/geom.frames", laid_tarn_geom_frames)], narrowed := true }
def StateChecksUptoSaid : Prop := stateChecksUptoRow.holds Tryz.pinned (OpenSpec.upto stateChecksSpec)

/-- 'tarnlaw20.StateSames', WHERE WHAT IT READS IS OF BULK AT MOST 1048576: true; the input reads as it did. -/
def stateSamesUptoRow : OpenClaim := { program := "ytgoljofmbidkfaagreatdoor", sum := "a279b8e9b8e5fa8b8f03a101247c0bf583316d19c2d2f2bf82faa3aa8b15320c", func := "tarn/tarnlaw20.StateSames", spec := "stateSames", inPlace := ["math.Float64bits", "math.Float64frombits", "math.sqrt", "math.archFloor", "math.archTrunc"], unfollowed := true, recurses := true, named := ["tarn/cube.frames", "tarn/geom.frames"], plainKeys := false, apart := false, laid := [("tarn/cube.frames", laid_tarn_cube_frames), ("tarn/geom.frames", laid_tarn_geom_frames)], narrowed := true }
def StateSamesUptoSaid : Prop := stateSamesUptoRow.holds Tryz.pinned (OpenSpec.upto stateSamesSpec)

/-- 'tarnlaw20.StateTurned', WHERE WHAT IT READS IS OF BULK AT MOST 1048576: true; the input reads as it did. -/
def stateTurnedUptoRow : OpenClaim := { program := "ytgoljofmbidkfaagreatdoor", sum := "a279b8e9b8e5fa8b8f03a101247c0bf583316d19c2d2f2bf82faa3aa8b15320c", func := "tarn/tarnlaw20.StateTurned", spec := "stateTurned", inPlace := ["math.Float64bits", "math.Float64frombits", "math.sqrt", "math.archFloor", "math.archTrunc"], unfollowed := true, recurses := true, named := ["tarn/cube.frames", "tarn/geom.frames"], plainKeys := false, apart := false, laid := [("tarn/cube.frames", laid_tarn_cube_frames), ("tarn/geom.frames", laid_tarn_geom_frames)], narrowed := true }
def StateTurnedUptoSaid : Prop := stateTurnedUptoRow.holds Tryz.pinned (OpenSpec.upto stateTurnedSpec)

/-- 'tarnlaw20.StateGroup', WHERE WHAT IT READS IS OF BULK AT MOST 1048576: true; the input reads as it did. -/
def stateGroupUptoRow : OpenClaim := { program := "ytgoljofmbidkfaagreatdoor", sum := "a279b8e9b8e5fa8b8f03a101247c0bf583316d19c2d2f2bf82faa3aa8b15320c", func := "tarn/tarnlaw20.StateGroup", spec := "stateGroup", inPlace := ["math.Float64bits", "math.Float64frombits", "math.sqrt", "math.archFloor", "math.archTrunc"], unfollowed := true, recurses := true, named := ["tarn/cube.frames", "tarn/geom.frames"], plainKeys := false, apart := false, laid := [("tarn/cube.frames", laid_tarn_cube_frames), ("tarn/geom.frames", laid_tarn_geom_frames)], narrowed := true }
def StateGroupUptoSaid : Prop := stateGroupUptoRow.holds Tryz.pinned (OpenSpec.upto stateGroupSpec)

/-- 'tarnlaw20.StateMoves', WHERE WHAT IT READS IS OF BULK AT MOST 1048576: true; the input reads as it did. -/
def stateMovesUptoRow : OpenClaim := { program := "ytgoljofmbidkfaagreatdoor", sum := "a279b8e9b8e5fa8b8f03a101247c0bf583316d19c2d2f2bf82faa3aa8b15320c", func := "tarn/tarnlaw20.StateMoves", spec := "stateMoves", inPlace := ["math.Float64bits", "math.Float64frombits", "math.sqrt", "math.archFloor", "math.archTrunc"], unfollowed := true, recurses := true, named := ["tarn/cube.frames", "tarn/geom.frames"], plainKeys := false, apart := false, laid := [("tarn/cube.frames", laid_tarn_cube_frames), ("tarn/geom.frames", laid_tarn_geom_frames)], narrowed := true }
def StateMovesUptoSaid : Prop := stateMovesUptoRow.holds Tryz.pinned (OpenSpec.upto stateMovesSpec)

/-- 'tarnlaw20.StateLakes', WHERE WHAT IT READS IS OF BULK AT MOST 1048576: true; the input reads as it did. -/
def stateLakesUptoRow : OpenClaim := { program := "ytgoljofmbidkfaagreatdoor", sum := "a279b8e9b8e5fa8b8f03a101247c0bf583316d19c2d2f2bf82faa3aa8b15320c", func := "tarn/tarnlaw20.StateLakes", spec := "stateLakes", inPlace := ["math.Float64bits", "math.Float64frombits", "math.sqrt", "math.archFloor", "math.archTrunc"], unfollowed := true, recurses := true, named := ["tarn/cube.frames", "tarn/geom.frames"], plainKeys := false, apart := false, laid := [("tarn/cube.frames", laid_tarn_cube_frames), ("tarn/geom.frames", laid_tarn_geom_frames)], narrowed := true }
def StateLakesUptoSaid : Prop := stateLakesUptoRow.holds Tryz.pinned (OpenSpec.upto stateLakesSpec)

/-- 'tarnlaw20.StateKeeps', WHERE WHAT IT READS IS OF BULK AT MOST 1048576: true; the input reads as it did. -/
def stateKeepsUptoRow : OpenClaim := { program := "ytgoljofmbidkfaagreatdoor", sum := "a279b8e9b8e5fa8b8f03a101247c0bf583316d19c2d2f2bf82faa3aa8b15320c", func := "tarn/tarnlaw20.StateKeeps", spec := "stateKeeps", inPlace := ["math.Float64bits", "math.Float64frombits", "math.sqrt", "math.archFloor", "math.archTrunc"], unfollowed := true, recurses := true, named := ["tarn/cube.frames", "tarn/geom.frames"], plainKeys := false, apart := false, laid := [("tarn/cube.frames", laid_tarn_cube_frames), ("tarn/geom.frames", laid_tarn_geom_frames)], narrowed := true }
def StateKeepsUptoSaid : Prop := stateKeepsUptoRow.holds Tryz.pinned (OpenSpec.upto stateKeepsSpec)

end Rows
end Go.Proofs.YtgoljofmbidkfaaGreatDoor
