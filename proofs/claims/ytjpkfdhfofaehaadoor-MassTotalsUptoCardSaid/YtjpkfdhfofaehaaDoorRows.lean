/-
  NARROWER THAN 'FOR EVERY INPUT', by the rows' own cells (each row's printed sentence says how): MassTotals: laid · MassParts: laid · MassKept: laid · MassOne: laid · MassTwo: laid · MassMemory: laid · SplitParts: laid · SplitShown: laid · SplitKeeps: laid.
  DERIVED. THE GIVEN ROWS OF THIS SEAT. 9 by the template 'for every input the law returns true; each argument reads behind the call as it read before'; 0 by the template 'total and deterministic' (their statements: YtjpkfdhfofaehaaDoorTotals.lean).
  GIVEN WITH THE SEED: the statements are not yours to turn. If you find one false, say at which input.
  Laid BY PROGRAM, IN A SANDBOX (cutbox-rows.mjs): the forced cells as the released guide's own fill.sh prints them over the translation a007bf9c54c9a447… (all of the seat's roots in one cut). By AI agents, Wed Nov 11 2026. No macro, syntax, notation, axiom, sorry.
-/
import Derived.Test.YtjpkfdhfofaehaaDoorChecked
import GoSem.Claim
import GoSem.ClaimJoined
import GoSem.ClaimMapViews
import Derived.JoinedTies
import Derived.KernelRfl
namespace Go.Proofs.YtjpkfdhfofaehaaDoor
/- THE CELL 'sum', in the pinned program and in every row, IS THE sha256 OF THE DUMP (.gsa) THAT YtjpkfdhfofaehaaDoorProg.lean LOADS. Nothing in Lean hashes anything: it is a label: what it is worth is what the hold of that sum in a sandbox is worth. -/
noncomputable def Tryd.pinned : Pinned := { name := "ytjpkfdhfofaehaadoor", sum := "a007bf9c54c9a447d8bb8c780dc7ac367bca494d44821d7fb42617dd99c83166", checked := Tryd.checked }
namespace Rows
def none {H : Type} : Left H := { results := [], args := [] }

/- WHAT THE LISTED PACKAGE-LEVEL VARIABLES READ AS WHEN THE CALL BEGINS. Each datum BY PROGRAM (the guide's laid-datum.mjs) off the statement by which the dump's own 'gosem.cut.vars' lays the variable. In a bare row this is a premise. The card (YtjpkfdhfofaehaaDoorCards.lean) ties it to the program's text. -/
def laid_tarn_cube_frames {H : Type} : DataW H := .agg [.agg [.agg [.lit (.int .i64 1), .lit (.int .i64 0), .lit (.int .i64 0)], .agg [.lit (.int .i64 0), .lit (.int .i64 1), .lit (.int .i64 0)], .agg [.lit (.int .i64 0), .lit (.int .i64 0), .lit (.int .i64 1)]], .agg [.agg [.lit (.int .i64 0), .lit (.int .i64 1), .lit (.int .i64 0)], .agg [.lit (.int .i64 (-1)), .lit (.int .i64 0), .lit (.int .i64 0)], .agg [.lit (.int .i64 0), .lit (.int .i64 0), .lit (.int .i64 1)]], .agg [.agg [.lit (.int .i64 (-1)), .lit (.int .i64 0), .lit (.int .i64 0)], .agg [.lit (.int .i64 0), .lit (.int .i64 (-1)), .lit (.int .i64 0)], .agg [.lit (.int .i64 0), .lit (.int .i64 0), .lit (.int .i64 1)]], .agg [.agg [.lit (.int .i64 0), .lit (.int .i64 (-1)), .lit (.int .i64 0)], .agg [.lit (.int .i64 1), .lit (.int .i64 0), .lit (.int .i64 0)], .agg [.lit (.int .i64 0), .lit (.int .i64 0), .lit (.int .i64 1)]], .agg [.agg [.lit (.int .i64 0), .lit (.int .i64 0), .lit (.int .i64 1)], .agg [.lit (.int .i64 0), .lit (.int .i64 1), .lit (.int .i64 0)], .agg [.lit (.int .i64 (-1)), .lit (.int .i64 0), .lit (.int .i64 0)]], .agg [.agg [.lit (.int .i64 0), .lit (.int .i64 0), .lit (.int .i64 (-1))], .agg [.lit (.int .i64 0), .lit (.int .i64 1), .lit (.int .i64 0)], .agg [.lit (.int .i64 1), .lit (.int .i64 0), .lit (.int .i64 0)]]]
def laid_tarn_geom_frames {H : Type} : DataW H := .agg [.agg [.agg [.lit (.int .i64 1), .lit (.int .i64 0), .lit (.int .i64 0)], .agg [.lit (.int .i64 0), .lit (.int .i64 1), .lit (.int .i64 0)], .agg [.lit (.int .i64 0), .lit (.int .i64 0), .lit (.int .i64 1)]], .agg [.agg [.lit (.int .i64 0), .lit (.int .i64 1), .lit (.int .i64 0)], .agg [.lit (.int .i64 (-1)), .lit (.int .i64 0), .lit (.int .i64 0)], .agg [.lit (.int .i64 0), .lit (.int .i64 0), .lit (.int .i64 1)]], .agg [.agg [.lit (.int .i64 (-1)), .lit (.int .i64 0), .lit (.int .i64 0)], .agg [.lit (.int .i64 0), .lit (.int .i64 (-1)), .lit (.int .i64 0)], .agg [.lit (.int .i64 0), .lit (.int .i64 0), .lit (.int .i64 1)]], .agg [.agg [.lit (.int .i64 0), .lit (.int .i64 (-1)), .lit (.int .i64 0)], .agg [.lit (.int .i64 1), .lit (.int .i64 0), .lit (.int .i64 0)], .agg [.lit (.int .i64 0), .lit (.int .i64 0), .lit (.int .i64 1)]], .agg [.agg [.lit (.int .i64 0), .lit (.int .i64 0), .lit (.int .i64 1)], .agg [.lit (.int .i64 0), .lit (.int .i64 1), .lit (.int .i64 0)], .agg [.lit (.int .i64 (-1)), .lit (.int .i64 0), .lit (.int .i64 0)]], .agg [.agg [.lit (.int .i64 0), .lit (.int .i64 0), .lit (.int .i64 (-1))], .agg [.lit (.int .i64 0), .lit (.int .i64 1), .lit (.int .i64 0)], .agg [.lit (.int .i64 1), .lit (.int .i64 0), .lit (.int .i64 0)]]]

/-- 'tarnlaw15.MassTotals': WHATEVER THE INPUT: true; the input reads as it did. -/
def massTotalsSpec : ChangeSpec := { name := "massTotals", fn := fun _ => fun
  | [d1, d2] => { results := [.lit (.bool true)], args := [d1, d2] }
  | _ => none }
def massTotalsRow : OpenClaim := { program := "ytjpkfdhfofaehaadoor", sum := "a007bf9c54c9a447d8bb8c780dc7ac367bca494d44821d7fb42617dd99c83166", func := "tarn/tarnlaw15.MassTotals", spec := "massTotals", inPlace := ["math.Float64frombits", "math.Float64bits", "math.sqrt", "math.archFloor", "math.archTrunc", "math/bits.Add64", "math/bits.Sub64"], unfollowed := true, recurses := true, named := ["tarn/cube.frames", "tarn/geom.frames"], plainKeys := false, apart := false, laid := [("tarn/cube.frames", laid_tarn_cube_frames), ("tarn/geom.frames", laid_tarn_geom_frames)] }
def MassTotalsSaid : Prop := massTotalsRow.holds Tryd.pinned (OpenSpec.ofChange massTotalsSpec)

/-- ITS FALSE NEIGHBOUR: 'it returns false'. Refute it at one input. -/
def massTotalsWrong : ChangeSpec := { name := "massTotals", fn := fun _ => fun
  | [d1, d2] => { results := [.lit (.bool false)], args := [d1, d2] }
  | _ => none }
def MassTotalsWrongFalsely : Prop := massTotalsRow.holds Tryd.pinned (OpenSpec.ofChange massTotalsWrong)

/-- 'tarnlaw15.MassParts': WHATEVER THE INPUT: true; the input reads as it did. -/
def massPartsSpec : ChangeSpec := { name := "massParts", fn := fun _ => fun
  | [d1, d2, d3] => { results := [.lit (.bool true)], args := [d1, d2, d3] }
  | _ => none }
def massPartsRow : OpenClaim := { program := "ytjpkfdhfofaehaadoor", sum := "a007bf9c54c9a447d8bb8c780dc7ac367bca494d44821d7fb42617dd99c83166", func := "tarn/tarnlaw15.MassParts", spec := "massParts", inPlace := ["math.Float64frombits", "math.Float64bits", "math.sqrt", "math.archFloor", "math.archTrunc", "math/bits.Add64", "math/bits.Sub64"], unfollowed := true, recurses := true, named := ["tarn/cube.frames", "tarn/geom.frames"], plainKeys := false, apart := false, laid := [("tarn/cube.frames", laid_tarn_cube_frames), ("tarn/geom.frames", laid_tarn_geom_frames)] }
def MassPartsSaid : Prop := massPartsRow.holds Tryd.pinned (OpenSpec.ofChange massPartsSpec)

/-- ITS FALSE NEIGHBOUR: 'it returns false'. Refute it at one input. -/
def massPartsWrong : ChangeSpec := { name := "massParts", fn := fun _ => fun
  | [d1, d2, d3] => { results := [.lit (.bool false)], args := [d1, d2, d3] }
  | _ => none }
def MassPartsWrongFalsely : Prop := massPartsRow.holds Tryd.pinned (OpenSpec.ofChange massPartsWrong)

/-- 'tarnlaw15.MassKept': WHATEVER THE INPUT: true; the input reads as it did. -/
def massKeptSpec : ChangeSpec := { name := "massKept", fn := fun _ => fun
  | [d1, d2, d3] => { results := [.lit (.bool true)], args := [d1, d2, d3] }
  | _ => none }
def massKeptRow : OpenClaim := { program := "ytjpkfdhfofaehaadoor", sum := "a007bf9c54c9a447d8bb8c780dc7ac367bca494d44821d7fb42617dd99c83166", func := "tarn/tarnlaw15.MassKept", spec := "massKept", inPlace := ["math.Float64frombits", "math.Float64bits", "math.sqrt", "math.archFloor", "math.archTrunc", "math/bits.Add64", "math/bits.Sub64"], unfollowed := true, recurses := true, named := ["tarn/cube.frames", "tarn/geom.frames"], plainKeys := false, apart := false, laid := [("tarn/cube.frames", laid_tarn_cube_frames), ("tarn/geom.frames", laid_tarn_geom_frames)] }
def MassKeptSaid : Prop := massKeptRow.holds Tryd.pinned (OpenSpec.ofChange massKeptSpec)

/-- ITS FALSE NEIGHBOUR: 'it returns false'. Refute it at one input. -/
def massKeptWrong : ChangeSpec := { name := "massKept", fn := fun _ => fun
  | [d1, d2, d3] => { results := [.lit (.bool false)], args := [d1, d2, d3] }
  | _ => none }
def MassKeptWrongFalsely : Prop := massKeptRow.holds Tryd.pinned (OpenSpec.ofChange massKeptWrong)

/-- 'tarnlaw15.MassOne': WHATEVER THE INPUT: true; the input reads as it did. -/
def massOneSpec : ChangeSpec := { name := "massOne", fn := fun _ => fun
  | [d1, d2, d3] => { results := [.lit (.bool true)], args := [d1, d2, d3] }
  | _ => none }
def massOneRow : OpenClaim := { program := "ytjpkfdhfofaehaadoor", sum := "a007bf9c54c9a447d8bb8c780dc7ac367bca494d44821d7fb42617dd99c83166", func := "tarn/tarnlaw15.MassOne", spec := "massOne", inPlace := ["math.Float64frombits", "math.Float64bits", "math.sqrt", "math.archFloor", "math.archTrunc", "math/bits.Add64", "math/bits.Sub64"], unfollowed := true, recurses := true, named := ["tarn/cube.frames", "tarn/geom.frames"], plainKeys := false, apart := false, laid := [("tarn/cube.frames", laid_tarn_cube_frames), ("tarn/geom.frames", laid_tarn_geom_frames)] }
def MassOneSaid : Prop := massOneRow.holds Tryd.pinned (OpenSpec.ofChange massOneSpec)

/-- ITS FALSE NEIGHBOUR: 'it returns false'. Refute it at one input. -/
def massOneWrong : ChangeSpec := { name := "massOne", fn := fun _ => fun
  | [d1, d2, d3] => { results := [.lit (.bool false)], args := [d1, d2, d3] }
  | _ => none }
def MassOneWrongFalsely : Prop := massOneRow.holds Tryd.pinned (OpenSpec.ofChange massOneWrong)

/-- 'tarnlaw15.MassTwo': WHATEVER THE INPUT: true; the input reads as it did. -/
def massTwoSpec : ChangeSpec := { name := "massTwo", fn := fun _ => fun
  | [d1, d2, d3] => { results := [.lit (.bool true)], args := [d1, d2, d3] }
  | _ => none }
def massTwoRow : OpenClaim := { program := "ytjpkfdhfofaehaadoor", sum := "a007bf9c54c9a447d8bb8c780dc7ac367bca494d44821d7fb42617dd99c83166", func := "tarn/tarnlaw15.MassTwo", spec := "massTwo", inPlace := ["math.Float64frombits", "math.Float64bits", "math.sqrt", "math.archFloor", "math.archTrunc", "math/bits.Add64", "math/bits.Sub64"], unfollowed := true, recurses := true, named := ["tarn/cube.frames", "tarn/geom.frames"], plainKeys := false, apart := false, laid := [("tarn/cube.frames", laid_tarn_cube_frames), ("tarn/geom.frames", laid_tarn_geom_frames)] }
def MassTwoSaid : Prop := massTwoRow.holds Tryd.pinned (OpenSpec.ofChange massTwoSpec)

/-- ITS FALSE NEIGHBOUR: 'it returns false'. Refute it at one input. -/
def massTwoWrong : ChangeSpec := { name := "massTwo", fn := fun _ => fun
  | [d1, d2, d3] => { results := [.lit (.bool false)], args := [d1, d2, d3] }
  | _ => none }
def MassTwoWrongFalsely : Prop := massTwoRow.holds Tryd.pinned (OpenSpec.ofChange massTwoWrong)

/-- 'tarnlaw15.MassMemory': WHATEVER THE INPUT: true; the input reads as it did. -/
def massMemorySpec : ChangeSpec := { name := "massMemory", fn := fun _ => fun
  | [d1, d2, d3] => { results := [.lit (.bool true)], args := [d1, d2, d3] }
  | _ => none }
def massMemoryRow : OpenClaim := { program := "ytjpkfdhfofaehaadoor", sum := "a007bf9c54c9a447d8bb8c780dc7ac367bca494d44821d7fb42617dd99c83166", func := "tarn/tarnlaw15.MassMemory", spec := "massMemory", inPlace := ["math.Float64frombits", "math.Float64bits", "math.sqrt", "math.archFloor", "math.archTrunc", "math/bits.Add64", "math/bits.Sub64"], unfollowed := true, recurses := true, named := ["tarn/cube.frames", "tarn/geom.frames"], plainKeys := false, apart := false, laid := [("tarn/cube.frames", laid_tarn_cube_frames), ("tarn/geom.frames", laid_tarn_geom_frames)] }
def MassMemorySaid : Prop := massMemoryRow.holds Tryd.pinned (OpenSpec.ofChange massMemorySpec)

/-- ITS FALSE NEIGHBOUR: 'it returns false'. Refute it at one input. -/
def massMemoryWrong : ChangeSpec := { name := "massMemory", fn := fun _ => fun
  | [d1, d2, d3] => { results := [.lit (.bool false)], args := [d1, d2, d3] }
  | _ => none }
def MassMemoryWrongFalsely : Prop := massMemoryRow.holds Tryd.pinned (OpenSpec.ofChange massMemoryWrong)

/-- 'tarnlaw22.SplitParts': WHATEVER THE INPUT: true; the input reads as it did. -/
def splitPartsSpec : ChangeSpec := { name := "splitParts", fn := fun _ => fun
  | [d1, d2] => { results := [.lit (.bool true)], args := [d1, d2] }
  | _ => none }
def splitPartsRow : OpenClaim := { program := "ytjpkfdhfofaehaadoor", sum := "a007bf9c54c9a447d8bb8c780dc7ac367bca494d44821d7fb42617dd99c83166", func := "tarn/tarnlaw22.SplitParts", spec := "splitParts", inPlace := ["math.Float64frombits", "math.Float64bits", "math.sqrt", "math.archFloor", "math.archTrunc"], unfollowed := true, recurses := true, named := ["tarn/cube.frames", "tarn/geom.frames"], plainKeys := false, apart := false, laid := [("tarn/cube.frames", laid_tarn_cube_frames), ("tarn/geom.frames", laid_tarn_geom_frames)] }
def SplitPartsSaid : Prop := splitPartsRow.holds Tryd.pinned (OpenSpec.ofChange splitPartsSpec)

/-- ITS FALSE NEIGHBOUR: 'it returns false'. Refute it at one input. -/
def splitPartsWrong : ChangeSpec := { name := "splitParts", fn := fun _ => fun
  | [d1, d2] => { results := [.lit (.bool false)], args := [d1, d2] }
  | _ => none }
def SplitPartsWrongFalsely : Prop := splitPartsRow.holds Tryd.pinned (OpenSpec.ofChange splitPartsWrong)

/-- 'tarnlaw22.SplitShown': WHATEVER THE INPUT: true; the input reads as it did. -/
def splitShownSpec : ChangeSpec := { name := "splitShown", fn := fun _ => fun
  | [d1, d2, d3] => { results := [.lit (.bool true)], args := [d1, d2, d3] }
  | _ => none }
def splitShownRow : OpenClaim := { program := "ytjpkfdhfofaehaadoor", sum := "a007bf9c54c9a447d8bb8c780dc7ac367bca494d44821d7fb42617dd99c83166", func := "tarn/tarnlaw22.SplitShown", spec := "splitShown", inPlace := ["math.Float64frombits", "math.Float64bits", "math.sqrt", "math.archFloor", "math.archTrunc"], unfollowed := true, recurses := true, named := ["tarn/cube.frames", "tarn/geom.frames"], plainKeys := false, apart := false, laid := [("tarn/cube.frames", laid_tarn_cube_frames), ("tarn/geom.frames", laid_tarn_geom_frames)] }
def SplitShownSaid : Prop := splitShownRow.holds Tryd.pinned (OpenSpec.ofChange splitShownSpec)

/-- ITS FALSE NEIGHBOUR: 'it returns false'. Refute it at one input. -/
def splitShownWrong : ChangeSpec := { name := "splitShown", fn := fun _ => fun
  | [d1, d2, d3] => { results := [.lit (.bool false)], args := [d1, d2, d3] }
  | _ => none }
def SplitShownWrongFalsely : Prop := splitShownRow.holds Tryd.pinned (OpenSpec.ofChange splitShownWrong)

/-- 'tarnlaw22.SplitKeeps': WHATEVER THE INPUT: true; the input reads as it did. -/
def splitKeepsSpec : ChangeSpec := { name := "splitKeeps", fn := fun _ => fun
  | [d1, d2, d3] => { results := [.lit (.bool true)], args := [d1, d2, d3] }
  | _ => none }
def splitKeepsRow : OpenClaim := { program := "ytjpkfdhfofaehaadoor", sum := "a007bf9c54c9a447d8bb8c780dc7ac367bca494d44821d7fb42617dd99c83166", func := "tarn/tarnlaw22.SplitKeeps", spec := "splitKeeps", inPlace := ["math.Float64frombits", "math.Float64bits", "math.sqrt", "math.archFloor", "math.archTrunc"], unfollowed := true, recurses := true, named := ["tarn/cube.frames", "tarn/geom.frames"], plainKeys := false, apart := false, laid := [("tarn/cube.frames", laid_tarn_cube_frames), ("tarn/geom.frames", laid_tarn_geom_frames)] }
def SplitKeepsSaid : Prop := splitKeepsRow.holds Tryd.pinned (OpenSpec.ofChange splitKeepsSpec)

/-- ITS FALSE NEIGHBOUR: 'it returns false'. Refute it at one input. -/
def splitKeepsWrong : ChangeSpec := { name := "splitKeeps", fn := fun _ => fun
  | [d1, d2, d3] => { results := [.lit (.bool false)], args := [d1, d2, d3] }
  | _ => none }
def SplitKeepsWrongFalsely : Prop := splitKeepsRow.holds Tryd.pinned (OpenSpec.ofChange splitKeepsWrong)

/- THE SECOND FORM. 'bulk': how many values and letters a reading holds, each counted each time it is reached (what is shared counts as often as it is met; a slice's spare places count too). A statement '..UptoSaid' is the law's where the arguments, and the package variables that the reading takes, are together of bulk at most 1048576: NARROWER than '..Said'. Prove '..Said' where nothing that the law and all that it calls make is longer than what came in: it says more and counts as full. Else prove '..UptoSaid'. A law counts once. -/
mutual
def uptoBulk {H : Type} : DataW H → Nat
  | .lit (.string bytes) => bytes.length + 1
  | .lit _ => 1
  | .nil => 1
  | .ptr d => uptoBulk d + 1
  | .slice elems spare => uptoBulkAll elems + uptoBulkAll spare + 1
  | .agg parts => uptoBulkAll parts + 1
  | .iface _ d => uptoBulk d + 1
  | .map entries => uptoBulkEntries entries + 1
  | .held _ => 1
def uptoBulkAll {H : Type} : List (DataW H) → Nat
  | [] => 0
  | d :: r => uptoBulk d + uptoBulkAll r
def uptoBulkEntries {H : Type} : List (Lit × DataW H) → Nat
  | [] => 0
  | x :: r => uptoBulkEntry x + uptoBulkEntries r
def uptoBulkEntry {H : Type} : Lit × DataW H → Nat
  | (.string bytes, d) => bytes.length + uptoBulk d + 1
  | (_, d) => uptoBulk d + 1
 end
def uptoSmall : (H : Type) → List (DataW H) → Bool := fun _ ds => decide (uptoBulkAll ds ≤ 1048576)
def OpenSpec.upto (s : _root_.Go.ChangeSpec) : _root_.Go.OpenSpec := { _root_.Go.OpenSpec.ofChange s with cond := some uptoSmall }

/-- 'tarnlaw15.MassTotals', WHERE WHAT IT READS IS OF BULK AT MOST 1048576: true; the input reads as it did. -/
def massTotalsUptoRow : OpenClaim := { program := "ytjpkfdhfofaehaadoor", sum := "a007bf9c54c9a447d8bb8c780dc7ac367bca494d44821d7fb42617dd99c83166", func := "tarn/tarnlaw15.MassTotals", spec := "massTotals", inPlace := ["math.Float64frombits", "math.Float64bits", "math.sqrt", "math.archFloor", "math.archTrunc", "math/bits.Add64", "math/bits.Sub64"], unfollowed := true, recurses := true, named := ["tarn/cube.frames", "tarn/geom.frames"], plainKeys := false, apart := false, laid := [("tarn/cube.frames", laid_tarn_cube_frames), ("tarn/geom.frames", laid_tarn_geom_frames)], narrowed := true }
def MassTotalsUptoSaid : Prop := massTotalsUptoRow.holds Tryd.pinned (OpenSpec.upto massTotalsSpec)

/-- 'tarnlaw15.MassParts', WHERE WHAT IT READS IS OF BULK AT MOST 1048576: true; the input reads as it did. -/
def massPartsUptoRow : OpenClaim := { program := "ytjpkfdhfofaehaadoor", sum := "a007bf9c54c9a447d8bb8c780dc7ac367bca494d44821d7fb42617dd99c83166", func := "tarn/tarnlaw15.MassParts", spec := "massParts", inPlace := ["math.Float64frombits", "math.Float64bits", "math.sqrt", "math.archFloor", "math.archTrunc", "math/bits.Add64", "math/bits.Sub64"], unfollowed := true, recurses := true, named := ["tarn/cube.frames", "tarn/geom.frames"], plainKeys := false, apart := false, laid := [("tarn/cube.frames", laid_tarn_cube_frames), ("tarn/geom.frames", laid_tarn_geom_frames)], narrowed := true }
def MassPartsUptoSaid : Prop := massPartsUptoRow.holds Tryd.pinned (OpenSpec.upto massPartsSpec)

/-- 'tarnlaw15.MassKept', WHERE WHAT IT READS IS OF BULK AT MOST 1048576: true; the input reads as it did. -/
def massKeptUptoRow : OpenClaim := { program := "ytjpkfdhfofaehaadoor", sum := "a007bf9c54c9a447d8bb8c780dc7ac367bca494d44821d7fb42617dd99c83166", func := "tarn/tarnlaw15.MassKept", spec := "massKept", inPlace := ["math.Float64frombits", "math.Float64bits", "math.sqrt", "math.archFloor", "math.archTrunc", "math/bits.Add64", "math/bits.Sub64"], unfollowed := true, recurses := true, named := ["tarn/cube.frames", "tarn/geom.frames"], plainKeys := false, apart := false, laid := [("tarn/cube.frames", laid_tarn_cube_frames), ("tarn/geom.frames", laid_tarn_geom_frames)], narrowed := true }
def MassKeptUptoSaid : Prop := massKeptUptoRow.holds Tryd.pinned (OpenSpec.upto massKeptSpec)

/-- 'tarnlaw15.MassOne', WHERE WHAT IT READS IS OF BULK AT MOST 1048576: true; the input reads as it did. -/
def massOneUptoRow : OpenClaim := { program := "ytjpkfdhfofaehaadoor", sum := "a007bf9c54c9a447d8bb8c780dc7ac367bca494d44821d7fb42617dd99c83166", func := "tarn/tarnlaw15.MassOne", spec := "massOne", inPlace := ["math.Float64frombits", "math.Float64bits", "math.sqrt", "math.archFloor", "math.archTrunc", "math/bits.Add64", "math/bits.Sub64"], unfollowed := true, recurses := true, named := ["tarn/cube.frames", "tarn/geom.frames"], plainKeys := false, apart := false, laid := [("tarn/cube.frames", laid_tarn_cube_frames), ("tarn/geom.frames", laid_tarn_geom_frames)], narrowed := true }
def MassOneUptoSaid : Prop := massOneUptoRow.holds Tryd.pinned (OpenSpec.upto massOneSpec)

/-- 'tarnlaw15.MassTwo', WHERE WHAT IT READS IS OF BULK AT MOST 1048576: true; the input reads as it did. -/
def massTwoUptoRow : OpenClaim := { program := "ytjpkfdhfofaehaadoor", sum := "a007bf9c54c9a447d8bb8c780dc7ac367bca494d44821d7fb42617dd99c83166", func := "tarn/tarnlaw15.MassTwo", spec := "massTwo", inPlace := ["math.Float64frombits", "math.Float64bits", "math.sqrt", "math.archFloor", "math.archTrunc", "math/bits.Add64", "math/bits.Sub64"], unfollowed := true, recurses := true, named := ["tarn/cube.frames", "tarn/geom.frames"], plainKeys := false, apart := false, laid := [("tarn/cube.frames", laid_tarn_cube_frames), ("tarn/geom.frames", laid_tarn_geom_frames)], narrowed := true }
def MassTwoUptoSaid : Prop := massTwoUptoRow.holds Tryd.pinned (OpenSpec.upto massTwoSpec)

/-- 'tarnlaw15.MassMemory', WHERE WHAT IT READS IS OF BULK AT MOST 1048576: true; the input reads as it did. -/
def massMemoryUptoRow : OpenClaim := { program := "ytjpkfdhfofaehaadoor", sum := "a007bf9c54c9a447d8bb8c780dc7ac367bca494d44821d7fb42617dd99c83166", func := "tarn/tarnlaw15.MassMemory", spec := "massMemory", inPlace := ["math.Float64frombits", "math.Float64bits", "math.sqrt", "math.archFloor", "math.archTrunc", "math/bits.Add64", "math/bits.Sub64"], unfollowed := true, recurses := true, named := ["tarn/cube.frames", "tarn/geom.frames"], plainKeys := false, apart := false, laid := [("tarn/cube.frames", laid_tarn_cube_frames), ("tarn/geom.frames", laid_tarn_geom_frames)], narrowed := true }
def MassMemoryUptoSaid : Prop := massMemoryUptoRow.holds Tryd.pinned (OpenSpec.upto massMemorySpec)

/-- 'tarnlaw22.SplitParts', WHERE WHAT IT READS IS OF BULK AT MOST 1048576: true; the input reads as it did. -/
def splitPartsUptoRow : OpenClaim := { program := "ytjpkfdhfofaehaadoor", sum := "a007bf9c54c9a447d8bb8c780dc7ac367bca494d44821d7fb42617dd99c83166", func := "tarn/tarnlaw22.SplitParts", spec := "splitParts", inPlace := ["math.Float64frombits", "math.Float64bits", "math.sqrt", "math.archFloor", "math.archTrunc"], unfollowed := true, recurses := true, named := ["tarn/cube.frames", "tarn/geom.frames"], plainKeys := false, apart := false, laid := [("tarn/cube.frames", laid_tarn_cube_frames), ("tarn/geom.frames", laid_tarn_geom_frames)], narrowed := true }
def SplitPartsUptoSaid : Prop := splitPartsUptoRow.holds Tryd.pinned (OpenSpec.upto splitPartsSpec)

/-- 'tarnlaw22.SplitShown', WHERE WHAT IT READS IS OF BULK AT MOST 1048576: true; the input reads as it did. -/
def splitShownUptoRow : OpenClaim := { program := "ytjpkfdhfofaehaadoor", sum := "a007bf9c54c9a447d8bb8c780dc7ac367bca494d44821d7fb42617dd99c83166", func := "tarn/tarnlaw22.SplitShown", spec := "splitShown", inPlace := ["math.Float64frombits", "math.Float64bits", "math.sqrt", "math.archFloor", "math.archTrunc"], unfollowed := true, recurses := true, named := ["tarn/cube.frames", "tarn/geom.frames"], plainKeys := false, apart := false, laid := [("tarn/cube.frames", laid_tarn_cube_frames), ("tarn/geom.frames", laid_tarn_geom_frames)], narrowed := true }
def SplitShownUptoSaid : Prop := splitShownUptoRow.holds Tryd.pinned (OpenSpec.upto splitShownSpec)

/-- 'tarnlaw22.SplitKeeps', WHERE WHAT IT READS IS OF BULK AT MOST 1048576: true; the input reads as it did. -/
def splitKeepsUptoRow : OpenClaim := { program := "ytjpkfdhfofaehaadoor", sum := "a007bf9c54c9a447d8bb8c780dc7ac367bca494d44821d7fb42617dd99c83166", func := "tarn/tarnlaw22.SplitKeeps", spec := "splitKeeps", inPlace := ["math.Float64frombits", "math.Float64bits", "math.sqrt", "math.archFloor", "math.archTrunc"], unfollowed := true, recurses := true, named := ["tarn/cube.frames", "tarn/geom.frames"], plainKeys := false, apart := false, laid := [("tarn/cube.frames", laid_tarn_cube_frames), ("tarn/geom.frames", laid_tarn_geom_frames)], narrowed := true }
def SplitKeepsUptoSaid : Prop := splitKeepsUptoRow.holds Tryd.pinned (OpenSpec.upto splitKeepsSpec)

end Rows
end Go.Proofs.YtjpkfdhfofaehaaDoor
