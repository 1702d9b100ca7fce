/- Package geom: areas. No condition. -/
import Derived.Test.YtgoljofmbidkfaaGreatDoorL
namespace Go.Proofs.YtgoljofmbidkfaaGreatDoor
open Go Go.Eng
set_option maxRecDepth 100000
set_option linter.unusedSimpArgs false
set_option linter.unusedVariables false

theorem frombitsZ_ok (z : Int) (m : List Blk) : COk Tryz.prog 3 132 [U z] m (F z.toNat) m := by
  refine COk_ext fun n g w xs h => ?_
  obtain ⟨y, ys, rfl, rfl, rfl⟩ := h
  refine ⟨.float .f64 z.toNat, w, by kernel_rfl, ⟨z.toNat, rfl, rfl⟩, Drew.refl w⟩
def absB (b : Nat) : Nat := (bitV .andNot .u64 b 9223372036854775808).toNat
theorem abs_ok (b : Nat) (m : List Blk) : COk Tryz.prog 3 144 [F b] m (F (absB b)) m := by
  refine COk_quiet Tryz.f144 Tryz.func144 (by kernel_rfl) rfl ?_
  conv => whnf
  refine ⟨_, _, f64bits_ok _ _, ?_⟩
  conv => whnf
  refine ⟨_, _, frombitsZ_ok _ _, ?_⟩
  conv => whnf
  exact ⟨rfl, [], by simp⟩
def floorB (b : Nat) : Nat := f64.write ((f64.read b).integral .down)
theorem archfloor_ok (b : Nat) (hb : (f64.read b).isNaN = false) (m : List Blk) : COk Tryz.prog 3 179 [F b] m (F (floorB b)) m := by
  refine COk_ext fun n g w xs h => ?_
  obtain ⟨y, ys, rfl, ⟨c, rfl, rfl⟩, rfl⟩ := h
  have key : (callFunc 179 #[.float .f64 c]).run Tryz.prog w = ((match f64.read c with
    | .nan s t =>
      if FloatKind.f64.format.quiet t = t then (pure (.float .f64 c) : Sem Value) else do
      let kept ← choose (.extern "math.Floor,Ceil,Trunc,RoundToEven.signallingNaN kept" 2)
      pure (.float .f64 (if kept == 1 then c else FloatKind.f64.encode (.nan s (FloatKind.f64.format.quiet t))))
    | d => pure (.float .f64 (FloatKind.f64.encode (d.integral .down)))) >>= fun v => (pure (Next.value v) : Sem Next)).run Tryz.prog w := by kernel_rfl
  show ∃ x w', (callFunc 179 #[.float .f64 c]).run Tryz.prog w = _ ∧ _
  rw [key, Sem.run_bind]
  refine ⟨.float .f64 (floorB c), w, ?_, ⟨_, rfl, rfl⟩, .refl w⟩
  unfold floorB
  cases hr : f64.read c with
  | nan s t => rw [hr] at hb; exact nomatch hb
  | number s a b => rfl
  | infinity s => rfl
theorem floor_ok (b : Nat) (hb : (f64.read b).isNaN = false) (m : List Blk) : COk Tryz.prog 3 164 [F b] m (F (floorB b)) m := by
  refine COk_quiet Tryz.f164 Tryz.func164 (by kernel_rfl) rfl ?_
  conv => whnf
  refine ⟨_, _, archfloor_ok b hb _, ?_⟩
  conv => whnf
  exact ⟨rfl, [], by simp⟩
abbrev halfB : Nat := 4602678819172646912
def nearR (b fl : Nat) (n : Int) : Int :=
  if fgt (fsub (some b) (some fl)) (some halfB) = true then IntKind.u64.wrap (n + 1)
  else if feq (fsub (some b) (some fl)) (some halfB) = true then (if n.tmod 2 = 1 then IntKind.u64.wrap (n + 1) else n) else n
theorem near_ok (b : Nat) (n : Int) (hb : (f64.read b).isNaN = false) (hn : fToI (some (floorB b)) .u64 = some n) (m : List Blk) : COk Tryz.prog 3 145 [F b] m (U (nearR b (floorB b) n)) m := by
  refine COk_quiet Tryz.f145 Tryz.func145 (by kernel_rfl) rfl ?_
  conv => whnf
  refine ⟨_, _, floor_ok b hb _, ?_⟩
  conv => whnf
  refine ⟨n, hn, ?_⟩
  conv => whnf
  refine br_intro (fun h => ?_) (fun h => ?_) <;> conv => whnf
  · exact ⟨by rw [nearR, if_pos h], [], by simp⟩
  refine br_intro (fun h2 => ?_) (fun h2 => ?_) <;> conv => whnf
  · refine br_intro (fun h3 => ?_) (fun h3 => ?_) <;> conv => whnf
    · exact ⟨by rw [nearR, if_neg (by rw [h]; decide), if_pos h2, if_pos (by simpa using h3)], [], by simp⟩
    · exact ⟨by rw [nearR, if_neg (by rw [h]; decide), if_pos h2, if_neg (by simpa using h3)], [], by simp⟩
  · exact ⟨by rw [nearR, if_neg (by rw [h]; decide), if_neg (by rw [h2]; decide)], [], by simp⟩
abbrev wholeB : Nat := 4890909195324358656
/-- Round, of what is less than 2^63. -/
def roundO (b : Nat) : Option Int :=
  match (f64.read (absB b)).isNaN, flt (some (absB b)) (some wholeB), fToI (some (floorB (absB b))) .u64 with
  | false, true, some n => some (if flt (some b) (some 0) = true then IntKind.i64.wrap (0 - IntKind.i64.wrap (nearR (absB b) (floorB (absB b)) n)) else IntKind.i64.wrap (nearR (absB b) (floorB (absB b)) n))
  | _, _, _ => none
theorem round_ok (b : Nat) (v : Int) (h : roundO b = some v) (m : List Blk) : COk Tryz.prog 3 149 [F b] m (.tup [I v, Bo true]) m := by
  unfold roundO at h
  split at h
  · rename_i n h1 h2 h3
    refine COk_quiet Tryz.f149 Tryz.func149 (by kernel_rfl) rfl ?_
    conv => whnf
    refine ⟨_, _, abs_ok b _, ?_⟩
    conv => whnf
    refine br_yes h2 ?_
    conv => whnf
    refine ⟨_, _, near_ok _ n h1 h3 _, ?_⟩
    conv => whnf
    injection h with h
    refine br_intro (fun h4 => ?_) (fun h4 => ?_) <;> conv => whnf
    · rw [if_pos h4] at h
      exact ⟨by rw [← h], [], by simp⟩
    · rw [if_neg (by rw [h4]; decide)] at h
      exact ⟨by rw [← h], [], by simp⟩
  · exact nomatch h
theorem round_okO {o : Option Nat} {b : Nat} {v : Int} (ho : o = some b) (h : roundO b = some v) (m : List Blk) : COk Tryz.prog 3 149 [.fl o] m (.tup [I v, Bo true]) m := by
  subst ho; exact round_ok b v h m
def areaX (p0 p1 p2 p3 : W) : Nat := lenF (crossF (minusF p2 p0) (minusF p3 p1))
abbrev unitB : Nat := 4742290407621132288
def areaY (p0 p1 p2 p3 : W) : Option Nat := fmul (fmul (some (areaX p0 p1 p2 p3)) (some halfB)) (some unitB)
def areaOf (p0 p1 p2 p3 : W) : Option Int := (areaY p0 p1 p2 p3).bind fun b => (roundO b).map fun v => if 1 > v then 1 else v
def areaO (n f i j : Nat) : Option Int := areaOf (cornerF n f i j) (cornerF n f (i + 1) j) (cornerF n f (i + 1) (j + 1)) (cornerF n f i (j + 1))
theorem area_in (n f i j : Nat) (v : Int) (hv : areaO n f i j = some v) (h1 : 1 ≤ n) (h2 : n ≤ 32) (hf : f < 6) (hi : i < n) (hj : j < n) (x : List Blk) : COk Tryz.prog 3 110 [I n, I (cellN n f i j)] (GG x) (I v) (GG x) := by
  refine lift ?_ rfl x
  unfold areaO areaOf at hv
  cases hy : areaY (cornerF n f i j) (cornerF n f (i + 1) j) (cornerF n f (i + 1) (j + 1)) (cornerF n f i (j + 1)) with
  | none => rw [hy] at hv; exact nomatch hv
  | some b =>
    rw [hy] at hv
    cases hr : roundO b with
    | none => simp [hr] at hv
    | some u =>
      simp only [Option.bind_some, hr, Option.map_some, Option.some.injEq] at hv
      refine COk_quiet Tryz.f110 Tryz.func110 (by kernel_rfl) rfl ?_
      conv => whnf
      refine ⟨_, _, corners_in n f i j h1 h2 hf hi hj _, ?_⟩
      conv => whnf
      refine ⟨_, minus_ok (cornerF n f (i + 1) (j + 1)) (cornerF n f i j) _, ?_⟩
      conv => whnf
      refine ⟨_, minus_ok (cornerF n f i (j + 1)) (cornerF n f (i + 1) j) _, ?_⟩
      conv => whnf
      refine ⟨_, vcross_ok (minusF (cornerF n f (i + 1) (j + 1)) (cornerF n f i j)) (minusF (cornerF n f i (j + 1)) (cornerF n f (i + 1) j)) _, ?_⟩
      conv => whnf
      refine ⟨_, length_ok (crossF (minusF (cornerF n f (i + 1) (j + 1)) (cornerF n f i j)) (minusF (cornerF n f i (j + 1)) (cornerF n f (i + 1) j))) _, ?_⟩
      conv => whnf
      refine ⟨_, _, round_okO hy hr _, ?_⟩
      conv => whnf
      exact ⟨by rw [← hv], _, rfl⟩
theorem area_no (side cell : Int) (h : ¬ (0 ≤ cell ∧ cell < cellsI side)) (x : List Blk) : COk Tryz.prog 3 110 [I side, I cell] (GG x) (I 0) (GG x) := by
  refine lift ?_ rfl x
  refine COk_quiet Tryz.f110 Tryz.func110 (by kernel_rfl) rfl ?_
  conv => whnf
  refine ⟨_, _, corners_no _ _ h _, ?_⟩
  conv => whnf
  exact ⟨rfl, _, rfl⟩
theorem bits_ok (b : Nat) (m : List Blk) : COk Tryz.prog 3 39 [F b] m (U b) m := by
  refine COk_quiet Tryz.f39 Tryz.func39 (by kernel_rfl) rfl ?_
  conv => whnf
  refine ⟨_, _, f64bits_ok _ _, ?_⟩
  conv => whnf
  exact ⟨rfl, [], by simp⟩
theorem same_ok (a b : Nat) (m : List Blk) : COk Tryz.prog 3 37 [F a, F b] m (Bo (decide (a = b))) m := by
  refine COk_quiet Tryz.f37 Tryz.func37 (by kernel_rfl) rfl ?_
  conv => whnf
  refine ⟨_, _, f64bits_ok _ _, ?_⟩
  conv => whnf
  refine ⟨_, _, f64bits_ok _ _, ?_⟩
  conv => whnf
  refine ⟨?_, [], by simp⟩
  congr 1
  by_cases h : a = b
  · subst h; simp
  · have h' : ¬ (a : Int) = b := by omega
    simp [h, h']
end Go.Proofs.YtgoljofmbidkfaaGreatDoor
