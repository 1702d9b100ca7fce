import Derived.Test.YtgoljofmbidkfaaGreatDoorF
/- Package geom: the contracts of its functions. No condition. -/
namespace Go.Proofs.YtgoljofmbidkfaaGreatDoor
open Go Go.Eng
set_option maxRecDepth 100000
set_option linter.unusedSimpArgs false
set_option linter.unusedVariables false

def ratioO (k n : Int) : Option Nat := fdiv (some (FloatKind.f64.nearest k)) (some (FloatKind.f64.nearest n))
theorem ratio_ok (k n : Int) (m : List Blk) : COk Tryz.prog 3 152 [I k, I n] m (.fl (ratioO k n)) m := by
  refine COk_quiet Tryz.f152 Tryz.func152 (by kernel_rfl) rfl ?_
  conv => whnf
  exact ⟨rfl, [], by simp⟩
abbrev oneB : Nat := 4607182418800017408
def pointV : Nat → Option Nat → Option Nat → W
  | 0, p, q => ⟨canonF (some oneB), canonF p, canonF q⟩
  | 1, p, q => ⟨canonF (fneg p), canonF (some oneB), canonF q⟩
  | 2, p, q => ⟨canonF (fneg (some oneB)), canonF (fneg p), canonF q⟩
  | 3, p, q => ⟨canonF p, canonF (fneg (some oneB)), canonF q⟩
  | 4, p, q => ⟨canonF (fneg q), canonF p, canonF (some oneB)⟩
  | _, p, q => ⟨canonF q, canonF p, canonF (fneg (some oneB))⟩
def pointF (f : Nat) (p q : Option Nat) : W := unitF (pointV f p q)
theorem point_ok (f : Nat) (p q : Option Nat) (hf : f < 6) (x : List Blk) : COk Tryz.prog 3 151 [I f, .fl p, .fl q] (GG x) (pointF f p q).v (GG x) := by
  refine lift ?_ rfl x
  obtain rfl | rfl | rfl | rfl | rfl | rfl : f = 0 ∨ f = 1 ∨ f = 2 ∨ f = 3 ∨ f = 4 ∨ f = 5 := by omega
  all_goals
    refine COk_quiet Tryz.f151 Tryz.func151 (by kernel_rfl) rfl ?_
    conv => whnf
    repeat (first | (refine lr ?_; conv => whnf) | (refine ⟨_, _, canon_ok _ _, ?_⟩; conv => whnf))
    refine ⟨_, _, unit_ok ⟨_, _, _⟩ _, ?_⟩
    conv => whnf
    exact ⟨rfl, _, rfl⟩
/-- The corner i, j of a face's net; the middle of a cell. -/
def cornerF (n f i j : Nat) : W := pointF f (ratioO (2 * i - n) n) (ratioO (2 * j - n) n)
def middleF (n f i j : Nat) : W := pointF f (ratioO (2 * i + 1 - n) n) (ratioO (2 * j + 1 - n) n)
theorem cellsI_ne (n : Nat) (h1 : 1 ≤ n) (h2 : n ≤ 32) : cellsI n ≠ 0 := by
  have h := Nat.mul_pos h1 h1
  rw [cellsI, if_pos ⟨by omega, by omega⟩]
  intro h'
  have : (((6 * (n * n) : Nat) : Int)) = 0 := by simpa using h'
  omega
theorem corner_in (n f : Nat) {a b : Int} {i j : Nat} (ha : a = i) (hb : b = j) (h1 : 1 ≤ n) (h2 : n ≤ 32) (hf : f < 6) (hi : i ≤ n) (hj : j ≤ n) (x : List Blk) : COk Tryz.prog 3 150 [I n, I f, I a, I b] (GG x) (.tup [(cornerF n f i j).v, Bo true]) (GG x) := by
  subst ha hb
  refine lift ?_ rfl x
  refine COk_quiet Tryz.f150 Tryz.func150 (by kernel_rfl) rfl ?_
  conv => whnf
  refine ⟨_, _, cells_ok _ _, ?_⟩
  conv => whnf
  refine br_neq (cellsI_ne n h1 h2) ?_
  conv => whnf
  refine br_nd (by omega) ?_
  conv => whnf
  refine br_nd (by omega) ?_
  conv => whnf
  refine br_nd (by omega) ?_
  conv => whnf
  refine ⟨_, _, ratio_ok _ _ _, ?_⟩
  conv => whnf
  refine ⟨_, _, ratio_ok _ _ _, ?_⟩
  conv => whnf
  refine ⟨_, _, point_ok f _ _ hf _, ?_⟩
  conv => whnf
  refine ⟨?_, _, rfl⟩
  simp (disch := omega) only [wrap_id]
  rfl
theorem middle_in (n f i j : Nat) (h1 : 1 ≤ n) (h2 : n ≤ 32) (hf : f < 6) (hi : i < n) (hj : j < n) (x : List Blk) : COk Tryz.prog 3 114 [I n, I (cellN n f i j)] (GG x) (.tup [(middleF n f i j).v, Bo true]) (GG x) := by
  refine lift ?_ rfl x
  refine COk_quiet Tryz.f114 Tryz.func114 (by kernel_rfl) rfl ?_
  conv => whnf
  refine ⟨_, _, place_in n f i j h1 h2 hf hi hj _, ?_⟩
  conv => whnf
  refine ⟨_, _, ratio_ok _ _ _, ?_⟩
  conv => whnf
  refine ⟨_, _, ratio_ok _ _ _, ?_⟩
  conv => whnf
  refine ⟨_, _, point_ok f _ _ hf _, ?_⟩
  conv => whnf
  refine ⟨?_, _, rfl⟩
  simp (disch := omega) only [wrap_id]
  rfl
/-- The four corners of a cell as one value. -/
def cornersV (n f i j : Nat) : V := .agg ((cornerF n f i j).v.cellsL ++ (cornerF n f (i + 1) j).v.cellsL ++ (cornerF n f (i + 1) (j + 1)).v.cellsL ++ (cornerF n f i (j + 1)).v.cellsL)
theorem corners_in (n f i j : Nat) (h1 : 1 ≤ n) (h2 : n ≤ 32) (hf : f < 6) (hi : i < n) (hj : j < n) (x : List Blk) : COk Tryz.prog 3 112 [I n, I (cellN n f i j)] (GG x) (.tup [cornersV n f i j, Bo true]) (GG x) := by
  refine lift ?_ rfl x
  refine COk_quiet Tryz.f112 Tryz.func112 (by kernel_rfl) rfl ?_
  conv => whnf
  refine ⟨_, _, place_in n f i j h1 h2 hf hi hj _, ?_⟩
  conv => whnf
  refine lr ?_
  conv => whnf
  refine ⟨_, _, corner_in n f (i := i) (j := j) (by simp (disch := omega) only [wrap_id]; omega) (by simp (disch := omega) only [wrap_id]; omega) h1 h2 hf (by omega) (by omega) _, ?_⟩
  conv => whnf
  refine lr ?_
  conv => whnf
  refine ⟨_, _, corner_in n f (i := i + 1) (j := j) (by simp (disch := omega) only [wrap_id]; omega) (by simp (disch := omega) only [wrap_id]; omega) h1 h2 hf (by omega) (by omega) _, ?_⟩
  conv => whnf
  refine lr ?_
  conv => whnf
  refine ⟨_, _, corner_in n f (i := i + 1) (j := j + 1) (by simp (disch := omega) only [wrap_id]; omega) (by simp (disch := omega) only [wrap_id]; omega) h1 h2 hf (by omega) (by omega) _, ?_⟩
  conv => whnf
  refine lr ?_
  conv => whnf
  refine ⟨_, _, corner_in n f (i := i) (j := j + 1) (by simp (disch := omega) only [wrap_id]; omega) (by simp (disch := omega) only [wrap_id]; omega) h1 h2 hf (by omega) (by omega) _, ?_⟩
  conv => whnf
  refine lr ?_
  conv => whnf
  exact ⟨rfl, _, rfl⟩

def lenS (n f i j : Nat) : Nat → Nat
  | 0 => gapF (cornerF n f (i + 1) j) (cornerF n f (i + 1) (j + 1))
  | 1 => gapF (cornerF n f i (j + 1)) (cornerF n f (i + 1) (j + 1))
  | 2 => gapF (cornerF n f i j) (cornerF n f i (j + 1))
  | _ => gapF (cornerF n f i j) (cornerF n f (i + 1) j)
theorem glen_in (n f i j s : Nat) (h1 : 1 ≤ n) (h2 : n ≤ 32) (hf : f < 6) (hi : i < n) (hj : j < n) (hs : s < 4) (x : List Blk) : COk Tryz.prog 3 54 [I n, I (cellN n f i j), I s] (GG x) (F (lenS n f i j s)) (GG x) := by
  refine lift ?_ rfl x
  obtain rfl | rfl | rfl | rfl : s = 0 ∨ s = 1 ∨ s = 2 ∨ s = 3 := by omega
  all_goals
    refine COk_quiet Tryz.f54 Tryz.func54 (by kernel_rfl) rfl ?_
    conv => whnf
    refine ⟨_, _, corners_in n f i j h1 h2 hf hi hj _, ?_⟩
    conv => whnf
    refine ⟨_, vgap_ok ⟨_, _, _⟩ ⟨_, _, _⟩ _, ?_⟩
    conv => whnf
    exact ⟨rfl, _, rfl⟩
def gapS (n f i j s : Nat) : Nat := gapF (middleF n f i j) (middleF n (nb n f i j s).1 (nb n f i j s).2.1 (nb n f i j s).2.2.1)
theorem nbT_lt (f s : Nat) : (nbT f s).1 < 6 ∧ (nbT f s).2.1 < 4 := by
  unfold nbT
  split <;> decide
theorem putS_lt {n k b : Nat} (hk : k < n) : (putS n k b).1 < n ∧ (putS n k b).2 < n := by
  unfold putS
  split <;> dsimp only <;> omega
theorem nb_lt {n f i j s : Nat} (hf : f < 6) (hi : i < n) (hj : j < n) : (nb n f i j s).1 < 6 ∧ (nb n f i j s).2.1 < n ∧ (nb n f i j s).2.2.1 < n ∧ (nb n f i j s).2.2.2 < 4 := by
  have key : ∀ s, (nbE n f i j s).1 < 6 ∧ (nbE n f i j s).2.1 < n ∧ (nbE n f i j s).2.2.1 < n ∧ (nbE n f i j s).2.2.2 < 4 := by
    intro s
    have h1 : flipK n (alongS i j s) (nbT f s).2.2 < n := by
      have : alongS i j s < n := by unfold alongS; split <;> assumption
      unfold flipK; split <;> omega
    have h2 := putS_lt (b := (nbT f s).2.1) h1
    exact ⟨(nbT_lt f s).1, h2.1, h2.2, (nbT_lt f s).2⟩
  unfold nb
  split <;> split <;> first | exact key _ | (dsimp only; omega)
theorem ggap_in (n f i j s : Nat) (h1 : 1 ≤ n) (h2 : n ≤ 32) (hf : f < 6) (hi : i < n) (hj : j < n) (hs : s < 4) (x : List Blk) : COk Tryz.prog 3 55 [I n, I (cellN n f i j), I s] (GG x) (F (gapS n f i j s)) (GG x) := by
  refine lift ?_ rfl x
  obtain ⟨k1, k2, k3, _⟩ := nb_lt (s := s) hf hi hj
  refine COk_quiet Tryz.f55 Tryz.func55 (by kernel_rfl) rfl ?_
  conv => whnf
  refine ⟨_, _, beside_ok n f i j s h1 h2 hf hi hj hs _, ?_⟩
  conv => whnf
  refine ⟨_, _, middle_in n f i j h1 h2 hf hi hj _, ?_⟩
  conv => whnf
  refine ⟨_, _, middle_in n _ _ _ h1 h2 k1 k2 k3 _, ?_⟩
  conv => whnf
  refine ⟨_, _, vgap_ok ⟨_, _, _⟩ ⟨_, _, _⟩ _, ?_⟩
  conv => whnf
  exact ⟨rfl, _, rfl⟩
end Go.Proofs.YtgoljofmbidkfaaGreatDoor
/- Package geom: areas. No condition. -/
namespace Go.Proofs.YtgoljofmbidkfaaGreatDoor
open Go Go.Eng
set_option maxRecDepth 100000
set_option linter.unusedSimpArgs false
set_option linter.unusedVariables false

theorem frombitsZ_ok (z : Int) (m : List Blk) : COk Tryz.prog 3 132 [U z] m (F z.toNat) m := by
  refine COk_ext fun n g w xs h => ?_
  obtain ⟨y, ys, rfl, rfl, rfl⟩ := h
  refine ⟨.float .f64 z.toNat, w, by kernel_rfl, ⟨z.toNat, rfl, rfl⟩, Drew.refl w⟩
def absB (b : Nat) : Nat := (bitV .andNot .u64 b 9223372036854775808).toNat
theorem abs_ok (b : Nat) (m : List Blk) : COk Tryz.prog 3 144 [F b] m (F (absB b)) m := by
  refine COk_quiet Tryz.f144 Tryz.func144 (by kernel_rfl) rfl ?_
  conv => whnf
  refine ⟨_, _, f64bits_ok _ _, ?_⟩
  conv => whnf
  refine ⟨_, _, frombitsZ_ok _ _, ?_⟩
  conv => whnf
  exact ⟨rfl, [], by simp⟩
def floorB (b : Nat) : Nat := f64.write ((f64.read b).integral .down)
theorem archfloor_ok (b : Nat) (hb : (f64.read b).isNaN = false) (m : List Blk) : COk Tryz.prog 3 179 [F b] m (F (floorB b)) m := by
  refine COk_ext fun n g w xs h => ?_
  obtain ⟨y, ys, rfl, ⟨c, rfl, rfl⟩, rfl⟩ := h
  have key : (callFunc 179 #[.float .f64 c]).run Tryz.prog w = ((match f64.read c with
    | .nan s t =>
      if FloatKind.f64.format.quiet t = t then (pure (.float .f64 c) : Sem Value) else do
      let kept ← choose (.extern "math.Floor,Ceil,Trunc,RoundToEven.signallingNaN kept" 2)
      pure (.float .f64 (if kept == 1 then c else FloatKind.f64.encode (.nan s (FloatKind.f64.format.quiet t))))
    | d => pure (.float .f64 (FloatKind.f64.encode (d.integral .down)))) >>= fun v => (pure (Next.value v) : Sem Next)).run Tryz.prog w := by kernel_rfl
  show ∃ x w', (callFunc 179 #[.float .f64 c]).run Tryz.prog w = _ ∧ _
  rw [key, Sem.run_bind]
  refine ⟨.float .f64 (floorB c), w, ?_, ⟨_, rfl, rfl⟩, .refl w⟩
  unfold floorB
  cases hr : f64.read c with
  | nan s t => rw [hr] at hb; exact nomatch hb
  | number s a b => rfl
  | infinity s => rfl
theorem floor_ok (b : Nat) (hb : (f64.read b).isNaN = false) (m : List Blk) : COk Tryz.prog 3 164 [F b] m (F (floorB b)) m := by
  refine COk_quiet Tryz.f164 Tryz.func164 (by kernel_rfl) rfl ?_
  conv => whnf
  refine ⟨_, _, archfloor_ok b hb _, ?_⟩
  conv => whnf
  exact ⟨rfl, [], by simp⟩
abbrev halfB : Nat := 4602678819172646912
def nearR (b fl : Nat) (n : Int) : Int :=
  if fgt (fsub (some b) (some fl)) (some halfB) = true then IntKind.u64.wrap (n + 1)
  else if feq (fsub (some b) (some fl)) (some halfB) = true then (if n.tmod 2 = 1 then IntKind.u64.wrap (n + 1) else n) else n
theorem near_ok (b : Nat) (n : Int) (hb : (f64.read b).isNaN = false) (hn : fToI (some (floorB b)) .u64 = some n) (m : List Blk) : COk Tryz.prog 3 145 [F b] m (U (nearR b (floorB b) n)) m := by
  refine COk_quiet Tryz.f145 Tryz.func145 (by kernel_rfl) rfl ?_
  conv => whnf
  refine ⟨_, _, floor_ok b hb _, ?_⟩
  conv => whnf
  refine ⟨n, hn, ?_⟩
  conv => whnf
  refine br_intro (fun h => ?_) (fun h => ?_) <;> conv => whnf
  · exact ⟨by rw [nearR, if_pos h], [], by simp⟩
  refine br_intro (fun h2 => ?_) (fun h2 => ?_) <;> conv => whnf
  · refine br_intro (fun h3 => ?_) (fun h3 => ?_) <;> conv => whnf
    · exact ⟨by rw [nearR, if_neg (by rw [h]; decide), if_pos h2, if_pos (by simpa using h3)], [], by simp⟩
    · exact ⟨by rw [nearR, if_neg (by rw [h]; decide), if_pos h2, if_neg (by simpa using h3)], [], by simp⟩
  · exact ⟨by rw [nearR, if_neg (by rw [h]; decide), if_neg (by rw [h2]; decide)], [], by simp⟩
abbrev wholeB : Nat := 4890909195324358656
/-- Round, of what is less than 2^63. -/
def roundO (b : Nat) : Option Int :=
  match (f64.read (absB b)).isNaN, flt (some (absB b)) (some wholeB), fToI (some (floorB (absB b))) .u64 with
  | false, true, some n => some (if flt (some b) (some 0) = true then IntKind.i64.wrap (0 - IntKind.i64.wrap (nearR (absB b) (floorB (absB b)) n)) else IntKind.i64.wrap (nearR (absB b) (floorB (absB b)) n))
  | _, _, _ => none
theorem round_ok (b : Nat) (v : Int) (h : roundO b = some v) (m : List Blk) : COk Tryz.prog 3 149 [F b] m (.tup [I v, Bo true]) m := by
  unfold roundO at h
  split at h
  · rename_i n h1 h2 h3
    refine COk_quiet Tryz.f149 Tryz.func149 (by kernel_rfl) rfl ?_
    conv => whnf
    refine ⟨_, _, abs_ok b _, ?_⟩
    conv => whnf
    refine br_yes h2 ?_
    conv => whnf
    refine ⟨_, _, near_ok _ n h1 h3 _, ?_⟩
    conv => whnf
    injection h with h
    refine br_intro (fun h4 => ?_) (fun h4 => ?_) <;> conv => whnf
    · rw [if_pos h4] at h
      exact ⟨by rw [← h], [], by simp⟩
    · rw [if_neg (by rw [h4]; decide)] at h
      exact ⟨by rw [← h], [], by simp⟩
  · exact nomatch h
def areaX (p0 p1 p2 p3 : W) : Nat := lenF (crossF (minusF p2 p0) (minusF p3 p1))
abbrev unitB : Nat := 4742290407621132288
def areaY (p0 p1 p2 p3 : W) : Option Nat := fmul (fmul (some (areaX p0 p1 p2 p3)) (some halfB)) (some unitB)
def areaOf (p0 p1 p2 p3 : W) : Option Int := (areaY p0 p1 p2 p3).bind fun b => (roundO b).map fun v => if 1 > v then 1 else v
def areaO (n f i j : Nat) : Option Int := areaOf (cornerF n f i j) (cornerF n f (i + 1) j) (cornerF n f (i + 1) (j + 1)) (cornerF n f i (j + 1))
theorem bits_ok (b : Nat) (m : List Blk) : COk Tryz.prog 3 39 [F b] m (U b) m := by
  refine COk_quiet Tryz.f39 Tryz.func39 (by kernel_rfl) rfl ?_
  conv => whnf
  refine ⟨_, _, f64bits_ok _ _, ?_⟩
  conv => whnf
  exact ⟨rfl, [], by simp⟩
end Go.Proofs.YtgoljofmbidkfaaGreatDoor
/- Floats that are whole; areas of every cell, whatever they come to. No condition. -/
namespace Go.Proofs.YtgoljofmbidkfaaGreatDoor
open Go Go.Eng
set_option maxRecDepth 100000
set_option linter.unusedSimpArgs false
set_option linter.unusedVariables false

theorem least_eq : f64.leastPlace = -1074 := by decide
theorem frac_eq : f64.fractionBits = 52 := by decide
theorem cut_zero (way : Ieee.Toward) (neg : Bool) (n : Nat) : way.cut neg n 0 = n := by
  unfold Ieee.Toward.cut
  simp only [Nat.zero_min, Nat.shiftLeft_zero, Nat.div_one, Nat.mod_one]
  cases way <;> cases neg <;> simp
/-- What a rung of the normal numbers stands for. -/
theorem dat_normal (e K : Nat) (h1 : 4503599627370496 ≤ K) (h2 : K < 9007199254740992) (he : e ≤ 2045) : dat false (e * 4503599627370496 + K) = .number false K (-1074 + e) := by
  unfold dat
  rw [binade_eq, infR_eq, least_eq, if_neg (by omega), if_pos (by omega)]
  have d1 : (e * 4503599627370496 + K) / 4503599627370496 = e + 1 := by omega
  have d2 : (e * 4503599627370496 + K) % 4503599627370496 = K - 4503599627370496 := by omega
  rw [d1, d2, show 4503599627370496 + (K - 4503599627370496) = K by omega, show (-1074 : Int) + ((e + 1 - 1 : Nat) : Int) = -1074 + (e : Int) by omega]
theorem nearest_small {N : Nat} (h0 : 0 < N) (h : N < 9007199254740992) : f64.nearest false N 0 = (1022 + N.log2) * 4503599627370496 + N * 2 ^ (52 - N.log2) ∧
    4503599627370496 ≤ N * 2 ^ (52 - N.log2) ∧ N * 2 ^ (52 - N.log2) < 9007199254740992 ∧ N.log2 ≤ 52 := by
  have hL : N.log2 ≤ 52 := by
    have := (Nat.log2_lt (n := N) (k := 53) (by omega)).2 (by omega)
    omega
  have l1 := Nat.log2_self_le (n := N) (by omega)
  have l2 := @Nat.lt_log2_self N
  have b1 : 4503599627370496 ≤ N * 2 ^ (52 - N.log2) := by
    have : 2 ^ N.log2 * 2 ^ (52 - N.log2) = 4503599627370496 := by rw [← Nat.pow_add, show N.log2 + (52 - N.log2) = 52 by omega]
    rw [← this]
    exact Nat.mul_le_mul_right _ l1
  have b2 : N * 2 ^ (52 - N.log2) < 9007199254740992 := by
    have : 2 ^ (N.log2 + 1) * 2 ^ (52 - N.log2) = 9007199254740992 := by rw [← Nat.pow_add, show N.log2 + 1 + (52 - N.log2) = 53 by omega]
    rw [← this]
    exact Nat.mul_lt_mul_of_pos_right l2 (Nat.pow_pos (by decide))
  refine ⟨?_, b1, b2, hL⟩
  unfold Ieee.Format.nearest
  rw [if_neg (by omega)]
  have e1 : max ((0 : Int) + N.log2 - (f64.fractionBits : Int)) f64.leastPlace = (N.log2 : Int) - 52 := by
    rw [frac_eq, least_eq]; omega
  simp only [e1]
  have e2 : ((0 : Int) - ((N.log2 : Int) - 52)).toNat = 52 - N.log2 := by omega
  have e3 : ((N.log2 : Int) - 52 - 0).toNat = 0 := by omega
  have e4 : ((N.log2 : Int) - 52 - f64.leastPlace).toNat = 1022 + N.log2 := by rw [least_eq]; omega
  rw [e2, e3, e4, cut_zero, Nat.shiftLeft_eq, binade_eq]
  have e5 : f64.infRung = 9218868437227405312 := infR_eq
  rw [e5, Nat.min_eq_left (by omega)]
  rfl
theorem cut_small {K d : Nat} (h1 : 4503599627370496 ≤ K) (h2 : K < 9007199254740992) (hd : d ≤ 52) (way : Ieee.Toward) (hw : way = .zero ∨ way = .down) : way.cut false K d = K / 2 ^ d := by
  unfold Ieee.Toward.cut
  have hl : K.log2 = 52 := (Nat.log2_eq_iff (by omega)).2 ⟨by omega, by omega⟩
  rw [hl, Nat.min_eq_left (by omega), Nat.shiftLeft_eq, Nat.one_mul]
  rcases hw with rfl | rfl <;> simp
theorem toI_of {R n : Nat} (hR : R < 2 ^ 63) (h : (dat false R).toInt .zero = some (n : Int)) (hn : n < 18446744073709551616) : fToI (some R) .u64 = some (n : Int) := by
  have hdec : FloatKind.decode .f64 R = dat false R := read_wd false hR
  show floatToIntVal .f64 R .u64 = some (n : Int)
  unfold floatToIntVal
  rw [hdec, h]
  have e1 : IntKind.min .u64 = 0 := by decide
  have e2 : IntKind.max .u64 = 18446744073709551615 := by decide
  simp only [e1, e2]
  rw [if_pos (by omega)]
/-- A whole number below 2^53, as a float, is that number again. -/
theorem toI_small {N : Nat} (h : N < 9007199254740992) : fToI (some (f64.nearest false N 0)) .u64 = some (N : Int) := by
  rcases Nat.eq_zero_or_pos N with rfl | h0
  · have e : f64.nearest false 0 0 = 0 := by unfold Ieee.Format.nearest; rw [if_pos rfl]; rfl
    rw [e]
    refine toI_of (by decide) ?_ (by omega)
    rw [dat_0]
    unfold Ieee.Datum.toInt Ieee.Datum.integral
    simp only
    rw [least_eq]
    simp [Ieee.Toward.cut, Ieee.signed]
  · obtain ⟨h1, h2, h3, h4⟩ := nearest_small h0 h
    rw [h1]
    refine toI_of (by omega) ?_ (by omega)
    rw [dat_normal _ _ h2 h3 (by omega)]
    unfold Ieee.Datum.toInt Ieee.Datum.integral
    simp only
    have e1 : (-1074 + ((1022 + N.log2 : Nat) : Int)).toNat = 0 := by omega
    have e2 : (-(-1074 + ((1022 + N.log2 : Nat) : Int))).toNat = 52 - N.log2 := by omega
    rw [e1, e2, Nat.shiftLeft_zero, cut_small h2 h3 (by omega) _ (.inl rfl), Nat.mul_div_cancel _ (Nat.pow_pos (by decide))]
    simp [Ieee.signed]
/-- A float from 2^52 on below 2^63 is whole. -/
theorem nearest_great {m k : Nat} (h1 : 4503599627370496 ≤ m) (h2 : m < 9007199254740992) (hk : k ≤ 10) : f64.nearest false (m * 2 ^ k) 0 = (1074 + k) * 4503599627370496 + m := by
  have hp : 0 < 2 ^ k := Nat.pow_pos (by decide)
  have hne : m * 2 ^ k ≠ 0 := Nat.ne_of_gt (Nat.mul_pos (by omega) hp)
  have hL : (m * 2 ^ k).log2 = 52 + k := by
    refine (Nat.log2_eq_iff hne).2 ⟨?_, ?_⟩
    · rw [Nat.pow_add]; exact Nat.mul_le_mul_right _ (by omega)
    · rw [show 52 + k + 1 = 53 + k by omega, Nat.pow_add]; exact Nat.mul_lt_mul_of_pos_right (by omega) hp
  unfold Ieee.Format.nearest
  rw [if_neg hne]
  have e1 : max ((0 : Int) + (m * 2 ^ k).log2 - (f64.fractionBits : Int)) f64.leastPlace = (k : Int) := by
    rw [frac_eq, least_eq, hL]; omega
  simp only [e1]
  have e2 : ((0 : Int) - (k : Int)).toNat = 0 := by omega
  have e3 : ((k : Int) - 0).toNat = k := by omega
  have e4 : ((k : Int) - f64.leastPlace).toNat = 1074 + k := by rw [least_eq]; omega
  have e5 : Ieee.Toward.even.cut false (m * 2 ^ k) k = m := by
    unfold Ieee.Toward.cut
    rw [hL, Nat.min_eq_left (by omega), Nat.shiftLeft_eq, Nat.one_mul]
    simp only [Nat.mul_div_cancel _ hp, Nat.mul_mod_left]
    have : ¬ (2 ^ k < 2 * 0) := by omega
    have h' : ¬ (2 ^ k = 2 * 0) := by omega
    simp [Nat.ne_of_gt hp]
  rw [e2, e3, e4, Nat.shiftLeft_zero, e5, binade_eq]
  have e6 : f64.infRung = 9218868437227405312 := infR_eq
  rw [e6, Nat.min_eq_left (by omega)]
  rfl
theorem toI_great {m k : Nat} (h1 : 4503599627370496 ≤ m) (h2 : m < 9007199254740992) (hk : k ≤ 10) : fToI (some (f64.nearest false (m * 2 ^ k) 0)) .u64 = some ((m * 2 ^ k : Nat) : Int) := by
  have hb : m * 2 ^ k < 18446744073709551616 := by
    have : 2 ^ k ≤ 2 ^ 10 := Nat.pow_le_pow_right (by decide) hk
    have := Nat.mul_le_mul (Nat.le_of_lt h2) this
    omega
  rw [nearest_great h1 h2 hk]
  refine toI_of (by omega) ?_ hb
  rw [dat_normal _ _ h1 h2 (by omega)]
  unfold Ieee.Datum.toInt Ieee.Datum.integral
  simp only
  have e1 : (-1074 + ((1074 + k : Nat) : Int)).toNat = k := by omega
  have e2 : (-(-1074 + ((1074 + k : Nat) : Int))).toNat = 0 := by omega
  rw [e1, e2, cut_zero, Nat.shiftLeft_eq]
  simp [Ieee.signed]
/-- What lies below 2^63, rounded down, is a whole number of 64 bits. -/
theorem floor_whole {R : Nat} (hR : R < 2 ^ 63) (h : flt (some R) (some wholeB) = true) : (f64.read R).isNaN = false ∧ ∃ n : Nat, fToI (some (floorB R)) .u64 = some n := by
  have hread : f64.read R = dat false R := read_wd false hR
  have hw : f64.read wholeB = .number false 4503599627370496 11 := by
    rw [show wholeB = wd false 4890909195324358656 from rfl, read_wd false (by decide), show (4890909195324358656 : Nat) = 1085 * 4503599627370496 + 4503599627370496 by decide, dat_normal _ _ (by decide) (by decide) (by decide)]
    rfl
  have ho : (dat false R).order (.number false 4503599627370496 11) = some .lt := by
    have h2 : (f64.order R wholeB == some .lt) = true := h
    have : f64.order R wholeB = some .lt := by simpa using h2
    unfold Ieee.Format.order at this
    rwa [hread, hw] at this
  have hlt : R < infR := by
    rcases Nat.lt_trichotomy R infR with h1 | h1 | h1
    · exact h1
    · exfalso
      have : dat false R = .infinity false := by
        unfold dat
        rw [if_neg (by rw [binade_eq]; rw [infR_eq] at h1; omega), if_neg (by omega), if_pos h1]
      rw [this] at ho
      exact nomatch ho
    · exfalso
      have : dat false R = .nan false (R - infR) := by
        unfold dat
        rw [if_neg (by rw [binade_eq]; rw [infR_eq] at h1; omega), if_neg (by omega), if_neg (by omega)]
      rw [this] at ho
      exact nomatch ho
  refine ⟨by rw [hread]; exact dat_nan false (by omega), ?_⟩
  unfold floorB
  rw [hread]
  rcases Nat.lt_or_ge R f64.binade with h1 | h1
  · have e : dat false R = .number false R f64.leastPlace := by unfold dat; rw [if_pos h1]
    rw [e]
    have e2 : (Ieee.Datum.number false R f64.leastPlace).integral .down = .number false (Ieee.Toward.down.cut false R 1074) 0 := by
      unfold Ieee.Datum.integral
      rw [least_eq]
      rfl
    rw [e2]
    have hle : Ieee.Toward.down.cut false R 1074 ≤ R := by
      unfold Ieee.Toward.cut
      simp only [Bool.false_and, Bool.toNat_false, Nat.add_zero]
      exact Nat.div_le_self _ _
    rw [binade_eq] at h1
    exact ⟨_, toI_small (by omega)⟩
  · have hK : ∃ e K, R = e * 4503599627370496 + K ∧ 4503599627370496 ≤ K ∧ K < 9007199254740992 := by
      rw [binade_eq] at h1
      refine ⟨R / 4503599627370496 - 1, R % 4503599627370496 + 4503599627370496, by omega, by omega, by omega⟩
    obtain ⟨e, K, rfl, hK1, hK2⟩ := hK
    have he : e ≤ 2045 := by rw [infR_eq] at hlt; omega
    rw [dat_normal e K hK1 hK2 he] at ho ⊢
    rcases Nat.lt_or_ge e 1074 with h3 | h3
    · have e2 : (Ieee.Datum.number false K (-1074 + (e : Int))).integral .down = .number false (Ieee.Toward.down.cut false K (1074 - e)) 0 := by
        unfold Ieee.Datum.integral
        simp only
        rw [show (-1074 + (e : Int)).toNat = 0 by omega, show (-(-1074 + (e : Int))).toNat = 1074 - e by omega, Nat.shiftLeft_zero]
      rw [e2]
      have hle : Ieee.Toward.down.cut false K (1074 - e) ≤ K := by
        unfold Ieee.Toward.cut
        simp only [Bool.false_and, Bool.toNat_false, Nat.add_zero]
        exact Nat.div_le_self _ _
      exact ⟨_, toI_small (by omega)⟩
    · have hk : e - 1074 ≤ 10 := by
        apply Classical.byContradiction
        intro hk
        unfold Ieee.Datum.order at ho
        simp only at ho
        have hb : min (-1074 + (e : Int)) 11 = 11 := by omega
        rw [hb] at ho
        have hs : (compare (Ieee.signed false K ((-1074 + (e : Int)) - 11).toNat) (Ieee.signed false 4503599627370496 ((11 : Int) - 11).toNat)) ≠ .lt := by
          simp only [Ieee.signed, Bool.false_eq_true, if_false]
          rw [show ((11 : Int) - 11).toNat = 0 by omega, Nat.shiftLeft_zero, Nat.shiftLeft_eq]
          have : 4503599627370496 ≤ K * 2 ^ ((-1074 + (e : Int)) - 11).toNat := Nat.le_trans hK1 (Nat.le_mul_of_pos_right _ (Nat.pow_pos (by decide)))
          intro hc
          rw [Int.compare_eq_lt] at hc
          omega
        exact hs (Option.some.inj ho)
      have e2 : (Ieee.Datum.number false K (-1074 + (e : Int))).integral .down = .number false (K * 2 ^ (e - 1074)) 0 := by
        unfold Ieee.Datum.integral
        simp only
        rw [show (-1074 + (e : Int)).toNat = e - 1074 by omega, show (-(-1074 + (e : Int))).toNat = 0 by omega, cut_zero, Nat.shiftLeft_eq]
      rw [e2]
      exact ⟨_, toI_great hK1 hK2 hk⟩

/-! ### Areas, whatever they come to -/
theorem absB_lt (b : Nat) (hb : b < 2 ^ 64) : absB b < 2 ^ 63 ∧ absB b = b % 2 ^ 63 := by
  have e : absB b = (BitVec.ofNat 64 b &&& ~~~(BitVec.ofNat 64 9223372036854775808)).toNat := by
    have h3 := (BitVec.ofNat 64 b &&& ~~~(BitVec.ofNat 64 9223372036854775808)).isLt
    have h4 : bitV .andNot .u64 (b : Int) 9223372036854775808 = IntKind.u64.wrap (((BitVec.ofNat 64 b &&& ~~~(BitVec.ofNat 64 9223372036854775808)).toNat : Nat) : Int) := by
      show IntKind.u64.wrap ((BitVec.ofInt 64 (b : Int) &&& ~~~(BitVec.ofInt 64 9223372036854775808)).toNat : Int) = _
      rw [show BitVec.ofInt 64 (b : Int) = BitVec.ofNat 64 b from BitVec.ofInt_natCast .., show BitVec.ofInt 64 9223372036854775808 = BitVec.ofNat 64 9223372036854775808 from by decide]
    unfold absB
    rw [h4, wrap_u (Int.natCast_nonneg _) (by omega)]
    exact Int.toNat_natCast _
  have e2 : (BitVec.ofNat 64 b &&& ~~~(BitVec.ofNat 64 9223372036854775808)).toNat = b % 2 ^ 63 := by
    rw [BitVec.toNat_and]
    have : (~~~(BitVec.ofNat 64 9223372036854775808)).toNat = 2 ^ 63 - 1 := by decide
    rw [this, BitVec.toNat_ofNat, Nat.and_two_pow_sub_one_eq_mod]
    omega
  rw [e, e2]
  exact ⟨by omega, rfl⟩
def roundT (o : Option Nat) : Int :=
  match o with
  | none => 0
  | some b => match roundO b with
    | some v => v
    | none => if feq (some b) (some 14114281232179134464) = true then -9223372036854775808 else 0
theorem round_far (b : Nat) (h : flt (some (absB b)) (some wholeB) = false) (m : List Blk) : COk Tryz.prog 3 149 [F b] m (.tup [I (if feq (some b) (some 14114281232179134464) = true then -9223372036854775808 else 0), Bo (feq (some b) (some 14114281232179134464))]) m := by
  refine COk_quiet Tryz.f149 Tryz.func149 (by kernel_rfl) rfl ?_
  conv => whnf
  refine ⟨_, _, abs_ok b _, ?_⟩
  conv => whnf
  refine br_no h ?_
  conv => whnf
  refine br_intro (fun h2 => ?_) (fun h2 => ?_) <;> conv => whnf
  · exact ⟨by rw [if_pos h2, h2], [], by simp⟩
  · exact ⟨by rw [if_neg (by rw [h2]; decide), h2], [], by simp⟩
theorem round_nan (b : Nat) (hb : nanB b) (m : List Blk) : COk Tryz.prog 3 149 [F b] m (.tup [I 0, Bo false]) m := by
  have h1 : flt (some (absB b)) (some wholeB) = false := by
    have hn : nanB (absB b) := by
      obtain ⟨e1, e2⟩ := absB_lt b hb.1
      have h2 := hb.2
      have e3 : f64.signWeight = 2 ^ 63 := by decide
      rw [e3] at h2
      refine ⟨by omega, ?_⟩
      rw [e3, e2]
      omega
    show (f64.order (absB b) wholeB == some .lt) = false
    rw [order_nan_l _ _ hn]; rfl
  have h2 : feq (some b) (some 14114281232179134464) = false := by
    show (f64.order b 14114281232179134464 == some .eq) = false
    rw [order_nan_l _ _ hb]; rfl
  have := round_far b h1 m
  rwa [h2, if_neg (by decide)] at this
theorem round_all (o : Option Nat) (hb : ∀ b, o = some b → b < 2 ^ 64) : ∃ ok, ∀ m, COk Tryz.prog 3 149 [.fl o] m (.tup [I (roundT o), Bo ok]) m := by
  cases o with
  | none => exact ⟨false, fun m => COk_bits [] (fun b hn => round_nan b hn m)⟩
  | some b =>
    cases hr : roundO b with
    | some v => exact ⟨true, fun m => by rw [show roundT (some b) = v by simp only [roundT, hr]]; exact round_ok b v hr m⟩
    | none =>
      have hlt := hb b rfl
      have h : flt (some (absB b)) (some wholeB) = false := by
        cases hf : flt (some (absB b)) (some wholeB) with
        | false => rfl
        | true =>
          exfalso
          obtain ⟨h1, n, h2⟩ := floor_whole (absB_lt b hlt).1 hf
          unfold roundO at hr
          rw [h1, hf, h2] at hr
          exact nomatch hr
      exact ⟨_, fun m => by rw [show roundT (some b) = if feq (some b) (some 14114281232179134464) = true then -9223372036854775808 else 0 by simp only [roundT, hr]]; exact round_far b h m⟩
theorem write_lt (d : Ieee.Datum) : f64.write d < 2 ^ 64 := by
  have h63 : infR < 2 ^ 63 := by decide
  have hw : ∀ s R, R ≤ infR → wd s R < 2 ^ 64 := by
    intro s R hR
    cases s
    · rw [wd_false]; omega
    · rw [wd_true]; omega
  cases d with
  | number s m e => show f64.nearest s m e < _; rw [nearest_sign]; exact hw s _ (nearest_le m e)
  | infinity s => exact hw s infR (Nat.le_refl _)
  | nan s t =>
    show wd s (infR + t % f64.binade) < _
    have h1 : t % f64.binade < f64.binade := Nat.mod_lt _ (by rw [binade_eq]; decide)
    rw [binade_eq] at h1 ⊢
    have h2 : infR = 9218868437227405312 := infR_eq
    cases s
    · rw [wd_false]; omega
    · rw [wd_true]; omega
theorem fmul_lt {a b : Option Nat} {c : Nat} (h : fmul a b = some c) : c < 2 ^ 64 := by
  cases a with
  | none => exact nomatch h
  | some a =>
    cases b with
    | none => exact nomatch h
    | some b =>
      have h : ((f64.read a).product (f64.read b)).map f64.write = some c := h
      cases hp : (f64.read a).product (f64.read b) with
      | none => rw [hp] at h; exact nomatch h
      | some d => rw [hp] at h; cases h; exact write_lt d
/-- A cell's area. -/
def areaT (n f i j : Nat) : Int :=
  let v := roundT (areaY (cornerF n f i j) (cornerF n f (i + 1) j) (cornerF n f (i + 1) (j + 1)) (cornerF n f i (j + 1)))
  if 1 > v then 1 else v
theorem area_at (n f i j : Nat) (h1 : 1 ≤ n) (h2 : n ≤ 32) (hf : f < 6) (hi : i < n) (hj : j < n) (x : List Blk) : COk Tryz.prog 3 110 [I n, I (cellN n f i j)] (GG x) (I (areaT n f i j)) (GG x) := by
  refine lift ?_ rfl x
  obtain ⟨ok, hr⟩ := round_all (areaY (cornerF n f i j) (cornerF n f (i + 1) j) (cornerF n f (i + 1) (j + 1)) (cornerF n f i (j + 1))) (fun b hb => fmul_lt hb)
  refine COk_quiet Tryz.f110 Tryz.func110 (by kernel_rfl) rfl ?_
  conv => whnf
  refine ⟨_, _, corners_in n f i j h1 h2 hf hi hj _, ?_⟩
  conv => whnf
  refine ⟨_, minus_ok (cornerF n f (i + 1) (j + 1)) (cornerF n f i j) _, ?_⟩
  conv => whnf
  refine ⟨_, minus_ok (cornerF n f i (j + 1)) (cornerF n f (i + 1) j) _, ?_⟩
  conv => whnf
  refine ⟨_, vcross_ok (minusF (cornerF n f (i + 1) (j + 1)) (cornerF n f i j)) (minusF (cornerF n f i (j + 1)) (cornerF n f (i + 1) j)) _, ?_⟩
  conv => whnf
  refine ⟨_, length_ok (crossF (minusF (cornerF n f (i + 1) (j + 1)) (cornerF n f i j)) (minusF (cornerF n f i (j + 1)) (cornerF n f (i + 1) j))) _, ?_⟩
  conv => whnf
  refine ⟨_, _, hr _, ?_⟩
  conv => whnf
  exact ⟨rfl, _, rfl⟩
end Go.Proofs.YtgoljofmbidkfaaGreatDoor
/- The neighbours of a cell: back again, and apart. No condition. -/
namespace Go.Proofs.YtgoljofmbidkfaaGreatDoor
open Go Go.Eng
set_option maxRecDepth 100000
set_option linter.unusedSimpArgs false
set_option linter.unusedVariables false

/-! ### Beside, and back -/
theorem nbT_back : ∀ f, f < 6 → ∀ s, s < 4 → nbT (nbT f s).1 (nbT f s).2.1 = (f, s, (nbT f s).2.2) ∧ (nbT f s).1 ≠ f ∧ (nbT f s).1 ≠ (nbT f ((s + 2) % 4)).1 := by decide
theorem flip_flip {n k : Nat} (h : k < n) (b : Bool) : flipK n (flipK n k b) b = k := by
  cases b
  · rfl
  · show n - 1 - (n - 1 - k) = k; omega
theorem flip_lt {n k : Nat} (h : k < n) (b : Bool) : flipK n k b < n := by
  cases b
  · exact h
  · show n - 1 - k < n; omega
theorem along_put (n k s : Nat) (hs : s < 4) : alongS (putS n k s).1 (putS n k s).2 s = k := by
  obtain rfl | rfl | rfl | rfl : s = 0 ∨ s = 1 ∨ s = 2 ∨ s = 3 := by omega
  all_goals rfl
/-- Is the cell at the face's edge, on this side? -/
def atE (n i j : Nat) : Nat → Prop
  | 0 => i + 1 = n
  | 1 => j + 1 = n
  | 2 => i = 0
  | _ => j = 0
theorem put_along {n i j s : Nat} (h : atE n i j s) (hs : s < 4) : putS n (alongS i j s) s = (i, j) := by
  obtain rfl | rfl | rfl | rfl : s = 0 ∨ s = 1 ∨ s = 2 ∨ s = 3 := by omega
  · have h : i + 1 = n := h
    show (n - 1, j) = _
    rw [← h]; rfl
  · have h : j + 1 = n := h
    show (i, n - 1) = _
    rw [← h]; rfl
  · have h : i = 0 := h
    show (0, j) = _
    rw [h]
  · have h : j = 0 := h
    show (i, 0) = _
    rw [h]
theorem atE_put {n k s : Nat} (hk : k < n) (hs : s < 4) : atE n (putS n k s).1 (putS n k s).2 s := by
  obtain rfl | rfl | rfl | rfl : s = 0 ∨ s = 1 ∨ s = 2 ∨ s = 3 := by omega
  · show n - 1 + 1 = n; omega
  · show n - 1 + 1 = n; omega
  · rfl
  · rfl
theorem nb_at {n f i j s : Nat} (h : atE n i j s) (hs : s < 4) : nb n f i j s = nbE n f i j s := by
  obtain rfl | rfl | rfl | rfl : s = 0 ∨ s = 1 ∨ s = 2 ∨ s = 3 := by omega
  · have h : i + 1 = n := h; exact if_neg (by omega)
  · have h : j + 1 = n := h; exact if_neg (by omega)
  · have h : i = 0 := h; exact if_neg (by omega)
  · have h : j = 0 := h; exact if_neg (by omega)
theorem nbE_back {n f i j s : Nat} (hf : f < 6) (hi : i < n) (hj : j < n) (hs : s < 4) (h : atE n i j s) :
    nb n (nbE n f i j s).1 (nbE n f i j s).2.1 (nbE n f i j s).2.2.1 (nbE n f i j s).2.2.2 = (f, i, j, s) := by
  obtain ⟨h1, _, _⟩ := nbT_back f hf s hs
  have ha : alongS i j s < n := by unfold alongS; split <;> assumption
  have hb : (nbT f s).2.1 < 4 := (nbT_lt f s).2
  have hk := flip_lt ha (nbT f s).2.2
  show nb n (nbT f s).1 (putS n (flipK n (alongS i j s) (nbT f s).2.2) (nbT f s).2.1).1 (putS n (flipK n (alongS i j s) (nbT f s).2.2) (nbT f s).2.1).2 (nbT f s).2.1 = _
  rw [nb_at (atE_put hk hb) hb]
  unfold nbE
  rw [along_put n _ _ hb, h1]
  simp only
  rw [flip_flip ha, put_along h hs]
theorem nb_back {n f i j s : Nat} (hf : f < 6) (hi : i < n) (hj : j < n) (hs : s < 4) :
    nb n (nb n f i j s).1 (nb n f i j s).2.1 (nb n f i j s).2.2.1 (nb n f i j s).2.2.2 = (f, i, j, s) := by
  by_cases h : atE n i j s
  · rw [nb_at h hs]; exact nbE_back hf hi hj hs h
  · obtain rfl | rfl | rfl | rfl : s = 0 ∨ s = 1 ∨ s = 2 ∨ s = 3 := by omega
    · have h : ¬ i + 1 = n := h
      rw [show nb n f i j 0 = (f, i + 1, j, 2) from if_pos (by omega)]
      show nb n f (i + 1) j 2 = _
      rw [show nb n f (i + 1) j 2 = (f, i + 1 - 1, j, 0) from rfl, show i + 1 - 1 = i by omega]
    · have h : ¬ j + 1 = n := h
      rw [show nb n f i j 1 = (f, i, j + 1, 3) from if_pos (by omega)]
      show nb n f i (j + 1) 3 = _
      rw [show nb n f i (j + 1) 3 = (f, i, j + 1 - 1, 1) from rfl, show j + 1 - 1 = j by omega]
    · have h : ¬ i = 0 := h
      rw [show nb n f i j 2 = (f, i - 1, j, 0) from if_pos (by omega)]
      show nb n f (i - 1) j 0 = _
      rw [show nb n f (i - 1) j 0 = (f, i - 1 + 1, j, 2) from if_pos (by omega), show i - 1 + 1 = i by omega]
    · have h : ¬ j = 0 := h
      rw [show nb n f i j 3 = (f, i, j - 1, 1) from if_pos (by omega)]
      show nb n f i (j - 1) 1 = _
      rw [show nb n f i (j - 1) 1 = (f, i, j - 1 + 1, 3) from if_pos (by omega), show j - 1 + 1 = j by omega]
theorem nb_cell {n f i j s : Nat} (hf : f < 6) (hi : i < n) (hj : j < n) (hs : s < 4) : ((nb n f i j s).1, (nb n f i j s).2.1, (nb n f i j s).2.2.1) ≠ (f, i, j) ∧
    ((nb n f i j s).1, (nb n f i j s).2.1, (nb n f i j s).2.2.1) ≠ ((nb n f i j ((s + 2) % 4)).1, (nb n f i j ((s + 2) % 4)).2.1, (nb n f i j ((s + 2) % 4)).2.2.1) := by
  have hT := nbT_back f hf s hs
  have hT2 := nbT_back f hf ((s + 2) % 4) (by omega)
  have hfe : ∀ s, (nbE n f i j s).1 = (nbT f s).1 := fun _ => rfl
  have hcase : ∀ s, s < 4 → (nb n f i j s).1 = (nbT f s).1 ∧ atE n i j s ∨ (nb n f i j s).1 = f ∧ ¬ atE n i j s ∧ (nb n f i j s).2.1 + (nb n f i j s).2.2.1 ≠ i + j ∧ ((s = 0 ∨ s = 1) → (nb n f i j s).2.1 + (nb n f i j s).2.2.1 = i + j + 1) ∧ ((s = 2 ∨ s = 3) → (nb n f i j s).2.1 + (nb n f i j s).2.2.1 + 1 = i + j) := by
    intro s hs
    by_cases h : atE n i j s
    · exact .inl ⟨by rw [nb_at h hs]; rfl, h⟩
    · refine .inr ?_
      obtain rfl | rfl | rfl | rfl : s = 0 ∨ s = 1 ∨ s = 2 ∨ s = 3 := by omega
      · have h' : ¬ i + 1 = n := h
        rw [show nb n f i j 0 = (f, i + 1, j, 2) from if_pos (by omega)]
        exact ⟨rfl, h, by simp only; omega, by simp only; omega, by omega⟩
      · have h' : ¬ j + 1 = n := h
        rw [show nb n f i j 1 = (f, i, j + 1, 3) from if_pos (by omega)]
        exact ⟨rfl, h, by simp only; omega, by simp only; omega, by omega⟩
      · have h' : ¬ i = 0 := h
        rw [show nb n f i j 2 = (f, i - 1, j, 0) from if_pos (by omega)]
        exact ⟨rfl, h, by simp only; omega, by omega, by simp only; omega⟩
      · have h' : ¬ j = 0 := h
        rw [show nb n f i j 3 = (f, i, j - 1, 1) from if_pos (by omega)]
        exact ⟨rfl, h, by simp only; omega, by omega, by simp only; omega⟩
  have h1 := hcase s hs
  have h2 := hcase ((s + 2) % 4) (by omega)
  refine ⟨fun e => ?_, fun e => ?_⟩
  · simp only [Prod.mk.injEq] at e
    rcases h1 with ⟨h1, _⟩ | ⟨_, _, h1, _⟩
    · rw [h1] at e; exact hT.2.1 e.1
    · omega
  · simp only [Prod.mk.injEq] at e
    rcases h1 with ⟨h1, _⟩ | ⟨h1, _, _, h3, h4⟩
    · rcases h2 with ⟨h2, _⟩ | ⟨h2, _⟩
      · rw [h1, h2] at e; exact hT.2.2 e.1
      · rw [h1, h2] at e; exact hT.2.1 e.1
    · rcases h2 with ⟨h2, _⟩ | ⟨h2, _, _, h5, h6⟩
      · rw [h1, h2] at e; exact hT2.2.1 e.1.symm
      · omega
end Go.Proofs.YtgoljofmbidkfaaGreatDoor
