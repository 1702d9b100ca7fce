/- Package cube: the contracts of its functions. No condition. -/
import Derived.Test.YtgoljofmbidkfaaGreatDoorB
namespace Go.Proofs.YtgoljofmbidkfaaGreatDoor
open Go Go.Eng
set_option maxRecDepth 100000
set_option linter.unusedSimpArgs false
set_option linter.unusedVariables false

theorem good_ok (side : Int) (m : List Blk) : COk Tryz.prog 3 109 [I side] m (Bo (decide (1 ≤ side ∧ side ≤ 32))) m := by
  refine COk_quiet Tryz.f109 Tryz.func109 (by kernel_rfl) rfl ?_
  conv => whnf
  refine br_intro ?_ ?_ <;> intro h <;> conv => whnf
  · have h1 := of_dec h
    exact ⟨by congr 1; rw [decide_eq_decide]; omega, [], by simp⟩
  · have h1 := of_ndec h
    exact ⟨by congr 1; symm; rw [decide_eq_false_iff_not]; omega, [], by simp⟩
def cellsI (side : Int) : Int := if 1 ≤ side ∧ side ≤ 32 then 6 * (side * side) else 0
theorem sq_bound {n : Int} (h1 : 0 ≤ n) (h2 : n ≤ 32) : 0 ≤ n * n ∧ n * n ≤ 1024 := by
  constructor
  · exact Int.mul_nonneg h1 h1
  · calc n * n ≤ 32 * 32 := Int.mul_le_mul h2 h2 h1 (by omega)
      _ = 1024 := by decide
theorem cells_ok (side : Int) (m : List Blk) : COk Tryz.prog 3 50 [I side] m (I (cellsI side)) m := by
  refine COk_quiet Tryz.f50 Tryz.func50 (by kernel_rfl) rfl ?_
  conv => whnf
  refine ⟨_, _, good_ok _ _, ?_⟩
  conv => whnf
  refine br_intro ?_ ?_ <;> intro h <;> conv => whnf
  · refine ⟨?_, [], by simp⟩
    have h1 : ¬ (1 ≤ side ∧ side ≤ 32) := by
      simp only [Bool.not_eq_true', decide_eq_false_iff_not] at h; exact h
    rw [cellsI, if_neg h1]
  · refine ⟨?_, [], by simp⟩
    have h1 : 1 ≤ side ∧ side ≤ 32 := by simpa using h
    have h2 := sq_bound (n := side) (by omega) h1.2
    have e : 6 * side * side = 6 * (side * side) := by rw [Int.mul_assoc]
    rw [cellsI, if_pos h1, wrap_id (n := 6 * side) (by omega) (by omega), e, wrap_id (by omega) (by omega)]
/-- The number of a cell. -/
def cellN (n f i j : Nat) : Nat := (f * n + j) * n + i
theorem cellN_lt {n f i j : Nat} (hf : f < 6) (hi : i < n) (hj : j < n) : cellN n f i j < 6 * (n * n) := by
  unfold cellN
  have h1 : f * n + j < 6 * n := by
    calc f * n + j < f * n + n := by omega
      _ = (f + 1) * n := by rw [Nat.add_mul, Nat.one_mul]
      _ ≤ 6 * n := Nat.mul_le_mul_right n (by omega)
  calc (f * n + j) * n + i < (f * n + j) * n + n := by omega
    _ = (f * n + j + 1) * n := by rw [Nat.add_mul (f * n + j) 1, Nat.one_mul]
    _ ≤ 6 * n * n := Nat.mul_le_mul_right n (by omega)
    _ = 6 * (n * n) := Nat.mul_assoc ..
theorem cell_in (n f i j : Nat) (hn : 1 ≤ n) (hn' : n ≤ 32) (hf : f < 6) (hi : i < n) (hj : j < n) (m : List Blk) : COk Tryz.prog 3 98 [I n, I f, I i, I j] m (I (cellN n f i j)) m := by
  refine COk_quiet Tryz.f98 Tryz.func98 (by kernel_rfl) rfl ?_
  conv => whnf
  refine ⟨_, _, good_ok _ _, ?_⟩
  conv => whnf
  refine br_not (br_d (by omega) ?_)
  conv => whnf
  refine br_nd (by omega) ?_
  conv => whnf
  refine br_nd (by omega) ?_
  conv => whnf
  refine br_nd (by omega) ?_
  conv => whnf
  refine ⟨?_, [], by simp⟩
  have h1 : f * n ≤ 5 * 32 := Nat.mul_le_mul (by omega) hn'
  have h2 : (f * n + j) * n ≤ (5 * 32 + 32) * 32 := Nat.mul_le_mul (by omega) hn'
  have h1' : (f : Int) * n ≤ 160 := by exact_mod_cast h1
  have h1'' : (0 : Int) ≤ (f : Int) * n := by exact_mod_cast Nat.zero_le (f * n)
  have h2' : ((f : Int) * n + j) * n ≤ 6144 := by exact_mod_cast h2
  have h2'' : (0 : Int) ≤ ((f : Int) * n + j) * n := by exact_mod_cast Nat.zero_le ((f * n + j) * n)
  rw [wrap_id (n := (f : Int) * n) (by omega) (by omega), wrap_id (n := (f : Int) * n + j) (by omega) (by omega), wrap_id (n := ((f : Int) * n + j) * n) (by omega) (by omega), wrap_id (by omega) (by omega)]
  congr 1
theorem cell_at (n f i j : Nat) {a b : Int} (ha : a = i) (hb : b = j) (hn : 1 ≤ n) (hn' : n ≤ 32) (hf : f < 6) (hi : i < n) (hj : j < n) (m : List Blk) : COk Tryz.prog 3 98 [I n, I f, I a, I b] m (I (cellN n f i j)) m := by
  subst ha hb; exact cell_in n f i j hn hn' hf hi hj m
theorem cell_to (n f : Nat) {a b : Int} (ha : 0 ≤ a ∧ a < n) (hb : 0 ≤ b ∧ b < n) (hn' : n ≤ 32) (hf : f < 6) (m : List Blk) : COk Tryz.prog 3 98 [I n, I f, I a, I b] m (I (cellN n f a.toNat b.toNat)) m :=
  cell_at n f _ _ (by omega) (by omega) (by omega) hn' hf (by omega) (by omega) m
theorem cell_no (side face i j : Int) (h : ¬ ((1 ≤ side ∧ side ≤ 32) ∧ (0 ≤ face ∧ face < 6) ∧ (0 ≤ i ∧ i < side) ∧ 0 ≤ j ∧ j < side)) (m : List Blk) : COk Tryz.prog 3 98 [I side, I face, I i, I j] m (I (-1)) m := by
  refine COk_quiet Tryz.f98 Tryz.func98 (by kernel_rfl) rfl ?_
  conv => whnf
  refine ⟨_, _, good_ok _ _, ?_⟩
  conv => whnf
  refine br_not (br_di (fun h1 => ?_) (fun h1 => ?_)) <;> conv => whnf
  · refine br_di (fun h2 => ?_) (fun h2 => ?_) <;> conv => whnf
    · exact ⟨rfl, [], by simp⟩
    refine br_di (fun h3 => ?_) (fun h3 => ?_) <;> conv => whnf
    · exact ⟨rfl, [], by simp⟩
    refine br_di (fun h4 => ?_) (fun h4 => ?_) <;> conv => whnf
    · exact ⟨rfl, [], by simp⟩
    refine br_di (fun h5 => ?_) (fun h5 => ?_) <;> conv => whnf
    · exact ⟨rfl, [], by simp⟩
    refine br_di (fun h6 => ?_) (fun h6 => ?_) <;> conv => whnf
    · exact ⟨rfl, [], by simp⟩
    refine br_di (fun h7 => ?_) (fun h7 => ?_) <;> conv => whnf
    · exact ⟨rfl, [], by simp⟩
    omega
  · exact ⟨rfl, [], by simp⟩
theorem place_in (n f i j : Nat) (hn : 1 ≤ n) (hn' : n ≤ 32) (hf : f < 6) (hi : i < n) (hj : j < n) (m : List Blk) : COk Tryz.prog 3 95 [I n, I (cellN n f i j)] m (.tup [I f, I i, I j, Bo true]) m := by
  have hlt := cellN_lt hf hi hj
  have hcI : cellsI n = ((6 * (n * n) : Nat) : Int) := by
    rw [cellsI, if_pos ⟨by omega, by omega⟩]; simp
  have hs := sq_bound (n := (n : Int)) (by omega) (by omega)
  have hpos : 0 < n * n := Nat.mul_pos hn hn
  refine COk_quiet Tryz.f95 Tryz.func95 (by kernel_rfl) rfl ?_
  conv => whnf
  refine ⟨_, _, cells_ok _ _, ?_⟩
  conv => whnf
  refine br_nd (by rw [hcI]; omega) ?_
  conv => whnf
  have hw : IntKind.i64.wrap ((n : Int) * n) = ((n * n : Nat) : Int) := by rw [wrap_id (by omega) (by omega)]; simp
  refine br_yes (by rw [hw, bne_iff_ne]; omega) ?_
  conv => whnf
  refine br_yes (by rw [bne_iff_ne]; omega) ?_
  conv => whnf
  refine br_yes (by rw [bne_iff_ne]; omega) ?_
  conv => whnf
  refine br_yes (by rw [bne_iff_ne]; omega) ?_
  conv => whnf
  refine ⟨?_, [], by simp⟩
  have hc : cellN n f i j < 6144 := Nat.lt_of_lt_of_le hlt (by have := Nat.mul_le_mul hn' hn'; omega)
  have e1 : cellN n f i j / (n * n) = f := by
    rw [cellN, ← Nat.div_div_eq_div_mul, Nat.mul_comm _ n, Nat.mul_add_div (by omega), Nat.div_eq_of_lt hi, Nat.add_zero, Nat.mul_comm f n, Nat.mul_add_div (by omega), Nat.div_eq_of_lt hj, Nat.add_zero]
  have e2 : cellN n f i j % n = i := by
    rw [cellN, Nat.mul_comm _ n, Nat.mul_add_mod, Nat.mod_eq_of_lt hi]
  have e3 : cellN n f i j / n % n = j := by
    rw [cellN, Nat.mul_comm _ n, Nat.mul_add_div (by omega), Nat.div_eq_of_lt hi, Nat.add_zero, Nat.mul_comm f n, Nat.mul_add_mod, Nat.mod_eq_of_lt hj]
  have d1 : IntKind.i64.wrap ((cellN n f i j : Int).tdiv (IntKind.i64.wrap ((n : Int) * n))) = (f : Int) := by
    rw [hw, ← Int.ofNat_tdiv, e1]; exact wrap_id (by omega) (by omega)
  have d2 : (cellN n f i j : Int).tmod (n : Int) = (i : Int) := by rw [← Int.ofNat_tmod, e2]
  have hq : ∀ q : Nat, q ≤ 6144 → IntKind.i64.wrap (q : Int) = q := fun q h => wrap_id (by omega) (by omega)
  have d3 : (IntKind.i64.wrap ((cellN n f i j : Int).tdiv (n : Int))).tmod (n : Int) = (j : Int) := by
    rw [← Int.ofNat_tdiv, hq _ (Nat.le_trans (Nat.div_le_self _ _) (by omega)), ← Int.ofNat_tmod, e3]
  rw [d1, d2, d3]
theorem place_no (side cell : Int) (h : ¬ (0 ≤ cell ∧ cell < cellsI side)) (m : List Blk) : COk Tryz.prog 3 95 [I side, I cell] m (.tup [I 0, I 0, I 0, Bo false]) m := by
  refine COk_quiet Tryz.f95 Tryz.func95 (by kernel_rfl) rfl ?_
  conv => whnf
  refine br_intro ?_ ?_ <;> intro h1 <;> conv => whnf
  · exact ⟨rfl, [], by simp⟩
  refine ⟨_, _, cells_ok _ _, ?_⟩
  conv => whnf
  refine br_intro ?_ ?_ <;> intro h2 <;> conv => whnf
  · exact ⟨rfl, [], by simp⟩
  exfalso
  have h1' := of_ndec h1; have h2' := of_ndec h2
  omega

abbrev V3 (a b c : Int) : V := .agg [I a, I b, I c]
/-- The ints k, k + 1, k + 2 of the table. -/
abbrev W3 (l : List Int) : V := .agg (rowI l)
def frL : Nat → List Int
  | 0 => [1,0,0, 0,1,0, 0,0,1]
  | 1 => [0,1,0, -1,0,0, 0,0,1]
  | 2 => [-1,0,0, 0,-1,0, 0,0,1]
  | 3 => [0,-1,0, 1,0,0, 0,0,1]
  | 4 => [0,0,1, 0,1,0, -1,0,0]
  | _ => [0,0,-1, 0,1,0, 1,0,0]
def midL (f : Nat) : List Int := (frL f).take 3
def outL : Nat → Nat → List Int
  | f, 0 => ((frL f).drop 3).take 3
  | f, 1 => (frL f).drop 6
  | f, 2 => (((frL f).drop 3).take 3).map (- ·)
  | f, _ => ((frL f).drop 6).map (- ·)

theorem times_ok (a b c k : Int) (x : List Blk) : COk Tryz.prog 3 139 [V3 a b c, I k] (GG x) (V3 (IntKind.i64.wrap (k * a)) (IntKind.i64.wrap (k * b)) (IntKind.i64.wrap (k * c))) (GG x) := by
  refine lift ?_ rfl x
  refine COk_quiet Tryz.f139 Tryz.func139 (by kernel_rfl) rfl ?_
  conv => whnf
  exact ⟨rfl, _, rfl⟩
theorem plus_ok (a b c d e f : Int) (x : List Blk) : COk Tryz.prog 3 111 [V3 a b c, V3 d e f] (GG x) (V3 (IntKind.i64.wrap (a + d)) (IntKind.i64.wrap (b + e)) (IntKind.i64.wrap (c + f))) (GG x) := by
  refine lift ?_ rfl x
  refine COk_quiet Tryz.f111 Tryz.func111 (by kernel_rfl) rfl ?_
  conv => whnf
  exact ⟨rfl, _, rfl⟩
def dotI (a b c d e f : Int) : Int := IntKind.i64.wrap (IntKind.i64.wrap (IntKind.i64.wrap (a * d) + IntKind.i64.wrap (b * e)) + IntKind.i64.wrap (c * f))
theorem dot_ok (a b c d e f : Int) (x : List Blk) : COk Tryz.prog 3 100 [V3 a b c, V3 d e f] (GG x) (I (dotI a b c d e f)) (GG x) := by
  refine lift ?_ rfl x
  refine COk_quiet Tryz.f100 Tryz.func100 (by kernel_rfl) rfl ?_
  conv => whnf
  exact ⟨rfl, _, rfl⟩
def crossC (a b c d : Int) : Int := IntKind.i64.wrap (IntKind.i64.wrap (a * b) - IntKind.i64.wrap (c * d))
theorem cross_ok (a b c d e f : Int) (x : List Blk) : COk Tryz.prog 3 138 [V3 a b c, V3 d e f] (GG x) (V3 (crossC b f c e) (crossC c d a f) (crossC a e b d)) (GG x) := by
  refine lift ?_ rfl x
  refine COk_quiet Tryz.f138 Tryz.func138 (by kernel_rfl) rfl ?_
  conv => whnf
  exact ⟨rfl, _, rfl⟩
theorem out_ok (f s : Nat) (hf : f < 6) (hs : s < 4) (x : List Blk) : COk Tryz.prog 3 101 [W3 (frL f), I s] (GG x) (W3 (outL f s)) (GG x) := by
  refine lift ?_ ?_ x
  · obtain rfl | rfl | rfl | rfl | rfl | rfl : f = 0 ∨ f = 1 ∨ f = 2 ∨ f = 3 ∨ f = 4 ∨ f = 5 := by omega
    all_goals obtain rfl | rfl | rfl | rfl : s = 0 ∨ s = 1 ∨ s = 2 ∨ s = 3 := by omega
    all_goals
      refine COk_quiet Tryz.f101 Tryz.func101 (by kernel_rfl) rfl ?_
      conv => whnf
      try (refine ⟨_, _, times_ok _ _ _ _ _, ?_⟩; conv => whnf)
      exact ⟨rfl, _, rfl⟩
  · obtain rfl | rfl | rfl | rfl | rfl | rfl : f = 0 ∨ f = 1 ∨ f = 2 ∨ f = 3 ∨ f = 4 ∨ f = 5 := by omega
    all_goals rfl
theorem faceAt_ok (f : Nat) (hf : f < 6) (x : List Blk) : COk Tryz.prog 3 96 [W3 (midL f)] (GG x) (I f) (GG x) := by
  refine lift ?_ ?_ x
  · obtain rfl | rfl | rfl | rfl | rfl | rfl : f = 0 ∨ f = 1 ∨ f = 2 ∨ f = 3 ∨ f = 4 ∨ f = 5 := by omega
    all_goals
      refine COk_quiet Tryz.f96 Tryz.func96 (by kernel_rfl) rfl ?_
      conv => whnf
      repeat (refine loop_round ?_; conv => whnf)
      exact ⟨rfl, _, rfl⟩
  · obtain rfl | rfl | rfl | rfl | rfl | rfl : f = 0 ∨ f = 1 ∨ f = 2 ∨ f = 3 ∨ f = 4 ∨ f = 5 := by omega
    all_goals rfl
/-- The middle of a cell, in a cube from -n to n. -/
def midP (n i j : Int) : Nat → V
  | 0 => V3 n (2 * i + 1 - n) (2 * j + 1 - n)
  | 1 => V3 (-(2 * i + 1 - n)) n (2 * j + 1 - n)
  | 2 => V3 (-n) (-(2 * i + 1 - n)) (2 * j + 1 - n)
  | 3 => V3 (2 * i + 1 - n) (-n) (2 * j + 1 - n)
  | 4 => V3 (-(2 * j + 1 - n)) (2 * i + 1 - n) n
  | _ => V3 (2 * j + 1 - n) (2 * i + 1 - n) (-n)
theorem V3_congr {a b c d e f : Int} (h : a = d) (h' : b = e) (h'' : c = f) : V3 a b c = V3 d e f := by subst h h' h''; rfl
theorem middle_ok (f : Nat) (n i j : Int) (hf : f < 6) (hn : 0 ≤ n ∧ n ≤ 32) (hi : 0 ≤ i ∧ i ≤ 32) (hj : 0 ≤ j ∧ j ≤ 32) (x : List Blk) :
    COk Tryz.prog 3 97 [I n, I f, I i, I j] (GG x) (midP n i j f) (GG x) := by
  refine lift ?_ rfl x
  obtain rfl | rfl | rfl | rfl | rfl | rfl : f = 0 ∨ f = 1 ∨ f = 2 ∨ f = 3 ∨ f = 4 ∨ f = 5 := by omega
  all_goals
    refine COk_quiet Tryz.f97 Tryz.func97 (by kernel_rfl) rfl ?_
    conv => whnf
    refine ⟨_, times_ok _ _ _ _ _, ?_⟩
    conv => whnf
    refine ⟨_, times_ok _ _ _ _ _, ?_⟩
    conv => whnf
    refine ⟨_, plus_ok _ _ _ _ _ _ _, ?_⟩
    conv => whnf
    refine ⟨_, times_ok _ _ _ _ _, ?_⟩
    conv => whnf
    refine ⟨_, plus_ok _ _ _ _ _ _ _, ?_⟩
    conv => whnf
    refine ⟨V3_congr ?_ ?_ ?_, _, rfl⟩
    all_goals
      simp (disch := omega) only [wrap_id]
      omega
def idxI (n a : Int) : Int := if n - 1 < (if 0 ≤ a + n - 1 then (a + n - 1) / 2 else 0) then n - 1 else if 0 ≤ a + n - 1 then (a + n - 1) / 2 else 0
theorem idx_lt (n a : Int) (hn : 1 ≤ n) : 0 ≤ idxI n a ∧ idxI n a < n := by
  unfold idxI
  split <;> split <;> omega
theorem index_ok (n a : Int) (hn : 1 ≤ n ∧ n ≤ 32) (ha : -200 ≤ a ∧ a ≤ 200) (m : List Blk) : COk Tryz.prog 3 99 [I n, I a] m (I (idxI n a)) m := by
  refine COk_quiet Tryz.f99 Tryz.func99 (by kernel_rfl) rfl ?_
  conv => whnf
  have e1 : IntKind.i64.wrap (IntKind.i64.wrap (a + n) - 1) = a + n - 1 := by simp (disch := omega) only [wrap_id]
  have e2 : IntKind.i64.wrap (n - 1) = n - 1 := wrap_id (by omega) (by omega)
  rw [e1, e2]
  refine ⟨?_, [], by simp⟩
  congr 1
  unfold idxI
  by_cases h : 0 ≤ a + n - 1
  · have e3 : IntKind.i64.wrap ((a + n - 1).tdiv 2) = (a + n - 1) / 2 := by
      rw [Int.tdiv_eq_ediv_of_nonneg h]
      exact wrap_id (by omega) (by omega)
    rw [e3, if_neg (show ¬ (0 > (a + n - 1) / 2) by omega), if_pos h]
  · have e3 : IntKind.i64.wrap ((a + n - 1).tdiv 2) = -((1 - a - n) / 2) := by
      rw [show a + n - 1 = -(1 - a - n) by omega, Int.neg_tdiv, Int.tdiv_eq_ediv_of_nonneg (by omega)]
      exact wrap_id (by omega) (by omega)
    rw [e3, if_neg h]
    split <;> split <;> omega
theorem dot_lin (a b c d e f : Int) (ha : -200 ≤ a ∧ a ≤ 200) (hb : -200 ≤ b ∧ b ≤ 200) (hc : -200 ≤ c ∧ c ≤ 200) (hd : d = 0 ∨ d = 1 ∨ d = -1) (he : e = 0 ∨ e = 1 ∨ e = -1) (hf : f = 0 ∨ f = 1 ∨ f = -1) :
    dotI a b c d e f = a * d + b * e + c * f := by
  unfold dotI
  obtain rfl | rfl | rfl := hd <;> obtain rfl | rfl | rfl := he <;> obtain rfl | rfl | rfl := hf <;> simp (disch := omega) only [wrap_id]
/-- A frame as nine ints. -/
abbrev V9 (a b c d e f g h i : Int) : V := .agg [I a, I b, I c, I d, I e, I f, I g, I h, I i]
theorem out0_ok (a b c d e f g h i : Int) (x : List Blk) : COk Tryz.prog 3 101 [V9 a b c d e f g h i, I 0] (GG x) (V3 d e f) (GG x) := by
  refine lift ?_ rfl x
  refine COk_quiet Tryz.f101 Tryz.func101 (by kernel_rfl) rfl ?_
  conv => whnf
  exact ⟨rfl, _, rfl⟩
theorem out1_ok (a b c d e f g h i : Int) (x : List Blk) : COk Tryz.prog 3 101 [V9 a b c d e f g h i, I 1] (GG x) (V3 g h i) (GG x) := by
  refine lift ?_ rfl x
  refine COk_quiet Tryz.f101 Tryz.func101 (by kernel_rfl) rfl ?_
  conv => whnf
  exact ⟨rfl, _, rfl⟩
theorem out2_ok (a b c d e f g h i : Int) (x : List Blk) : COk Tryz.prog 3 101 [V9 a b c d e f g h i, I 2] (GG x) (V3 (IntKind.i64.wrap (-1 * d)) (IntKind.i64.wrap (-1 * e)) (IntKind.i64.wrap (-1 * f))) (GG x) := by
  refine lift ?_ rfl x
  refine COk_quiet Tryz.f101 Tryz.func101 (by kernel_rfl) rfl ?_
  conv => whnf
  refine ⟨_, _, times_ok _ _ _ _ _, ?_⟩
  conv => whnf
  exact ⟨rfl, _, rfl⟩
theorem out3_ok (a b c d e f g h i : Int) (x : List Blk) : COk Tryz.prog 3 101 [V9 a b c d e f g h i, I 3] (GG x) (V3 (IntKind.i64.wrap (-1 * g)) (IntKind.i64.wrap (-1 * h)) (IntKind.i64.wrap (-1 * i))) (GG x) := by
  refine lift ?_ rfl x
  refine COk_quiet Tryz.f101 Tryz.func101 (by kernel_rfl) rfl ?_
  conv => whnf
  refine ⟨_, _, times_ok _ _ _ _ _, ?_⟩
  conv => whnf
  exact ⟨rfl, _, rfl⟩
/-- The face with this middle. -/
def face3 (a b c : Int) : Option Nat :=
  if a = 1 ∧ b = 0 ∧ c = 0 then some 0 else if a = 0 ∧ b = 1 ∧ c = 0 then some 1 else if a = -1 ∧ b = 0 ∧ c = 0 then some 2 else if a = 0 ∧ b = -1 ∧ c = 0 then some 3 else if a = 0 ∧ b = 0 ∧ c = 1 then some 4 else if a = 0 ∧ b = 0 ∧ c = -1 then some 5 else none
theorem face3_ok (a b c : Int) (f : Nat) (h : face3 a b c = some f) (x : List Blk) : COk Tryz.prog 3 96 [V3 a b c] (GG x) (I f) (GG x) := by
  unfold face3 at h
  split at h
  · rename_i h'; obtain ⟨rfl, rfl, rfl⟩ := h'; cases h; exact faceAt_ok 0 (by decide) x
  split at h
  · rename_i h'; obtain ⟨rfl, rfl, rfl⟩ := h'; cases h; exact faceAt_ok 1 (by decide) x
  split at h
  · rename_i h'; obtain ⟨rfl, rfl, rfl⟩ := h'; cases h; exact faceAt_ok 2 (by decide) x
  split at h
  · rename_i h'; obtain ⟨rfl, rfl, rfl⟩ := h'; cases h; exact faceAt_ok 3 (by decide) x
  split at h
  · rename_i h'; obtain ⟨rfl, rfl, rfl⟩ := h'; cases h; exact faceAt_ok 4 (by decide) x
  split at h
  · rename_i h'; obtain ⟨rfl, rfl, rfl⟩ := h'; cases h; exact faceAt_ok 5 (by decide) x
  · exact nomatch h
end Go.Proofs.YtgoljofmbidkfaaGreatDoor
