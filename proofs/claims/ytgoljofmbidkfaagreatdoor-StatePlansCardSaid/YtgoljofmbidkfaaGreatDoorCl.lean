import Derived.Test.YtgoljofmbidkfaaGreatDoorF
import Derived.Test.YtgoljofmbidkfaaGreatDoorFa
import Derived.Test.YtgoljofmbidkfaaGreatDoorZa
import Derived.Test.YtgoljofmbidkfaaGreatDoorLv
/- Floats and the numbers that they stand for: the operations on words. No condition. -/
namespace Go.Proofs.YtgoljofmbidkfaaGreatDoor
open Go Go.Eng
set_option maxRecDepth 100000
set_option linter.unusedSimpArgs false
set_option linter.unusedVariables false

abbrev u53 : Rat := (2 : Rat) ^ (-53 : Int)
abbrev u54 : Rat := (2 : Rat) ^ (-54 : Int)
theorem dat_num {R : Nat} (h : R < infR) (s : Bool) : ∃ m e, dat s R = .number s m e ∧ mg m e = vR R ∧ (R ≠ 0 → m ≠ 0) := by
  have hb : f64.binade = 2 ^ 52 := by decide
  have hl : f64.leastPlace = -1074 := by decide
  unfold dat vR
  rw [hb, hl]
  by_cases h1 : R < 2 ^ 52
  · rw [if_pos h1, if_pos h1]; exact ⟨_, _, rfl, rfl, fun h => h⟩
  · rw [if_neg h1, if_neg h1, if_pos h]; exact ⟨_, _, rfl, rfl, fun _ => by omega⟩
theorem vR_0 : vR 0 = 0 := by
  unfold vR mg
  rw [if_pos (by decide), show ((0 : Nat) : Rat) = 0 from rfl, Rat.zero_mul]
/-- A word that lies within one rounding of a number. -/
def Near (N : Nat) (x : Rat) : Prop := N < infR ∧ N ≠ 0 ∧ vR N ≤ x * (1 + u53) ∧ x * (1 - u53) ≤ vR N
def Mid (x : Rat) : Prop := (2 : Rat) ^ (-1022 : Int) ≤ x ∧ x ≤ 2 ^ (1000 : Int)
theorem lt_mul {a b c : Rat} (hc : 0 < c) (h : a < b) : a * c < b * c := Rat.mul_lt_mul_of_pos_right h hc
/-- A word that stands for a number within k roundings. -/
def NearP (N : Nat) (x lo hi : Rat) : Prop := N < infR ∧ N ≠ 0 ∧ vR N ≤ x * hi ∧ x * lo ≤ vR N
theorem mg_shift (m : Nat) (i base : Int) (h : base ≤ i) : mg (m <<< (i - base).toNat) base = mg m i := by
  rw [Nat.shiftLeft_eq, mg_nat]
  congr 1; omega
/-- Small enough, and nought or great enough. -/
def Part (R : Nat) : Prop := R < infR ∧ (R = 0 ∨ (2 : Rat) ^ (-1000 : Int) ≤ vR R) ∧ vR R ≤ 2 ^ (900 : Int)
theorem mg_lt_iff (x y : Nat) (e : Int) : mg x e < mg y e ↔ x < y := by
  constructor
  · intro h
    rcases Nat.lt_or_ge x y with h1 | h1
    · exact h1
    · exact absurd h (Rat.not_lt.2 (mg_le h1 e))
  · intro h
    unfold mg
    exact lt_mul (two_pos e) (by exact_mod_cast h)
/-- What a vector's part may be: nought, or of a middling size. -/
def Comp (X : Nat) : Prop := X < infR ∧ (X = 0 ∨ (2 : Rat) ^ (-400 : Int) ≤ vR X) ∧ vR X ≤ 2 ^ (400 : Int)
/-- What the part of a direction may be: nought, or from 2^-20 to 1. -/
def Dir (X : Nat) : Prop := X < infR ∧ (X = 0 ∨ (2 : Rat) ^ (-20 : Int) ≤ vR X) ∧ vR X ≤ 1
/-- The part of a unit vector over a length. -/
def Over (X A L : Nat) : Prop := A < infR ∧ (A = 0 ↔ X = 0) ∧ vR A * vR L ≤ vR X * ((1 + u54) * (1 + u53)) ∧ vR X * ((1 - u54) * (1 - u53)) ≤ vR A * vR L
/-- The part m over n, as a rung; with a sign. -/
def qX (n m : Nat) : Nat := canonF (ratioO m n)
def qS (n : Nat) (k : Int) : Nat := cw (decide (k < 0)) (qX n k.natAbs)
/-- A direction in whole numbers. -/
structure DirZ where
  x : Int
  y : Int
  z : Int
def vecW (n : Nat) (d : DirZ) : W := ⟨qS n d.x, qS n d.y, qS n d.z⟩
/-- The direction of a point of a face. -/
def dirF (n : Nat) : Nat → Int → Int → DirZ
  | 0, k, l => ⟨n, k, l⟩
  | 1, k, l => ⟨-k, n, l⟩
  | 2, k, l => ⟨-n, -k, l⟩
  | 3, k, l => ⟨k, -n, l⟩
  | 4, k, l => ⟨-l, k, n⟩
  | _, k, l => ⟨l, k, -n⟩
end Go.Proofs.YtgoljofmbidkfaaGreatDoor
/- Words stand to each other as what they stand for; rounding keeps order. No condition. -/
namespace Go.Proofs.YtgoljofmbidkfaaGreatDoor
open Go Go.Eng Ieee
set_option maxRecDepth 100000
set_option linter.unusedSimpArgs false
set_option linter.unusedVariables false

theorem next_at (R : Nat) : ∃ q k, R = q * 2 ^ 52 + k ∧ k < 2 ^ 53 ∧ (1 ≤ q → 2 ^ 52 ≤ k) ∧ vR R = mg k (-1074 + (q : Int)) ∧ vR (R + 1) = mg (k + 1) (-1074 + (q : Int)) := by
  by_cases h : R < 2 ^ 53
  · refine ⟨0, R, by omega, h, fun h => by omega, ?_, ?_⟩
    · have := vR_at 0 R (by omega) (fun h => by omega)
      rwa [Nat.zero_mul, Nat.zero_add] at this
    · have := vR_at 0 (R + 1) (by omega) (fun h => by omega)
      rwa [Nat.zero_mul, Nat.zero_add] at this
  · refine ⟨R / 2 ^ 52 - 1, 2 ^ 52 + R % 2 ^ 52, by omega, by omega, fun _ => by omega, ?_, ?_⟩
    · have := vR_at (R / 2 ^ 52 - 1) (2 ^ 52 + R % 2 ^ 52) (by omega) (fun _ => by omega)
      rwa [show (R / 2 ^ 52 - 1) * 2 ^ 52 + (2 ^ 52 + R % 2 ^ 52) = R by omega] at this
    · have := vR_at (R / 2 ^ 52 - 1) (2 ^ 52 + R % 2 ^ 52 + 1) (by omega) (fun _ => by omega)
      rwa [show (R / 2 ^ 52 - 1) * 2 ^ 52 + (2 ^ 52 + R % 2 ^ 52 + 1) = R + 1 by omega] at this
theorem mg_succ (k : Nat) (e : Int) : mg (k + 1) e = mg k e + 2 ^ e := by
  rw [mg_add]
  congr 1
  unfold mg
  rw [show ((1 : Nat) : Rat) = 1 from rfl, Rat.one_mul]
theorem vR_succ (R : Nat) : vR R < vR (R + 1) := by
  obtain ⟨q, k, _, _, _, h1, h2⟩ := next_at R
  rw [h1, h2, mg_succ]
  have := two_pos (-1074 + (q : Int))
  grind
theorem vR_lt {R Q : Nat} (h : R < Q) : vR R < vR Q := by
  obtain ⟨d, rfl⟩ : ∃ d, Q = R + 1 + d := ⟨Q - (R + 1), by omega⟩
  clear h
  induction d with
  | zero => exact vR_succ R
  | succ d ih =>
    have := vR_succ (R + 1 + d)
    rw [show R + 1 + (d + 1) = R + 1 + d + 1 by omega]
    grind
theorem vR_le {R Q : Nat} (h : R ≤ Q) : vR R ≤ vR Q := by
  rcases Nat.lt_or_ge R Q with h1 | h1
  · exact Rat.le_of_lt (vR_lt h1)
  · obtain rfl : R = Q := by omega
    exact Rat.le_refl
theorem vR_lt_iff {R Q : Nat} : vR R < vR Q ↔ R < Q := by
  refine ⟨fun h => ?_, vR_lt⟩
  rcases Nat.lt_or_ge R Q with h1 | h1
  · exact h1
  · exact absurd h (Rat.not_lt.2 (vR_le h1))
theorem vR_le_iff {R Q : Nat} : vR R ≤ vR Q ↔ R ≤ Q := by
  refine ⟨fun h => ?_, vR_le⟩
  rcases Nat.lt_or_ge Q R with h1 | h1
  · exact absurd h (Rat.not_le.2 (vR_lt h1))
  · exact h1
theorem vR_inj {R Q : Nat} (h : vR R = vR Q) : R = Q := by
  have h1 := vR_le_iff.1 (by rw [h]; exact Rat.le_refl : vR R ≤ vR Q)
  have h2 := vR_le_iff.1 (by rw [h]; exact Rat.le_refl : vR Q ≤ vR R)
  omega
/-- N is what x is rounded to. -/
structure Rd (x : Rat) (N : Nat) : Prop where
  ex : ∃ U, N = min U infR ∧ (∀ Q, Q < U → vR Q + vR (Q + 1) ≤ 2 * x) ∧ 2 * x ≤ vR U + vR (U + 1)
theorem Rd.inf {x : Rat} {N : Nat} (h : Rd x N) : N ≤ infR := by
  obtain ⟨U, h1, _⟩ := h.ex
  omega
theorem Rd.le {x : Rat} {N R : Nat} (h : Rd x N) (hx : x ≤ vR R) : N ≤ R := by
  obtain ⟨U, h1, h2, h3⟩ := h.ex
  rcases Nat.lt_or_ge R U with h4 | h4
  · have := h2 R h4
    have := vR_succ R
    grind
  · omega
theorem Rd.ge {x : Rat} {N R : Nat} (h : Rd x N) (hx : vR R ≤ x) (hR : R ≤ infR) : R ≤ N := by
  obtain ⟨U, h1, h2, h3⟩ := h.ex
  rcases Nat.lt_or_ge U R with h4 | h4
  · have := vR_le (show U + 1 ≤ R by omega)
    have := vR_succ U
    grind
  · omega
theorem Rd.eq {x : Rat} {N R : Nat} (h : Rd x N) (hx : x = vR R) (hR : R ≤ infR) : N = R := by
  have h1 := h.le (by rw [hx]; exact Rat.le_refl)
  have h2 := h.ge (by rw [hx]; exact Rat.le_refl) hR
  omega
theorem Rd.lt {x y : Rat} {N M : Nat} (h : Rd x N) (k : Rd y M) (hxy : x < y) : N ≤ M := by
  obtain ⟨U, h1, h2, h3⟩ := h.ex
  obtain ⟨T, k1, k2, k3⟩ := k.ex
  rcases Nat.lt_or_ge T U with h4 | h4
  · have := h2 T h4
    grind
  · omega
/-! ### Order -/
/-- A word's place among all. -/
def rk (s : Bool) (R : Nat) : Int := if s then -(R : Int) else R
theorem compare_iff {a b c d : Int} (h1 : a < b ↔ c < d) (h2 : a = b ↔ c = d) : compare a b = compare c d := by
  simp only [compare, compareOfLessAndEq]
  by_cases h : a < b
  · rw [if_pos h, if_pos (h1.1 h)]
  · rw [if_neg h, if_neg (fun k => h (h1.2 k))]
    by_cases k : a = b
    · rw [if_pos k, if_pos (h2.1 k)]
    · rw [if_neg k, if_neg (fun j => k (h2.2 j))]
theorem dat_inf (s : Bool) : dat s infR = .infinity s := by
  unfold dat
  rw [if_neg (by decide), if_neg (by decide), if_pos rfl]
theorem fcmp_rk (s t : Bool) {R Q : Nat} (hR : R ≤ infR) (hQ : Q ≤ infR) : fcmp (some (wd s R)) (some (wd t Q)) = some (compare (rk s R) (rk t Q)) := by
  have hi := infR_eq
  rw [fcmp_wd s t (by omega) (by omega)]
  rcases Nat.lt_or_ge R infR with h1 | h1
  · rcases Nat.lt_or_ge Q infR with h2 | h2
    · obtain ⟨m, i, d1, v1, _⟩ := dat_num h1 s
      obtain ⟨n, j, d2, v2, _⟩ := dat_num h2 t
      rw [d1, d2]
      have e1 := mg_shift m i (min i j) (by omega)
      have e2 := mg_shift n j (min i j) (by omega)
      have key : ∀ x y : Nat, mg x (min i j) = vR R → mg y (min i j) = vR Q → ((x < y ↔ R < Q) ∧ (y < x ↔ Q < R) ∧ (x = 0 ↔ R = 0) ∧ (y = 0 ↔ Q = 0)) := by
        intro x y hx hy
        refine ⟨by rw [← vR_lt_iff (R := R) (Q := Q), ← hx, ← hy, mg_lt_iff], by rw [← vR_lt_iff (R := Q) (Q := R), ← hx, ← hy, mg_lt_iff], ?_, ?_⟩
        · refine ⟨fun h => ?_, fun h => ?_⟩
          · subst h
            have : mg 0 (min i j) = vR 0 := by rw [vR_0]; unfold mg; rw [show ((0 : Nat) : Rat) = 0 from rfl, Rat.zero_mul]
            exact vR_inj (hx.symm.trans this)
          · subst h
            rcases Nat.eq_zero_or_pos x with h | h
            · exact h
            · have := mg_pos (show x ≠ 0 by omega) (min i j)
              rw [hx, vR_0] at this
              exact absurd this Rat.lt_irrefl
        · refine ⟨fun h => ?_, fun h => ?_⟩
          · subst h
            have : mg 0 (min i j) = vR 0 := by rw [vR_0]; unfold mg; rw [show ((0 : Nat) : Rat) = 0 from rfl, Rat.zero_mul]
            exact vR_inj (hy.symm.trans this)
          · subst h
            rcases Nat.eq_zero_or_pos y with h | h
            · exact h
            · have := mg_pos (show y ≠ 0 by omega) (min i j)
              rw [hy, vR_0] at this
              exact absurd this Rat.lt_irrefl
      obtain ⟨a1, a2, a3, a4⟩ := key _ _ (e1.trans v1) (e2.trans v2)
      show some (compare (Ieee.signed s m (i - min i j).toNat) (Ieee.signed t n (j - min i j).toNat)) = _
      congr 1
      unfold Ieee.signed rk
      generalize m <<< (i - min i j).toNat = x at *
      generalize n <<< (j - min i j).toNat = y at *
      cases s <;> cases t <;> simp only [Bool.false_eq_true, if_false, if_true] <;> apply compare_iff <;> omega
    · obtain rfl : Q = infR := by omega
      obtain ⟨m, i, d1, v1, _⟩ := dat_num h1 s
      rw [d1, dat_inf]
      show some (if t then Ordering.gt else .lt) = _
      congr 1
      unfold rk
      cases s <;> cases t <;> simp only [Bool.false_eq_true, if_false, if_true, compare, compareOfLessAndEq]
      · rw [if_pos (by omega)]
      · rw [if_neg (by omega), if_neg (by omega)]
      · rw [if_pos (by omega)]
      · rw [if_neg (by omega), if_neg (by omega)]
  · obtain rfl : R = infR := by omega
    rcases Nat.lt_or_ge Q infR with h2 | h2
    · obtain ⟨n, j, d2, v2, _⟩ := dat_num h2 t
      rw [d2, dat_inf]
      show some (if s then Ordering.lt else .gt) = _
      congr 1
      unfold rk
      cases s <;> cases t <;> simp only [Bool.false_eq_true, if_false, if_true, compare, compareOfLessAndEq]
      · rw [if_neg (by omega), if_neg (by omega)]
      · rw [if_neg (by omega), if_neg (by omega)]
      · rw [if_pos (by omega)]
      · rw [if_pos (by omega)]
    · obtain rfl : Q = infR := by omega
      rw [dat_inf, dat_inf]
      show some (compare t.toNat s.toNat) = _
      congr 1
      have e1 : compare t.toNat s.toNat = compare (t.toNat : Int) (s.toNat : Int) := by
        cases s <;> cases t <;> rfl
      rw [e1]
      unfold rk
      cases s <;> cases t <;> simp only [Bool.false_eq_true, if_false, if_true] <;> apply compare_iff <;> simp <;> omega
theorem cmp_is (a b : Int) : (compare a b = .lt ↔ a < b) ∧ (compare a b = .eq ↔ a = b) ∧ (compare a b = .gt ↔ b < a) := by
  simp only [compare, compareOfLessAndEq]
  by_cases h : a < b
  · rw [if_pos h]; simp; omega
  · rw [if_neg h]
    by_cases k : a = b
    · rw [if_pos k]; simp; omega
    · rw [if_neg k]; simp; omega
section
variable (s t : Bool) {R Q : Nat} (hR : R ≤ infR) (hQ : Q ≤ infR)
include hR hQ
theorem flt_rk : flt (some (wd s R)) (some (wd t Q)) = decide (rk s R < rk t Q) := by
  unfold flt
  rw [fcmp_rk s t hR hQ]
  obtain ⟨h1, h2, h3⟩ := cmp_is (rk s R) (rk t Q)
  by_cases h : rk s R < rk t Q
  · rw [h1.2 h, decide_eq_true h]; rfl
  · rw [decide_eq_false h]
    simpa using fun e => h (h1.1 e)
theorem fgt_rk : fgt (some (wd s R)) (some (wd t Q)) = decide (rk t Q < rk s R) := by
  unfold fgt
  rw [fcmp_rk s t hR hQ]
  obtain ⟨h1, h2, h3⟩ := cmp_is (rk s R) (rk t Q)
  by_cases h : rk t Q < rk s R
  · rw [h3.2 h, decide_eq_true h]; rfl
  · rw [decide_eq_false h]
    simpa using fun e => h (h3.1 e)
theorem feq_rk : feq (some (wd s R)) (some (wd t Q)) = decide (rk s R = rk t Q) := by
  unfold feq
  rw [fcmp_rk s t hR hQ]
  obtain ⟨h1, h2, h3⟩ := cmp_is (rk s R) (rk t Q)
  by_cases h : rk s R = rk t Q
  · rw [h2.2 h, decide_eq_true h]; rfl
  · rw [decide_eq_false h]
    simpa using fun e => h (h2.1 e)
theorem fle_rk : fle (some (wd s R)) (some (wd t Q)) = decide (rk s R ≤ rk t Q) := by
  have h1 := flt_rk s t hR hQ
  have h2 := feq_rk s t hR hQ
  unfold flt at h1
  unfold feq at h2
  unfold fle
  rw [h1, h2]
  by_cases h : rk s R ≤ rk t Q
  · rw [decide_eq_true h]; simp; omega
  · rw [decide_eq_false h]; simp; omega
theorem fge_rk : fge (some (wd s R)) (some (wd t Q)) = decide (rk t Q ≤ rk s R) := by
  have h1 := fgt_rk s t hR hQ
  have h2 := feq_rk s t hR hQ
  unfold fgt at h1
  unfold feq at h2
  unfold fge
  rw [h1, h2]
  by_cases h : rk t Q ≤ rk s R
  · rw [decide_eq_true h]; simp; omega
  · rw [decide_eq_false h]; simp; omega
end
/-! ### Every word -/
theorem nan_or {b : Nat} (h : b < 18446744073709551616) : nanB b ∨ ∃ s R, R ≤ infR ∧ b = wd s R := by
  have hi := infR_eq
  by_cases hn : f64.infRung < b % 9223372036854775808
  · exact .inl ⟨h, hn⟩
  · refine .inr ⟨decide (9223372036854775808 ≤ b), b % 9223372036854775808, by show _ ≤ f64.infRung; omega, ?_⟩
    by_cases h1 : 9223372036854775808 ≤ b
    · rw [decide_eq_true h1, wd_true]; omega
    · rw [decide_eq_false h1, wd_false]; omega
theorem nan_cmp {b : Nat} (h : nanB b) (o : Option Nat) : fcmp (some b) o = none ∧ fcmp o (some b) = none := by
  obtain ⟨s, f, e⟩ := read_nan h
  cases o with
  | none => exact ⟨rfl, rfl⟩
  | some c =>
    refine ⟨?_, ?_⟩
    · show (f64.read b).order (f64.read c) = none
      rw [e]; rfl
    · show (f64.read c).order (f64.read b) = none
      rw [e]
      cases f64.read c <;> rfl
/-- A float that is a number, or an infinity. -/
def Num (o : Option Nat) : Prop := ∃ s R, R ≤ infR ∧ o = some (wd s R)
end Go.Proofs.YtgoljofmbidkfaaGreatDoor
/- conv.Clamp and flux.Quanta: what they answer. No condition. -/
namespace Go.Proofs.YtgoljofmbidkfaaGreatDoor
open Go Go.Eng
set_option maxRecDepth 100000
set_option linter.unusedSimpArgs false
set_option linter.unusedVariables false

theorem isnanO_ok (o : Option Nat) (m : List Blk) : COk Tryz.prog 3 143 [.fl o] m (Bo (fne o o)) m := by
  refine COk_quiet Tryz.f143 Tryz.func143 (by kernel_rfl) rfl ?_
  conv => whnf
  exact ⟨rfl, [], by simp⟩
abbrev q52 : Int := 4503599627370496
/-- A size as a whole number, at most 2^52. -/
def sizeI (a : Nat) : Int := if flt (some a) (some wholeB) = true then (if IntKind.i64.wrap (nearR a (floorB a) ((fToI (some (floorB a)) .u64).getD 0)) < q52 then IntKind.i64.wrap (nearR a (floorB a) ((fToI (some (floorB a)) .u64).getD 0)) else q52) else q52
def clampF (o : Option Nat) : Int := match o with
  | none => 0
  | some b => if fne (some b) (some b) = true then 0 else if flt (some b) (some 0) = true then IntKind.i64.wrap (0 - sizeI (absB b)) else sizeI (absB b)
set_option maxHeartbeats 0 in
theorem clamp_ok (b : Nat) (hb : b < 2 ^ 64) (m : List Blk) : COk Tryz.prog 3 105 [F b, .int .i64 q52] m (.int .i64 (clampF (some b))) m := by
  unfold clampF
  by_cases h : fne (some b) (some b) = true
  · simp only [if_pos h]
    have hn := isnanO_ok (some b) m
    rw [h] at hn
    refine COk_quiet Tryz.f105 Tryz.func105 (by kernel_rfl) rfl ?_
    (conv => whnf); repeat (refine ⟨_, _, hn, ?_⟩; conv => whnf)
    exact ⟨rfl, [], by simp⟩
  · have h0 := Bool.eq_false_iff.2 h
    simp only [if_neg h]
    have hn := isnanO_ok (some b) m
    rw [h0] at hn
    unfold sizeI
    by_cases hl : flt (some (absB b)) (some wholeB) = true
    · obtain ⟨g1, n, g2⟩ := floor_whole (absB_lt b hb).1 hl
      have e : (fToI (some (floorB (absB b))) .u64).getD 0 = (n : Int) := by rw [g2]; rfl
      simp only [if_pos hl, e]
      have hne := near_ok (absB b) n g1 g2
      by_cases hs : flt (some b) (some 0) = true
      · simp only [if_pos hs]
        refine COk_quiet Tryz.f105 Tryz.func105 (by kernel_rfl) rfl ?_
        (conv => whnf); repeat ((first | refine ⟨_, _, hn, ?_⟩ | refine ⟨_, _, abs_ok _ _, ?_⟩ | refine br_yes hl ?_ | refine ⟨_, _, hne _, ?_⟩ | refine br_yes hs ?_); conv => whnf)
        exact ⟨by rw [show (if (0 : Int) > q52 then (0 : Int) else q52) = q52 from by decide], [], by simp⟩
      · have hs0 := Bool.eq_false_iff.2 hs
        simp only [if_neg hs]
        refine COk_quiet Tryz.f105 Tryz.func105 (by kernel_rfl) rfl ?_
        (conv => whnf); repeat ((first | refine ⟨_, _, hn, ?_⟩ | refine ⟨_, _, abs_ok _ _, ?_⟩ | refine br_yes hl ?_ | refine ⟨_, _, hne _, ?_⟩ | refine br_no hs0 ?_); conv => whnf)
        exact ⟨by rw [show (if (0 : Int) > q52 then (0 : Int) else q52) = q52 from by decide], [], by simp⟩
    · have hl0 := Bool.eq_false_iff.2 hl
      simp only [if_neg hl]
      by_cases hs : flt (some b) (some 0) = true
      · simp only [if_pos hs]
        refine COk_quiet Tryz.f105 Tryz.func105 (by kernel_rfl) rfl ?_
        (conv => whnf); repeat ((first | refine ⟨_, _, hn, ?_⟩ | refine ⟨_, _, abs_ok _ _, ?_⟩ | refine br_no hl0 ?_ | refine br_yes hs ?_); conv => whnf)
        exact ⟨by rw [show (if (0 : Int) > q52 then (0 : Int) else q52) = q52 from by decide], [], by simp⟩
      · have hs0 := Bool.eq_false_iff.2 hs
        simp only [if_neg hs]
        refine COk_quiet Tryz.f105 Tryz.func105 (by kernel_rfl) rfl ?_
        (conv => whnf); repeat ((first | refine ⟨_, _, hn, ?_⟩ | refine ⟨_, _, abs_ok _ _, ?_⟩ | refine br_no hl0 ?_ | refine br_no hs0 ?_); conv => whnf)
        exact ⟨by rw [show (if (0 : Int) > q52 then (0 : Int) else q52) = q52 from by decide], [], by simp⟩
theorem clampO_ok (o : Option Nat) (hb : ∀ b, o = some b → b < 2 ^ 64) (m : List Blk) : COk Tryz.prog 3 105 [.fl o, .int .i64 q52] m (.int .i64 (clampF o)) m := by
  cases o with
  | none =>
    refine COk_bits [] (bs := [.int .i64 q52]) (fun b hn => ?_)
    have h := clamp_ok b (by have := hn.1; omega) m
    have e : clampF (some b) = clampF none := by
      unfold clampF
      simp only
      rw [if_pos]
      unfold fne
      rw [(nan_cmp hn _).1]; rfl
    rwa [e] at h
  | some b => exact clamp_ok b (hb b rfl) m
/-- The sum of numbers that pass: speed by depth by length by time, in quanta. -/
def quantO (u d l t : Nat) : Option Nat := fmul (fmul (fmul (fmul (some u) (some d)) (some l)) (some t)) (some 4742290407621132288)
def quantF (u d l t : Nat) : Int := clampF (quantO u d l t)
end Go.Proofs.YtgoljofmbidkfaaGreatDoor
