import Ieee.Arith
/- Floats and the numbers that they stand for: how far rounding, quotient and root lie from the true numbers. No condition. -/
namespace Go.Eng
open Ieee

theorem two_pos (e : Int) : (0 : Rat) < 2 ^ e := Rat.zpow_pos (by decide)
theorem two_add (a b : Int) : (2 : Rat) ^ (a + b) = 2 ^ a * 2 ^ b := Rat.zpow_add (by decide) a b
theorem two_nat (k : Nat) : (2 : Rat) ^ (k : Int) = ((2 ^ k : Nat) : Rat) := by
  rw [Rat.zpow_natCast, Rat.natCast_pow]; rfl
/-- A whole number at a place. -/
def mg (m : Nat) (e : Int) : Rat := (m : Rat) * 2 ^ e
/-- What a rung stands for. -/
def vR (R : Nat) : Rat := if R < 2 ^ 52 then mg R (-1074) else mg (2 ^ 52 + R % 2 ^ 52) (-1074 + ((R / 2 ^ 52 - 1 : Nat) : Int))
theorem vR_at (q k : Nat) (hk : k ≤ 2 ^ 53) (hq : 1 ≤ q → 2 ^ 52 ≤ k) : vR (q * 2 ^ 52 + k) = mg k (-1074 + (q : Int)) := by
  unfold vR
  by_cases h : q * 2 ^ 52 + k < 2 ^ 52
  · obtain rfl : q = 0 := by omega
    rw [if_pos h]
    simp
  · rw [if_neg h]
    by_cases h1 : k = 2 ^ 53
    · subst h1
      have e1 : (q * 2 ^ 52 + 2 ^ 53) % 2 ^ 52 = 0 := by omega
      have e2 : (q * 2 ^ 52 + 2 ^ 53) / 2 ^ 52 - 1 = q + 1 := by omega
      rw [e1, e2]
      unfold mg
      rw [show (-1074 + ((q + 1 : Nat) : Int)) = (1 : Nat) + (-1074 + (q : Int)) by omega, two_add, two_nat, ← Rat.mul_assoc, ← Rat.natCast_mul]
    · rcases Nat.lt_or_ge k (2 ^ 52) with h2 | h2
      · obtain rfl : q = 0 := by
          rcases Nat.lt_or_ge 0 q with h3 | h3
          · have := hq h3; omega
          · omega
        omega
      · have e1 : (q * 2 ^ 52 + k) % 2 ^ 52 = k - 2 ^ 52 := by omega
        have e2 : (q * 2 ^ 52 + k) / 2 ^ 52 - 1 = q := by omega
        rw [e1, e2, show 2 ^ 52 + (k - 2 ^ 52) = k by omega]
/-- The place of the last digit that is kept. -/
def lastP (m : Nat) (e : Int) : Int := max (e + m.log2 - 52) (-1074)
theorem mg_nat (a : Nat) (e : Int) (k : Nat) : mg (a * 2 ^ k) e = mg a (e + k) := by
  unfold mg
  rw [two_add, two_nat, Rat.natCast_mul]; grind
theorem mg_le {a b : Nat} (h : a ≤ b) (e : Int) : mg a e ≤ mg b e := by
  unfold mg
  exact Rat.mul_le_mul_of_nonneg_right (by exact_mod_cast h) (Rat.le_of_lt (two_pos e))
theorem mg_pos {a : Nat} (h : a ≠ 0) (e : Int) : 0 < mg a e := by
  unfold mg
  have : (0 : Rat) < (a : Rat) := by exact_mod_cast Nat.pos_of_ne_zero h
  exact Rat.mul_pos this (two_pos e)
theorem mg_add (a b : Nat) (e : Int) : mg (a + b) e = mg a e + mg b e := by
  unfold mg
  rw [Rat.natCast_add]; grind
end Go.Eng
