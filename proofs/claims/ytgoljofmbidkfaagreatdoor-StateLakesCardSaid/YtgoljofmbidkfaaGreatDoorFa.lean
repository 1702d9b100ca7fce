import Ieee.Arith
/- Floats and the numbers that they stand for: how far rounding, quotient and root lie from the true numbers. No condition. -/
namespace Go.Eng
open Ieee

theorem two_pos (e : Int) : (0 : Rat) < 2 ^ e := Rat.zpow_pos (by decide)
theorem two_add (a b : Int) : (2 : Rat) ^ (a + b) = 2 ^ a * 2 ^ b := Rat.zpow_add (by decide) a b
theorem two_nat (k : Nat) : (2 : Rat) ^ (k : Int) = ((2 ^ k : Nat) : Rat) := by
  rw [Rat.zpow_natCast, Rat.natCast_pow]; rfl
theorem two_le {a b : Int} (h : a ≤ b) : (2 : Rat) ^ a ≤ 2 ^ b := by
  obtain ⟨k, rfl⟩ : ∃ k : Nat, b = a + k := ⟨(b - a).toNat, by omega⟩
  rw [two_add, two_nat]
  have h1 : (1 : Rat) ≤ ((2 ^ k : Nat) : Rat) := by
    have : 1 ≤ 2 ^ k := Nat.one_le_two_pow
    exact_mod_cast this
  have := Rat.mul_le_mul_of_nonneg_left h1 (Rat.le_of_lt (two_pos a))
  grind
/-- A whole number at a place. -/
def mg (m : Nat) (e : Int) : Rat := (m : Rat) * 2 ^ e
/-- What is cut off is half a unit at most. -/
theorem cut_err (neg : Bool) (n drop : Nat) : 2 * (Toward.even.cut neg n drop * 2 ^ drop) ≤ 2 * n + 2 ^ drop ∧ 2 * n ≤ 2 * (Toward.even.cut neg n drop * 2 ^ drop) + 2 ^ drop := by
  unfold Toward.cut
  simp only [Nat.one_shiftLeft]
  rcases Nat.le_total drop (n.log2 + 2) with h | h
  · rw [Nat.min_eq_left h]
    have hp : 0 < 2 ^ drop := Nat.two_pow_pos drop
    have h1 := Nat.div_add_mod n (2 ^ drop)
    have h2 := Nat.mod_lt n hp
    generalize n / 2 ^ drop = low at *
    generalize n % 2 ^ drop = rest at *
    generalize 2 ^ drop = gap at *
    rw [Nat.add_mul, Nat.mul_comm low gap]
    generalize gap * low = z at *
    by_cases c : (decide (gap < 2 * rest) || (gap == 2 * rest && low % 2 == 1)) = true
    · rw [c]
      have : gap ≤ 2 * rest := by
        simp only [Bool.or_eq_true, decide_eq_true_eq, Bool.and_eq_true, beq_iff_eq] at c
        omega
      simp only [Bool.toNat_true, Nat.one_mul]
      omega
    · rw [Bool.not_eq_true] at c
      rw [c]
      have : 2 * rest ≤ gap := by
        simp only [Bool.or_eq_false_iff, decide_eq_false_iff_not] at c
        omega
      simp only [Bool.toNat_false, Nat.zero_mul]
      omega
  · have h0 : 2 * n < 2 ^ (n.log2 + 2) := by
      have := Nat.lt_log2_self (n := n)
      rw [Nat.pow_succ]; omega
    rw [Nat.min_eq_right h]
    have h1 : n / 2 ^ (n.log2 + 2) = 0 := Nat.div_eq_of_lt (by omega)
    have h2 : n % 2 ^ (n.log2 + 2) = n := Nat.mod_eq_of_lt (by omega)
    rw [h1, h2]
    have c : (decide (2 ^ (n.log2 + 2) < 2 * n) || (2 ^ (n.log2 + 2) == 2 * n && 0 % 2 == 1)) = false := by
      simp; omega
    rw [c]
    have h3 : 2 ^ (n.log2 + 2) ≤ 2 ^ drop := Nat.pow_le_pow_right (by decide) h
    simp only [Bool.toNat_false, Nat.zero_add, Nat.zero_mul]
    omega
/-- What a rung stands for. -/
def vR (R : Nat) : Rat := if R < 2 ^ 52 then mg R (-1074) else mg (2 ^ 52 + R % 2 ^ 52) (-1074 + ((R / 2 ^ 52 - 1 : Nat) : Int))
theorem vR_at (q k : Nat) (hk : k ≤ 2 ^ 53) (hq : 1 ≤ q → 2 ^ 52 ≤ k) : vR (q * 2 ^ 52 + k) = mg k (-1074 + (q : Int)) := by
  unfold vR
  by_cases h : q * 2 ^ 52 + k < 2 ^ 52
  · obtain rfl : q = 0 := by omega
    rw [if_pos h]
    simp
  · rw [if_neg h]
    by_cases h1 : k = 2 ^ 53
    · subst h1
      have e1 : (q * 2 ^ 52 + 2 ^ 53) % 2 ^ 52 = 0 := by omega
      have e2 : (q * 2 ^ 52 + 2 ^ 53) / 2 ^ 52 - 1 = q + 1 := by omega
      rw [e1, e2]
      unfold mg
      rw [show (-1074 + ((q + 1 : Nat) : Int)) = (1 : Nat) + (-1074 + (q : Int)) by omega, two_add, two_nat, ← Rat.mul_assoc, ← Rat.natCast_mul]
    · rcases Nat.lt_or_ge k (2 ^ 52) with h2 | h2
      · obtain rfl : q = 0 := by
          rcases Nat.lt_or_ge 0 q with h3 | h3
          · have := hq h3; omega
          · omega
        omega
      · have e1 : (q * 2 ^ 52 + k) % 2 ^ 52 = k - 2 ^ 52 := by omega
        have e2 : (q * 2 ^ 52 + k) / 2 ^ 52 - 1 = q := by omega
        rw [e1, e2, show 2 ^ 52 + (k - 2 ^ 52) = k by omega]
/-- The place of the last digit that is kept. -/
def lastP (m : Nat) (e : Int) : Int := max (e + m.log2 - 52) (-1074)
theorem nearest_is (m : Nat) (e : Int) (hm : m ≠ 0) : double.nearest false m e = min ((lastP m e + 1074).toNat * 2 ^ 52 + Toward.even.cut false (m <<< (e - lastP m e).toNat) (lastP m e - e).toNat) double.infRung := by
  have h : ∀ f : Format, f.nearest false m e = min ((max (e + m.log2 - f.fractionBits) f.leastPlace - f.leastPlace).toNat * f.binade + Toward.even.cut false (m <<< (e - max (e + m.log2 - f.fractionBits) f.leastPlace).toNat) (max (e + m.log2 - f.fractionBits) f.leastPlace - e).toNat) f.infRung := by
    intro f
    unfold Format.nearest
    rw [if_neg hm]
    rfl
  rw [h]
  have h1 : double.leastPlace = -1074 := by decide
  have h2 : ((double.fractionBits : Nat) : Int) = 52 := by decide
  have h3 : double.binade = 2 ^ 52 := by decide
  rw [h1, h2, h3]
  unfold lastP
  rw [show max (e + (m.log2 : Int) - 52) (-1074) - -1074 = max (e + (m.log2 : Int) - 52) (-1074) + 1074 by omega]
/-- What is kept, and how far off it is. -/
theorem kept_ok (m : Nat) (e : Int) (hm : m ≠ 0) : ∃ k : Nat, Toward.even.cut false (m <<< (e - lastP m e).toNat) (lastP m e - e).toNat = k ∧ k ≤ 2 ^ 53 ∧ (-1074 < lastP m e → 2 ^ 52 ≤ k) ∧
    mg k (lastP m e) ≤ mg m e + 2 ^ (lastP m e - 1) ∧ mg m e ≤ mg k (lastP m e) + 2 ^ (lastP m e - 1) := by
  refine ⟨_, rfl, ?_⟩
  have hl1 := Nat.log2_self_le hm
  have hl2 := Nat.lt_log2_self (n := m)
  have hL : e + m.log2 - 52 ≤ lastP m e ∧ -1074 ≤ lastP m e ∧ (lastP m e = e + m.log2 - 52 ∨ lastP m e = -1074) := by
    unfold lastP; omega
  generalize lastP m e = L at *
  obtain ⟨hL1, hL2, hL3⟩ := hL
  generalize hg : m.log2 = g at *
  rcases Int.le_total L e with h | h
  · obtain ⟨t, ht⟩ : ∃ t : Nat, e = L + t := ⟨(e - L).toNat, by omega⟩
    have e1 : (e - L).toNat = t := by omega
    have e2 : (L - e).toNat = 0 := by omega
    rw [e1, e2, Nat.shiftLeft_eq]
    have hc := cut_err false (m * 2 ^ t) 0
    have hk : Toward.even.cut false (m * 2 ^ t) 0 = m * 2 ^ t := by omega
    rw [hk]
    have hgt : g + t ≤ 52 := by omega
    have b1 : m * 2 ^ t < 2 ^ 53 := by
      have : m * 2 ^ t < 2 ^ (g + 1) * 2 ^ t := Nat.mul_lt_mul_of_pos_right hl2 (Nat.two_pow_pos t)
      rw [← Nat.pow_add] at this
      exact Nat.lt_of_lt_of_le this (Nat.pow_le_pow_right (by decide) (by omega))
    have hv : mg (m * 2 ^ t) L = mg m e := by
      unfold mg
      rw [ht, two_add, two_nat, Rat.natCast_mul]
      grind
    have hp := two_pos (L - 1)
    refine ⟨by omega, fun hL => ?_, ?_, ?_⟩
    · have hgt : g + t = 52 := by omega
      have : 2 ^ g * 2 ^ t ≤ m * 2 ^ t := Nat.mul_le_mul_right _ hl1
      rw [← Nat.pow_add, hgt] at this
      exact this
    · rw [hv]; grind
    · rw [hv]; grind
  · obtain ⟨t, ht⟩ : ∃ t : Nat, L = e + t := ⟨(L - e).toNat, by omega⟩
    have e1 : (L - e).toNat = t := by omega
    have e2 : (e - L).toNat = 0 := by omega
    rw [e1, e2, Nat.shiftLeft_zero]
    obtain ⟨c1, c2⟩ := cut_err false m t
    generalize Toward.even.cut false m t = k at *
    have hp : 0 < 2 ^ t := Nat.two_pow_pos t
    have hgt : g ≤ 52 + t := by omega
    have hup : m < 2 ^ 53 * 2 ^ t := by
      rw [← Nat.pow_add]
      exact Nat.lt_of_lt_of_le hl2 (Nat.pow_le_pow_right (by decide) (by omega))
    have hE : (2 : Rat) ^ (L - 1) = 2 ^ (e - 1) * ((2 ^ t : Nat) : Rat) := by
      rw [ht, ← two_nat, ← two_add]; congr 1; omega
    have hE2 : (2 : Rat) ^ e = 2 * 2 ^ (e - 1) := by
      have := two_add 1 (e - 1)
      rw [show 1 + (e - 1) = e by omega] at this
      rw [this]; rfl
    have hk : mg k L = ((k * 2 ^ t : Nat) : Rat) * 2 ^ e := by
      unfold mg
      rw [ht, two_add, two_nat, Rat.natCast_mul]; grind
    have hp1 := two_pos (e - 1)
    refine ⟨?_, fun hL => ?_, ?_, ?_⟩
    · rcases Nat.lt_or_ge (2 ^ 53) k with h1 | h1
      · have : (2 ^ 53 + 1) * 2 ^ t ≤ k * 2 ^ t := Nat.mul_le_mul_right _ h1
        rw [Nat.add_mul] at this
        omega
      · exact h1
    · have hgt : g = 52 + t := by omega
      have : 2 ^ 52 * 2 ^ t ≤ m := by rw [← Nat.pow_add, ← hgt]; exact hl1
      rcases Nat.lt_or_ge k (2 ^ 52) with h1 | h1
      · have h2 : (k + 1) * 2 ^ t ≤ 2 ^ 52 * 2 ^ t := Nat.mul_le_mul_right _ h1
        rw [Nat.add_mul] at h2
        omega
      · exact h1
    · rw [hk]
      unfold mg
      have : ((2 * (k * 2 ^ t) : Nat) : Rat) ≤ ((2 * m + 2 ^ t : Nat) : Rat) := by exact_mod_cast c1
      rw [Rat.natCast_add, Rat.natCast_mul, Rat.natCast_mul 2 m] at this
      have := Rat.mul_le_mul_of_nonneg_right this (Rat.le_of_lt hp1)
      rw [hE, hE2]
      simp only [Rat.natCast_ofNat] at this
      grind
    · rw [hk]
      unfold mg
      have : ((2 * m : Nat) : Rat) ≤ ((2 * (k * 2 ^ t) + 2 ^ t : Nat) : Rat) := by exact_mod_cast c2
      rw [Rat.natCast_add, Rat.natCast_mul, Rat.natCast_mul 2 (k * 2 ^ t)] at this
      have := Rat.mul_le_mul_of_nonneg_right this (Rat.le_of_lt hp1)
      rw [hE, hE2]
      simp only [Rat.natCast_ofNat] at this
      grind
theorem mg_log (m : Nat) (e : Int) (hm : m ≠ 0) : 2 ^ (e + m.log2) ≤ mg m e ∧ mg m e < 2 ^ (e + m.log2 + 1) := by
  have h1 := Nat.log2_self_le hm
  have h2 := Nat.lt_log2_self (n := m)
  have hp := two_pos e
  unfold mg
  refine ⟨?_, ?_⟩
  · rw [two_add, two_nat, Rat.mul_comm]
    refine Rat.mul_le_mul_of_nonneg_right ?_ (Rat.le_of_lt hp)
    exact_mod_cast h1
  · rw [show e + (m.log2 : Int) + 1 = e + ((m.log2 + 1 : Nat) : Int) by omega, two_add, two_nat, Rat.mul_comm (2 ^ e)]
    refine Rat.mul_lt_mul_of_pos_right ?_ hp
    exact_mod_cast h2
theorem mg_nat (a : Nat) (e : Int) (k : Nat) : mg (a * 2 ^ k) e = mg a (e + k) := by
  unfold mg
  rw [two_add, two_nat, Rat.natCast_mul]; grind
theorem mg_le {a b : Nat} (h : a ≤ b) (e : Int) : mg a e ≤ mg b e := by
  unfold mg
  exact Rat.mul_le_mul_of_nonneg_right (by exact_mod_cast h) (Rat.le_of_lt (two_pos e))
theorem mg_pos {a : Nat} (h : a ≠ 0) (e : Int) : 0 < mg a e := by
  unfold mg
  have : (0 : Rat) < (a : Rat) := by exact_mod_cast Nat.pos_of_ne_zero h
  exact Rat.mul_pos this (two_pos e)
theorem mg_add (a b : Nat) (e : Int) : mg (a + b) e = mg a e + mg b e := by
  unfold mg
  rw [Rat.natCast_add]; grind
end Go.Eng
