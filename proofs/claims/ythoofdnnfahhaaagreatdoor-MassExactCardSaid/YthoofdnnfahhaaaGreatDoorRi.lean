/- Whole numbers as floats, as the reference makes them. No condition. -/
import Derived.Test.YthoofdnnfahhaaaGreatDoorQf
namespace Go.Proofs.YthoofdnnfahhaaaGreatDoor
open Go Go.Eng Ieee
set_option maxRecDepth 100000
set_option linter.unusedSimpArgs false
set_option linter.unusedVariables false

theorem cut_nearN (K t : Nat) (ht : t ≤ K.log2 + 2) : Ieee.Toward.even.cut false K t = nearN K t := by
  unfold Ieee.Toward.cut nearN
  simp only [Nat.min_eq_left ht, Nat.shiftLeft_eq, Nat.one_mul]
  by_cases h : 2 ^ t < 2 * (K % 2 ^ t)
  · rw [if_pos (.inl h), decide_eq_true h]; rfl
  · rw [decide_eq_false h]
    by_cases h2 : 2 ^ t = 2 * (K % 2 ^ t) ∧ K / 2 ^ t % 2 = 1
    · rw [if_pos (.inr h2)]
      have e1 : (2 ^ t == 2 * (K % 2 ^ t)) = true := beq_iff_eq.2 h2.1
      have e2 : (K / 2 ^ t % 2 == 1) = true := beq_iff_eq.2 h2.2
      rw [e1, e2]; rfl
    · rw [if_neg (by rintro (h' | h'); exact h h'; exact h2 h')]
      have : ((2 ^ t == 2 * (K % 2 ^ t)) && (K / 2 ^ t % 2 == 1)) = false := by
        apply Bool.eq_false_iff.2
        intro h3
        rw [Bool.and_eq_true] at h3
        exact h2 ⟨beq_iff_eq.1 h3.1, beq_iff_eq.1 h3.2⟩
      rw [this]; rfl
/-- The word of a whole number without a sign. -/
def smallW (m : Nat) : Nat := if m = 0 then 0 else if m.log2 < 52 then (1022 + m.log2) * 4503599627370496 + m * 2 ^ (52 - m.log2) else if m.log2 = 52 then 1074 * 4503599627370496 + m else (1022 + m.log2) * 4503599627370496 + nearN m (m.log2 - 52)
theorem small_is (m : Nat) (h : m < 2 ^ 64) : f64.nearest false m 0 = smallW m ∧ (m ≠ 0 → smallW m < 1087 * 4503599627370496 + 4503599627370496) := by
  unfold smallW
  rcases Nat.eq_zero_or_pos m with rfl | h0
  · rw [if_pos rfl]
    exact ⟨(nearest_zero f64 0).trans (wd_false 0), fun h => absurd rfl h⟩
  have hm : m ≠ 0 := by omega
  have hl1 := Nat.log2_self_le hm
  have hl2 := Nat.lt_log2_self (n := m)
  have hlog : m.log2 < 64 := (Nat.log2_lt hm).2 h
  rw [if_neg hm]
  by_cases h1 : m.log2 < 52
  · rw [if_pos h1]
    have h3 : m < 9007199254740992 := by
      have : 2 ^ (m.log2 + 1) ≤ 2 ^ 52 := Nat.pow_le_pow_right (by decide) (by omega)
      omega
    obtain ⟨e, h4, h5, _⟩ := nearest_small h0 h3
    refine ⟨e, fun _ => ?_⟩
    have : m * 2 ^ (52 - m.log2) < 2 ^ (m.log2 + 1) * 2 ^ (52 - m.log2) := Nat.mul_lt_mul_of_pos_right hl2 (Nat.two_pow_pos _)
    rw [← Nat.pow_add, show m.log2 + 1 + (52 - m.log2) = 53 by omega] at this
    omega
  · rw [if_neg h1]
    have e := nearest_is m 0 hm
    have e0 : Ieee.double.nearest false m 0 = f64.nearest false m 0 := rfl
    have hL : lastP m 0 = (m.log2 : Int) - 52 := by unfold lastP; omega
    rw [e0, hL, show (0 - ((m.log2 : Int) - 52)).toNat = 0 by omega, Nat.shiftLeft_zero, show ((m.log2 : Int) - 52 - 0).toNat = m.log2 - 52 by omega, show ((m.log2 : Int) - 52 + 1074).toNat = 1022 + m.log2 by omega, cut_nearN m _ (by omega)] at e
    have hi : Ieee.double.infRung = infR := rfl
    have hi2 := infR_eq
    rw [hi] at e
    have hb : nearN m (m.log2 - 52) ≤ 2 ^ 53 := by
      have h3 : m / 2 ^ (m.log2 - 52) < 2 ^ 53 := by
        rw [Nat.div_lt_iff_lt_mul (Nat.two_pow_pos _), ← Nat.pow_add, show 53 + (m.log2 - 52) = m.log2 + 1 by omega]
        exact hl2
      unfold nearN
      split <;> omega
    have hmin : min ((1022 + m.log2) * 2 ^ 52 + nearN m (m.log2 - 52)) infR = (1022 + m.log2) * 2 ^ 52 + nearN m (m.log2 - 52) := by
      generalize nearN m (m.log2 - 52) = q at *
      omega
    rw [hmin] at e
    by_cases h2 : m.log2 = 52
    · rw [if_pos h2, e, h2]
      have : nearN m (52 - 52) = m := by
        unfold nearN
        rw [Nat.sub_self, Nat.pow_zero, Nat.mod_one, Nat.div_one, if_neg (by omega)]
      rw [this]
      rw [h2] at hl2
      exact ⟨rfl, fun _ => by omega⟩
    · rw [if_neg h2, e]
      refine ⟨rfl, fun _ => ?_⟩
      generalize nearN m (m.log2 - 52) = q at *
      have : m.log2 ≤ 63 := by omega
      omega
theorem nI_is (i : Int) : nI i = wd (decide (i < 0)) (f64.nearest false i.natAbs 0) := by
  unfold nI FloatKind.nearest
  show f64.write (.number (decide (i < 0)) i.natAbs 0) = _
  rw [write_num, nearest_sign]
end Go.Proofs.YthoofdnnfahhaaaGreatDoor
